/-
  Models and walks, printed by our own program (wip/gen).
-/
import Derived.Test.YtnplejebgbdfpaaLibC
import Derived.Test.YtnplejebgbdfpaaProg
namespace Go.Proofs.Ytnplejebgbdfpaa
open Go Go.GL Go.RowKit


theorem Fol : Try.prog.follows .mixedOrders = true := by kernel_rfl
theorem Info2 : (Try.prog.info? 2).map (fun i => (i.zero, i.size, i.bytes)) = some (some (.int .i64 0), 1, 8) := by kernel_rfl
theorem Agg2 : runPure Try.prog (isAgg 2) = some false := by kernel_rfl
theorem Info3 : (Try.prog.info? 3).map (fun i => (i.zero, i.size, i.bytes)) = some (some (.int .i64 0), 1, 8) := by kernel_rfl
theorem Agg3 : runPure Try.prog (isAgg 3) = some false := by kernel_rfl
theorem Info4 : (Try.prog.info? 4).map (fun i => (i.zero, i.size, i.bytes)) = some (some (.bool false), 1, 1) := by kernel_rfl
theorem Agg4 : runPure Try.prog (isAgg 4) = some false := by kernel_rfl
theorem Info5 : (Try.prog.info? 5).map (fun i => (i.zero, i.size, i.bytes)) = some (some (.int .u8 0), 1, 1) := by kernel_rfl
theorem Agg5 : runPure Try.prog (isAgg 5) = some false := by kernel_rfl
theorem Info6 : (Try.prog.info? 6).map (fun i => (i.zero, i.size, i.bytes)) = some (some (.int .u8 0), 1, 1) := by kernel_rfl
theorem Agg6 : runPure Try.prog (isAgg 6) = some false := by kernel_rfl
theorem Agg9 : runPure Try.prog (isAgg 9) = some false := by kernel_rfl
theorem Info12 : (Try.prog.info? 12).map (fun i => (i.zero, i.size, i.bytes)) = some (some (.int .u64 0), 1, 8) := by kernel_rfl
theorem Agg12 : runPure Try.prog (isAgg 12) = some false := by kernel_rfl
theorem Info21 : (Try.prog.info? 21).map (fun i => (i.zero, i.size, i.bytes)) = some (some (.int .i32 0), 1, 4) := by kernel_rfl
theorem Agg21 : runPure Try.prog (isAgg 21) = some false := by kernel_rfl
theorem Und22 : Try.prog.underlying 22 = some (.slice 3) := Try.underlying22
theorem Agg22 : runPure Try.prog (isAgg 22) = some false := by kernel_rfl
theorem Und23 : Try.prog.underlying 23 = some (.slice 22) := Try.underlying23
theorem Agg23 : runPure Try.prog (isAgg 23) = some false := by kernel_rfl
theorem Info24 : (Try.prog.info? 24).map (fun i => (i.zero, i.size, i.bytes)) = some (some (.int .i64 0), 1, 8) := by kernel_rfl
theorem Agg24 : runPure Try.prog (isAgg 24) = some false := by kernel_rfl
theorem Und61 : Try.prog.underlying 61 = some (.slice 102) := Try.underlying61
theorem Agg61 : runPure Try.prog (isAgg 61) = some false := by kernel_rfl
theorem Info114 : (Try.prog.info? 114).map (fun i => (i.zero, i.size, i.bytes)) = some (some (.int .u64 0), 1, 8) := by kernel_rfl
theorem Agg114 : runPure Try.prog (isAgg 114) = some false := by kernel_rfl
theorem Und115 : Try.prog.underlying 115 = some (.slice 114) := Try.underlying115
theorem Agg115 : runPure Try.prog (isAgg 115) = some false := by kernel_rfl
theorem Und120 : Try.prog.underlying 120 = some (.slice 4) := Try.underlying120
theorem Agg120 : runPure Try.prog (isAgg 120) = some false := by kernel_rfl
theorem Info135 : (Try.prog.info? 135).map (fun i => (i.zero, i.size, i.bytes)) = some (some (.int .u32 0), 1, 4) := by kernel_rfl
theorem Agg135 : runPure Try.prog (isAgg 135) = some false := by kernel_rfl
theorem Info136 : (Try.prog.info? 136).map (fun i => (i.zero, i.size, i.bytes)) = some (some (.int .u8 0), 1, 1) := by kernel_rfl
theorem Agg136 : runPure Try.prog (isAgg 136) = some false := by kernel_rfl
theorem Info137 : (Try.prog.info? 137).map (fun i => (i.zero, i.size, i.bytes)) = some (some (.int .u8 0), 1, 1) := by kernel_rfl
theorem Agg137 : runPure Try.prog (isAgg 137) = some false := by kernel_rfl
theorem Info140 : (Try.prog.info? 140).map (fun i => (i.zero, i.size, i.bytes)) = some (some (.int .i32 0), 1, 4) := by kernel_rfl
theorem Agg140 : runPure Try.prog (isAgg 140) = some false := by kernel_rfl
theorem Info141 : (Try.prog.info? 141).map (fun i => (i.zero, i.size, i.bytes)) = some (some (.int .i32 0), 1, 4) := by kernel_rfl
theorem Agg141 : runPure Try.prog (isAgg 141) = some false := by kernel_rfl


noncomputable def dice_ways_J1 (n1 : Int) : Option Int :=
  some n1

noncomputable def dice_ways_K1 : (Fl Int Int) → Option Int :=
  fun (x : (Fl Int Int)) => match x with | .go n1 => dice_ways_J1 n1 | .ret x => some x

noncomputable def dice_ways_J3 (z1 : Int) (n3 : Int) : Option (St (Int × Int) (Fl Int Int)) :=
  some (.next (n3, (w64 (z1 + 1))))

noncomputable def dice_ways_J2 (sides1 : Int) (n2 : Int) (z1 : Int) : Option (St (Int × Int) (Fl Int Int)) :=
  if (decide ((100000 : Int) < (w64 (n2 * sides1)))) then (some (.done (.ret 0))) else ((dice_ways_J3 z1) (w64 (n2 * sides1)))

noncomputable def dice_ways_L1 (sides1 : Int) (times1 : Int) : (Int × Int) → Option (St (Int × Int) (Fl Int Int)) :=
  fun (x : (Int × Int)) => match x with | (n2, z1) => if (decide (z1 < times1)) then ((dice_ways_J2 sides1 n2 z1)) else (some (.done (.go n2)))

noncomputable def dice_ways_m (sides1 : Int) (times1 : Int) : Option Int :=
  (loop (dice_ways_L1 sides1 times1) (1, 0)).bind dice_ways_K1

noncomputable def dice_ways_J1N (N : Nat) (n1 : Int) : Option Int :=
  some n1

theorem dice_ways_J1_le (N : Nat) (n1 : Int) : Le (dice_ways_J1N N n1) (dice_ways_J1 n1) := by
  unfold dice_ways_J1N dice_ways_J1
  repeat' (first | with_reducible exact Le.refl _ | refine Le.asrt ?_ | refine Le.ite ?_ ?_ | refine Le.bind ?_ (fun _ => ?_) | refine Le.loop (fun _ => ?_))

noncomputable def dice_ways_K1N (N : Nat) : (Fl Int Int) → Option Int :=
  fun (x : (Fl Int Int)) => match x with | .go n1 => (dice_ways_J1N N) n1 | .ret x => some x

theorem dice_ways_K1_le (N : Nat) (x : (Fl Int Int)) : Le (dice_ways_K1N N x) (dice_ways_K1  x) := by
  rcases x with n1 | x
  all_goals
    unfold dice_ways_K1N dice_ways_K1
    dsimp only
    repeat' (first | with_reducible exact Le.refl _ | (with_reducible exact dice_ways_J1_le _ _) | refine Le.asrt ?_ | refine Le.ite ?_ ?_ | refine Le.bind ?_ (fun _ => ?_) | refine Le.loop (fun _ => ?_))

noncomputable def dice_ways_J3N (N : Nat) (z1 : Int) (n3 : Int) : Option (St (Int × Int) (Fl Int Int)) :=
  some (.next (n3, (w64 (z1 + 1))))

theorem dice_ways_J3_le (N : Nat) (z1 : Int) (n3 : Int) : Le (dice_ways_J3N N z1 n3) (dice_ways_J3 z1 n3) := by
  unfold dice_ways_J3N dice_ways_J3
  repeat' (first | with_reducible exact Le.refl _ | refine Le.asrt ?_ | refine Le.ite ?_ ?_ | refine Le.bind ?_ (fun _ => ?_) | refine Le.loop (fun _ => ?_))

noncomputable def dice_ways_J2N (N : Nat) (sides1 : Int) (n2 : Int) (z1 : Int) : Option (St (Int × Int) (Fl Int Int)) :=
  if (decide ((100000 : Int) < (w64 (n2 * sides1)))) then (some (.done (.ret 0))) else ((dice_ways_J3N N z1) (w64 (n2 * sides1)))

theorem dice_ways_J2_le (N : Nat) (sides1 : Int) (n2 : Int) (z1 : Int) : Le (dice_ways_J2N N sides1 n2 z1) (dice_ways_J2 sides1 n2 z1) := by
  unfold dice_ways_J2N dice_ways_J2
  repeat' (first | with_reducible exact Le.refl _ | (with_reducible exact dice_ways_J3_le _ _ _) | refine Le.asrt ?_ | refine Le.ite ?_ ?_ | refine Le.bind ?_ (fun _ => ?_) | refine Le.loop (fun _ => ?_))

noncomputable def dice_ways_L1N (N : Nat) (sides1 : Int) (times1 : Int) : (Int × Int) → Option (St (Int × Int) (Fl Int Int)) :=
  fun (x : (Int × Int)) => match x with | (n2, z1) => if (decide (z1 < times1)) then ((dice_ways_J2N N sides1 n2 z1)) else (some (.done (.go n2)))

theorem dice_ways_L1_le (N : Nat) (sides1 : Int) (times1 : Int) (x : (Int × Int)) : Le (dice_ways_L1N N sides1 times1 x) (dice_ways_L1 sides1 times1 x) := by
  rcases x with ⟨n2, z1⟩
  all_goals
    unfold dice_ways_L1N dice_ways_L1
    dsimp only
    repeat' (first | with_reducible exact Le.refl _ | (with_reducible exact dice_ways_J2_le _ _ _ _) | refine Le.asrt ?_ | refine Le.ite ?_ ?_ | refine Le.bind ?_ (fun _ => ?_) | refine Le.loop (fun _ => ?_))

noncomputable def dice_ways_mN (N : Nat) (sides1 : Int) (times1 : Int) : Option Int :=
  (loopN (dice_ways_L1N N sides1 times1) N (1, 0)).bind (dice_ways_K1N N)

theorem dice_ways_m_le (N : Nat) (sides1 : Int) (times1 : Int) : Le (dice_ways_mN N sides1 times1) (dice_ways_m sides1 times1) := by
  unfold dice_ways_mN dice_ways_m
  repeat' (first | with_reducible exact Le.refl _ | (with_reducible exact dice_ways_L1_le _ _ _ _) | (with_reducible exact dice_ways_K1_le _ _) | refine Le.asrt ?_ | refine Le.ite ?_ ?_ | refine Le.bind ?_ (fun _ => ?_) | refine Le.loop (fun _ => ?_))

set_option maxRecDepth 100000 in
set_option maxHeartbeats 4000000 in
theorem dice_ways_w {sides1 : Int} {times1 : Int} {r : Int} {w0 : World} (hm : dice_ways_m sides1 times1 = some r) :
    Calls Try.prog 57 #[.int .i64 sides1, .int .i64 times1] w0 fun e w' => e = .returned (.int .i64 r) ∧ Sep w0 w0.heap.size w' [] := by
  unfold dice_ways_m at hm
  replace hm := start_b hm
  refine enterS (l := [.int .i64 sides1, .int .i64 times1]) (n := 16) Try.func57 rfl rfl (by simp) (fun a w hF hS => ?_)
  refine reg [] [] [0, 1] [pl 0 (.int .i64 sides1), pl 1 (.int .i64 times1)] hF hS Fol (by kernel_rfl) (by kernel_rfl) (by kernel_rfl) ?_ (fun a w hF hS => ?_)
  · exact obs_nil
  refine reg [] [] [0, 1, 5] [pl 0 (.int .i64 sides1), pl 1 (.int .i64 times1), pl 5 (.int .i64 1)] hF hS Fol (by kernel_rfl) (by kernel_rfl) (by kernel_rfl) ?_ (fun a w hF hS => ?_)
  · exact obs_nil
  refine seq_cut (fun a w => ∃ (n1 : Int), Fr 16 [pl 5 (.int .i64 n1)] a ∧ Sep w0 w0.heap.size w [] ∧ (dice_ways_J1 n1).bind some = some r) ?_ ?_
  · rintro a w ⟨n1, hF, hS, hm⟩
    unfold dice_ways_J1 at hm
    refine reg [] [] [4] [pl 4 (.int .i64 n1)] hF hS Fol (by kernel_rfl) (by kernel_rfl) (by kernel_rfl) ?_ (fun a w hF hS => ?_)
    · exact obs_nil
    refine wp_ret ?_
    have hm : some n1 = some r := hm
    obtain rfl := Option.some.inj hm
    exact ret1 (t := 4) (v := .int .i64 n1) hF rfl (by kernel_rfl) ⟨rfl, hS⟩
  · refine reg [] [] [0, 5, 6, 7] [pl 0 (.int .i64 sides1), pl 5 (.int .i64 1), pl 6 (.int .i64 times1), pl 7 (.int .i64 0)] hF hS Fol (by kernel_rfl) (by kernel_rfl) (by kernel_rfl) ?_ (fun a w hF hS => ?_)
    · exact obs_nil
    refine wp_block ?_
    refine wp_loop_model (S := (Int × Int)) (R := (Fl Int Int)) (dice_ways_L1 sides1 times1) (fun x => (dice_ways_K1 x).bind some) r (fun (x : (Int × Int)) a w => Fr 16 [pl 0 (.int .i64 sides1), pl 5 (.int .i64 x.1), pl 6 (.int .i64 times1), pl 7 (.int .i64 x.2)] a ∧ Sep w0 w0.heap.size w []) (assoc_b hm) ⟨hF.weak [0, 5, 6, 7] (by kernel_rfl), hS⟩ ?_
    clear hF hS hm
    rintro nn1 ⟨n2, z1⟩ a w ⟨hF, hS⟩ hm
    generalize hφ1 : stK (dice_ways_L1 sides1 times1) nn1 (fun x => (dice_ways_K1 x).bind some) = φ1 at hm
    unfold dice_ways_L1 at hm
    dsimp only at hF hS hm
    refine reg [] [] [0, 5, 6, 7, 8] [pl 0 (.int .i64 sides1), pl 5 (.int .i64 n2), pl 6 (.int .i64 times1), pl 7 (.int .i64 z1), pl 8 (.bool (decide (z1 < times1)))] hF hS Fol (by kernel_rfl) (by kernel_rfl) (by kernel_rfl) ?_ (fun a w hF hS => ?_)
    · exact obs_nil
    refine seq_cut (fun a w => Fr 16 [pl 0 (.int .i64 sides1), pl 5 (.int .i64 n2), pl 6 (.int .i64 times1), pl 7 (.int .i64 z1)] a ∧ Sep w0 w0.heap.size w [] ∧ ((dice_ways_J2 sides1 n2 z1)).bind φ1 = some r) ?_ ?_
    · rintro a w ⟨hF, hS, hm⟩
      unfold dice_ways_J2 at hm
      refine seq_cut (fun a w => ∃ (n3 : Int), Fr 16 [pl 0 (.int .i64 sides1), pl 5 (.int .i64 n3), pl 6 (.int .i64 times1), pl 7 (.int .i64 z1)] a ∧ Sep w0 w0.heap.size w [] ∧ ((dice_ways_J3 z1) n3).bind φ1 = some r) ?_ ?_
      · rintro a w ⟨n3, hF, hS, hm⟩
        unfold dice_ways_J3 at hm
        refine reg1 [] [] [0, 5, 6, 7] [pl 0 (.int .i64 sides1), pl 5 (.int .i64 n3), pl 6 (.int .i64 times1), pl 7 (.int .i64 (w64 (z1 + 1)))] hF hS Fol (by kernel_rfl) (by kernel_rfl) (by kernel_rfl) ?_ (fun a w hF hS => ?_)
        · exact obs_nil
        refine then_n ?_
        rw [← hφ1] at hm
        exact ⟨(n3, (w64 (z1 + 1))), ⟨hF.weak [0, 5, 6, 7] (by kernel_rfl), hS⟩, hm⟩
      · refine wp_block ?_
        refine reg [] [] [0, 5, 6, 7] [pl 0 (.int .i64 sides1), pl 5 (.int .i64 (w64 (n2 * sides1))), pl 6 (.int .i64 times1), pl 7 (.int .i64 z1)] hF hS Fol (by kernel_rfl) (by kernel_rfl) (by kernel_rfl) ?_ (fun a w hF hS => ?_)
        · exact obs_nil
        refine reg [] [] [0, 5, 6, 7, 13] [pl 0 (.int .i64 sides1), pl 5 (.int .i64 (w64 (n2 * sides1))), pl 6 (.int .i64 times1), pl 7 (.int .i64 z1), pl 13 (.bool (decide ((100000 : Int) < (w64 (n2 * sides1)))))] hF hS Fol (by kernel_rfl) (by kernel_rfl) (by kernel_rfl) ?_ (fun a w hF hS => ?_)
        · exact obs_nil
        refine cond_ev (t := 13) (b := decide ((100000 : Int) < (w64 (n2 * sides1)))) hF (by kernel_rfl) (fun hb => ?_) (fun hb => ?_)
        · replace hm := if_t hm hb
          refine reg [] [] [4] [pl 4 (.int .i64 0)] hF hS Fol (by kernel_rfl) (by kernel_rfl) (by kernel_rfl) ?_ (fun a w hF hS => ?_)
          · exact obs_nil
          refine wp_ret ?_
          refine block_r (then_r (then_r (block_r (then_r ?_))))
          rw [← hφ1] at hm
          have hm : some 0 = some r := hm
          obtain rfl := Option.some.inj hm
          exact ret1 (t := 4) (v := .int .i64 0) hF rfl (by kernel_rfl) ⟨rfl, hS⟩
        · replace hm := if_f hm hb
          refine wp_skip ?_
          refine block_n ?_
          refine then_n ?_
          exact ⟨(w64 (n2 * sides1)), hF.weak [0, 5, 6, 7] (by kernel_rfl), hS, hm⟩
    · refine cond_ev (t := 8) (b := decide (z1 < times1)) hF (by kernel_rfl) (fun hb => ?_) (fun hb => ?_)
      · replace hm := if_t hm hb
        refine wp_skip ?_
        refine then_n ?_
        exact ⟨hF.weak [0, 5, 6, 7] (by kernel_rfl), hS, hm⟩
      · replace hm := if_f hm hb
        refine wp_exit ?_
        refine then_e (then_e (block_e (then_n ?_)))
        rw [← hφ1] at hm
        have hm : (dice_ways_J1 n2).bind some = some r := hm
        exact ⟨n2, hF.weak [5] (by kernel_rfl), hS, hm⟩

noncomputable def dice_Exploding_J2 (out1 : List Int) : Option (List Int × Int) :=
  some (out1, 0)

noncomputable def dice_Exploding_K1 : (List Int) → Option (List Int × Int) :=
  fun (x : (List Int)) => match x with | out1 => dice_Exploding_J2 out1

noncomputable def dice_Exploding_J4 (z1 : Int) (out3 : List Int) : Option (St (List Int × Int) (List Int)) :=
  some (.next (out3, (w64 (z1 + 1))))

noncomputable def dice_Exploding_K2 (z1 : Int) : (List Int) → Option (St (List Int × Int) (List Int)) :=
  fun (x : (List Int)) => match x with | out3 => (dice_Exploding_J4 z1) out3

noncomputable def dice_Exploding_J6 (x1 : Int) (out5 : List Int) : Option (St (List Int × Int) (List Int)) :=
  some (.next (out5, (w64 (x1 + 1))))

noncomputable def dice_Exploding_J5 (sides1 : Int) (deep1 : Int) (z1 : Int) (r2 : Int) (out4 : List Int) (x1 : Int) : Option (St (List Int × Int) (List Int)) :=
  if ((decide (x1 < sides1)) || (z1 == deep1)) then (asrt (0 ≤ (w64 ((w64 ((w64 (z1 * sides1)) + x1)) - 1)) ∧ (w64 ((w64 ((w64 (z1 * sides1)) + x1)) - 1)) < (out4.length : Int)) <| asrt (0 ≤ (w64 ((w64 ((w64 (z1 * sides1)) + x1)) - 1)) ∧ (w64 ((w64 ((w64 (z1 * sides1)) + x1)) - 1)) < (out4.length : Int)) <| (dice_Exploding_J6 x1) (out4.set (Int.toNat (w64 ((w64 ((w64 (z1 * sides1)) + x1)) - 1))) (w64 ((geti out4 (w64 ((w64 ((w64 (z1 * sides1)) + x1)) - 1))) + r2)))) else ((dice_Exploding_J6 x1) out4)

noncomputable def dice_Exploding_L2 (sides1 : Int) (deep1 : Int) (z1 : Int) (r2 : Int) : (List Int × Int) → Option (St (List Int × Int) (List Int)) :=
  fun (x : (List Int × Int)) => match x with | (out4, x1) => if (decide (x1 ≤ sides1)) then ((dice_Exploding_J5 sides1 deep1 z1 r2 out4 x1)) else (some (.done out4))

noncomputable def dice_Exploding_J3 (sides1 : Int) (deep1 : Int) (out2 : List Int) (z1 : Int) : Option (St (List Int × Int) (List Int)) :=
  (dice_ways_m sides1 (w64 (deep1 - z1))).bind fun r2 => (loop (dice_Exploding_L2 sides1 deep1 z1 r2) (out2, 1)).bind (dice_Exploding_K2 z1)

noncomputable def dice_Exploding_L1 (sides1 : Int) (deep1 : Int) : (List Int × Int) → Option (St (List Int × Int) (List Int)) :=
  fun (x : (List Int × Int)) => match x with | (out2, z1) => if (decide (z1 < (w64 (deep1 + 1)))) then ((dice_Exploding_J3 sides1 deep1 out2 z1)) else (some (.done out2))

noncomputable def dice_Exploding_J1 (sides1 : Int) (deep1 : Int) : Option (List Int × Int) :=
  asrt (0 ≤ (w64 (sides1 * (w64 (deep1 + 1)))) ∧ (w64 (sides1 * (w64 (deep1 + 1)))) ≤ bigN) <| (loop (dice_Exploding_L1 sides1 deep1) ((List.replicate (Int.toNat (w64 (sides1 * (w64 (deep1 + 1))))) (0 : Int)), 0)).bind dice_Exploding_K1

noncomputable def dice_Exploding_m (sides1 : Int) (deep1 : Int) : Option (List Int × Int) :=
  if ((decide (sides1 < 1)) || (decide ((20 : Int) < sides1))) then (some (([] : List Int), 3)) else (((if (!((decide (deep1 < 0)) || (decide ((4 : Int) < deep1)))) then dice_ways_m sides1 (w64 (deep1 + 1)) else some 0)).bind fun r1 => if (((decide (deep1 < 0)) || (decide ((4 : Int) < deep1))) || (r1 == 0)) then (some (([] : List Int), 11)) else ((dice_Exploding_J1 sides1 deep1)))

noncomputable def dice_Exploding_J2N (N : Nat) (out1 : List Int) : Option (List Int × Int) :=
  some (out1, 0)

theorem dice_Exploding_J2_le (N : Nat) (out1 : List Int) : Le (dice_Exploding_J2N N out1) (dice_Exploding_J2 out1) := by
  unfold dice_Exploding_J2N dice_Exploding_J2
  repeat' (first | with_reducible exact Le.refl _ | refine Le.asrt ?_ | refine Le.ite ?_ ?_ | refine Le.bind ?_ (fun _ => ?_) | refine Le.loop (fun _ => ?_))

noncomputable def dice_Exploding_K1N (N : Nat) : (List Int) → Option (List Int × Int) :=
  fun (x : (List Int)) => match x with | out1 => (dice_Exploding_J2N N) out1

theorem dice_Exploding_K1_le (N : Nat) (x : (List Int)) : Le (dice_Exploding_K1N N x) (dice_Exploding_K1  x) := by
  rcases x with out1
  all_goals
    unfold dice_Exploding_K1N dice_Exploding_K1
    dsimp only
    repeat' (first | with_reducible exact Le.refl _ | (with_reducible exact dice_Exploding_J2_le _ _) | refine Le.asrt ?_ | refine Le.ite ?_ ?_ | refine Le.bind ?_ (fun _ => ?_) | refine Le.loop (fun _ => ?_))

noncomputable def dice_Exploding_J4N (N : Nat) (z1 : Int) (out3 : List Int) : Option (St (List Int × Int) (List Int)) :=
  some (.next (out3, (w64 (z1 + 1))))

theorem dice_Exploding_J4_le (N : Nat) (z1 : Int) (out3 : List Int) : Le (dice_Exploding_J4N N z1 out3) (dice_Exploding_J4 z1 out3) := by
  unfold dice_Exploding_J4N dice_Exploding_J4
  repeat' (first | with_reducible exact Le.refl _ | refine Le.asrt ?_ | refine Le.ite ?_ ?_ | refine Le.bind ?_ (fun _ => ?_) | refine Le.loop (fun _ => ?_))

noncomputable def dice_Exploding_K2N (N : Nat) (z1 : Int) : (List Int) → Option (St (List Int × Int) (List Int)) :=
  fun (x : (List Int)) => match x with | out3 => (dice_Exploding_J4N N z1) out3

theorem dice_Exploding_K2_le (N : Nat) (z1 : Int) (x : (List Int)) : Le (dice_Exploding_K2N N z1 x) (dice_Exploding_K2 z1 x) := by
  rcases x with out3
  all_goals
    unfold dice_Exploding_K2N dice_Exploding_K2
    dsimp only
    repeat' (first | with_reducible exact Le.refl _ | (with_reducible exact dice_Exploding_J4_le _ _ _) | refine Le.asrt ?_ | refine Le.ite ?_ ?_ | refine Le.bind ?_ (fun _ => ?_) | refine Le.loop (fun _ => ?_))

noncomputable def dice_Exploding_J6N (N : Nat) (x1 : Int) (out5 : List Int) : Option (St (List Int × Int) (List Int)) :=
  some (.next (out5, (w64 (x1 + 1))))

theorem dice_Exploding_J6_le (N : Nat) (x1 : Int) (out5 : List Int) : Le (dice_Exploding_J6N N x1 out5) (dice_Exploding_J6 x1 out5) := by
  unfold dice_Exploding_J6N dice_Exploding_J6
  repeat' (first | with_reducible exact Le.refl _ | refine Le.asrt ?_ | refine Le.ite ?_ ?_ | refine Le.bind ?_ (fun _ => ?_) | refine Le.loop (fun _ => ?_))

noncomputable def dice_Exploding_J5N (N : Nat) (sides1 : Int) (deep1 : Int) (z1 : Int) (r2 : Int) (out4 : List Int) (x1 : Int) : Option (St (List Int × Int) (List Int)) :=
  if ((decide (x1 < sides1)) || (z1 == deep1)) then (asrt (0 ≤ (w64 ((w64 ((w64 (z1 * sides1)) + x1)) - 1)) ∧ (w64 ((w64 ((w64 (z1 * sides1)) + x1)) - 1)) < (out4.length : Int)) <| asrt (0 ≤ (w64 ((w64 ((w64 (z1 * sides1)) + x1)) - 1)) ∧ (w64 ((w64 ((w64 (z1 * sides1)) + x1)) - 1)) < (out4.length : Int)) <| (dice_Exploding_J6N N x1) (out4.set (Int.toNat (w64 ((w64 ((w64 (z1 * sides1)) + x1)) - 1))) (w64 ((geti out4 (w64 ((w64 ((w64 (z1 * sides1)) + x1)) - 1))) + r2)))) else ((dice_Exploding_J6N N x1) out4)

theorem dice_Exploding_J5_le (N : Nat) (sides1 : Int) (deep1 : Int) (z1 : Int) (r2 : Int) (out4 : List Int) (x1 : Int) : Le (dice_Exploding_J5N N sides1 deep1 z1 r2 out4 x1) (dice_Exploding_J5 sides1 deep1 z1 r2 out4 x1) := by
  unfold dice_Exploding_J5N dice_Exploding_J5
  repeat' (first | with_reducible exact Le.refl _ | (with_reducible exact dice_Exploding_J6_le _ _ _) | refine Le.asrt ?_ | refine Le.ite ?_ ?_ | refine Le.bind ?_ (fun _ => ?_) | refine Le.loop (fun _ => ?_))

noncomputable def dice_Exploding_L2N (N : Nat) (sides1 : Int) (deep1 : Int) (z1 : Int) (r2 : Int) : (List Int × Int) → Option (St (List Int × Int) (List Int)) :=
  fun (x : (List Int × Int)) => match x with | (out4, x1) => if (decide (x1 ≤ sides1)) then ((dice_Exploding_J5N N sides1 deep1 z1 r2 out4 x1)) else (some (.done out4))

theorem dice_Exploding_L2_le (N : Nat) (sides1 : Int) (deep1 : Int) (z1 : Int) (r2 : Int) (x : (List Int × Int)) : Le (dice_Exploding_L2N N sides1 deep1 z1 r2 x) (dice_Exploding_L2 sides1 deep1 z1 r2 x) := by
  rcases x with ⟨out4, x1⟩
  all_goals
    unfold dice_Exploding_L2N dice_Exploding_L2
    dsimp only
    repeat' (first | with_reducible exact Le.refl _ | (with_reducible exact dice_Exploding_J5_le _ _ _ _ _ _ _) | refine Le.asrt ?_ | refine Le.ite ?_ ?_ | refine Le.bind ?_ (fun _ => ?_) | refine Le.loop (fun _ => ?_))

noncomputable def dice_Exploding_J3N (N : Nat) (sides1 : Int) (deep1 : Int) (out2 : List Int) (z1 : Int) : Option (St (List Int × Int) (List Int)) :=
  (dice_ways_mN N sides1 (w64 (deep1 - z1))).bind fun r2 => (loopN (dice_Exploding_L2N N sides1 deep1 z1 r2) N (out2, 1)).bind (dice_Exploding_K2N N z1)

theorem dice_Exploding_J3_le (N : Nat) (sides1 : Int) (deep1 : Int) (out2 : List Int) (z1 : Int) : Le (dice_Exploding_J3N N sides1 deep1 out2 z1) (dice_Exploding_J3 sides1 deep1 out2 z1) := by
  unfold dice_Exploding_J3N dice_Exploding_J3
  repeat' (first | with_reducible exact Le.refl _ | (with_reducible exact dice_Exploding_L2_le _ _ _ _ _ _) | (with_reducible exact dice_Exploding_K2_le _ _ _) | (with_reducible exact dice_ways_m_le _ _ _) | refine Le.asrt ?_ | refine Le.ite ?_ ?_ | refine Le.bind ?_ (fun _ => ?_) | refine Le.loop (fun _ => ?_))

noncomputable def dice_Exploding_L1N (N : Nat) (sides1 : Int) (deep1 : Int) : (List Int × Int) → Option (St (List Int × Int) (List Int)) :=
  fun (x : (List Int × Int)) => match x with | (out2, z1) => if (decide (z1 < (w64 (deep1 + 1)))) then ((dice_Exploding_J3N N sides1 deep1 out2 z1)) else (some (.done out2))

theorem dice_Exploding_L1_le (N : Nat) (sides1 : Int) (deep1 : Int) (x : (List Int × Int)) : Le (dice_Exploding_L1N N sides1 deep1 x) (dice_Exploding_L1 sides1 deep1 x) := by
  rcases x with ⟨out2, z1⟩
  all_goals
    unfold dice_Exploding_L1N dice_Exploding_L1
    dsimp only
    repeat' (first | with_reducible exact Le.refl _ | (with_reducible exact dice_Exploding_J3_le _ _ _ _ _) | refine Le.asrt ?_ | refine Le.ite ?_ ?_ | refine Le.bind ?_ (fun _ => ?_) | refine Le.loop (fun _ => ?_))

noncomputable def dice_Exploding_J1N (N : Nat) (sides1 : Int) (deep1 : Int) : Option (List Int × Int) :=
  asrt (0 ≤ (w64 (sides1 * (w64 (deep1 + 1)))) ∧ (w64 (sides1 * (w64 (deep1 + 1)))) ≤ bigN) <| (loopN (dice_Exploding_L1N N sides1 deep1) N ((List.replicate (Int.toNat (w64 (sides1 * (w64 (deep1 + 1))))) (0 : Int)), 0)).bind (dice_Exploding_K1N N)

theorem dice_Exploding_J1_le (N : Nat) (sides1 : Int) (deep1 : Int) : Le (dice_Exploding_J1N N sides1 deep1) (dice_Exploding_J1 sides1 deep1) := by
  unfold dice_Exploding_J1N dice_Exploding_J1
  repeat' (first | with_reducible exact Le.refl _ | (with_reducible exact dice_Exploding_L1_le _ _ _ _) | (with_reducible exact dice_Exploding_K1_le _ _) | refine Le.asrt ?_ | refine Le.ite ?_ ?_ | refine Le.bind ?_ (fun _ => ?_) | refine Le.loop (fun _ => ?_))

noncomputable def dice_Exploding_mN (N : Nat) (sides1 : Int) (deep1 : Int) : Option (List Int × Int) :=
  if ((decide (sides1 < 1)) || (decide ((20 : Int) < sides1))) then (some (([] : List Int), 3)) else (((if (!((decide (deep1 < 0)) || (decide ((4 : Int) < deep1)))) then dice_ways_mN N sides1 (w64 (deep1 + 1)) else some 0)).bind fun r1 => if (((decide (deep1 < 0)) || (decide ((4 : Int) < deep1))) || (r1 == 0)) then (some (([] : List Int), 11)) else ((dice_Exploding_J1N N sides1 deep1)))

theorem dice_Exploding_m_le (N : Nat) (sides1 : Int) (deep1 : Int) : Le (dice_Exploding_mN N sides1 deep1) (dice_Exploding_m sides1 deep1) := by
  unfold dice_Exploding_mN dice_Exploding_m
  repeat' (first | with_reducible exact Le.refl _ | (with_reducible exact dice_Exploding_J1_le _ _ _) | (with_reducible exact dice_ways_m_le _ _ _) | refine Le.asrt ?_ | refine Le.ite ?_ ?_ | refine Le.bind ?_ (fun _ => ?_) | refine Le.loop (fun _ => ?_))

def dice_Exploding_post (r : (List Int × Int)) (v : Value) (w0 w' : World) : Prop := ∃ (A0 : Option Addr) (c0 : Nat), v = .tuple #[.slice A0 r.1.length c0, .int .i64 r.2] ∧ Sep w0 w0.heap.size w' [own 3 (.slice A0 r.1.length c0) (vI r.1)]

set_option maxRecDepth 100000 in
set_option maxHeartbeats 4000000 in
theorem dice_Exploding_w {sides1 : Int} {deep1 : Int} {r : (List Int × Int)} {w0 : World} (hm : dice_Exploding_m sides1 deep1 = some r) :
    Calls Try.prog 20 #[.int .i64 sides1, .int .i64 deep1] w0 fun e w' => ∃ v, e = .returned v ∧ dice_Exploding_post r v w0 w' := by
  obtain ⟨i3, hi3, hz3, hs3, hb3⟩ := info_parts Info3
  unfold dice_Exploding_m at hm
  replace hm := start_b hm
  refine enterS (l := [.int .i64 sides1, .int .i64 deep1]) (n := 73) Try.func20 rfl rfl (by simp) (fun a w hF hS => ?_)
  refine reg [] [] [0, 1] [pl 0 (.int .i64 sides1), pl 1 (.int .i64 deep1)] hF hS Fol (by kernel_rfl) (by kernel_rfl) (by kernel_rfl) ?_ (fun a w hF hS => ?_)
  · exact obs_nil
  refine seq_cut (fun a w => Fr 73 [pl 0 (.int .i64 sides1), pl 1 (.int .i64 deep1)] a ∧ Sep w0 w0.heap.size w [] ∧ ((dice_Exploding_J1 sides1 deep1)).bind some = some r) ?_ ?_
  · rintro a w ⟨hF, hS, hm⟩
    unfold dice_Exploding_J1 at hm
    obtain ⟨hp1, hm⟩ := asrt_b hm
    refine seqR ?_
    refine at_run 4 [] [] [0, 1, 34] [pl 0 (.int .i64 sides1), pl 1 (.int .i64 deep1), pl 34 (.int .i64 (w64 (sides1 * (w64 (deep1 + 1)))))] hF hS (by kernel_rfl) (by kernel_rfl) ?_ (fun a w hF hS => ?_)
    · exact obs_nil
    obtain ⟨A1, c1, w, hrun, hS⟩ := run_mkI (P := Try.prog) (t := 22) hS .i64 .i64 Und22 hi3 hz3 hs3 hb3 hp1
    refine at_do (d := 35) hF (by kernel_rfl) (by kernel_rfl) hrun (fun a hF => ?_)
    refine at_run 1 [] [] [0, 1, 6] [pl 0 (.int .i64 sides1), pl 1 (.int .i64 deep1), pl 6 (.slice A1 (List.replicate (Int.toNat (w64 (sides1 * (w64 (deep1 + 1))))) (0 : Int)).length c1)] hF hS (by kernel_rfl) (by kernel_rfl) ?_ (fun a w hF hS => ?_)
    · exact obs_nil
    refine at_end [0, 1, 6] [pl 0 (.int .i64 sides1), pl 1 (.int .i64 deep1), pl 6 (.slice A1 (List.replicate (Int.toNat (w64 (sides1 * (w64 (deep1 + 1))))) (0 : Int)).length c1)] hF rfl (by kernel_rfl) (fun hF => ?_)
    refine then_n ?_
    refine seq_cut (fun a w => ∃ (out1 : List Int) (A2 : Option Addr) (c2 : Nat), Fr 73 [pl 6 (.slice A2 out1.length c2)] a ∧ Sep w0 w0.heap.size w [own 3 (.slice A2 out1.length c2) (vI out1)] ∧ (dice_Exploding_J2 out1).bind some = some r) ?_ ?_
    · rintro a w ⟨out1, A2, c2, hF, hS, hm⟩
      unfold dice_Exploding_J2 at hm
      refine reg [] [] [4, 5] [pl 4 (.slice A2 out1.length c2), pl 5 (.int .i64 0)] hF hS Fol (by kernel_rfl) (by kernel_rfl) (by kernel_rfl) ?_ (fun a w hF hS => ?_)
      · exact obs_nil
      refine wp_ret ?_
      have hm : some (out1, 0) = some r := hm
      obtain rfl := Option.some.inj hm
      exact ret2 (t := 4) (u := 5) (v := .slice A2 out1.length c2) (v' := .int .i64 0) hF rfl (by kernel_rfl) (by kernel_rfl) ⟨_, rfl, A2, c2, rfl, hS⟩
    · refine reg [] [] [0, 1, 6, 37, 38] [pl 0 (.int .i64 sides1), pl 1 (.int .i64 deep1), pl 6 (.slice A1 (List.replicate (Int.toNat (w64 (sides1 * (w64 (deep1 + 1))))) (0 : Int)).length c1), pl 37 (.int .i64 (w64 (deep1 + 1))), pl 38 (.int .i64 0)] hF hS Fol (by kernel_rfl) (by kernel_rfl) (by kernel_rfl) ?_ (fun a w hF hS => ?_)
      · exact obs_nil
      refine wp_block ?_
      refine wp_loop_model (S := (List Int × Int)) (R := (List Int)) (dice_Exploding_L1 sides1 deep1) (fun x => (dice_Exploding_K1 x).bind some) r (fun (x : (List Int × Int)) a w => ∃ (A3 : Option Addr) (c3 : Nat), Fr 73 [pl 0 (.int .i64 sides1), pl 1 (.int .i64 deep1), pl 6 (.slice A3 x.1.length c3), pl 37 (.int .i64 (w64 (deep1 + 1))), pl 38 (.int .i64 x.2)] a ∧ Sep w0 w0.heap.size w [own 3 (.slice A3 x.1.length c3) (vI x.1)]) (assoc_b hm) ⟨A1, c1, hF.weak [0, 1, 6, 37, 38] (by kernel_rfl), hS⟩ ?_
      clear hF hS hm
      rintro nn1 ⟨out2, z1⟩ a w ⟨A3, c3, hF, hS⟩ hm
      generalize hφ1 : stK (dice_Exploding_L1 sides1 deep1) nn1 (fun x => (dice_Exploding_K1 x).bind some) = φ1 at hm
      unfold dice_Exploding_L1 at hm
      dsimp only at hF hS hm
      refine reg [] [] [0, 1, 6, 37, 38, 39] [pl 0 (.int .i64 sides1), pl 1 (.int .i64 deep1), pl 6 (.slice A3 out2.length c3), pl 37 (.int .i64 (w64 (deep1 + 1))), pl 38 (.int .i64 z1), pl 39 (.bool (decide (z1 < (w64 (deep1 + 1)))))] hF hS Fol (by kernel_rfl) (by kernel_rfl) (by kernel_rfl) ?_ (fun a w hF hS => ?_)
      · exact obs_nil
      refine seq_cut (fun a w => Fr 73 [pl 0 (.int .i64 sides1), pl 1 (.int .i64 deep1), pl 6 (.slice A3 out2.length c3), pl 37 (.int .i64 (w64 (deep1 + 1))), pl 38 (.int .i64 z1)] a ∧ Sep w0 w0.heap.size w [own 3 (.slice A3 out2.length c3) (vI out2)] ∧ ((dice_Exploding_J3 sides1 deep1 out2 z1)).bind φ1 = some r) ?_ ?_
      · rintro a w ⟨hF, hS, hm⟩
        unfold dice_Exploding_J3 at hm
        refine seq_cut (fun a w => ∃ (out3 : List Int) (A4 : Option Addr) (c4 : Nat), Fr 73 [pl 0 (.int .i64 sides1), pl 1 (.int .i64 deep1), pl 6 (.slice A4 out3.length c4), pl 37 (.int .i64 (w64 (deep1 + 1))), pl 38 (.int .i64 z1)] a ∧ Sep w0 w0.heap.size w [own 3 (.slice A4 out3.length c4) (vI out3)] ∧ ((dice_Exploding_J4 z1) out3).bind φ1 = some r) ?_ ?_
        · rintro a w ⟨out3, A4, c4, hF, hS, hm⟩
          unfold dice_Exploding_J4 at hm
          refine reg1 [] [] [0, 1, 6, 37, 38] [pl 0 (.int .i64 sides1), pl 1 (.int .i64 deep1), pl 6 (.slice A4 out3.length c4), pl 37 (.int .i64 (w64 (deep1 + 1))), pl 38 (.int .i64 (w64 (z1 + 1)))] hF hS Fol (by kernel_rfl) (by kernel_rfl) (by kernel_rfl) ?_ (fun a w hF hS => ?_)
          · exact obs_nil
          refine then_n ?_
          rw [← hφ1] at hm
          exact ⟨(out3, (w64 (z1 + 1))), ⟨A4, c4, hF.weak [0, 1, 6, 37, 38] (by kernel_rfl), hS⟩, hm⟩
        · refine wp_block ?_
          refine reg [] [] [0, 1, 6, 7, 37, 38] [pl 0 (.int .i64 sides1), pl 1 (.int .i64 deep1), pl 6 (.slice A3 out2.length c3), pl 7 (.int .i64 z1), pl 37 (.int .i64 (w64 (deep1 + 1))), pl 38 (.int .i64 z1)] hF hS Fol (by kernel_rfl) (by kernel_rfl) (by kernel_rfl) ?_ (fun a w hF hS => ?_)
          · exact obs_nil
          obtain ⟨r2, hr2, hm⟩ := call_b hm
          refine reg [⟨false, [], callFunc 57 #[.int .i64 sides1, .int .i64 (w64 (deep1 - z1))], .int .i64 r2⟩] [none, none, none, none, some (.int .i64 r2), none] [0, 1, 6, 7, 8, 37, 38] [pl 0 (.int .i64 sides1), pl 1 (.int .i64 deep1), pl 6 (.slice A3 out2.length c3), pl 7 (.int .i64 z1), pl 8 (.int .i64 r2), pl 37 (.int .i64 (w64 (deep1 + 1))), pl 38 (.int .i64 z1)] hF hS Fol (by kernel_rfl) (by kernel_rfl) (by kernel_rfl) ?_ (fun a w hF hS => ?_)
          · exact obs_cons (ob_call Try.func57 (by kernel_rfl) rfl (fun _ _ hS => quiet_of hS (dice_ways_w hr2 ))) <| obs_nil
          refine reg [] [] [0, 1, 6, 7, 8, 9, 37, 38] [pl 0 (.int .i64 sides1), pl 1 (.int .i64 deep1), pl 6 (.slice A3 out2.length c3), pl 7 (.int .i64 z1), pl 8 (.int .i64 r2), pl 9 (.int .i64 1), pl 37 (.int .i64 (w64 (deep1 + 1))), pl 38 (.int .i64 z1)] hF hS Fol (by kernel_rfl) (by kernel_rfl) (by kernel_rfl) ?_ (fun a w hF hS => ?_)
          · exact obs_nil
          refine wp_block ?_
          refine wp_loop_model (S := (List Int × Int)) (R := (List Int)) (dice_Exploding_L2 sides1 deep1 z1 r2) (fun x => ((dice_Exploding_K2 z1) x).bind φ1) r (fun (x : (List Int × Int)) a w => ∃ (A5 : Option Addr) (c5 : Nat), Fr 73 [pl 0 (.int .i64 sides1), pl 1 (.int .i64 deep1), pl 6 (.slice A5 x.1.length c5), pl 7 (.int .i64 z1), pl 8 (.int .i64 r2), pl 9 (.int .i64 x.2), pl 37 (.int .i64 (w64 (deep1 + 1))), pl 38 (.int .i64 z1)] a ∧ Sep w0 w0.heap.size w [own 3 (.slice A5 x.1.length c5) (vI x.1)]) (assoc_b hm) ⟨A3, c3, hF.weak [0, 1, 6, 7, 8, 9, 37, 38] (by kernel_rfl), hS⟩ ?_
          clear hF hS hm
          rintro nn2 ⟨out4, x1⟩ a w ⟨A5, c5, hF, hS⟩ hm
          generalize hφ2 : stK (dice_Exploding_L2 sides1 deep1 z1 r2) nn2 (fun x => ((dice_Exploding_K2 z1) x).bind φ1) = φ2 at hm
          unfold dice_Exploding_L2 at hm
          dsimp only at hF hS hm
          refine seq_cut (fun a w => Fr 73 [pl 0 (.int .i64 sides1), pl 1 (.int .i64 deep1), pl 6 (.slice A5 out4.length c5), pl 7 (.int .i64 z1), pl 8 (.int .i64 r2), pl 9 (.int .i64 x1), pl 37 (.int .i64 (w64 (deep1 + 1))), pl 38 (.int .i64 z1)] a ∧ Sep w0 w0.heap.size w [own 3 (.slice A5 out4.length c5) (vI out4)] ∧ ((dice_Exploding_J5 sides1 deep1 z1 r2 out4 x1)).bind φ2 = some r) ?_ ?_
          · rintro a w ⟨hF, hS, hm⟩
            unfold dice_Exploding_J5 at hm
            refine seq_cut (fun a w => ∃ (out5 : List Int) (A6 : Option Addr) (c6 : Nat), Fr 73 [pl 0 (.int .i64 sides1), pl 1 (.int .i64 deep1), pl 6 (.slice A6 out5.length c6), pl 7 (.int .i64 z1), pl 8 (.int .i64 r2), pl 9 (.int .i64 x1), pl 37 (.int .i64 (w64 (deep1 + 1))), pl 38 (.int .i64 z1)] a ∧ Sep w0 w0.heap.size w [own 3 (.slice A6 out5.length c6) (vI out5)] ∧ ((dice_Exploding_J6 x1) out5).bind φ2 = some r) ?_ ?_
            · rintro a w ⟨out5, A6, c6, hF, hS, hm⟩
              unfold dice_Exploding_J6 at hm
              refine reg1 [] [] [0, 1, 6, 7, 8, 9, 37, 38] [pl 0 (.int .i64 sides1), pl 1 (.int .i64 deep1), pl 6 (.slice A6 out5.length c6), pl 7 (.int .i64 z1), pl 8 (.int .i64 r2), pl 9 (.int .i64 (w64 (x1 + 1))), pl 37 (.int .i64 (w64 (deep1 + 1))), pl 38 (.int .i64 z1)] hF hS Fol (by kernel_rfl) (by kernel_rfl) (by kernel_rfl) ?_ (fun a w hF hS => ?_)
              · exact obs_nil
              refine then_n ?_
              rw [← hφ2] at hm
              exact ⟨(out5, (w64 (x1 + 1))), ⟨A6, c6, hF.weak [0, 1, 6, 7, 8, 9, 37, 38] (by kernel_rfl), hS⟩, hm⟩
            · refine wp_block ?_
              refine reg [] [] [0, 1, 6, 7, 8, 9, 37, 38, 58] [pl 0 (.int .i64 sides1), pl 1 (.int .i64 deep1), pl 6 (.slice A5 out4.length c5), pl 7 (.int .i64 z1), pl 8 (.int .i64 r2), pl 9 (.int .i64 x1), pl 37 (.int .i64 (w64 (deep1 + 1))), pl 38 (.int .i64 z1), pl 58 (.bool ((decide (x1 < sides1)) || (z1 == deep1)))] hF hS Fol (by kernel_rfl) (by kernel_rfl) (by kernel_rfl) ?_ (fun a w hF hS => ?_)
              · exact obs_nil
              refine cond_ev (t := 58) (b := (decide (x1 < sides1)) || (z1 == deep1)) hF (by kernel_rfl) (fun hb => ?_) (fun hb => ?_)
              · replace hm := if_t hm hb
                obtain ⟨hp2, hm⟩ := asrt_b hm
                obtain ⟨hp3, hm⟩ := asrt_b hm
                refine oneR ?_
                refine at_run 12 [⟨true, [], vS (Instr.indexAt 22 (.slice A5 out4.length c5) (.int .i64 (w64 ((w64 ((w64 (z1 * sides1)) + x1)) - 1)))), .pointer (some (sAddr A5 (w64 ((w64 ((w64 (z1 * sides1)) + x1)) - 1))))⟩, ⟨false, [], vS (Instr.loadAt 3 (.pointer (some (sAddr A5 (w64 ((w64 ((w64 (z1 * sides1)) + x1)) - 1)))))), .int .i64 (geti out4 (w64 ((w64 ((w64 (z1 * sides1)) + x1)) - 1)))⟩, ⟨true, [], vS (Instr.indexAt 22 (.slice A5 out4.length c5) (.int .i64 (w64 ((w64 ((w64 (z1 * sides1)) + x1)) - 1)))), .pointer (some (sAddr A5 (w64 ((w64 ((w64 (z1 * sides1)) + x1)) - 1))))⟩] [none, none, none, none, none, none, none, some (.pointer (some (sAddr A5 (w64 ((w64 ((w64 (z1 * sides1)) + x1)) - 1))))), some (.int .i64 (geti out4 (w64 ((w64 ((w64 (z1 * sides1)) + x1)) - 1)))), none, none, some (.pointer (some (sAddr A5 (w64 ((w64 ((w64 (z1 * sides1)) + x1)) - 1)))))] [0, 1, 6, 7, 8, 9, 37, 38, 69, 70] [pl 0 (.int .i64 sides1), pl 1 (.int .i64 deep1), pl 6 (.slice A5 out4.length c5), pl 7 (.int .i64 z1), pl 8 (.int .i64 r2), pl 9 (.int .i64 x1), pl 37 (.int .i64 (w64 (deep1 + 1))), pl 38 (.int .i64 z1), pl 69 (.int .i64 (w64 ((geti out4 (w64 ((w64 ((w64 (z1 * sides1)) + x1)) - 1))) + r2))), pl 70 (.pointer (some (sAddr A5 (w64 ((w64 ((w64 (z1 * sides1)) + x1)) - 1)))))] hF hS (by kernel_rfl) (by kernel_rfl) ?_ (fun a w hF hS => ?_)
                · exact obs_cons (ob_ixI Und22 hi3 hs3 (hS.at_ 0 rfl).rd (fun _ => hp2)) <| obs_cons (ob_geti Agg3 (fun _ hS => ⟨_, (hS.at_ 0 rfl).rd⟩) (fun _ => hp2)) <| obs_cons (ob_ixI Und22 hi3 hs3 (hS.at_ 0 rfl).rd (fun _ => hp3)) <| obs_nil
                obtain ⟨w, hrun, hS⟩ := run_setI (P := Try.prog) (t := 3) (x := w64 ((geti out4 (w64 ((w64 ((w64 (z1 * sides1)) + x1)) - 1))) + r2)) (hS.at_ 0 rfl) hi3 hs3 hp3
                refine at_skip hF (by kernel_rfl) hrun ?_
                have hS : Sep w0 w0.heap.size w [own 3 (.slice A5 (out4.set (Int.toNat (w64 ((w64 ((w64 (z1 * sides1)) + x1)) - 1))) (w64 ((geti out4 (w64 ((w64 ((w64 (z1 * sides1)) + x1)) - 1))) + r2))).length c5) (vI (out4.set (Int.toNat (w64 ((w64 ((w64 (z1 * sides1)) + x1)) - 1))) (w64 ((geti out4 (w64 ((w64 ((w64 (z1 * sides1)) + x1)) - 1))) + r2))))] := hS
                have hF := hF.cast (t := 6) (v := .slice A5 out4.length c5) (v' := .slice A5 (out4.set (Int.toNat (w64 ((w64 ((w64 (z1 * sides1)) + x1)) - 1))) (w64 ((geti out4 (w64 ((w64 ((w64 (z1 * sides1)) + x1)) - 1))) + r2))).length c5) rfl rfl (by rw [List.length_set])
                refine at_end [0, 1, 6, 7, 8, 9, 37, 38] [pl 0 (.int .i64 sides1), pl 1 (.int .i64 deep1), pl 6 (.slice A5 (out4.set (Int.toNat (w64 ((w64 ((w64 (z1 * sides1)) + x1)) - 1))) (w64 ((geti out4 (w64 ((w64 ((w64 (z1 * sides1)) + x1)) - 1))) + r2))).length c5), pl 7 (.int .i64 z1), pl 8 (.int .i64 r2), pl 9 (.int .i64 x1), pl 37 (.int .i64 (w64 (deep1 + 1))), pl 38 (.int .i64 z1)] hF rfl (by kernel_rfl) (fun hF => ?_)
                refine block_n ?_
                refine then_n ?_
                exact ⟨(out4.set (Int.toNat (w64 ((w64 ((w64 (z1 * sides1)) + x1)) - 1))) (w64 ((geti out4 (w64 ((w64 ((w64 (z1 * sides1)) + x1)) - 1))) + r2))), A5, c5, hF.weak [0, 1, 6, 7, 8, 9, 37, 38] (by kernel_rfl), hS, hm⟩
              · replace hm := if_f hm hb
                refine wp_skip ?_
                refine block_n ?_
                refine then_n ?_
                exact ⟨out4, A5, c5, hF.weak [0, 1, 6, 7, 8, 9, 37, 38] (by kernel_rfl), hS, hm⟩
          · refine reg [] [] [0, 1, 6, 7, 8, 9, 37, 38, 48] [pl 0 (.int .i64 sides1), pl 1 (.int .i64 deep1), pl 6 (.slice A5 out4.length c5), pl 7 (.int .i64 z1), pl 8 (.int .i64 r2), pl 9 (.int .i64 x1), pl 37 (.int .i64 (w64 (deep1 + 1))), pl 38 (.int .i64 z1), pl 48 (.bool (decide (x1 ≤ sides1)))] hF hS Fol (by kernel_rfl) (by kernel_rfl) (by kernel_rfl) ?_ (fun a w hF hS => ?_)
            · exact obs_nil
            refine cond_ev (t := 48) (b := decide (x1 ≤ sides1)) hF (by kernel_rfl) (fun hb => ?_) (fun hb => ?_)
            · replace hm := if_t hm hb
              refine wp_skip ?_
              refine then_n ?_
              exact ⟨hF.weak [0, 1, 6, 7, 8, 9, 37, 38] (by kernel_rfl), hS, hm⟩
            · replace hm := if_f hm hb
              refine wp_exit ?_
              refine then_e (then_e (block_e (block_n (then_n ?_))))
              rw [← hφ2] at hm
              have hm : ((dice_Exploding_J4 z1) out4).bind φ1 = some r := hm
              exact ⟨out4, A5, c5, hF.weak [0, 1, 6, 37, 38] (by kernel_rfl), hS, hm⟩
      · refine cond_ev (t := 39) (b := decide (z1 < (w64 (deep1 + 1)))) hF (by kernel_rfl) (fun hb => ?_) (fun hb => ?_)
        · replace hm := if_t hm hb
          refine wp_skip ?_
          refine then_n ?_
          exact ⟨hF.weak [0, 1, 6, 37, 38] (by kernel_rfl), hS, hm⟩
        · replace hm := if_f hm hb
          refine wp_exit ?_
          refine then_e (then_e (block_e (then_n ?_)))
          rw [← hφ1] at hm
          have hm : (dice_Exploding_J2 out2).bind some = some r := hm
          exact ⟨out2, A3, c3, hF.weak [6] (by kernel_rfl), hS, hm⟩
  · refine wp_block ?_
    refine reg [] [] [0, 1, 10] [pl 0 (.int .i64 sides1), pl 1 (.int .i64 deep1), pl 10 (.bool ((decide (sides1 < 1)) || (decide ((20 : Int) < sides1))))] hF hS Fol (by kernel_rfl) (by kernel_rfl) (by kernel_rfl) ?_ (fun a w hF hS => ?_)
    · exact obs_nil
    refine cond_ev (t := 10) (b := (decide (sides1 < 1)) || (decide ((20 : Int) < sides1))) hF (by kernel_rfl) (fun hb => ?_) (fun hb => ?_)
    · replace hm := if_t hm hb
      refine reg [] [] [4, 5] [pl 4 (.slice none 0 0), pl 5 (.int .i64 3)] hF hS Fol (by kernel_rfl) (by kernel_rfl) (by kernel_rfl) ?_ (fun a w hF hS => ?_)
      · exact obs_nil
      refine wp_ret ?_
      refine block_r (then_r ?_)
      have hS := hS.nil 3
      have hm : some (([] : List Int), 3) = some r := hm
      obtain rfl := Option.some.inj hm
      exact ret2 (t := 4) (u := 5) (v := .slice none 0 0) (v' := .int .i64 3) hF rfl (by kernel_rfl) (by kernel_rfl) ⟨_, rfl, none, 0, rfl, hS⟩
    · replace hm := if_f hm hb
      obtain ⟨r1, hr1, hm⟩ := call_b hm
      refine reg [⟨false, [((decide (deep1 < 0)) || (decide ((4 : Int) < deep1)), false)], callFunc 57 #[.int .i64 sides1, .int .i64 (w64 (deep1 + 1))], .int .i64 r1⟩] [none, none, none, none, none, none, none, none, none, none, some (.int .i64 r1), none, none, none] [0, 1, 17] [pl 0 (.int .i64 sides1), pl 1 (.int .i64 deep1), pl 17 (.bool (((decide (deep1 < 0)) || (decide ((4 : Int) < deep1))) || (r1 == 0)))] hF hS Fol (by kernel_rfl) (by kernel_rfl) (by kernel_rfl) ?_ (fun a w hF hS => ?_)
      · exact obs_cons (ob_call Try.func57 (by kernel_rfl) rfl (fun hy _ hS => quiet_of hS (dice_ways_w (ite_some hr1 (by rw [show ((decide (deep1 < 0)) || (decide ((4 : Int) < deep1))) = false from hy ((decide (deep1 < 0)) || (decide ((4 : Int) < deep1)), false) (by simp)]; try rfl)) ))) <| obs_nil
      refine cond_ev (t := 17) (b := ((decide (deep1 < 0)) || (decide ((4 : Int) < deep1))) || (r1 == 0)) hF (by kernel_rfl) (fun hb => ?_) (fun hb => ?_)
      · replace hm := if_t hm hb
        refine reg [] [] [4, 5] [pl 4 (.slice none 0 0), pl 5 (.int .i64 11)] hF hS Fol (by kernel_rfl) (by kernel_rfl) (by kernel_rfl) ?_ (fun a w hF hS => ?_)
        · exact obs_nil
        refine wp_ret ?_
        refine block_r (then_r ?_)
        have hS := hS.nil 3
        have hm : some (([] : List Int), 11) = some r := hm
        obtain rfl := Option.some.inj hm
        exact ret2 (t := 4) (u := 5) (v := .slice none 0 0) (v' := .int .i64 11) hF rfl (by kernel_rfl) (by kernel_rfl) ⟨_, rfl, none, 0, rfl, hS⟩
      · replace hm := if_f hm hb
        refine wp_skip ?_
        refine block_n ?_
        refine then_n ?_
        exact ⟨hF.weak [0, 1] (by kernel_rfl), hS, hm⟩

noncomputable def gameroomref_allWays_J1 (w1 : Int) : Option Int :=
  some w1

noncomputable def gameroomref_allWays_K1 : (Fl Int Int) → Option Int :=
  fun (x : (Fl Int Int)) => match x with | .go w1 => gameroomref_allWays_J1 w1 | .ret x => some x

noncomputable def gameroomref_allWays_J3 (i1 : Int) (w3 : Int) : Option (St (Int × Int) (Fl Int Int)) :=
  some (.next (w3, (w64 (i1 + 1))))

noncomputable def gameroomref_allWays_J2 (sides1 : Int) (w2 : Int) (i1 : Int) : Option (St (Int × Int) (Fl Int Int)) :=
  if (decide ((100000 : Int) < (w64 (w2 * sides1)))) then (some (.done (.ret 0))) else ((gameroomref_allWays_J3 i1) (w64 (w2 * sides1)))

noncomputable def gameroomref_allWays_L1 (sides1 : Int) (n1 : Int) : (Int × Int) → Option (St (Int × Int) (Fl Int Int)) :=
  fun (x : (Int × Int)) => match x with | (w2, i1) => if (decide (i1 < n1)) then ((gameroomref_allWays_J2 sides1 w2 i1)) else (some (.done (.go w2)))

noncomputable def gameroomref_allWays_m (sides1 : Int) (n1 : Int) : Option Int :=
  (loop (gameroomref_allWays_L1 sides1 n1) (1, 0)).bind gameroomref_allWays_K1

noncomputable def gameroomref_allWays_J1N (N : Nat) (w1 : Int) : Option Int :=
  some w1

theorem gameroomref_allWays_J1_le (N : Nat) (w1 : Int) : Le (gameroomref_allWays_J1N N w1) (gameroomref_allWays_J1 w1) := by
  unfold gameroomref_allWays_J1N gameroomref_allWays_J1
  repeat' (first | with_reducible exact Le.refl _ | refine Le.asrt ?_ | refine Le.ite ?_ ?_ | refine Le.bind ?_ (fun _ => ?_) | refine Le.loop (fun _ => ?_))

noncomputable def gameroomref_allWays_K1N (N : Nat) : (Fl Int Int) → Option Int :=
  fun (x : (Fl Int Int)) => match x with | .go w1 => (gameroomref_allWays_J1N N) w1 | .ret x => some x

theorem gameroomref_allWays_K1_le (N : Nat) (x : (Fl Int Int)) : Le (gameroomref_allWays_K1N N x) (gameroomref_allWays_K1  x) := by
  rcases x with w1 | x
  all_goals
    unfold gameroomref_allWays_K1N gameroomref_allWays_K1
    dsimp only
    repeat' (first | with_reducible exact Le.refl _ | (with_reducible exact gameroomref_allWays_J1_le _ _) | refine Le.asrt ?_ | refine Le.ite ?_ ?_ | refine Le.bind ?_ (fun _ => ?_) | refine Le.loop (fun _ => ?_))

noncomputable def gameroomref_allWays_J3N (N : Nat) (i1 : Int) (w3 : Int) : Option (St (Int × Int) (Fl Int Int)) :=
  some (.next (w3, (w64 (i1 + 1))))

theorem gameroomref_allWays_J3_le (N : Nat) (i1 : Int) (w3 : Int) : Le (gameroomref_allWays_J3N N i1 w3) (gameroomref_allWays_J3 i1 w3) := by
  unfold gameroomref_allWays_J3N gameroomref_allWays_J3
  repeat' (first | with_reducible exact Le.refl _ | refine Le.asrt ?_ | refine Le.ite ?_ ?_ | refine Le.bind ?_ (fun _ => ?_) | refine Le.loop (fun _ => ?_))

noncomputable def gameroomref_allWays_J2N (N : Nat) (sides1 : Int) (w2 : Int) (i1 : Int) : Option (St (Int × Int) (Fl Int Int)) :=
  if (decide ((100000 : Int) < (w64 (w2 * sides1)))) then (some (.done (.ret 0))) else ((gameroomref_allWays_J3N N i1) (w64 (w2 * sides1)))

theorem gameroomref_allWays_J2_le (N : Nat) (sides1 : Int) (w2 : Int) (i1 : Int) : Le (gameroomref_allWays_J2N N sides1 w2 i1) (gameroomref_allWays_J2 sides1 w2 i1) := by
  unfold gameroomref_allWays_J2N gameroomref_allWays_J2
  repeat' (first | with_reducible exact Le.refl _ | (with_reducible exact gameroomref_allWays_J3_le _ _ _) | refine Le.asrt ?_ | refine Le.ite ?_ ?_ | refine Le.bind ?_ (fun _ => ?_) | refine Le.loop (fun _ => ?_))

noncomputable def gameroomref_allWays_L1N (N : Nat) (sides1 : Int) (n1 : Int) : (Int × Int) → Option (St (Int × Int) (Fl Int Int)) :=
  fun (x : (Int × Int)) => match x with | (w2, i1) => if (decide (i1 < n1)) then ((gameroomref_allWays_J2N N sides1 w2 i1)) else (some (.done (.go w2)))

theorem gameroomref_allWays_L1_le (N : Nat) (sides1 : Int) (n1 : Int) (x : (Int × Int)) : Le (gameroomref_allWays_L1N N sides1 n1 x) (gameroomref_allWays_L1 sides1 n1 x) := by
  rcases x with ⟨w2, i1⟩
  all_goals
    unfold gameroomref_allWays_L1N gameroomref_allWays_L1
    dsimp only
    repeat' (first | with_reducible exact Le.refl _ | (with_reducible exact gameroomref_allWays_J2_le _ _ _ _) | refine Le.asrt ?_ | refine Le.ite ?_ ?_ | refine Le.bind ?_ (fun _ => ?_) | refine Le.loop (fun _ => ?_))

noncomputable def gameroomref_allWays_mN (N : Nat) (sides1 : Int) (n1 : Int) : Option Int :=
  (loopN (gameroomref_allWays_L1N N sides1 n1) N (1, 0)).bind (gameroomref_allWays_K1N N)

theorem gameroomref_allWays_m_le (N : Nat) (sides1 : Int) (n1 : Int) : Le (gameroomref_allWays_mN N sides1 n1) (gameroomref_allWays_m sides1 n1) := by
  unfold gameroomref_allWays_mN gameroomref_allWays_m
  repeat' (first | with_reducible exact Le.refl _ | (with_reducible exact gameroomref_allWays_L1_le _ _ _ _) | (with_reducible exact gameroomref_allWays_K1_le _ _) | refine Le.asrt ?_ | refine Le.ite ?_ ?_ | refine Le.bind ?_ (fun _ => ?_) | refine Le.loop (fun _ => ?_))

set_option maxRecDepth 100000 in
set_option maxHeartbeats 4000000 in
theorem gameroomref_allWays_w {sides1 : Int} {n1 : Int} {r : Int} {w0 : World} (hm : gameroomref_allWays_m sides1 n1 = some r) :
    Calls Try.prog 58 #[.int .i64 sides1, .int .i64 n1] w0 fun e w' => e = .returned (.int .i64 r) ∧ Sep w0 w0.heap.size w' [] := by
  unfold gameroomref_allWays_m at hm
  replace hm := start_b hm
  refine enterS (l := [.int .i64 sides1, .int .i64 n1]) (n := 18) Try.func58 rfl rfl (by simp) (fun a w hF hS => ?_)
  refine reg [] [] [0, 1] [pl 0 (.int .i64 sides1), pl 1 (.int .i64 n1)] hF hS Fol (by kernel_rfl) (by kernel_rfl) (by kernel_rfl) ?_ (fun a w hF hS => ?_)
  · exact obs_nil
  refine reg [] [] [0, 1, 5] [pl 0 (.int .i64 sides1), pl 1 (.int .i64 n1), pl 5 (.int .i64 1)] hF hS Fol (by kernel_rfl) (by kernel_rfl) (by kernel_rfl) ?_ (fun a w hF hS => ?_)
  · exact obs_nil
  refine seq_cut (fun a w => ∃ (w1 : Int), Fr 18 [pl 5 (.int .i64 w1)] a ∧ Sep w0 w0.heap.size w [] ∧ (gameroomref_allWays_J1 w1).bind some = some r) ?_ ?_
  · rintro a w ⟨w1, hF, hS, hm⟩
    unfold gameroomref_allWays_J1 at hm
    refine reg [] [] [4] [pl 4 (.int .i64 w1)] hF hS Fol (by kernel_rfl) (by kernel_rfl) (by kernel_rfl) ?_ (fun a w hF hS => ?_)
    · exact obs_nil
    refine wp_ret ?_
    have hm : some w1 = some r := hm
    obtain rfl := Option.some.inj hm
    exact ret1 (t := 4) (v := .int .i64 w1) hF rfl (by kernel_rfl) ⟨rfl, hS⟩
  · refine reg [] [] [0, 1, 5, 6] [pl 0 (.int .i64 sides1), pl 1 (.int .i64 n1), pl 5 (.int .i64 1), pl 6 (.int .i64 0)] hF hS Fol (by kernel_rfl) (by kernel_rfl) (by kernel_rfl) ?_ (fun a w hF hS => ?_)
    · exact obs_nil
    refine wp_block ?_
    refine wp_loop_model (S := (Int × Int)) (R := (Fl Int Int)) (gameroomref_allWays_L1 sides1 n1) (fun x => (gameroomref_allWays_K1 x).bind some) r (fun (x : (Int × Int)) a w => Fr 18 [pl 0 (.int .i64 sides1), pl 1 (.int .i64 n1), pl 5 (.int .i64 x.1), pl 6 (.int .i64 x.2)] a ∧ Sep w0 w0.heap.size w []) (assoc_b hm) ⟨hF.weak [0, 1, 5, 6] (by kernel_rfl), hS⟩ ?_
    clear hF hS hm
    rintro nn1 ⟨w2, i1⟩ a w ⟨hF, hS⟩ hm
    generalize hφ1 : stK (gameroomref_allWays_L1 sides1 n1) nn1 (fun x => (gameroomref_allWays_K1 x).bind some) = φ1 at hm
    unfold gameroomref_allWays_L1 at hm
    dsimp only at hF hS hm
    refine seq_cut (fun a w => Fr 18 [pl 0 (.int .i64 sides1), pl 1 (.int .i64 n1), pl 5 (.int .i64 w2), pl 6 (.int .i64 i1)] a ∧ Sep w0 w0.heap.size w [] ∧ ((gameroomref_allWays_J2 sides1 w2 i1)).bind φ1 = some r) ?_ ?_
    · rintro a w ⟨hF, hS, hm⟩
      unfold gameroomref_allWays_J2 at hm
      refine seq_cut (fun a w => ∃ (w3 : Int), Fr 18 [pl 0 (.int .i64 sides1), pl 1 (.int .i64 n1), pl 5 (.int .i64 w3), pl 6 (.int .i64 i1)] a ∧ Sep w0 w0.heap.size w [] ∧ ((gameroomref_allWays_J3 i1) w3).bind φ1 = some r) ?_ ?_
      · rintro a w ⟨w3, hF, hS, hm⟩
        unfold gameroomref_allWays_J3 at hm
        refine reg1 [] [] [0, 1, 5, 6] [pl 0 (.int .i64 sides1), pl 1 (.int .i64 n1), pl 5 (.int .i64 w3), pl 6 (.int .i64 (w64 (i1 + 1)))] hF hS Fol (by kernel_rfl) (by kernel_rfl) (by kernel_rfl) ?_ (fun a w hF hS => ?_)
        · exact obs_nil
        refine then_n ?_
        rw [← hφ1] at hm
        exact ⟨(w3, (w64 (i1 + 1))), ⟨hF.weak [0, 1, 5, 6] (by kernel_rfl), hS⟩, hm⟩
      · refine wp_block ?_
        refine reg [] [] [0, 1, 5, 6] [pl 0 (.int .i64 sides1), pl 1 (.int .i64 n1), pl 5 (.int .i64 (w64 (w2 * sides1))), pl 6 (.int .i64 i1)] hF hS Fol (by kernel_rfl) (by kernel_rfl) (by kernel_rfl) ?_ (fun a w hF hS => ?_)
        · exact obs_nil
        refine reg [] [] [0, 1, 5, 6, 16] [pl 0 (.int .i64 sides1), pl 1 (.int .i64 n1), pl 5 (.int .i64 (w64 (w2 * sides1))), pl 6 (.int .i64 i1), pl 16 (.bool (decide ((100000 : Int) < (w64 (w2 * sides1)))))] hF hS Fol (by kernel_rfl) (by kernel_rfl) (by kernel_rfl) ?_ (fun a w hF hS => ?_)
        · exact obs_nil
        refine cond_ev (t := 16) (b := decide ((100000 : Int) < (w64 (w2 * sides1)))) hF (by kernel_rfl) (fun hb => ?_) (fun hb => ?_)
        · replace hm := if_t hm hb
          refine reg [] [] [4] [pl 4 (.int .i64 0)] hF hS Fol (by kernel_rfl) (by kernel_rfl) (by kernel_rfl) ?_ (fun a w hF hS => ?_)
          · exact obs_nil
          refine wp_ret ?_
          refine block_r (then_r (then_r (block_r (then_r ?_))))
          rw [← hφ1] at hm
          have hm : some 0 = some r := hm
          obtain rfl := Option.some.inj hm
          exact ret1 (t := 4) (v := .int .i64 0) hF rfl (by kernel_rfl) ⟨rfl, hS⟩
        · replace hm := if_f hm hb
          refine wp_skip ?_
          refine block_n ?_
          refine then_n ?_
          exact ⟨(w64 (w2 * sides1)), hF.weak [0, 1, 5, 6] (by kernel_rfl), hS, hm⟩
    · refine reg [] [] [0, 1, 5, 6, 9] [pl 0 (.int .i64 sides1), pl 1 (.int .i64 n1), pl 5 (.int .i64 w2), pl 6 (.int .i64 i1), pl 9 (.bool (decide (i1 < n1)))] hF hS Fol (by kernel_rfl) (by kernel_rfl) (by kernel_rfl) ?_ (fun a w hF hS => ?_)
      · exact obs_nil
      refine cond_ev (t := 9) (b := decide (i1 < n1)) hF (by kernel_rfl) (fun hb => ?_) (fun hb => ?_)
      · replace hm := if_t hm hb
        refine wp_skip ?_
        refine then_n ?_
        exact ⟨hF.weak [0, 1, 5, 6] (by kernel_rfl), hS, hm⟩
      · replace hm := if_f hm hb
        refine wp_exit ?_
        refine then_e (then_e (block_e (then_n ?_)))
        rw [← hφ1] at hm
        have hm : (gameroomref_allWays_J1 w2).bind some = some r := hm
        exact ⟨w2, hF.weak [5] (by kernel_rfl), hS, hm⟩

noncomputable def gameroomref_ExplodeWays_J1 (out1 : List Int) : Option (List Int) :=
  some out1

noncomputable def gameroomref_ExplodeWays_K1 : (List Int) → Option (List Int) :=
  fun (x : (List Int)) => match x with | out1 => gameroomref_ExplodeWays_J1 out1

noncomputable def gameroomref_ExplodeWays_J3 (w1 : Int) (out3 : List Int) : Option (St (List Int × Int) (List Int)) :=
  some (.next (out3, (w64 (w1 + 1))))

noncomputable def gameroomref_ExplodeWays_J4 (out2 : List Int) (w1 : Int) (sum1 : Int) : Option (St (List Int × Int) (List Int)) :=
  asrt (0 ≤ (w64 (sum1 - 1)) ∧ (w64 (sum1 - 1)) < (out2.length : Int)) <| asrt (0 ≤ (w64 (sum1 - 1)) ∧ (w64 (sum1 - 1)) < (out2.length : Int)) <| (gameroomref_ExplodeWays_J3 w1) (out2.set (Int.toNat (w64 (sum1 - 1))) (w64 ((geti out2 (w64 (sum1 - 1))) + 1)))

noncomputable def gameroomref_ExplodeWays_K2 (out2 : List Int) (w1 : Int) : Int → Option (St (List Int × Int) (List Int)) :=
  fun (x : Int) => match x with | sum1 => (gameroomref_ExplodeWays_J4 out2 w1) sum1

noncomputable def gameroomref_ExplodeWays_J6 (i1 : Int) (x2 : Int) (sum3 : Int) : Option (St (Int × Int × Int) Int) :=
  some (.next (x2, sum3, (w64 (i1 + 1))))

noncomputable def gameroomref_ExplodeWays_J5 (sides1 : Int) (x1 : Int) (sum2 : Int) (i1 : Int) : Option (St (Int × Int × Int) Int) :=
  asrt (sides1 ≠ (0 : Int)) <| asrt (sides1 ≠ (0 : Int)) <| if (decide ((w64 ((Int.tmod x1 sides1) + 1)) < sides1)) then (some (.done (w64 (sum2 + (w64 ((Int.tmod x1 sides1) + 1)))))) else ((gameroomref_ExplodeWays_J6 i1) (w64 (Int.tdiv x1 sides1)) (w64 (sum2 + (w64 ((Int.tmod x1 sides1) + 1)))))

noncomputable def gameroomref_ExplodeWays_L2 (sides1 : Int) (deep1 : Int) : (Int × Int × Int) → Option (St (Int × Int × Int) Int) :=
  fun (x : (Int × Int × Int)) => match x with | (x1, sum2, i1) => if (decide (i1 ≤ deep1)) then ((gameroomref_ExplodeWays_J5 sides1 x1 sum2 i1)) else (some (.done sum2))

noncomputable def gameroomref_ExplodeWays_J2 (sides1 : Int) (deep1 : Int) (out2 : List Int) (w1 : Int) : Option (St (List Int × Int) (List Int)) :=
  (loop (gameroomref_ExplodeWays_L2 sides1 deep1) (w1, 0, 0)).bind (gameroomref_ExplodeWays_K2 out2 w1)

noncomputable def gameroomref_ExplodeWays_L1 (sides1 : Int) (deep1 : Int) (r1 : Int) : (List Int × Int) → Option (St (List Int × Int) (List Int)) :=
  fun (x : (List Int × Int)) => match x with | (out2, w1) => if (decide (w1 < r1)) then ((gameroomref_ExplodeWays_J2 sides1 deep1 out2 w1)) else (some (.done out2))

noncomputable def gameroomref_ExplodeWays_m (sides1 : Int) (deep1 : Int) : Option (List Int) :=
  asrt (0 ≤ (w64 (sides1 * (w64 (deep1 + 1)))) ∧ (w64 (sides1 * (w64 (deep1 + 1)))) ≤ bigN) <| (gameroomref_allWays_m sides1 (w64 (deep1 + 1))).bind fun r1 => (loop (gameroomref_ExplodeWays_L1 sides1 deep1 r1) ((List.replicate (Int.toNat (w64 (sides1 * (w64 (deep1 + 1))))) (0 : Int)), 0)).bind gameroomref_ExplodeWays_K1

noncomputable def gameroomref_ExplodeWays_J1N (N : Nat) (out1 : List Int) : Option (List Int) :=
  some out1

theorem gameroomref_ExplodeWays_J1_le (N : Nat) (out1 : List Int) : Le (gameroomref_ExplodeWays_J1N N out1) (gameroomref_ExplodeWays_J1 out1) := by
  unfold gameroomref_ExplodeWays_J1N gameroomref_ExplodeWays_J1
  repeat' (first | with_reducible exact Le.refl _ | refine Le.asrt ?_ | refine Le.ite ?_ ?_ | refine Le.bind ?_ (fun _ => ?_) | refine Le.loop (fun _ => ?_))

noncomputable def gameroomref_ExplodeWays_K1N (N : Nat) : (List Int) → Option (List Int) :=
  fun (x : (List Int)) => match x with | out1 => (gameroomref_ExplodeWays_J1N N) out1

theorem gameroomref_ExplodeWays_K1_le (N : Nat) (x : (List Int)) : Le (gameroomref_ExplodeWays_K1N N x) (gameroomref_ExplodeWays_K1  x) := by
  rcases x with out1
  all_goals
    unfold gameroomref_ExplodeWays_K1N gameroomref_ExplodeWays_K1
    dsimp only
    repeat' (first | with_reducible exact Le.refl _ | (with_reducible exact gameroomref_ExplodeWays_J1_le _ _) | refine Le.asrt ?_ | refine Le.ite ?_ ?_ | refine Le.bind ?_ (fun _ => ?_) | refine Le.loop (fun _ => ?_))

noncomputable def gameroomref_ExplodeWays_J3N (N : Nat) (w1 : Int) (out3 : List Int) : Option (St (List Int × Int) (List Int)) :=
  some (.next (out3, (w64 (w1 + 1))))

theorem gameroomref_ExplodeWays_J3_le (N : Nat) (w1 : Int) (out3 : List Int) : Le (gameroomref_ExplodeWays_J3N N w1 out3) (gameroomref_ExplodeWays_J3 w1 out3) := by
  unfold gameroomref_ExplodeWays_J3N gameroomref_ExplodeWays_J3
  repeat' (first | with_reducible exact Le.refl _ | refine Le.asrt ?_ | refine Le.ite ?_ ?_ | refine Le.bind ?_ (fun _ => ?_) | refine Le.loop (fun _ => ?_))

noncomputable def gameroomref_ExplodeWays_J4N (N : Nat) (out2 : List Int) (w1 : Int) (sum1 : Int) : Option (St (List Int × Int) (List Int)) :=
  asrt (0 ≤ (w64 (sum1 - 1)) ∧ (w64 (sum1 - 1)) < (out2.length : Int)) <| asrt (0 ≤ (w64 (sum1 - 1)) ∧ (w64 (sum1 - 1)) < (out2.length : Int)) <| (gameroomref_ExplodeWays_J3N N w1) (out2.set (Int.toNat (w64 (sum1 - 1))) (w64 ((geti out2 (w64 (sum1 - 1))) + 1)))

theorem gameroomref_ExplodeWays_J4_le (N : Nat) (out2 : List Int) (w1 : Int) (sum1 : Int) : Le (gameroomref_ExplodeWays_J4N N out2 w1 sum1) (gameroomref_ExplodeWays_J4 out2 w1 sum1) := by
  unfold gameroomref_ExplodeWays_J4N gameroomref_ExplodeWays_J4
  repeat' (first | with_reducible exact Le.refl _ | (with_reducible exact gameroomref_ExplodeWays_J3_le _ _ _) | refine Le.asrt ?_ | refine Le.ite ?_ ?_ | refine Le.bind ?_ (fun _ => ?_) | refine Le.loop (fun _ => ?_))

noncomputable def gameroomref_ExplodeWays_K2N (N : Nat) (out2 : List Int) (w1 : Int) : Int → Option (St (List Int × Int) (List Int)) :=
  fun (x : Int) => match x with | sum1 => (gameroomref_ExplodeWays_J4N N out2 w1) sum1

theorem gameroomref_ExplodeWays_K2_le (N : Nat) (out2 : List Int) (w1 : Int) (x : Int) : Le (gameroomref_ExplodeWays_K2N N out2 w1 x) (gameroomref_ExplodeWays_K2 out2 w1 x) := by
  rcases x with sum1
  all_goals
    unfold gameroomref_ExplodeWays_K2N gameroomref_ExplodeWays_K2
    dsimp only
    repeat' (first | with_reducible exact Le.refl _ | (with_reducible exact gameroomref_ExplodeWays_J4_le _ _ _ _) | refine Le.asrt ?_ | refine Le.ite ?_ ?_ | refine Le.bind ?_ (fun _ => ?_) | refine Le.loop (fun _ => ?_))

noncomputable def gameroomref_ExplodeWays_J6N (N : Nat) (i1 : Int) (x2 : Int) (sum3 : Int) : Option (St (Int × Int × Int) Int) :=
  some (.next (x2, sum3, (w64 (i1 + 1))))

theorem gameroomref_ExplodeWays_J6_le (N : Nat) (i1 : Int) (x2 : Int) (sum3 : Int) : Le (gameroomref_ExplodeWays_J6N N i1 x2 sum3) (gameroomref_ExplodeWays_J6 i1 x2 sum3) := by
  unfold gameroomref_ExplodeWays_J6N gameroomref_ExplodeWays_J6
  repeat' (first | with_reducible exact Le.refl _ | refine Le.asrt ?_ | refine Le.ite ?_ ?_ | refine Le.bind ?_ (fun _ => ?_) | refine Le.loop (fun _ => ?_))

noncomputable def gameroomref_ExplodeWays_J5N (N : Nat) (sides1 : Int) (x1 : Int) (sum2 : Int) (i1 : Int) : Option (St (Int × Int × Int) Int) :=
  asrt (sides1 ≠ (0 : Int)) <| asrt (sides1 ≠ (0 : Int)) <| if (decide ((w64 ((Int.tmod x1 sides1) + 1)) < sides1)) then (some (.done (w64 (sum2 + (w64 ((Int.tmod x1 sides1) + 1)))))) else ((gameroomref_ExplodeWays_J6N N i1) (w64 (Int.tdiv x1 sides1)) (w64 (sum2 + (w64 ((Int.tmod x1 sides1) + 1)))))

theorem gameroomref_ExplodeWays_J5_le (N : Nat) (sides1 : Int) (x1 : Int) (sum2 : Int) (i1 : Int) : Le (gameroomref_ExplodeWays_J5N N sides1 x1 sum2 i1) (gameroomref_ExplodeWays_J5 sides1 x1 sum2 i1) := by
  unfold gameroomref_ExplodeWays_J5N gameroomref_ExplodeWays_J5
  repeat' (first | with_reducible exact Le.refl _ | (with_reducible exact gameroomref_ExplodeWays_J6_le _ _ _ _) | refine Le.asrt ?_ | refine Le.ite ?_ ?_ | refine Le.bind ?_ (fun _ => ?_) | refine Le.loop (fun _ => ?_))

noncomputable def gameroomref_ExplodeWays_L2N (N : Nat) (sides1 : Int) (deep1 : Int) : (Int × Int × Int) → Option (St (Int × Int × Int) Int) :=
  fun (x : (Int × Int × Int)) => match x with | (x1, sum2, i1) => if (decide (i1 ≤ deep1)) then ((gameroomref_ExplodeWays_J5N N sides1 x1 sum2 i1)) else (some (.done sum2))

theorem gameroomref_ExplodeWays_L2_le (N : Nat) (sides1 : Int) (deep1 : Int) (x : (Int × Int × Int)) : Le (gameroomref_ExplodeWays_L2N N sides1 deep1 x) (gameroomref_ExplodeWays_L2 sides1 deep1 x) := by
  rcases x with ⟨x1, sum2, i1⟩
  all_goals
    unfold gameroomref_ExplodeWays_L2N gameroomref_ExplodeWays_L2
    dsimp only
    repeat' (first | with_reducible exact Le.refl _ | (with_reducible exact gameroomref_ExplodeWays_J5_le _ _ _ _ _) | refine Le.asrt ?_ | refine Le.ite ?_ ?_ | refine Le.bind ?_ (fun _ => ?_) | refine Le.loop (fun _ => ?_))

noncomputable def gameroomref_ExplodeWays_J2N (N : Nat) (sides1 : Int) (deep1 : Int) (out2 : List Int) (w1 : Int) : Option (St (List Int × Int) (List Int)) :=
  (loopN (gameroomref_ExplodeWays_L2N N sides1 deep1) N (w1, 0, 0)).bind (gameroomref_ExplodeWays_K2N N out2 w1)

theorem gameroomref_ExplodeWays_J2_le (N : Nat) (sides1 : Int) (deep1 : Int) (out2 : List Int) (w1 : Int) : Le (gameroomref_ExplodeWays_J2N N sides1 deep1 out2 w1) (gameroomref_ExplodeWays_J2 sides1 deep1 out2 w1) := by
  unfold gameroomref_ExplodeWays_J2N gameroomref_ExplodeWays_J2
  repeat' (first | with_reducible exact Le.refl _ | (with_reducible exact gameroomref_ExplodeWays_L2_le _ _ _ _) | (with_reducible exact gameroomref_ExplodeWays_K2_le _ _ _ _) | refine Le.asrt ?_ | refine Le.ite ?_ ?_ | refine Le.bind ?_ (fun _ => ?_) | refine Le.loop (fun _ => ?_))

noncomputable def gameroomref_ExplodeWays_L1N (N : Nat) (sides1 : Int) (deep1 : Int) (r1 : Int) : (List Int × Int) → Option (St (List Int × Int) (List Int)) :=
  fun (x : (List Int × Int)) => match x with | (out2, w1) => if (decide (w1 < r1)) then ((gameroomref_ExplodeWays_J2N N sides1 deep1 out2 w1)) else (some (.done out2))

theorem gameroomref_ExplodeWays_L1_le (N : Nat) (sides1 : Int) (deep1 : Int) (r1 : Int) (x : (List Int × Int)) : Le (gameroomref_ExplodeWays_L1N N sides1 deep1 r1 x) (gameroomref_ExplodeWays_L1 sides1 deep1 r1 x) := by
  rcases x with ⟨out2, w1⟩
  all_goals
    unfold gameroomref_ExplodeWays_L1N gameroomref_ExplodeWays_L1
    dsimp only
    repeat' (first | with_reducible exact Le.refl _ | (with_reducible exact gameroomref_ExplodeWays_J2_le _ _ _ _ _) | refine Le.asrt ?_ | refine Le.ite ?_ ?_ | refine Le.bind ?_ (fun _ => ?_) | refine Le.loop (fun _ => ?_))

noncomputable def gameroomref_ExplodeWays_mN (N : Nat) (sides1 : Int) (deep1 : Int) : Option (List Int) :=
  asrt (0 ≤ (w64 (sides1 * (w64 (deep1 + 1)))) ∧ (w64 (sides1 * (w64 (deep1 + 1)))) ≤ bigN) <| (gameroomref_allWays_mN N sides1 (w64 (deep1 + 1))).bind fun r1 => (loopN (gameroomref_ExplodeWays_L1N N sides1 deep1 r1) N ((List.replicate (Int.toNat (w64 (sides1 * (w64 (deep1 + 1))))) (0 : Int)), 0)).bind (gameroomref_ExplodeWays_K1N N)

theorem gameroomref_ExplodeWays_m_le (N : Nat) (sides1 : Int) (deep1 : Int) : Le (gameroomref_ExplodeWays_mN N sides1 deep1) (gameroomref_ExplodeWays_m sides1 deep1) := by
  unfold gameroomref_ExplodeWays_mN gameroomref_ExplodeWays_m
  repeat' (first | with_reducible exact Le.refl _ | (with_reducible exact gameroomref_ExplodeWays_L1_le _ _ _ _ _) | (with_reducible exact gameroomref_ExplodeWays_K1_le _ _) | (with_reducible exact gameroomref_allWays_m_le _ _ _) | refine Le.asrt ?_ | refine Le.ite ?_ ?_ | refine Le.bind ?_ (fun _ => ?_) | refine Le.loop (fun _ => ?_))

def gameroomref_ExplodeWays_post (r : (List Int)) (v : Value) (w0 w' : World) : Prop := ∃ (A0 : Option Addr) (c0 : Nat), v = .slice A0 r.length c0 ∧ Sep w0 w0.heap.size w' [own 3 (.slice A0 r.length c0) (vI r)]

set_option maxRecDepth 100000 in
set_option maxHeartbeats 4000000 in
theorem gameroomref_ExplodeWays_w {sides1 : Int} {deep1 : Int} {r : (List Int)} {w0 : World} (hm : gameroomref_ExplodeWays_m sides1 deep1 = some r) :
    Calls Try.prog 21 #[.int .i64 sides1, .int .i64 deep1] w0 fun e w' => ∃ v, e = .returned v ∧ gameroomref_ExplodeWays_post r v w0 w' := by
  obtain ⟨i3, hi3, hz3, hs3, hb3⟩ := info_parts Info3
  unfold gameroomref_ExplodeWays_m at hm
  replace hm := start_b hm
  refine enterS (l := [.int .i64 sides1, .int .i64 deep1]) (n := 53) Try.func21 rfl rfl (by simp) (fun a w hF hS => ?_)
  refine reg [] [] [0, 1] [pl 0 (.int .i64 sides1), pl 1 (.int .i64 deep1)] hF hS Fol (by kernel_rfl) (by kernel_rfl) (by kernel_rfl) ?_ (fun a w hF hS => ?_)
  · exact obs_nil
  obtain ⟨hp1, hm⟩ := asrt_b hm
  refine seqR ?_
  refine at_run 4 [] [] [0, 1, 15] [pl 0 (.int .i64 sides1), pl 1 (.int .i64 deep1), pl 15 (.int .i64 (w64 (sides1 * (w64 (deep1 + 1)))))] hF hS (by kernel_rfl) (by kernel_rfl) ?_ (fun a w hF hS => ?_)
  · exact obs_nil
  obtain ⟨A1, c1, w, hrun, hS⟩ := run_mkI (P := Try.prog) (t := 22) hS .i64 .i64 Und22 hi3 hz3 hs3 hb3 hp1
  refine at_do (d := 16) hF (by kernel_rfl) (by kernel_rfl) hrun (fun a hF => ?_)
  refine at_run 1 [] [] [0, 1, 5] [pl 0 (.int .i64 sides1), pl 1 (.int .i64 deep1), pl 5 (.slice A1 (List.replicate (Int.toNat (w64 (sides1 * (w64 (deep1 + 1))))) (0 : Int)).length c1)] hF hS (by kernel_rfl) (by kernel_rfl) ?_ (fun a w hF hS => ?_)
  · exact obs_nil
  refine at_end [0, 1, 5] [pl 0 (.int .i64 sides1), pl 1 (.int .i64 deep1), pl 5 (.slice A1 (List.replicate (Int.toNat (w64 (sides1 * (w64 (deep1 + 1))))) (0 : Int)).length c1)] hF rfl (by kernel_rfl) (fun hF => ?_)
  refine then_n ?_
  obtain ⟨r1, hr1, hm⟩ := call_b hm
  refine reg [⟨false, [], callFunc 58 #[.int .i64 sides1, .int .i64 (w64 (deep1 + 1))], .int .i64 r1⟩] [none, none, none, some (.int .i64 r1), none] [0, 1, 5, 6] [pl 0 (.int .i64 sides1), pl 1 (.int .i64 deep1), pl 5 (.slice A1 (List.replicate (Int.toNat (w64 (sides1 * (w64 (deep1 + 1))))) (0 : Int)).length c1), pl 6 (.int .i64 r1)] hF hS Fol (by kernel_rfl) (by kernel_rfl) (by kernel_rfl) ?_ (fun a w hF hS => ?_)
  · exact obs_cons (ob_call Try.func58 (by kernel_rfl) rfl (fun _ _ hS => quiet_of hS (gameroomref_allWays_w hr1 ))) <| obs_nil
  refine seq_cut (fun a w => ∃ (out1 : List Int) (A2 : Option Addr) (c2 : Nat), Fr 53 [pl 5 (.slice A2 out1.length c2)] a ∧ Sep w0 w0.heap.size w [own 3 (.slice A2 out1.length c2) (vI out1)] ∧ (gameroomref_ExplodeWays_J1 out1).bind some = some r) ?_ ?_
  · rintro a w ⟨out1, A2, c2, hF, hS, hm⟩
    unfold gameroomref_ExplodeWays_J1 at hm
    refine reg [] [] [4] [pl 4 (.slice A2 out1.length c2)] hF hS Fol (by kernel_rfl) (by kernel_rfl) (by kernel_rfl) ?_ (fun a w hF hS => ?_)
    · exact obs_nil
    refine wp_ret ?_
    have hm : some out1 = some r := hm
    obtain rfl := Option.some.inj hm
    exact ret1 (t := 4) (v := .slice A2 out1.length c2) hF rfl (by kernel_rfl) ⟨_, rfl, A2, c2, rfl, hS⟩
  · refine reg [] [] [0, 1, 5, 6, 7] [pl 0 (.int .i64 sides1), pl 1 (.int .i64 deep1), pl 5 (.slice A1 (List.replicate (Int.toNat (w64 (sides1 * (w64 (deep1 + 1))))) (0 : Int)).length c1), pl 6 (.int .i64 r1), pl 7 (.int .i64 0)] hF hS Fol (by kernel_rfl) (by kernel_rfl) (by kernel_rfl) ?_ (fun a w hF hS => ?_)
    · exact obs_nil
    refine wp_block ?_
    refine wp_loop_model (S := (List Int × Int)) (R := (List Int)) (gameroomref_ExplodeWays_L1 sides1 deep1 r1) (fun x => (gameroomref_ExplodeWays_K1 x).bind some) r (fun (x : (List Int × Int)) a w => ∃ (A3 : Option Addr) (c3 : Nat), Fr 53 [pl 0 (.int .i64 sides1), pl 1 (.int .i64 deep1), pl 5 (.slice A3 x.1.length c3), pl 6 (.int .i64 r1), pl 7 (.int .i64 x.2)] a ∧ Sep w0 w0.heap.size w [own 3 (.slice A3 x.1.length c3) (vI x.1)]) (assoc_b hm) ⟨A1, c1, hF.weak [0, 1, 5, 6, 7] (by kernel_rfl), hS⟩ ?_
    clear hF hS hm
    rintro nn1 ⟨out2, w1⟩ a w ⟨A3, c3, hF, hS⟩ hm
    generalize hφ1 : stK (gameroomref_ExplodeWays_L1 sides1 deep1 r1) nn1 (fun x => (gameroomref_ExplodeWays_K1 x).bind some) = φ1 at hm
    unfold gameroomref_ExplodeWays_L1 at hm
    dsimp only at hF hS hm
    refine seq_cut (fun a w => Fr 53 [pl 0 (.int .i64 sides1), pl 1 (.int .i64 deep1), pl 5 (.slice A3 out2.length c3), pl 6 (.int .i64 r1), pl 7 (.int .i64 w1)] a ∧ Sep w0 w0.heap.size w [own 3 (.slice A3 out2.length c3) (vI out2)] ∧ ((gameroomref_ExplodeWays_J2 sides1 deep1 out2 w1)).bind φ1 = some r) ?_ ?_
    · rintro a w ⟨hF, hS, hm⟩
      unfold gameroomref_ExplodeWays_J2 at hm
      refine seq_cut (fun a w => ∃ (out3 : List Int) (A4 : Option Addr) (c4 : Nat), Fr 53 [pl 0 (.int .i64 sides1), pl 1 (.int .i64 deep1), pl 5 (.slice A4 out3.length c4), pl 6 (.int .i64 r1), pl 7 (.int .i64 w1)] a ∧ Sep w0 w0.heap.size w [own 3 (.slice A4 out3.length c4) (vI out3)] ∧ ((gameroomref_ExplodeWays_J3 w1) out3).bind φ1 = some r) ?_ ?_
      · rintro a w ⟨out3, A4, c4, hF, hS, hm⟩
        unfold gameroomref_ExplodeWays_J3 at hm
        refine reg1 [] [] [0, 1, 5, 6, 7] [pl 0 (.int .i64 sides1), pl 1 (.int .i64 deep1), pl 5 (.slice A4 out3.length c4), pl 6 (.int .i64 r1), pl 7 (.int .i64 (w64 (w1 + 1)))] hF hS Fol (by kernel_rfl) (by kernel_rfl) (by kernel_rfl) ?_ (fun a w hF hS => ?_)
        · exact obs_nil
        refine then_n ?_
        rw [← hφ1] at hm
        exact ⟨(out3, (w64 (w1 + 1))), ⟨A4, c4, hF.weak [0, 1, 5, 6, 7] (by kernel_rfl), hS⟩, hm⟩
      · refine wp_block ?_
        refine reg [] [] [0, 1, 5, 6, 7, 8, 9] [pl 0 (.int .i64 sides1), pl 1 (.int .i64 deep1), pl 5 (.slice A3 out2.length c3), pl 6 (.int .i64 r1), pl 7 (.int .i64 w1), pl 8 (.int .i64 w1), pl 9 (.int .i64 0)] hF hS Fol (by kernel_rfl) (by kernel_rfl) (by kernel_rfl) ?_ (fun a w hF hS => ?_)
        · exact obs_nil
        refine seq_cut (fun a w => ∃ (sum1 : Int), Fr 53 [pl 0 (.int .i64 sides1), pl 1 (.int .i64 deep1), pl 5 (.slice A3 out2.length c3), pl 6 (.int .i64 r1), pl 7 (.int .i64 w1), pl 9 (.int .i64 sum1)] a ∧ Sep w0 w0.heap.size w [own 3 (.slice A3 out2.length c3) (vI out2)] ∧ ((gameroomref_ExplodeWays_J4 out2 w1) sum1).bind φ1 = some r) ?_ ?_
        · rintro a w ⟨sum1, hF, hS, hm⟩
          unfold gameroomref_ExplodeWays_J4 at hm
          obtain ⟨hp4, hm⟩ := asrt_b hm
          obtain ⟨hp5, hm⟩ := asrt_b hm
          refine oneR ?_
          refine at_run 7 [⟨true, [], vS (Instr.indexAt 22 (.slice A3 out2.length c3) (.int .i64 (w64 (sum1 - 1)))), .pointer (some (sAddr A3 (w64 (sum1 - 1))))⟩, ⟨false, [], vS (Instr.loadAt 3 (.pointer (some (sAddr A3 (w64 (sum1 - 1)))))), .int .i64 (geti out2 (w64 (sum1 - 1)))⟩, ⟨true, [], vS (Instr.indexAt 22 (.slice A3 out2.length c3) (.int .i64 (w64 (sum1 - 1)))), .pointer (some (sAddr A3 (w64 (sum1 - 1))))⟩] [none, none, none, some (.pointer (some (sAddr A3 (w64 (sum1 - 1))))), some (.int .i64 (geti out2 (w64 (sum1 - 1)))), none, some (.pointer (some (sAddr A3 (w64 (sum1 - 1)))))] [0, 1, 5, 6, 7, 50, 51] [pl 0 (.int .i64 sides1), pl 1 (.int .i64 deep1), pl 5 (.slice A3 out2.length c3), pl 6 (.int .i64 r1), pl 7 (.int .i64 w1), pl 50 (.int .i64 (w64 ((geti out2 (w64 (sum1 - 1))) + 1))), pl 51 (.pointer (some (sAddr A3 (w64 (sum1 - 1)))))] hF hS (by kernel_rfl) (by kernel_rfl) ?_ (fun a w hF hS => ?_)
          · exact obs_cons (ob_ixI Und22 hi3 hs3 (hS.at_ 0 rfl).rd (fun _ => hp4)) <| obs_cons (ob_geti Agg3 (fun _ hS => ⟨_, (hS.at_ 0 rfl).rd⟩) (fun _ => hp4)) <| obs_cons (ob_ixI Und22 hi3 hs3 (hS.at_ 0 rfl).rd (fun _ => hp5)) <| obs_nil
          obtain ⟨w, hrun, hS⟩ := run_setI (P := Try.prog) (t := 3) (x := w64 ((geti out2 (w64 (sum1 - 1))) + 1)) (hS.at_ 0 rfl) hi3 hs3 hp5
          refine at_skip hF (by kernel_rfl) hrun ?_
          have hS : Sep w0 w0.heap.size w [own 3 (.slice A3 (out2.set (Int.toNat (w64 (sum1 - 1))) (w64 ((geti out2 (w64 (sum1 - 1))) + 1))).length c3) (vI (out2.set (Int.toNat (w64 (sum1 - 1))) (w64 ((geti out2 (w64 (sum1 - 1))) + 1))))] := hS
          have hF := hF.cast (t := 5) (v := .slice A3 out2.length c3) (v' := .slice A3 (out2.set (Int.toNat (w64 (sum1 - 1))) (w64 ((geti out2 (w64 (sum1 - 1))) + 1))).length c3) rfl rfl (by rw [List.length_set])
          refine at_end [0, 1, 5, 6, 7] [pl 0 (.int .i64 sides1), pl 1 (.int .i64 deep1), pl 5 (.slice A3 (out2.set (Int.toNat (w64 (sum1 - 1))) (w64 ((geti out2 (w64 (sum1 - 1))) + 1))).length c3), pl 6 (.int .i64 r1), pl 7 (.int .i64 w1)] hF rfl (by kernel_rfl) (fun hF => ?_)
          refine block_n ?_
          refine then_n ?_
          exact ⟨(out2.set (Int.toNat (w64 (sum1 - 1))) (w64 ((geti out2 (w64 (sum1 - 1))) + 1))), A3, c3, hF.weak [0, 1, 5, 6, 7] (by kernel_rfl), hS, hm⟩
        · refine reg [] [] [0, 1, 5, 6, 7, 8, 9, 10] [pl 0 (.int .i64 sides1), pl 1 (.int .i64 deep1), pl 5 (.slice A3 out2.length c3), pl 6 (.int .i64 r1), pl 7 (.int .i64 w1), pl 8 (.int .i64 w1), pl 9 (.int .i64 0), pl 10 (.int .i64 0)] hF hS Fol (by kernel_rfl) (by kernel_rfl) (by kernel_rfl) ?_ (fun a w hF hS => ?_)
          · exact obs_nil
          refine wp_block ?_
          refine wp_loop_model (S := (Int × Int × Int)) (R := Int) (gameroomref_ExplodeWays_L2 sides1 deep1) (fun x => ((gameroomref_ExplodeWays_K2 out2 w1) x).bind φ1) r (fun (x : (Int × Int × Int)) a w => Fr 53 [pl 0 (.int .i64 sides1), pl 1 (.int .i64 deep1), pl 5 (.slice A3 out2.length c3), pl 6 (.int .i64 r1), pl 7 (.int .i64 w1), pl 8 (.int .i64 x.1), pl 9 (.int .i64 x.2.1), pl 10 (.int .i64 x.2.2)] a ∧ Sep w0 w0.heap.size w [own 3 (.slice A3 out2.length c3) (vI out2)]) (assoc_b hm) ⟨hF.weak [0, 1, 5, 6, 7, 8, 9, 10] (by kernel_rfl), hS⟩ ?_
          clear hF hS hm
          rintro nn2 ⟨x1, sum2, i1⟩ a w ⟨hF, hS⟩ hm
          generalize hφ2 : stK (gameroomref_ExplodeWays_L2 sides1 deep1) nn2 (fun x => ((gameroomref_ExplodeWays_K2 out2 w1) x).bind φ1) = φ2 at hm
          unfold gameroomref_ExplodeWays_L2 at hm
          dsimp only at hF hS hm
          refine seq_cut (fun a w => Fr 53 [pl 0 (.int .i64 sides1), pl 1 (.int .i64 deep1), pl 5 (.slice A3 out2.length c3), pl 6 (.int .i64 r1), pl 7 (.int .i64 w1), pl 8 (.int .i64 x1), pl 9 (.int .i64 sum2), pl 10 (.int .i64 i1)] a ∧ Sep w0 w0.heap.size w [own 3 (.slice A3 out2.length c3) (vI out2)] ∧ ((gameroomref_ExplodeWays_J5 sides1 x1 sum2 i1)).bind φ2 = some r) ?_ ?_
          · rintro a w ⟨hF, hS, hm⟩
            unfold gameroomref_ExplodeWays_J5 at hm
            refine seq_cut (fun a w => ∃ (x2 : Int) (sum3 : Int), Fr 53 [pl 0 (.int .i64 sides1), pl 1 (.int .i64 deep1), pl 5 (.slice A3 out2.length c3), pl 6 (.int .i64 r1), pl 7 (.int .i64 w1), pl 8 (.int .i64 x2), pl 9 (.int .i64 sum3), pl 10 (.int .i64 i1)] a ∧ Sep w0 w0.heap.size w [own 3 (.slice A3 out2.length c3) (vI out2)] ∧ ((gameroomref_ExplodeWays_J6 i1) x2 sum3).bind φ2 = some r) ?_ ?_
            · rintro a w ⟨x2, sum3, hF, hS, hm⟩
              unfold gameroomref_ExplodeWays_J6 at hm
              refine reg1 [] [] [0, 1, 5, 6, 7, 8, 9, 10] [pl 0 (.int .i64 sides1), pl 1 (.int .i64 deep1), pl 5 (.slice A3 out2.length c3), pl 6 (.int .i64 r1), pl 7 (.int .i64 w1), pl 8 (.int .i64 x2), pl 9 (.int .i64 sum3), pl 10 (.int .i64 (w64 (i1 + 1)))] hF hS Fol (by kernel_rfl) (by kernel_rfl) (by kernel_rfl) ?_ (fun a w hF hS => ?_)
              · exact obs_nil
              refine then_n ?_
              rw [← hφ2] at hm
              exact ⟨(x2, sum3, (w64 (i1 + 1))), ⟨hF.weak [0, 1, 5, 6, 7, 8, 9, 10] (by kernel_rfl), hS⟩, hm⟩
            · refine wp_block ?_
              obtain ⟨hp2, hm⟩ := asrt_b hm
              refine reg [⟨true, [], vS (Op.intDiv .rem .i64 x1 sides1), .int .i64 (Int.tmod x1 sides1)⟩] [none, none, some (.int .i64 (Int.tmod x1 sides1)), none, none] [0, 1, 5, 6, 7, 8, 9, 10, 11] [pl 0 (.int .i64 sides1), pl 1 (.int .i64 deep1), pl 5 (.slice A3 out2.length c3), pl 6 (.int .i64 r1), pl 7 (.int .i64 w1), pl 8 (.int .i64 x1), pl 9 (.int .i64 sum2), pl 10 (.int .i64 i1), pl 11 (.int .i64 (w64 ((Int.tmod x1 sides1) + 1)))] hF hS Fol (by kernel_rfl) (by kernel_rfl) (by kernel_rfl) ?_ (fun a w hF hS => ?_)
              · exact obs_cons (ob_rem rfl (fun _ => hp2)) <| obs_nil
              obtain ⟨hp3, hm⟩ := asrt_b hm
              refine reg [⟨true, [], vS (Op.intDiv .quo .i64 x1 sides1), .int .i64 (w64 (Int.tdiv x1 sides1))⟩] [none, none, some (.int .i64 (w64 (Int.tdiv x1 sides1))), none] [0, 1, 5, 6, 7, 8, 9, 10, 11] [pl 0 (.int .i64 sides1), pl 1 (.int .i64 deep1), pl 5 (.slice A3 out2.length c3), pl 6 (.int .i64 r1), pl 7 (.int .i64 w1), pl 8 (.int .i64 (w64 (Int.tdiv x1 sides1))), pl 9 (.int .i64 sum2), pl 10 (.int .i64 i1), pl 11 (.int .i64 (w64 ((Int.tmod x1 sides1) + 1)))] hF hS Fol (by kernel_rfl) (by kernel_rfl) (by kernel_rfl) ?_ (fun a w hF hS => ?_)
              · exact obs_cons (ob_quo rfl (fun _ => hp3)) <| obs_nil
              refine reg [] [] [0, 1, 5, 6, 7, 8, 9, 10, 11] [pl 0 (.int .i64 sides1), pl 1 (.int .i64 deep1), pl 5 (.slice A3 out2.length c3), pl 6 (.int .i64 r1), pl 7 (.int .i64 w1), pl 8 (.int .i64 (w64 (Int.tdiv x1 sides1))), pl 9 (.int .i64 (w64 (sum2 + (w64 ((Int.tmod x1 sides1) + 1))))), pl 10 (.int .i64 i1), pl 11 (.int .i64 (w64 ((Int.tmod x1 sides1) + 1)))] hF hS Fol (by kernel_rfl) (by kernel_rfl) (by kernel_rfl) ?_ (fun a w hF hS => ?_)
              · exact obs_nil
              refine reg [] [] [0, 1, 5, 6, 7, 8, 9, 10, 44] [pl 0 (.int .i64 sides1), pl 1 (.int .i64 deep1), pl 5 (.slice A3 out2.length c3), pl 6 (.int .i64 r1), pl 7 (.int .i64 w1), pl 8 (.int .i64 (w64 (Int.tdiv x1 sides1))), pl 9 (.int .i64 (w64 (sum2 + (w64 ((Int.tmod x1 sides1) + 1))))), pl 10 (.int .i64 i1), pl 44 (.bool (decide ((w64 ((Int.tmod x1 sides1) + 1)) < sides1)))] hF hS Fol (by kernel_rfl) (by kernel_rfl) (by kernel_rfl) ?_ (fun a w hF hS => ?_)
              · exact obs_nil
              refine cond_ev (t := 44) (b := decide ((w64 ((Int.tmod x1 sides1) + 1)) < sides1)) hF (by kernel_rfl) (fun hb => ?_) (fun hb => ?_)
              · replace hm := if_t hm hb
                refine wp_exit ?_
                refine block_o rfl (then_e (then_e (block_e (then_n ?_))))
                rw [← hφ2] at hm
                have hm : ((gameroomref_ExplodeWays_J4 out2 w1) (w64 (sum2 + (w64 ((Int.tmod x1 sides1) + 1))))).bind φ1 = some r := hm
                exact ⟨(w64 (sum2 + (w64 ((Int.tmod x1 sides1) + 1)))), hF.weak [0, 1, 5, 6, 7, 9] (by kernel_rfl), hS, hm⟩
              · replace hm := if_f hm hb
                refine wp_skip ?_
                refine block_n ?_
                refine then_n ?_
                exact ⟨(w64 (Int.tdiv x1 sides1)), (w64 (sum2 + (w64 ((Int.tmod x1 sides1) + 1)))), hF.weak [0, 1, 5, 6, 7, 8, 9, 10] (by kernel_rfl), hS, hm⟩
          · refine reg [] [] [0, 1, 5, 6, 7, 8, 9, 10, 29] [pl 0 (.int .i64 sides1), pl 1 (.int .i64 deep1), pl 5 (.slice A3 out2.length c3), pl 6 (.int .i64 r1), pl 7 (.int .i64 w1), pl 8 (.int .i64 x1), pl 9 (.int .i64 sum2), pl 10 (.int .i64 i1), pl 29 (.bool (decide (i1 ≤ deep1)))] hF hS Fol (by kernel_rfl) (by kernel_rfl) (by kernel_rfl) ?_ (fun a w hF hS => ?_)
            · exact obs_nil
            refine cond_ev (t := 29) (b := decide (i1 ≤ deep1)) hF (by kernel_rfl) (fun hb => ?_) (fun hb => ?_)
            · replace hm := if_t hm hb
              refine wp_skip ?_
              refine then_n ?_
              exact ⟨hF.weak [0, 1, 5, 6, 7, 8, 9, 10] (by kernel_rfl), hS, hm⟩
            · replace hm := if_f hm hb
              refine wp_exit ?_
              refine then_e (then_e (block_e (then_n ?_)))
              rw [← hφ2] at hm
              have hm : ((gameroomref_ExplodeWays_J4 out2 w1) sum2).bind φ1 = some r := hm
              exact ⟨sum2, hF.weak [0, 1, 5, 6, 7, 9] (by kernel_rfl), hS, hm⟩
    · refine reg [] [] [0, 1, 5, 6, 7, 23] [pl 0 (.int .i64 sides1), pl 1 (.int .i64 deep1), pl 5 (.slice A3 out2.length c3), pl 6 (.int .i64 r1), pl 7 (.int .i64 w1), pl 23 (.bool (decide (w1 < r1)))] hF hS Fol (by kernel_rfl) (by kernel_rfl) (by kernel_rfl) ?_ (fun a w hF hS => ?_)
      · exact obs_nil
      refine cond_ev (t := 23) (b := decide (w1 < r1)) hF (by kernel_rfl) (fun hb => ?_) (fun hb => ?_)
      · replace hm := if_t hm hb
        refine wp_skip ?_
        refine then_n ?_
        exact ⟨hF.weak [0, 1, 5, 6, 7] (by kernel_rfl), hS, hm⟩
      · replace hm := if_f hm hb
        refine wp_exit ?_
        refine then_e (then_e (block_e (then_n ?_)))
        rw [← hφ1] at hm
        have hm : (gameroomref_ExplodeWays_J1 out2).bind some = some r := hm
        exact ⟨out2, A3, c3, hF.weak [5] (by kernel_rfl), hS, hm⟩

noncomputable def gameroomlaw_sameInts_J2 : Option Bool :=
  some true

noncomputable def gameroomlaw_sameInts_K1 : (Fl Unit Bool) → Option Bool :=
  fun (x : (Fl Unit Bool)) => match x with | .go () => gameroomlaw_sameInts_J2 | .ret x => some x

noncomputable def gameroomlaw_sameInts_J4 (i1 : Int) : Option (St Int (Fl Unit Bool)) :=
  some (.next (w64 (i1 + 1)))

noncomputable def gameroomlaw_sameInts_J3 (a1 : List Int) (b1 : List Int) (i1 : Int) : Option (St Int (Fl Unit Bool)) :=
  asrt (0 ≤ i1 ∧ i1 < (a1.length : Int)) <| asrt (0 ≤ i1 ∧ i1 < (b1.length : Int)) <| if ((geti a1 i1) != (geti b1 i1)) then (some (.done (.ret false))) else ((gameroomlaw_sameInts_J4 i1))

noncomputable def gameroomlaw_sameInts_L1 (a1 : List Int) (b1 : List Int) : Int → Option (St Int (Fl Unit Bool)) :=
  fun (x : Int) => match x with | i1 => if (decide (i1 < (a1.length : Int))) then ((gameroomlaw_sameInts_J3 a1 b1 i1)) else (some (.done (.go ())))

noncomputable def gameroomlaw_sameInts_J1 (a1 : List Int) (b1 : List Int) : Option Bool :=
  (loop (gameroomlaw_sameInts_L1 a1 b1) 0).bind gameroomlaw_sameInts_K1

noncomputable def gameroomlaw_sameInts_m (a1 : List Int) (b1 : List Int) : Option Bool :=
  if ((a1.length : Int) != (b1.length : Int)) then (some false) else ((gameroomlaw_sameInts_J1 a1 b1))

noncomputable def gameroomlaw_sameInts_J2N (N : Nat) : Option Bool :=
  some true

theorem gameroomlaw_sameInts_J2_le (N : Nat) : Le (gameroomlaw_sameInts_J2N N) (gameroomlaw_sameInts_J2 ) := by
  unfold gameroomlaw_sameInts_J2N gameroomlaw_sameInts_J2
  repeat' (first | with_reducible exact Le.refl _ | refine Le.asrt ?_ | refine Le.ite ?_ ?_ | refine Le.bind ?_ (fun _ => ?_) | refine Le.loop (fun _ => ?_))

noncomputable def gameroomlaw_sameInts_K1N (N : Nat) : (Fl Unit Bool) → Option Bool :=
  fun (x : (Fl Unit Bool)) => match x with | .go () => (gameroomlaw_sameInts_J2N N) | .ret x => some x

theorem gameroomlaw_sameInts_K1_le (N : Nat) (x : (Fl Unit Bool)) : Le (gameroomlaw_sameInts_K1N N x) (gameroomlaw_sameInts_K1  x) := by
  rcases x with _ | x
  all_goals
    unfold gameroomlaw_sameInts_K1N gameroomlaw_sameInts_K1
    dsimp only
    repeat' (first | with_reducible exact Le.refl _ | (with_reducible exact gameroomlaw_sameInts_J2_le _) | refine Le.asrt ?_ | refine Le.ite ?_ ?_ | refine Le.bind ?_ (fun _ => ?_) | refine Le.loop (fun _ => ?_))

noncomputable def gameroomlaw_sameInts_J4N (N : Nat) (i1 : Int) : Option (St Int (Fl Unit Bool)) :=
  some (.next (w64 (i1 + 1)))

theorem gameroomlaw_sameInts_J4_le (N : Nat) (i1 : Int) : Le (gameroomlaw_sameInts_J4N N i1) (gameroomlaw_sameInts_J4 i1) := by
  unfold gameroomlaw_sameInts_J4N gameroomlaw_sameInts_J4
  repeat' (first | with_reducible exact Le.refl _ | refine Le.asrt ?_ | refine Le.ite ?_ ?_ | refine Le.bind ?_ (fun _ => ?_) | refine Le.loop (fun _ => ?_))

noncomputable def gameroomlaw_sameInts_J3N (N : Nat) (a1 : List Int) (b1 : List Int) (i1 : Int) : Option (St Int (Fl Unit Bool)) :=
  asrt (0 ≤ i1 ∧ i1 < (a1.length : Int)) <| asrt (0 ≤ i1 ∧ i1 < (b1.length : Int)) <| if ((geti a1 i1) != (geti b1 i1)) then (some (.done (.ret false))) else ((gameroomlaw_sameInts_J4N N i1))

theorem gameroomlaw_sameInts_J3_le (N : Nat) (a1 : List Int) (b1 : List Int) (i1 : Int) : Le (gameroomlaw_sameInts_J3N N a1 b1 i1) (gameroomlaw_sameInts_J3 a1 b1 i1) := by
  unfold gameroomlaw_sameInts_J3N gameroomlaw_sameInts_J3
  repeat' (first | with_reducible exact Le.refl _ | (with_reducible exact gameroomlaw_sameInts_J4_le _ _) | refine Le.asrt ?_ | refine Le.ite ?_ ?_ | refine Le.bind ?_ (fun _ => ?_) | refine Le.loop (fun _ => ?_))

noncomputable def gameroomlaw_sameInts_L1N (N : Nat) (a1 : List Int) (b1 : List Int) : Int → Option (St Int (Fl Unit Bool)) :=
  fun (x : Int) => match x with | i1 => if (decide (i1 < (a1.length : Int))) then ((gameroomlaw_sameInts_J3N N a1 b1 i1)) else (some (.done (.go ())))

theorem gameroomlaw_sameInts_L1_le (N : Nat) (a1 : List Int) (b1 : List Int) (x : Int) : Le (gameroomlaw_sameInts_L1N N a1 b1 x) (gameroomlaw_sameInts_L1 a1 b1 x) := by
  rcases x with i1
  all_goals
    unfold gameroomlaw_sameInts_L1N gameroomlaw_sameInts_L1
    dsimp only
    repeat' (first | with_reducible exact Le.refl _ | (with_reducible exact gameroomlaw_sameInts_J3_le _ _ _ _) | refine Le.asrt ?_ | refine Le.ite ?_ ?_ | refine Le.bind ?_ (fun _ => ?_) | refine Le.loop (fun _ => ?_))

noncomputable def gameroomlaw_sameInts_J1N (N : Nat) (a1 : List Int) (b1 : List Int) : Option Bool :=
  (loopN (gameroomlaw_sameInts_L1N N a1 b1) N 0).bind (gameroomlaw_sameInts_K1N N)

theorem gameroomlaw_sameInts_J1_le (N : Nat) (a1 : List Int) (b1 : List Int) : Le (gameroomlaw_sameInts_J1N N a1 b1) (gameroomlaw_sameInts_J1 a1 b1) := by
  unfold gameroomlaw_sameInts_J1N gameroomlaw_sameInts_J1
  repeat' (first | with_reducible exact Le.refl _ | (with_reducible exact gameroomlaw_sameInts_L1_le _ _ _ _) | (with_reducible exact gameroomlaw_sameInts_K1_le _ _) | refine Le.asrt ?_ | refine Le.ite ?_ ?_ | refine Le.bind ?_ (fun _ => ?_) | refine Le.loop (fun _ => ?_))

noncomputable def gameroomlaw_sameInts_mN (N : Nat) (a1 : List Int) (b1 : List Int) : Option Bool :=
  if ((a1.length : Int) != (b1.length : Int)) then (some false) else ((gameroomlaw_sameInts_J1N N a1 b1))

theorem gameroomlaw_sameInts_m_le (N : Nat) (a1 : List Int) (b1 : List Int) : Le (gameroomlaw_sameInts_mN N a1 b1) (gameroomlaw_sameInts_m a1 b1) := by
  unfold gameroomlaw_sameInts_mN gameroomlaw_sameInts_m
  repeat' (first | with_reducible exact Le.refl _ | (with_reducible exact gameroomlaw_sameInts_J1_le _ _ _) | refine Le.asrt ?_ | refine Le.ite ?_ ?_ | refine Le.bind ?_ (fun _ => ?_) | refine Le.loop (fun _ => ?_))

set_option maxRecDepth 100000 in
set_option maxHeartbeats 4000000 in
theorem gameroomlaw_sameInts_w {A1 : Option Addr} {c1 : Nat} {a1 : List Int} {A2 : Option Addr} {c2 : Nat} {b1 : List Int} {r : Bool} {w0 : World} (hm : gameroomlaw_sameInts_m a1 b1 = some r) (hr_a1 : Rd w0 w0.heap.size A1 (vI a1)) (_hc_a1 : a1.length ≤ c1) (hr_b1 : Rd w0 w0.heap.size A2 (vI b1)) (_hc_b1 : b1.length ≤ c2) :
    Calls Try.prog 17 #[.slice A1 a1.length c1, .slice A2 b1.length c2] w0 fun e w' => e = .returned (.bool r) ∧ Sep w0 w0.heap.size w' [] := by
  obtain ⟨i3, hi3, hz3, hs3, hb3⟩ := info_parts Info3
  unfold gameroomlaw_sameInts_m at hm
  replace hm := start_b hm
  refine enterS (l := [.slice A1 a1.length c1, .slice A2 b1.length c2]) (n := 26) Try.func17 rfl rfl (by simp) (fun a w hF hS => ?_)
  refine reg [] [] [0, 1] [pl 0 (.slice A1 a1.length c1), pl 1 (.slice A2 b1.length c2)] hF hS Fol (by kernel_rfl) (by kernel_rfl) (by kernel_rfl) ?_ (fun a w hF hS => ?_)
  · exact obs_nil
  refine seq_cut (fun a w => Fr 26 [pl 0 (.slice A1 a1.length c1), pl 1 (.slice A2 b1.length c2)] a ∧ Sep w0 w0.heap.size w [] ∧ ((gameroomlaw_sameInts_J1 a1 b1)).bind some = some r) ?_ ?_
  · rintro a w ⟨hF, hS, hm⟩
    unfold gameroomlaw_sameInts_J1 at hm
    refine seq_cut (fun a w => Fr 26 [] a ∧ Sep w0 w0.heap.size w [] ∧ (gameroomlaw_sameInts_J2).bind some = some r) ?_ ?_
    · rintro a w ⟨hF, hS, hm⟩
      unfold gameroomlaw_sameInts_J2 at hm
      refine reg [] [] [4] [pl 4 (.bool true)] hF hS Fol (by kernel_rfl) (by kernel_rfl) (by kernel_rfl) ?_ (fun a w hF hS => ?_)
      · exact obs_nil
      refine wp_ret ?_
      have hm : some true = some r := hm
      obtain rfl := Option.some.inj hm
      exact ret1 (t := 4) (v := .bool true) hF rfl (by kernel_rfl) ⟨rfl, hS⟩
    · refine reg [] [] [0, 1, 5] [pl 0 (.slice A1 a1.length c1), pl 1 (.slice A2 b1.length c2), pl 5 (.int .i64 0)] hF hS Fol (by kernel_rfl) (by kernel_rfl) (by kernel_rfl) ?_ (fun a w hF hS => ?_)
      · exact obs_nil
      refine wp_block ?_
      refine wp_loop_model (S := Int) (R := (Fl Unit Bool)) (gameroomlaw_sameInts_L1 a1 b1) (fun x => (gameroomlaw_sameInts_K1 x).bind some) r (fun (x : Int) a w => Fr 26 [pl 0 (.slice A1 a1.length c1), pl 1 (.slice A2 b1.length c2), pl 5 (.int .i64 x)] a ∧ Sep w0 w0.heap.size w []) (assoc_b hm) ⟨hF.weak [0, 1, 5] (by kernel_rfl), hS⟩ ?_
      clear hF hS hm
      rintro nn1 i1 a w ⟨hF, hS⟩ hm
      generalize hφ1 : stK (gameroomlaw_sameInts_L1 a1 b1) nn1 (fun x => (gameroomlaw_sameInts_K1 x).bind some) = φ1 at hm
      unfold gameroomlaw_sameInts_L1 at hm
      dsimp only at hm
      refine seq_cut (fun a w => Fr 26 [pl 0 (.slice A1 a1.length c1), pl 1 (.slice A2 b1.length c2), pl 5 (.int .i64 i1)] a ∧ Sep w0 w0.heap.size w [] ∧ ((gameroomlaw_sameInts_J3 a1 b1 i1)).bind φ1 = some r) ?_ ?_
      · rintro a w ⟨hF, hS, hm⟩
        unfold gameroomlaw_sameInts_J3 at hm
        refine seq_cut (fun a w => Fr 26 [pl 0 (.slice A1 a1.length c1), pl 1 (.slice A2 b1.length c2), pl 5 (.int .i64 i1)] a ∧ Sep w0 w0.heap.size w [] ∧ ((gameroomlaw_sameInts_J4 i1)).bind φ1 = some r) ?_ ?_
        · rintro a w ⟨hF, hS, hm⟩
          unfold gameroomlaw_sameInts_J4 at hm
          refine reg1 [] [] [0, 1, 5] [pl 0 (.slice A1 a1.length c1), pl 1 (.slice A2 b1.length c2), pl 5 (.int .i64 (w64 (i1 + 1)))] hF hS Fol (by kernel_rfl) (by kernel_rfl) (by kernel_rfl) ?_ (fun a w hF hS => ?_)
          · exact obs_nil
          refine then_n ?_
          rw [← hφ1] at hm
          exact ⟨(w64 (i1 + 1)), ⟨hF.weak [0, 1, 5] (by kernel_rfl), hS⟩, hm⟩
        · refine wp_block ?_
          obtain ⟨hp1, hm⟩ := asrt_b hm
          obtain ⟨hp2, hm⟩ := asrt_b hm
          refine reg [⟨true, [], vS (Instr.indexAt 22 (.slice A1 a1.length c1) (.int .i64 i1)), .pointer (some (sAddr A1 i1))⟩, ⟨false, [], vS (Instr.loadAt 3 (.pointer (some (sAddr A1 i1)))), .int .i64 (geti a1 i1)⟩, ⟨true, [], vS (Instr.indexAt 22 (.slice A2 b1.length c2) (.int .i64 i1)), .pointer (some (sAddr A2 i1))⟩, ⟨false, [], vS (Instr.loadAt 3 (.pointer (some (sAddr A2 i1)))), .int .i64 (geti b1 i1)⟩] [none, none, some (.pointer (some (sAddr A1 i1))), some (.int .i64 (geti a1 i1)), none, none, some (.pointer (some (sAddr A2 i1))), some (.int .i64 (geti b1 i1)), none] [0, 1, 5, 25] [pl 0 (.slice A1 a1.length c1), pl 1 (.slice A2 b1.length c2), pl 5 (.int .i64 i1), pl 25 (.bool ((geti a1 i1) != (geti b1 i1)))] hF hS Fol (by kernel_rfl) (by kernel_rfl) (by kernel_rfl) ?_ (fun a w hF hS => ?_)
          · exact obs_cons (ob_ixI Und22 hi3 hs3 (hr_a1.sep hS) (fun _ => hp1)) <| obs_cons (ob_geti Agg3 (fun _ hS => ⟨_, (hr_a1.sep hS)⟩) (fun _ => hp1)) <| obs_cons (ob_ixI Und22 hi3 hs3 (hr_b1.sep hS) (fun _ => hp2)) <| obs_cons (ob_geti Agg3 (fun _ hS => ⟨_, (hr_b1.sep hS)⟩) (fun _ => hp2)) <| obs_nil
          refine cond_ev (t := 25) (b := ((geti a1 i1) != (geti b1 i1))) hF (by kernel_rfl) (fun hb => ?_) (fun hb => ?_)
          · replace hm := if_t hm hb
            refine reg [] [] [4] [pl 4 (.bool false)] hF hS Fol (by kernel_rfl) (by kernel_rfl) (by kernel_rfl) ?_ (fun a w hF hS => ?_)
            · exact obs_nil
            refine wp_ret ?_
            refine block_r (then_r (then_r (block_r (then_r ?_))))
            rw [← hφ1] at hm
            have hm : some false = some r := hm
            obtain rfl := Option.some.inj hm
            exact ret1 (t := 4) (v := .bool false) hF rfl (by kernel_rfl) ⟨rfl, hS⟩
          · replace hm := if_f hm hb
            refine wp_skip ?_
            refine block_n ?_
            refine then_n ?_
            exact ⟨hF.weak [0, 1, 5] (by kernel_rfl), hS, hm⟩
      · refine reg [] [] [0, 1, 5, 14] [pl 0 (.slice A1 a1.length c1), pl 1 (.slice A2 b1.length c2), pl 5 (.int .i64 i1), pl 14 (.bool (decide (i1 < (a1.length : Int))))] hF hS Fol (by kernel_rfl) (by kernel_rfl) (by kernel_rfl) ?_ (fun a w hF hS => ?_)
        · exact obs_nil
        refine cond_ev (t := 14) (b := decide (i1 < (a1.length : Int))) hF (by kernel_rfl) (fun hb => ?_) (fun hb => ?_)
        · replace hm := if_t hm hb
          refine wp_skip ?_
          refine then_n ?_
          exact ⟨hF.weak [0, 1, 5] (by kernel_rfl), hS, hm⟩
        · replace hm := if_f hm hb
          refine wp_exit ?_
          refine then_e (then_e (block_e (then_n ?_)))
          rw [← hφ1] at hm
          have hm : (gameroomlaw_sameInts_J2).bind some = some r := hm
          exact ⟨hF.weak [] (by kernel_rfl), hS, hm⟩
  · refine reg [] [] [0, 1, 10] [pl 0 (.slice A1 a1.length c1), pl 1 (.slice A2 b1.length c2), pl 10 (.bool ((a1.length : Int) != (b1.length : Int)))] hF hS Fol (by kernel_rfl) (by kernel_rfl) (by kernel_rfl) ?_ (fun a w hF hS => ?_)
    · exact obs_nil
    refine cond_ev (t := 10) (b := ((a1.length : Int) != (b1.length : Int))) hF (by kernel_rfl) (fun hb => ?_) (fun hb => ?_)
    · replace hm := if_t hm hb
      refine reg [] [] [4] [pl 4 (.bool false)] hF hS Fol (by kernel_rfl) (by kernel_rfl) (by kernel_rfl) ?_ (fun a w hF hS => ?_)
      · exact obs_nil
      refine wp_ret ?_
      refine then_r ?_
      have hm : some false = some r := hm
      obtain rfl := Option.some.inj hm
      exact ret1 (t := 4) (v := .bool false) hF rfl (by kernel_rfl) ⟨rfl, hS⟩
    · replace hm := if_f hm hb
      refine wp_skip ?_
      refine then_n ?_
      exact ⟨hF.weak [0, 1] (by kernel_rfl), hS, hm⟩

noncomputable def gameroomlaw_DiceExplodes_J6 (z1 : Bool) : Option Bool :=
  some z1

noncomputable def gameroomlaw_DiceExplodes_J5 (sides1 : Int) (deep1 : Int) (r1 : (List Int × Int)) : Option Bool :=
  ((if (r1.2 == 0) then gameroomref_ExplodeWays_m sides1 deep1 else some [])).bind fun r2 => ((if (r1.2 == 0) then gameroomlaw_sameInts_m r1.1 r2 else some false)).bind fun r3 => gameroomlaw_DiceExplodes_J6 ((r1.2 == 0) && r3)

noncomputable def gameroomlaw_DiceExplodes_J1 (sides1 : Int) (deep1 : Int) (r1 : (List Int × Int)) (no1 : Int) : Option Bool :=
  if (no1 != 0) then (some ((r1.2 == no1) && ((r1.1.length : Int) == 0))) else ((gameroomlaw_DiceExplodes_J5 sides1 deep1 r1))

noncomputable def gameroomlaw_DiceExplodes_J2 (sides1 : Int) (deep1 : Int) (r1 : (List Int × Int)) (all1 : Int) : Option Bool :=
  if (decide ((100000 : Int) < all1)) then ((gameroomlaw_DiceExplodes_J1 sides1 deep1 r1) 11) else ((gameroomlaw_DiceExplodes_J1 sides1 deep1 r1) 0)

noncomputable def gameroomlaw_DiceExplodes_K1 (sides1 : Int) (deep1 : Int) (r1 : (List Int × Int)) : Int → Option Bool :=
  fun (x : Int) => match x with | all1 => (gameroomlaw_DiceExplodes_J2 sides1 deep1 r1) all1

noncomputable def gameroomlaw_DiceExplodes_J4 (i1 : Int) (all3 : Int) : Option (St (Int × Int) Int) :=
  some (.next (all3, (w64 (i1 + 1))))

noncomputable def gameroomlaw_DiceExplodes_J3 (sides1 : Int) (all2 : Int) (i1 : Int) : Option (St (Int × Int) Int) :=
  (gameroomlaw_DiceExplodes_J4 i1) (w64 (all2 * sides1))

noncomputable def gameroomlaw_DiceExplodes_L1 (sides1 : Int) (deep1 : Int) : (Int × Int) → Option (St (Int × Int) Int) :=
  fun (x : (Int × Int)) => match x with | (all2, i1) => if (decide (i1 ≤ deep1)) then ((gameroomlaw_DiceExplodes_J3 sides1 all2 i1)) else (some (.done all2))

noncomputable def gameroomlaw_DiceExplodes_m (sides1 : Int) (deep1 : Int) : Option Bool :=
  (dice_Exploding_m sides1 deep1).bind fun r1 => if ((decide (sides1 < 1)) || (decide ((20 : Int) < sides1))) then ((gameroomlaw_DiceExplodes_J1 sides1 deep1 r1) 3) else (if ((decide (deep1 < 0)) || (decide ((4 : Int) < deep1))) then ((gameroomlaw_DiceExplodes_J1 sides1 deep1 r1) 11) else ((loop (gameroomlaw_DiceExplodes_L1 sides1 deep1) (1, 0)).bind (gameroomlaw_DiceExplodes_K1 sides1 deep1 r1)))

noncomputable def gameroomlaw_DiceExplodes_J6N (N : Nat) (z1 : Bool) : Option Bool :=
  some z1

theorem gameroomlaw_DiceExplodes_J6_le (N : Nat) (z1 : Bool) : Le (gameroomlaw_DiceExplodes_J6N N z1) (gameroomlaw_DiceExplodes_J6 z1) := by
  unfold gameroomlaw_DiceExplodes_J6N gameroomlaw_DiceExplodes_J6
  repeat' (first | with_reducible exact Le.refl _ | refine Le.asrt ?_ | refine Le.ite ?_ ?_ | refine Le.bind ?_ (fun _ => ?_) | refine Le.loop (fun _ => ?_))

noncomputable def gameroomlaw_DiceExplodes_J5N (N : Nat) (sides1 : Int) (deep1 : Int) (r1 : (List Int × Int)) : Option Bool :=
  ((if (r1.2 == 0) then gameroomref_ExplodeWays_mN N sides1 deep1 else some [])).bind fun r2 => ((if (r1.2 == 0) then gameroomlaw_sameInts_mN N r1.1 r2 else some false)).bind fun r3 => (gameroomlaw_DiceExplodes_J6N N) ((r1.2 == 0) && r3)

theorem gameroomlaw_DiceExplodes_J5_le (N : Nat) (sides1 : Int) (deep1 : Int) (r1 : (List Int × Int)) : Le (gameroomlaw_DiceExplodes_J5N N sides1 deep1 r1) (gameroomlaw_DiceExplodes_J5 sides1 deep1 r1) := by
  unfold gameroomlaw_DiceExplodes_J5N gameroomlaw_DiceExplodes_J5
  repeat' (first | with_reducible exact Le.refl _ | (with_reducible exact gameroomlaw_DiceExplodes_J6_le _ _) | (with_reducible exact gameroomlaw_sameInts_m_le _ _ _) | (with_reducible exact gameroomref_ExplodeWays_m_le _ _ _) | refine Le.asrt ?_ | refine Le.ite ?_ ?_ | refine Le.bind ?_ (fun _ => ?_) | refine Le.loop (fun _ => ?_))

noncomputable def gameroomlaw_DiceExplodes_J1N (N : Nat) (sides1 : Int) (deep1 : Int) (r1 : (List Int × Int)) (no1 : Int) : Option Bool :=
  if (no1 != 0) then (some ((r1.2 == no1) && ((r1.1.length : Int) == 0))) else ((gameroomlaw_DiceExplodes_J5N N sides1 deep1 r1))

theorem gameroomlaw_DiceExplodes_J1_le (N : Nat) (sides1 : Int) (deep1 : Int) (r1 : (List Int × Int)) (no1 : Int) : Le (gameroomlaw_DiceExplodes_J1N N sides1 deep1 r1 no1) (gameroomlaw_DiceExplodes_J1 sides1 deep1 r1 no1) := by
  unfold gameroomlaw_DiceExplodes_J1N gameroomlaw_DiceExplodes_J1
  repeat' (first | with_reducible exact Le.refl _ | (with_reducible exact gameroomlaw_DiceExplodes_J5_le _ _ _ _) | refine Le.asrt ?_ | refine Le.ite ?_ ?_ | refine Le.bind ?_ (fun _ => ?_) | refine Le.loop (fun _ => ?_))

noncomputable def gameroomlaw_DiceExplodes_J2N (N : Nat) (sides1 : Int) (deep1 : Int) (r1 : (List Int × Int)) (all1 : Int) : Option Bool :=
  if (decide ((100000 : Int) < all1)) then ((gameroomlaw_DiceExplodes_J1N N sides1 deep1 r1) 11) else ((gameroomlaw_DiceExplodes_J1N N sides1 deep1 r1) 0)

theorem gameroomlaw_DiceExplodes_J2_le (N : Nat) (sides1 : Int) (deep1 : Int) (r1 : (List Int × Int)) (all1 : Int) : Le (gameroomlaw_DiceExplodes_J2N N sides1 deep1 r1 all1) (gameroomlaw_DiceExplodes_J2 sides1 deep1 r1 all1) := by
  unfold gameroomlaw_DiceExplodes_J2N gameroomlaw_DiceExplodes_J2
  repeat' (first | with_reducible exact Le.refl _ | (with_reducible exact gameroomlaw_DiceExplodes_J1_le _ _ _ _ _) | refine Le.asrt ?_ | refine Le.ite ?_ ?_ | refine Le.bind ?_ (fun _ => ?_) | refine Le.loop (fun _ => ?_))

noncomputable def gameroomlaw_DiceExplodes_K1N (N : Nat) (sides1 : Int) (deep1 : Int) (r1 : (List Int × Int)) : Int → Option Bool :=
  fun (x : Int) => match x with | all1 => (gameroomlaw_DiceExplodes_J2N N sides1 deep1 r1) all1

theorem gameroomlaw_DiceExplodes_K1_le (N : Nat) (sides1 : Int) (deep1 : Int) (r1 : (List Int × Int)) (x : Int) : Le (gameroomlaw_DiceExplodes_K1N N sides1 deep1 r1 x) (gameroomlaw_DiceExplodes_K1 sides1 deep1 r1 x) := by
  rcases x with all1
  all_goals
    unfold gameroomlaw_DiceExplodes_K1N gameroomlaw_DiceExplodes_K1
    dsimp only
    repeat' (first | with_reducible exact Le.refl _ | (with_reducible exact gameroomlaw_DiceExplodes_J2_le _ _ _ _ _) | refine Le.asrt ?_ | refine Le.ite ?_ ?_ | refine Le.bind ?_ (fun _ => ?_) | refine Le.loop (fun _ => ?_))

noncomputable def gameroomlaw_DiceExplodes_J4N (N : Nat) (i1 : Int) (all3 : Int) : Option (St (Int × Int) Int) :=
  some (.next (all3, (w64 (i1 + 1))))

theorem gameroomlaw_DiceExplodes_J4_le (N : Nat) (i1 : Int) (all3 : Int) : Le (gameroomlaw_DiceExplodes_J4N N i1 all3) (gameroomlaw_DiceExplodes_J4 i1 all3) := by
  unfold gameroomlaw_DiceExplodes_J4N gameroomlaw_DiceExplodes_J4
  repeat' (first | with_reducible exact Le.refl _ | refine Le.asrt ?_ | refine Le.ite ?_ ?_ | refine Le.bind ?_ (fun _ => ?_) | refine Le.loop (fun _ => ?_))

noncomputable def gameroomlaw_DiceExplodes_J3N (N : Nat) (sides1 : Int) (all2 : Int) (i1 : Int) : Option (St (Int × Int) Int) :=
  (gameroomlaw_DiceExplodes_J4N N i1) (w64 (all2 * sides1))

theorem gameroomlaw_DiceExplodes_J3_le (N : Nat) (sides1 : Int) (all2 : Int) (i1 : Int) : Le (gameroomlaw_DiceExplodes_J3N N sides1 all2 i1) (gameroomlaw_DiceExplodes_J3 sides1 all2 i1) := by
  unfold gameroomlaw_DiceExplodes_J3N gameroomlaw_DiceExplodes_J3
  repeat' (first | with_reducible exact Le.refl _ | (with_reducible exact gameroomlaw_DiceExplodes_J4_le _ _ _) | refine Le.asrt ?_ | refine Le.ite ?_ ?_ | refine Le.bind ?_ (fun _ => ?_) | refine Le.loop (fun _ => ?_))

noncomputable def gameroomlaw_DiceExplodes_L1N (N : Nat) (sides1 : Int) (deep1 : Int) : (Int × Int) → Option (St (Int × Int) Int) :=
  fun (x : (Int × Int)) => match x with | (all2, i1) => if (decide (i1 ≤ deep1)) then ((gameroomlaw_DiceExplodes_J3N N sides1 all2 i1)) else (some (.done all2))

theorem gameroomlaw_DiceExplodes_L1_le (N : Nat) (sides1 : Int) (deep1 : Int) (x : (Int × Int)) : Le (gameroomlaw_DiceExplodes_L1N N sides1 deep1 x) (gameroomlaw_DiceExplodes_L1 sides1 deep1 x) := by
  rcases x with ⟨all2, i1⟩
  all_goals
    unfold gameroomlaw_DiceExplodes_L1N gameroomlaw_DiceExplodes_L1
    dsimp only
    repeat' (first | with_reducible exact Le.refl _ | (with_reducible exact gameroomlaw_DiceExplodes_J3_le _ _ _ _) | refine Le.asrt ?_ | refine Le.ite ?_ ?_ | refine Le.bind ?_ (fun _ => ?_) | refine Le.loop (fun _ => ?_))

noncomputable def gameroomlaw_DiceExplodes_mN (N : Nat) (sides1 : Int) (deep1 : Int) : Option Bool :=
  (dice_Exploding_mN N sides1 deep1).bind fun r1 => if ((decide (sides1 < 1)) || (decide ((20 : Int) < sides1))) then ((gameroomlaw_DiceExplodes_J1N N sides1 deep1 r1) 3) else (if ((decide (deep1 < 0)) || (decide ((4 : Int) < deep1))) then ((gameroomlaw_DiceExplodes_J1N N sides1 deep1 r1) 11) else ((loopN (gameroomlaw_DiceExplodes_L1N N sides1 deep1) N (1, 0)).bind (gameroomlaw_DiceExplodes_K1N N sides1 deep1 r1)))

theorem gameroomlaw_DiceExplodes_m_le (N : Nat) (sides1 : Int) (deep1 : Int) : Le (gameroomlaw_DiceExplodes_mN N sides1 deep1) (gameroomlaw_DiceExplodes_m sides1 deep1) := by
  unfold gameroomlaw_DiceExplodes_mN gameroomlaw_DiceExplodes_m
  repeat' (first | with_reducible exact Le.refl _ | (with_reducible exact gameroomlaw_DiceExplodes_J1_le _ _ _ _ _) | (with_reducible exact gameroomlaw_DiceExplodes_L1_le _ _ _ _) | (with_reducible exact gameroomlaw_DiceExplodes_K1_le _ _ _ _ _) | (with_reducible exact dice_Exploding_m_le _ _ _) | refine Le.asrt ?_ | refine Le.ite ?_ ?_ | refine Le.bind ?_ (fun _ => ?_) | refine Le.loop (fun _ => ?_))

set_option maxRecDepth 100000 in
set_option maxHeartbeats 4000000 in
theorem gameroomlaw_DiceExplodes_w {sides1 : Int} {deep1 : Int} {r : Bool} {w0 : World} (hm : gameroomlaw_DiceExplodes_m sides1 deep1 = some r) :
    Calls Try.prog 5 #[.int .i64 sides1, .int .i64 deep1] w0 fun e w' => e = .returned (.bool r) ∧ Sep w0 w0.heap.size w' [] := by
  unfold gameroomlaw_DiceExplodes_m at hm
  replace hm := start_b hm
  refine enterS (l := [.int .i64 sides1, .int .i64 deep1]) (n := 57) Try.func5 rfl rfl (by simp) (fun a w hF hS => ?_)
  refine reg [] [] [0, 1] [pl 0 (.int .i64 sides1), pl 1 (.int .i64 deep1)] hF hS Fol (by kernel_rfl) (by kernel_rfl) (by kernel_rfl) ?_ (fun a w hF hS => ?_)
  · exact obs_nil
  obtain ⟨r1, hr1, hm⟩ := call_b hm
  refine seqR ?_
  refine at_run 2 [] [] [0, 1, 11, 12] [pl 0 (.int .i64 sides1), pl 1 (.int .i64 deep1), pl 11 (.int .i64 sides1), pl 12 (.int .i64 deep1)] hF hS (by kernel_rfl) (by kernel_rfl) ?_ (fun a w hF hS => ?_)
  · exact obs_nil
  refine at_call (f := 20) (args := #[.int .i64 sides1, .int .i64 deep1]) (d := 13) hF (by kernel_rfl) (by kernel_rfl) Try.func20 (by kernel_rfl) rfl (dice_Exploding_w hr1 ) (fun v a w hR hF => ?_)
  obtain ⟨A1, c1, rfl, hS'⟩ := hR
  have hS : Sep w0 w0.heap.size w [own 3 (.slice A1 r1.1.length c1) (vI r1.1)] := hS.merge hS'
  refine at_run 5 [] [] [0, 1, 5, 6] [pl 0 (.int .i64 sides1), pl 1 (.int .i64 deep1), pl 5 (.slice A1 r1.1.length c1), pl 6 (.int .i64 r1.2)] hF hS (by kernel_rfl) (by kernel_rfl) ?_ (fun a w hF hS => ?_)
  · exact obs_nil
  refine at_end [0, 1, 5, 6] [pl 0 (.int .i64 sides1), pl 1 (.int .i64 deep1), pl 5 (.slice A1 r1.1.length c1), pl 6 (.int .i64 r1.2)] hF rfl (by kernel_rfl) (fun hF => ?_)
  refine then_n ?_
  refine reg [] [] [0, 1, 5, 6, 7] [pl 0 (.int .i64 sides1), pl 1 (.int .i64 deep1), pl 5 (.slice A1 r1.1.length c1), pl 6 (.int .i64 r1.2), pl 7 (.int .i64 0)] hF hS Fol (by kernel_rfl) (by kernel_rfl) (by kernel_rfl) ?_ (fun a w hF hS => ?_)
  · exact obs_nil
  refine seq_cut (fun a w => ∃ (no1 : Int), Fr 57 [pl 0 (.int .i64 sides1), pl 1 (.int .i64 deep1), pl 5 (.slice A1 r1.1.length c1), pl 6 (.int .i64 r1.2), pl 7 (.int .i64 no1)] a ∧ Sep w0 w0.heap.size w [own 3 (.slice A1 r1.1.length c1) (vI r1.1)] ∧ ((gameroomlaw_DiceExplodes_J1 sides1 deep1 r1) no1).bind some = some r) ?_ ?_
  · rintro a w ⟨no1, hF, hS, hm⟩
    unfold gameroomlaw_DiceExplodes_J1 at hm
    refine seq_cut (fun a w => Fr 57 [pl 0 (.int .i64 sides1), pl 1 (.int .i64 deep1), pl 5 (.slice A1 r1.1.length c1), pl 6 (.int .i64 r1.2)] a ∧ Sep w0 w0.heap.size w [own 3 (.slice A1 r1.1.length c1) (vI r1.1)] ∧ ((gameroomlaw_DiceExplodes_J5 sides1 deep1 r1)).bind some = some r) ?_ ?_
    · rintro a w ⟨hF, hS, hm⟩
      unfold gameroomlaw_DiceExplodes_J5 at hm
      refine seq_cut (fun a w => ∃ (z1 : Bool), Fr 57 [pl 4 (.bool z1)] a ∧ Sep w0 w0.heap.size w [] ∧ (gameroomlaw_DiceExplodes_J6 z1).bind some = some r) ?_ ?_
      · rintro a w ⟨z1, hF, hS, hm⟩
        unfold gameroomlaw_DiceExplodes_J6 at hm
        refine wp_ret ?_
        have hm : some z1 = some r := hm
        obtain rfl := Option.some.inj hm
        exact ret1 (t := 4) (v := .bool z1) hF rfl (by kernel_rfl) ⟨rfl, hS⟩
      · refine oneR ?_
        refine at_run 6 [] [] [50, 51, 52, 53] [pl 50 (.bool (r1.2 == 0)), ⟨51, [(50, true)], .slice A1 r1.1.length c1⟩, ⟨52, [(50, true)], .int .i64 sides1⟩, ⟨53, [(50, true)], .int .i64 deep1⟩] hF hS (by kernel_rfl) (by kernel_rfl) ?_ (fun a w hF hS => ?_)
        · exact obs_nil
        rcases Bool.eq_false_or_eq_true (r1.2 == 0) with hg1 | hg1
        · obtain ⟨r2, hr2, hm⟩ := call_b hm
          obtain ⟨r3, hr3, hm⟩ := call_b hm
          refine at_gcall (hs := [((r1.2 == 0), true)]) (fun y hy => by simp only [List.mem_cons, List.not_mem_nil, or_false] at hy; subst hy; first | exact hg1) (f := 21) (args := #[.int .i64 sides1, .int .i64 deep1]) (d := 54) hF (by kernel_rfl) (by kernel_rfl) Try.func21 (by kernel_rfl) rfl (gameroomref_ExplodeWays_w (ite_some hr2 (by rw [show (r1.2 == 0) = true from hg1]; try rfl)) ) (fun v a w hR hF => ?_)
          obtain ⟨A2, c2, rfl, hS'⟩ := hR
          have hS : Sep w0 w0.heap.size w [own 3 (.slice A2 r2.length c2) (vI r2), own 3 (.slice A1 r1.1.length c1) (vI r1.1)] := hS.merge hS'
          refine at_run 3 [⟨false, [((r1.2 == 0), true)], callFunc 17 #[.slice A1 r1.1.length c1, .slice A2 r2.length c2], .bool r3⟩] [some (.bool r3), none, none] [4] [pl 4 (.bool ((r1.2 == 0) && r3))] hF hS (by kernel_rfl) (by kernel_rfl) ?_ (fun a w hF hS => ?_)
          · exact obs_cons (ob_call Try.func17 (by kernel_rfl) rfl (fun hy _ hS => quiet_of hS (gameroomlaw_sameInts_w (ite_some hr3 (by rw [show (r1.2 == 0) = true from hy ((r1.2 == 0), true) (by simp)]; try rfl)) (hS.at_ 1 rfl).rd (hS.at_ 1 rfl).cap (hS.at_ 0 rfl).rd (hS.at_ 0 rfl).cap))) <| obs_nil
          refine at_end [4] [pl 4 (.bool ((r1.2 == 0) && r3))] hF rfl (by kernel_rfl) (fun hF => ?_)
          refine then_n ?_
          have hS := hS.pick [] (by decide)
          exact ⟨((r1.2 == 0) && r3), hF.weak [4] (by kernel_rfl), hS, hm⟩
        · obtain ⟨r2, hr2, hm⟩ := call_b hm
          obtain ⟨r3, hr3, hm⟩ := call_b hm
          refine at_gskip (d := 54) (v := .slice none r2.length 0) (hs := [((r1.2 == 0), true)]) (ctx := [(50, true)]) hF (by kernel_rfl) (by kernel_rfl) (fun h => absurd (h ((r1.2 == 0), true) (by simp)) (by simp [hg1])) (fun a hF => ?_)
          refine at_run 3 [⟨false, [((r1.2 == 0), true)], callFunc 17 #[.slice A1 r1.1.length c1, .slice none r2.length 0], .bool r3⟩] [some (.bool r3), none, none] [4] [pl 4 (.bool ((r1.2 == 0) && r3))] hF hS (by kernel_rfl) (by kernel_rfl) ?_ (fun a w hF hS => ?_)
          · exact obs_cons (Ob.vac (fun h => absurd (h ((r1.2 == 0), true) (by simp)) (by simp [hg1]))) <| obs_nil
          refine at_end [4] [pl 4 (.bool ((r1.2 == 0) && r3))] hF rfl (by kernel_rfl) (fun hF => ?_)
          refine then_n ?_
          have hS := hS.pick [] (by decide)
          exact ⟨((r1.2 == 0) && r3), hF.weak [4] (by kernel_rfl), hS, hm⟩
    · refine reg [] [] [0, 1, 5, 6, 7, 39] [pl 0 (.int .i64 sides1), pl 1 (.int .i64 deep1), pl 5 (.slice A1 r1.1.length c1), pl 6 (.int .i64 r1.2), pl 7 (.int .i64 no1), pl 39 (.bool (no1 != 0))] hF hS Fol (by kernel_rfl) (by kernel_rfl) (by kernel_rfl) ?_ (fun a w hF hS => ?_)
      · exact obs_nil
      refine cond_ev (t := 39) (b := (no1 != 0)) hF (by kernel_rfl) (fun hb => ?_) (fun hb => ?_)
      · replace hm := if_t hm hb
        refine reg [] [] [4] [pl 4 (.bool ((r1.2 == no1) && ((r1.1.length : Int) == 0)))] hF hS Fol (by kernel_rfl) (by kernel_rfl) (by kernel_rfl) ?_ (fun a w hF hS => ?_)
        · exact obs_nil
        refine wp_ret ?_
        refine then_r ?_
        have hS := hS.pick [] (by decide)
        have hm : some ((r1.2 == no1) && ((r1.1.length : Int) == 0)) = some r := hm
        obtain rfl := Option.some.inj hm
        exact ret1 (t := 4) (v := .bool ((r1.2 == no1) && ((r1.1.length : Int) == 0))) hF rfl (by kernel_rfl) ⟨rfl, hS⟩
      · replace hm := if_f hm hb
        refine wp_skip ?_
        refine then_n ?_
        exact ⟨hF.weak [0, 1, 5, 6] (by kernel_rfl), hS, hm⟩
  · refine reg [] [] [0, 1, 5, 6, 7, 21] [pl 0 (.int .i64 sides1), pl 1 (.int .i64 deep1), pl 5 (.slice A1 r1.1.length c1), pl 6 (.int .i64 r1.2), pl 7 (.int .i64 0), pl 21 (.bool ((decide (sides1 < 1)) || (decide ((20 : Int) < sides1))))] hF hS Fol (by kernel_rfl) (by kernel_rfl) (by kernel_rfl) ?_ (fun a w hF hS => ?_)
    · exact obs_nil
    refine cond_ev (t := 21) (b := (decide (sides1 < 1)) || (decide ((20 : Int) < sides1))) hF (by kernel_rfl) (fun hb => ?_) (fun hb => ?_)
    · replace hm := if_t hm hb
      refine reg1 [] [] [0, 1, 5, 6, 7] [pl 0 (.int .i64 sides1), pl 1 (.int .i64 deep1), pl 5 (.slice A1 r1.1.length c1), pl 6 (.int .i64 r1.2), pl 7 (.int .i64 3)] hF hS Fol (by kernel_rfl) (by kernel_rfl) (by kernel_rfl) ?_ (fun a w hF hS => ?_)
      · exact obs_nil
      refine then_n ?_
      exact ⟨3, hF.weak [0, 1, 5, 6, 7] (by kernel_rfl), hS, hm⟩
    · replace hm := if_f hm hb
      refine reg [] [] [0, 1, 5, 6, 7, 27] [pl 0 (.int .i64 sides1), pl 1 (.int .i64 deep1), pl 5 (.slice A1 r1.1.length c1), pl 6 (.int .i64 r1.2), pl 7 (.int .i64 0), pl 27 (.bool ((decide (deep1 < 0)) || (decide ((4 : Int) < deep1))))] hF hS Fol (by kernel_rfl) (by kernel_rfl) (by kernel_rfl) ?_ (fun a w hF hS => ?_)
      · exact obs_nil
      refine cond_ev (t := 27) (b := (decide (deep1 < 0)) || (decide ((4 : Int) < deep1))) hF (by kernel_rfl) (fun hb => ?_) (fun hb => ?_)
      · replace hm := if_t hm hb
        refine reg1 [] [] [0, 1, 5, 6, 7] [pl 0 (.int .i64 sides1), pl 1 (.int .i64 deep1), pl 5 (.slice A1 r1.1.length c1), pl 6 (.int .i64 r1.2), pl 7 (.int .i64 11)] hF hS Fol (by kernel_rfl) (by kernel_rfl) (by kernel_rfl) ?_ (fun a w hF hS => ?_)
        · exact obs_nil
        refine then_n ?_
        exact ⟨11, hF.weak [0, 1, 5, 6, 7] (by kernel_rfl), hS, hm⟩
      · replace hm := if_f hm hb
        refine reg [] [] [0, 1, 5, 6, 7, 8] [pl 0 (.int .i64 sides1), pl 1 (.int .i64 deep1), pl 5 (.slice A1 r1.1.length c1), pl 6 (.int .i64 r1.2), pl 7 (.int .i64 0), pl 8 (.int .i64 1)] hF hS Fol (by kernel_rfl) (by kernel_rfl) (by kernel_rfl) ?_ (fun a w hF hS => ?_)
        · exact obs_nil
        refine seq_cut (fun a w => ∃ (all1 : Int), Fr 57 [pl 0 (.int .i64 sides1), pl 1 (.int .i64 deep1), pl 5 (.slice A1 r1.1.length c1), pl 6 (.int .i64 r1.2), pl 7 (.int .i64 0), pl 8 (.int .i64 all1)] a ∧ Sep w0 w0.heap.size w [own 3 (.slice A1 r1.1.length c1) (vI r1.1)] ∧ ((gameroomlaw_DiceExplodes_J2 sides1 deep1 r1) all1).bind some = some r) ?_ ?_
        · rintro a w ⟨all1, hF, hS, hm⟩
          unfold gameroomlaw_DiceExplodes_J2 at hm
          refine reg [] [] [0, 1, 5, 6, 7, 37] [pl 0 (.int .i64 sides1), pl 1 (.int .i64 deep1), pl 5 (.slice A1 r1.1.length c1), pl 6 (.int .i64 r1.2), pl 7 (.int .i64 0), pl 37 (.bool (decide ((100000 : Int) < all1)))] hF hS Fol (by kernel_rfl) (by kernel_rfl) (by kernel_rfl) ?_ (fun a w hF hS => ?_)
          · exact obs_nil
          refine cond_ev (t := 37) (b := decide ((100000 : Int) < all1)) hF (by kernel_rfl) (fun hb => ?_) (fun hb => ?_)
          · replace hm := if_t hm hb
            refine reg1 [] [] [0, 1, 5, 6, 7] [pl 0 (.int .i64 sides1), pl 1 (.int .i64 deep1), pl 5 (.slice A1 r1.1.length c1), pl 6 (.int .i64 r1.2), pl 7 (.int .i64 11)] hF hS Fol (by kernel_rfl) (by kernel_rfl) (by kernel_rfl) ?_ (fun a w hF hS => ?_)
            · exact obs_nil
            refine then_n ?_
            exact ⟨11, hF.weak [0, 1, 5, 6, 7] (by kernel_rfl), hS, hm⟩
          · replace hm := if_f hm hb
            refine wp_skip ?_
            refine then_n ?_
            exact ⟨0, hF.weak [0, 1, 5, 6, 7] (by kernel_rfl), hS, hm⟩
        · refine reg [] [] [0, 1, 5, 6, 7, 8, 9] [pl 0 (.int .i64 sides1), pl 1 (.int .i64 deep1), pl 5 (.slice A1 r1.1.length c1), pl 6 (.int .i64 r1.2), pl 7 (.int .i64 0), pl 8 (.int .i64 1), pl 9 (.int .i64 0)] hF hS Fol (by kernel_rfl) (by kernel_rfl) (by kernel_rfl) ?_ (fun a w hF hS => ?_)
          · exact obs_nil
          refine wp_block ?_
          refine wp_loop_model (S := (Int × Int)) (R := Int) (gameroomlaw_DiceExplodes_L1 sides1 deep1) (fun x => ((gameroomlaw_DiceExplodes_K1 sides1 deep1 r1) x).bind some) r (fun (x : (Int × Int)) a w => Fr 57 [pl 0 (.int .i64 sides1), pl 1 (.int .i64 deep1), pl 5 (.slice A1 r1.1.length c1), pl 6 (.int .i64 r1.2), pl 7 (.int .i64 0), pl 8 (.int .i64 x.1), pl 9 (.int .i64 x.2)] a ∧ Sep w0 w0.heap.size w [own 3 (.slice A1 r1.1.length c1) (vI r1.1)]) (assoc_b hm) ⟨hF.weak [0, 1, 5, 6, 7, 8, 9] (by kernel_rfl), hS⟩ ?_
          clear hF hS hm
          rintro nn1 ⟨all2, i1⟩ a w ⟨hF, hS⟩ hm
          generalize hφ1 : stK (gameroomlaw_DiceExplodes_L1 sides1 deep1) nn1 (fun x => ((gameroomlaw_DiceExplodes_K1 sides1 deep1 r1) x).bind some) = φ1 at hm
          unfold gameroomlaw_DiceExplodes_L1 at hm
          dsimp only at hF hS hm
          refine seq_cut (fun a w => Fr 57 [pl 0 (.int .i64 sides1), pl 1 (.int .i64 deep1), pl 5 (.slice A1 r1.1.length c1), pl 6 (.int .i64 r1.2), pl 7 (.int .i64 0), pl 8 (.int .i64 all2), pl 9 (.int .i64 i1)] a ∧ Sep w0 w0.heap.size w [own 3 (.slice A1 r1.1.length c1) (vI r1.1)] ∧ ((gameroomlaw_DiceExplodes_J3 sides1 all2 i1)).bind φ1 = some r) ?_ ?_
          · rintro a w ⟨hF, hS, hm⟩
            unfold gameroomlaw_DiceExplodes_J3 at hm
            refine seq_cut (fun a w => ∃ (all3 : Int), Fr 57 [pl 0 (.int .i64 sides1), pl 1 (.int .i64 deep1), pl 5 (.slice A1 r1.1.length c1), pl 6 (.int .i64 r1.2), pl 7 (.int .i64 0), pl 8 (.int .i64 all3), pl 9 (.int .i64 i1)] a ∧ Sep w0 w0.heap.size w [own 3 (.slice A1 r1.1.length c1) (vI r1.1)] ∧ ((gameroomlaw_DiceExplodes_J4 i1) all3).bind φ1 = some r) ?_ ?_
            · rintro a w ⟨all3, hF, hS, hm⟩
              unfold gameroomlaw_DiceExplodes_J4 at hm
              refine reg1 [] [] [0, 1, 5, 6, 7, 8, 9] [pl 0 (.int .i64 sides1), pl 1 (.int .i64 deep1), pl 5 (.slice A1 r1.1.length c1), pl 6 (.int .i64 r1.2), pl 7 (.int .i64 0), pl 8 (.int .i64 all3), pl 9 (.int .i64 (w64 (i1 + 1)))] hF hS Fol (by kernel_rfl) (by kernel_rfl) (by kernel_rfl) ?_ (fun a w hF hS => ?_)
              · exact obs_nil
              refine then_n ?_
              rw [← hφ1] at hm
              exact ⟨(all3, (w64 (i1 + 1))), ⟨hF.weak [0, 1, 5, 6, 7, 8, 9] (by kernel_rfl), hS⟩, hm⟩
            · refine wp_block ?_
              refine reg1 [] [] [0, 1, 5, 6, 7, 8, 9] [pl 0 (.int .i64 sides1), pl 1 (.int .i64 deep1), pl 5 (.slice A1 r1.1.length c1), pl 6 (.int .i64 r1.2), pl 7 (.int .i64 0), pl 8 (.int .i64 (w64 (all2 * sides1))), pl 9 (.int .i64 i1)] hF hS Fol (by kernel_rfl) (by kernel_rfl) (by kernel_rfl) ?_ (fun a w hF hS => ?_)
              · exact obs_nil
              refine block_n ?_
              refine then_n ?_
              exact ⟨(w64 (all2 * sides1)), hF.weak [0, 1, 5, 6, 7, 8, 9] (by kernel_rfl), hS, hm⟩
          · refine reg [] [] [0, 1, 5, 6, 7, 8, 9, 30] [pl 0 (.int .i64 sides1), pl 1 (.int .i64 deep1), pl 5 (.slice A1 r1.1.length c1), pl 6 (.int .i64 r1.2), pl 7 (.int .i64 0), pl 8 (.int .i64 all2), pl 9 (.int .i64 i1), pl 30 (.bool (decide (i1 ≤ deep1)))] hF hS Fol (by kernel_rfl) (by kernel_rfl) (by kernel_rfl) ?_ (fun a w hF hS => ?_)
            · exact obs_nil
            refine cond_ev (t := 30) (b := decide (i1 ≤ deep1)) hF (by kernel_rfl) (fun hb => ?_) (fun hb => ?_)
            · replace hm := if_t hm hb
              refine wp_skip ?_
              refine then_n ?_
              exact ⟨hF.weak [0, 1, 5, 6, 7, 8, 9] (by kernel_rfl), hS, hm⟩
            · replace hm := if_f hm hb
              refine wp_exit ?_
              refine then_e (then_e (block_e (then_n ?_)))
              rw [← hφ1] at hm
              have hm : ((gameroomlaw_DiceExplodes_J2 sides1 deep1 r1) all2).bind some = some r := hm
              exact ⟨all2, hF.weak [0, 1, 5, 6, 7, 8] (by kernel_rfl), hS, hm⟩

end Go.Proofs.Ytnplejebgbdfpaa
