/-
  Models and walks, printed by our own program (wip/gen).
-/
import Derived.Test.YtnplejebgbdfpaaLibC
import Derived.Test.YtnplejebgbdfpaaProg
namespace Go.Proofs.Ytnplejebgbdfpaa
open Go Go.GL Go.RowKit


theorem Fol : Try.prog.follows .mixedOrders = true := by kernel_rfl
theorem Info2 : (Try.prog.info? 2).map (fun i => (i.zero, i.size, i.bytes)) = some (some (.int .i64 0), 1, 8) := by kernel_rfl
theorem Agg2 : runPure Try.prog (isAgg 2) = some false := by kernel_rfl
theorem Info3 : (Try.prog.info? 3).map (fun i => (i.zero, i.size, i.bytes)) = some (some (.int .i64 0), 1, 8) := by kernel_rfl
theorem Agg3 : runPure Try.prog (isAgg 3) = some false := by kernel_rfl
theorem Info4 : (Try.prog.info? 4).map (fun i => (i.zero, i.size, i.bytes)) = some (some (.bool false), 1, 1) := by kernel_rfl
theorem Agg4 : runPure Try.prog (isAgg 4) = some false := by kernel_rfl
theorem Info5 : (Try.prog.info? 5).map (fun i => (i.zero, i.size, i.bytes)) = some (some (.int .u8 0), 1, 1) := by kernel_rfl
theorem Agg5 : runPure Try.prog (isAgg 5) = some false := by kernel_rfl
theorem Info6 : (Try.prog.info? 6).map (fun i => (i.zero, i.size, i.bytes)) = some (some (.int .u8 0), 1, 1) := by kernel_rfl
theorem Agg6 : runPure Try.prog (isAgg 6) = some false := by kernel_rfl
theorem Agg9 : runPure Try.prog (isAgg 9) = some false := by kernel_rfl
theorem Info12 : (Try.prog.info? 12).map (fun i => (i.zero, i.size, i.bytes)) = some (some (.int .u64 0), 1, 8) := by kernel_rfl
theorem Agg12 : runPure Try.prog (isAgg 12) = some false := by kernel_rfl
theorem Info21 : (Try.prog.info? 21).map (fun i => (i.zero, i.size, i.bytes)) = some (some (.int .i32 0), 1, 4) := by kernel_rfl
theorem Agg21 : runPure Try.prog (isAgg 21) = some false := by kernel_rfl
theorem Und22 : Try.prog.underlying 22 = some (.slice 3) := Try.underlying22
theorem Agg22 : runPure Try.prog (isAgg 22) = some false := by kernel_rfl
theorem Und23 : Try.prog.underlying 23 = some (.slice 22) := Try.underlying23
theorem Agg23 : runPure Try.prog (isAgg 23) = some false := by kernel_rfl
theorem Info24 : (Try.prog.info? 24).map (fun i => (i.zero, i.size, i.bytes)) = some (some (.int .i64 0), 1, 8) := by kernel_rfl
theorem Agg24 : runPure Try.prog (isAgg 24) = some false := by kernel_rfl
theorem Und61 : Try.prog.underlying 61 = some (.slice 102) := Try.underlying61
theorem Agg61 : runPure Try.prog (isAgg 61) = some false := by kernel_rfl
theorem Info114 : (Try.prog.info? 114).map (fun i => (i.zero, i.size, i.bytes)) = some (some (.int .u64 0), 1, 8) := by kernel_rfl
theorem Agg114 : runPure Try.prog (isAgg 114) = some false := by kernel_rfl
theorem Und115 : Try.prog.underlying 115 = some (.slice 114) := Try.underlying115
theorem Agg115 : runPure Try.prog (isAgg 115) = some false := by kernel_rfl
theorem Und120 : Try.prog.underlying 120 = some (.slice 4) := Try.underlying120
theorem Agg120 : runPure Try.prog (isAgg 120) = some false := by kernel_rfl
theorem Info135 : (Try.prog.info? 135).map (fun i => (i.zero, i.size, i.bytes)) = some (some (.int .u32 0), 1, 4) := by kernel_rfl
theorem Agg135 : runPure Try.prog (isAgg 135) = some false := by kernel_rfl
theorem Info136 : (Try.prog.info? 136).map (fun i => (i.zero, i.size, i.bytes)) = some (some (.int .u8 0), 1, 1) := by kernel_rfl
theorem Agg136 : runPure Try.prog (isAgg 136) = some false := by kernel_rfl
theorem Info137 : (Try.prog.info? 137).map (fun i => (i.zero, i.size, i.bytes)) = some (some (.int .u8 0), 1, 1) := by kernel_rfl
theorem Agg137 : runPure Try.prog (isAgg 137) = some false := by kernel_rfl
theorem Info140 : (Try.prog.info? 140).map (fun i => (i.zero, i.size, i.bytes)) = some (some (.int .i32 0), 1, 4) := by kernel_rfl
theorem Agg140 : runPure Try.prog (isAgg 140) = some false := by kernel_rfl
theorem Info141 : (Try.prog.info? 141).map (fun i => (i.zero, i.size, i.bytes)) = some (some (.int .i32 0), 1, 4) := by kernel_rfl
theorem Agg141 : runPure Try.prog (isAgg 141) = some false := by kernel_rfl


noncomputable def bridge_pick_J1 (b1 : Int) : Option Int :=
  some b1

noncomputable def bridge_pick_m (first1 : Bool) (a1 : Int) (b1 : Int) : Option Int :=
  if first1 then (some a1) else ((bridge_pick_J1 b1))

noncomputable def bridge_pick_J1N (N : Nat) (b1 : Int) : Option Int :=
  some b1

theorem bridge_pick_J1_le (N : Nat) (b1 : Int) : Le (bridge_pick_J1N N b1) (bridge_pick_J1 b1) := by
  unfold bridge_pick_J1N bridge_pick_J1
  repeat' (first | with_reducible exact Le.refl _ | refine Le.asrt ?_ | refine Le.ite ?_ ?_ | refine Le.bind ?_ (fun _ => ?_) | refine Le.loop (fun _ => ?_))

noncomputable def bridge_pick_mN (N : Nat) (first1 : Bool) (a1 : Int) (b1 : Int) : Option Int :=
  if first1 then (some a1) else ((bridge_pick_J1N N b1))

theorem bridge_pick_m_le (N : Nat) (first1 : Bool) (a1 : Int) (b1 : Int) : Le (bridge_pick_mN N first1 a1 b1) (bridge_pick_m first1 a1 b1) := by
  unfold bridge_pick_mN bridge_pick_m
  repeat' (first | with_reducible exact Le.refl _ | (with_reducible exact bridge_pick_J1_le _ _) | refine Le.asrt ?_ | refine Le.ite ?_ ?_ | refine Le.bind ?_ (fun _ => ?_) | refine Le.loop (fun _ => ?_))

set_option maxRecDepth 100000 in
set_option maxHeartbeats 4000000 in
theorem bridge_pick_w {first1 : Bool} {a1 : Int} {b1 : Int} {r : Int} {w0 : World} (hm : bridge_pick_m first1 a1 b1 = some r) :
    Calls Try.prog 65 #[.bool first1, .int .i64 a1, .int .i64 b1] w0 fun e w' => e = .returned (.int .i64 r) ∧ Sep w0 w0.heap.size w' [] := by
  unfold bridge_pick_m at hm
  replace hm := start_b hm
  refine enterS (l := [.bool first1, .int .i64 a1, .int .i64 b1]) (n := 10) Try.func65 rfl rfl (by simp) (fun a w hF hS => ?_)
  refine reg [] [] [0, 1, 2] [pl 0 (.bool first1), pl 1 (.int .i64 a1), pl 2 (.int .i64 b1)] hF hS Fol (by kernel_rfl) (by kernel_rfl) (by kernel_rfl) ?_ (fun a w hF hS => ?_)
  · exact obs_nil
  refine seq_cut (fun a w => Fr 10 [pl 2 (.int .i64 b1)] a ∧ Sep w0 w0.heap.size w [] ∧ ((bridge_pick_J1 b1)).bind some = some r) ?_ ?_
  · rintro a w ⟨hF, hS, hm⟩
    unfold bridge_pick_J1 at hm
    refine reg [] [] [6] [pl 6 (.int .i64 b1)] hF hS Fol (by kernel_rfl) (by kernel_rfl) (by kernel_rfl) ?_ (fun a w hF hS => ?_)
    · exact obs_nil
    refine wp_ret ?_
    have hm : some b1 = some r := hm
    obtain rfl := Option.some.inj hm
    exact ret1 (t := 6) (v := .int .i64 b1) hF rfl (by kernel_rfl) ⟨rfl, hS⟩
  · refine reg [] [] [1, 2, 7] [pl 1 (.int .i64 a1), pl 2 (.int .i64 b1), pl 7 (.bool first1)] hF hS Fol (by kernel_rfl) (by kernel_rfl) (by kernel_rfl) ?_ (fun a w hF hS => ?_)
    · exact obs_nil
    refine cond_ev (t := 7) (b := first1) hF (by kernel_rfl) (fun hb => ?_) (fun hb => ?_)
    · replace hm := if_t hm hb
      refine reg [] [] [6] [pl 6 (.int .i64 a1)] hF hS Fol (by kernel_rfl) (by kernel_rfl) (by kernel_rfl) ?_ (fun a w hF hS => ?_)
      · exact obs_nil
      refine wp_ret ?_
      refine then_r ?_
      have hm : some a1 = some r := hm
      obtain rfl := Option.some.inj hm
      exact ret1 (t := 6) (v := .int .i64 a1) hF rfl (by kernel_rfl) ⟨rfl, hS⟩
    · replace hm := if_f hm hb
      refine wp_skip ?_
      refine then_n ?_
      exact ⟨hF.weak [2] (by kernel_rfl), hS, hm⟩

noncomputable def bridge_failed_J2 (doubled1 : Int) (n1 : Int) : Option Int :=
  some (w64 (n1 * doubled1))

noncomputable def bridge_failed_K1 (doubled1 : Int) : Int → Option Int :=
  fun (x : Int) => match x with | n1 => (bridge_failed_J2 doubled1) n1

noncomputable def bridge_failed_J4 (z1 : Int) (n3 : Int) : Option (St (Int × Int) Int) :=
  some (.next (n3, (w64 (z1 + 1))))

noncomputable def bridge_failed_J3 (vulnerable1 : Bool) (n2 : Int) (z1 : Int) : Option (St (Int × Int) Int) :=
  if (z1 == 0) then ((bridge_pick_m vulnerable1 200 100).bind fun r2 => (bridge_failed_J4 z1) (w64 (n2 + r2))) else (if (decide (z1 < 3)) then ((bridge_pick_m vulnerable1 300 200).bind fun r3 => (bridge_failed_J4 z1) (w64 (n2 + r3))) else ((bridge_failed_J4 z1) (w64 (n2 + 300))))

noncomputable def bridge_failed_L1 (few1 : Int) (vulnerable1 : Bool) : (Int × Int) → Option (St (Int × Int) Int) :=
  fun (x : (Int × Int)) => match x with | (n2, z1) => if (decide (z1 < few1)) then ((bridge_failed_J3 vulnerable1 n2 z1)) else (some (.done n2))

noncomputable def bridge_failed_J1 (few1 : Int) (doubled1 : Int) (vulnerable1 : Bool) : Option Int :=
  (loop (bridge_failed_L1 few1 vulnerable1) (0, 0)).bind (bridge_failed_K1 doubled1)

noncomputable def bridge_failed_m (few1 : Int) (doubled1 : Int) (vulnerable1 : Bool) : Option Int :=
  if (doubled1 == 0) then ((bridge_pick_m vulnerable1 100 50).bind fun r1 => some (w64 (few1 * r1))) else ((bridge_failed_J1 few1 doubled1 vulnerable1))

noncomputable def bridge_failed_J2N (N : Nat) (doubled1 : Int) (n1 : Int) : Option Int :=
  some (w64 (n1 * doubled1))

theorem bridge_failed_J2_le (N : Nat) (doubled1 : Int) (n1 : Int) : Le (bridge_failed_J2N N doubled1 n1) (bridge_failed_J2 doubled1 n1) := by
  unfold bridge_failed_J2N bridge_failed_J2
  repeat' (first | with_reducible exact Le.refl _ | refine Le.asrt ?_ | refine Le.ite ?_ ?_ | refine Le.bind ?_ (fun _ => ?_) | refine Le.loop (fun _ => ?_))

noncomputable def bridge_failed_K1N (N : Nat) (doubled1 : Int) : Int → Option Int :=
  fun (x : Int) => match x with | n1 => (bridge_failed_J2N N doubled1) n1

theorem bridge_failed_K1_le (N : Nat) (doubled1 : Int) (x : Int) : Le (bridge_failed_K1N N doubled1 x) (bridge_failed_K1 doubled1 x) := by
  rcases x with n1
  all_goals
    unfold bridge_failed_K1N bridge_failed_K1
    dsimp only
    repeat' (first | with_reducible exact Le.refl _ | (with_reducible exact bridge_failed_J2_le _ _ _) | refine Le.asrt ?_ | refine Le.ite ?_ ?_ | refine Le.bind ?_ (fun _ => ?_) | refine Le.loop (fun _ => ?_))

noncomputable def bridge_failed_J4N (N : Nat) (z1 : Int) (n3 : Int) : Option (St (Int × Int) Int) :=
  some (.next (n3, (w64 (z1 + 1))))

theorem bridge_failed_J4_le (N : Nat) (z1 : Int) (n3 : Int) : Le (bridge_failed_J4N N z1 n3) (bridge_failed_J4 z1 n3) := by
  unfold bridge_failed_J4N bridge_failed_J4
  repeat' (first | with_reducible exact Le.refl _ | refine Le.asrt ?_ | refine Le.ite ?_ ?_ | refine Le.bind ?_ (fun _ => ?_) | refine Le.loop (fun _ => ?_))

noncomputable def bridge_failed_J3N (N : Nat) (vulnerable1 : Bool) (n2 : Int) (z1 : Int) : Option (St (Int × Int) Int) :=
  if (z1 == 0) then ((bridge_pick_mN N vulnerable1 200 100).bind fun r2 => (bridge_failed_J4N N z1) (w64 (n2 + r2))) else (if (decide (z1 < 3)) then ((bridge_pick_mN N vulnerable1 300 200).bind fun r3 => (bridge_failed_J4N N z1) (w64 (n2 + r3))) else ((bridge_failed_J4N N z1) (w64 (n2 + 300))))

theorem bridge_failed_J3_le (N : Nat) (vulnerable1 : Bool) (n2 : Int) (z1 : Int) : Le (bridge_failed_J3N N vulnerable1 n2 z1) (bridge_failed_J3 vulnerable1 n2 z1) := by
  unfold bridge_failed_J3N bridge_failed_J3
  repeat' (first | with_reducible exact Le.refl _ | (with_reducible exact bridge_failed_J4_le _ _ _) | (with_reducible exact bridge_pick_m_le _ _ _ _) | refine Le.asrt ?_ | refine Le.ite ?_ ?_ | refine Le.bind ?_ (fun _ => ?_) | refine Le.loop (fun _ => ?_))

noncomputable def bridge_failed_L1N (N : Nat) (few1 : Int) (vulnerable1 : Bool) : (Int × Int) → Option (St (Int × Int) Int) :=
  fun (x : (Int × Int)) => match x with | (n2, z1) => if (decide (z1 < few1)) then ((bridge_failed_J3N N vulnerable1 n2 z1)) else (some (.done n2))

theorem bridge_failed_L1_le (N : Nat) (few1 : Int) (vulnerable1 : Bool) (x : (Int × Int)) : Le (bridge_failed_L1N N few1 vulnerable1 x) (bridge_failed_L1 few1 vulnerable1 x) := by
  rcases x with ⟨n2, z1⟩
  all_goals
    unfold bridge_failed_L1N bridge_failed_L1
    dsimp only
    repeat' (first | with_reducible exact Le.refl _ | (with_reducible exact bridge_failed_J3_le _ _ _ _) | refine Le.asrt ?_ | refine Le.ite ?_ ?_ | refine Le.bind ?_ (fun _ => ?_) | refine Le.loop (fun _ => ?_))

noncomputable def bridge_failed_J1N (N : Nat) (few1 : Int) (doubled1 : Int) (vulnerable1 : Bool) : Option Int :=
  (loopN (bridge_failed_L1N N few1 vulnerable1) N (0, 0)).bind (bridge_failed_K1N N doubled1)

theorem bridge_failed_J1_le (N : Nat) (few1 : Int) (doubled1 : Int) (vulnerable1 : Bool) : Le (bridge_failed_J1N N few1 doubled1 vulnerable1) (bridge_failed_J1 few1 doubled1 vulnerable1) := by
  unfold bridge_failed_J1N bridge_failed_J1
  repeat' (first | with_reducible exact Le.refl _ | (with_reducible exact bridge_failed_L1_le _ _ _ _) | (with_reducible exact bridge_failed_K1_le _ _ _) | refine Le.asrt ?_ | refine Le.ite ?_ ?_ | refine Le.bind ?_ (fun _ => ?_) | refine Le.loop (fun _ => ?_))

noncomputable def bridge_failed_mN (N : Nat) (few1 : Int) (doubled1 : Int) (vulnerable1 : Bool) : Option Int :=
  if (doubled1 == 0) then ((bridge_pick_mN N vulnerable1 100 50).bind fun r1 => some (w64 (few1 * r1))) else ((bridge_failed_J1N N few1 doubled1 vulnerable1))

theorem bridge_failed_m_le (N : Nat) (few1 : Int) (doubled1 : Int) (vulnerable1 : Bool) : Le (bridge_failed_mN N few1 doubled1 vulnerable1) (bridge_failed_m few1 doubled1 vulnerable1) := by
  unfold bridge_failed_mN bridge_failed_m
  repeat' (first | with_reducible exact Le.refl _ | (with_reducible exact bridge_failed_J1_le _ _ _ _) | (with_reducible exact bridge_pick_m_le _ _ _ _) | refine Le.asrt ?_ | refine Le.ite ?_ ?_ | refine Le.bind ?_ (fun _ => ?_) | refine Le.loop (fun _ => ?_))

set_option maxRecDepth 100000 in
set_option maxHeartbeats 4000000 in
theorem bridge_failed_w {few1 : Int} {doubled1 : Int} {vulnerable1 : Bool} {r : Int} {w0 : World} (hm : bridge_failed_m few1 doubled1 vulnerable1 = some r) :
    Calls Try.prog 64 #[.int .i64 few1, .int .i64 doubled1, .bool vulnerable1] w0 fun e w' => e = .returned (.int .i64 r) ∧ Sep w0 w0.heap.size w' [] := by
  unfold bridge_failed_m at hm
  replace hm := start_b hm
  refine enterS (l := [.int .i64 few1, .int .i64 doubled1, .bool vulnerable1]) (n := 39) Try.func64 rfl rfl (by simp) (fun a w hF hS => ?_)
  refine reg [] [] [0, 1, 2] [pl 0 (.int .i64 few1), pl 1 (.int .i64 doubled1), pl 2 (.bool vulnerable1)] hF hS Fol (by kernel_rfl) (by kernel_rfl) (by kernel_rfl) ?_ (fun a w hF hS => ?_)
  · exact obs_nil
  refine seq_cut (fun a w => Fr 39 [pl 0 (.int .i64 few1), pl 1 (.int .i64 doubled1), pl 2 (.bool vulnerable1)] a ∧ Sep w0 w0.heap.size w [] ∧ ((bridge_failed_J1 few1 doubled1 vulnerable1)).bind some = some r) ?_ ?_
  · rintro a w ⟨hF, hS, hm⟩
    unfold bridge_failed_J1 at hm
    refine reg [] [] [0, 1, 2, 7] [pl 0 (.int .i64 few1), pl 1 (.int .i64 doubled1), pl 2 (.bool vulnerable1), pl 7 (.int .i64 0)] hF hS Fol (by kernel_rfl) (by kernel_rfl) (by kernel_rfl) ?_ (fun a w hF hS => ?_)
    · exact obs_nil
    refine seq_cut (fun a w => ∃ (n1 : Int), Fr 39 [pl 1 (.int .i64 doubled1), pl 7 (.int .i64 n1)] a ∧ Sep w0 w0.heap.size w [] ∧ ((bridge_failed_J2 doubled1) n1).bind some = some r) ?_ ?_
    · rintro a w ⟨n1, hF, hS, hm⟩
      unfold bridge_failed_J2 at hm
      refine reg [] [] [6] [pl 6 (.int .i64 (w64 (n1 * doubled1)))] hF hS Fol (by kernel_rfl) (by kernel_rfl) (by kernel_rfl) ?_ (fun a w hF hS => ?_)
      · exact obs_nil
      refine wp_ret ?_
      have hm : some (w64 (n1 * doubled1)) = some r := hm
      obtain rfl := Option.some.inj hm
      exact ret1 (t := 6) (v := .int .i64 (w64 (n1 * doubled1))) hF rfl (by kernel_rfl) ⟨rfl, hS⟩
    · refine reg [] [] [1, 2, 7, 15, 16] [pl 1 (.int .i64 doubled1), pl 2 (.bool vulnerable1), pl 7 (.int .i64 0), pl 15 (.int .i64 few1), pl 16 (.int .i64 0)] hF hS Fol (by kernel_rfl) (by kernel_rfl) (by kernel_rfl) ?_ (fun a w hF hS => ?_)
      · exact obs_nil
      refine wp_block ?_
      refine wp_loop_model (S := (Int × Int)) (R := Int) (bridge_failed_L1 few1 vulnerable1) (fun x => ((bridge_failed_K1 doubled1) x).bind some) r (fun (x : (Int × Int)) a w => Fr 39 [pl 1 (.int .i64 doubled1), pl 2 (.bool vulnerable1), pl 7 (.int .i64 x.1), pl 15 (.int .i64 few1), pl 16 (.int .i64 x.2)] a ∧ Sep w0 w0.heap.size w []) (assoc_b hm) ⟨hF.weak [1, 2, 7, 15, 16] (by kernel_rfl), hS⟩ ?_
      clear hF hS hm
      rintro nn1 ⟨n2, z1⟩ a w ⟨hF, hS⟩ hm
      generalize hφ1 : stK (bridge_failed_L1 few1 vulnerable1) nn1 (fun x => ((bridge_failed_K1 doubled1) x).bind some) = φ1 at hm
      unfold bridge_failed_L1 at hm
      dsimp only at hF hS hm
      refine reg [] [] [1, 2, 7, 15, 16, 17] [pl 1 (.int .i64 doubled1), pl 2 (.bool vulnerable1), pl 7 (.int .i64 n2), pl 15 (.int .i64 few1), pl 16 (.int .i64 z1), pl 17 (.bool (decide (z1 < few1)))] hF hS Fol (by kernel_rfl) (by kernel_rfl) (by kernel_rfl) ?_ (fun a w hF hS => ?_)
      · exact obs_nil
      refine seq_cut (fun a w => Fr 39 [pl 1 (.int .i64 doubled1), pl 2 (.bool vulnerable1), pl 7 (.int .i64 n2), pl 15 (.int .i64 few1), pl 16 (.int .i64 z1)] a ∧ Sep w0 w0.heap.size w [] ∧ ((bridge_failed_J3 vulnerable1 n2 z1)).bind φ1 = some r) ?_ ?_
      · rintro a w ⟨hF, hS, hm⟩
        unfold bridge_failed_J3 at hm
        refine seq_cut (fun a w => ∃ (n3 : Int), Fr 39 [pl 1 (.int .i64 doubled1), pl 2 (.bool vulnerable1), pl 7 (.int .i64 n3), pl 15 (.int .i64 few1), pl 16 (.int .i64 z1)] a ∧ Sep w0 w0.heap.size w [] ∧ ((bridge_failed_J4 z1) n3).bind φ1 = some r) ?_ ?_
        · rintro a w ⟨n3, hF, hS, hm⟩
          unfold bridge_failed_J4 at hm
          refine reg1 [] [] [1, 2, 7, 15, 16] [pl 1 (.int .i64 doubled1), pl 2 (.bool vulnerable1), pl 7 (.int .i64 n3), pl 15 (.int .i64 few1), pl 16 (.int .i64 (w64 (z1 + 1)))] hF hS Fol (by kernel_rfl) (by kernel_rfl) (by kernel_rfl) ?_ (fun a w hF hS => ?_)
          · exact obs_nil
          refine then_n ?_
          rw [← hφ1] at hm
          exact ⟨(n3, (w64 (z1 + 1))), ⟨hF.weak [1, 2, 7, 15, 16] (by kernel_rfl), hS⟩, hm⟩
        · refine wp_block ?_
          refine reg [] [] [1, 2, 7, 8, 15, 16] [pl 1 (.int .i64 doubled1), pl 2 (.bool vulnerable1), pl 7 (.int .i64 n2), pl 8 (.int .i64 z1), pl 15 (.int .i64 few1), pl 16 (.int .i64 z1)] hF hS Fol (by kernel_rfl) (by kernel_rfl) (by kernel_rfl) ?_ (fun a w hF hS => ?_)
          · exact obs_nil
          refine wp_block ?_
          refine reg [] [] [1, 2, 7, 8, 15, 16, 21] [pl 1 (.int .i64 doubled1), pl 2 (.bool vulnerable1), pl 7 (.int .i64 n2), pl 8 (.int .i64 z1), pl 15 (.int .i64 few1), pl 16 (.int .i64 z1), pl 21 (.bool (z1 == 0))] hF hS Fol (by kernel_rfl) (by kernel_rfl) (by kernel_rfl) ?_ (fun a w hF hS => ?_)
          · exact obs_nil
          refine cond_ev (t := 21) (b := (z1 == 0)) hF (by kernel_rfl) (fun hb => ?_) (fun hb => ?_)
          · replace hm := if_t hm hb
            obtain ⟨r2, hr2, hm⟩ := call_b hm
            refine reg1 [⟨false, [], callFunc 65 #[.bool vulnerable1, .int .i64 200, .int .i64 100], .int .i64 r2⟩] [none, none, some (.int .i64 r2), none, none] [1, 2, 7, 15, 16] [pl 1 (.int .i64 doubled1), pl 2 (.bool vulnerable1), pl 7 (.int .i64 (w64 (n2 + r2))), pl 15 (.int .i64 few1), pl 16 (.int .i64 z1)] hF hS Fol (by kernel_rfl) (by kernel_rfl) (by kernel_rfl) ?_ (fun a w hF hS => ?_)
            · exact obs_cons (ob_call Try.func65 (by kernel_rfl) rfl (fun _ _ hS => quiet_of hS (bridge_pick_w hr2 ))) <| obs_nil
            refine block_n ?_
            refine block_n ?_
            refine then_n ?_
            exact ⟨(w64 (n2 + r2)), hF.weak [1, 2, 7, 15, 16] (by kernel_rfl), hS, hm⟩
          · replace hm := if_f hm hb
            refine reg [] [] [1, 2, 7, 15, 16, 28] [pl 1 (.int .i64 doubled1), pl 2 (.bool vulnerable1), pl 7 (.int .i64 n2), pl 15 (.int .i64 few1), pl 16 (.int .i64 z1), pl 28 (.bool (decide (z1 < 3)))] hF hS Fol (by kernel_rfl) (by kernel_rfl) (by kernel_rfl) ?_ (fun a w hF hS => ?_)
            · exact obs_nil
            refine cond_ev (t := 28) (b := decide (z1 < 3)) hF (by kernel_rfl) (fun hb => ?_) (fun hb => ?_)
            · replace hm := if_t hm hb
              obtain ⟨r3, hr3, hm⟩ := call_b hm
              refine reg1 [⟨false, [], callFunc 65 #[.bool vulnerable1, .int .i64 300, .int .i64 200], .int .i64 r3⟩] [none, none, some (.int .i64 r3), none, none] [1, 2, 7, 15, 16] [pl 1 (.int .i64 doubled1), pl 2 (.bool vulnerable1), pl 7 (.int .i64 (w64 (n2 + r3))), pl 15 (.int .i64 few1), pl 16 (.int .i64 z1)] hF hS Fol (by kernel_rfl) (by kernel_rfl) (by kernel_rfl) ?_ (fun a w hF hS => ?_)
              · exact obs_cons (ob_call Try.func65 (by kernel_rfl) rfl (fun _ _ hS => quiet_of hS (bridge_pick_w hr3 ))) <| obs_nil
              refine block_n ?_
              refine block_n ?_
              refine then_n ?_
              exact ⟨(w64 (n2 + r3)), hF.weak [1, 2, 7, 15, 16] (by kernel_rfl), hS, hm⟩
            · replace hm := if_f hm hb
              refine reg1 [] [] [1, 2, 7, 15, 16] [pl 1 (.int .i64 doubled1), pl 2 (.bool vulnerable1), pl 7 (.int .i64 (w64 (n2 + 300))), pl 15 (.int .i64 few1), pl 16 (.int .i64 z1)] hF hS Fol (by kernel_rfl) (by kernel_rfl) (by kernel_rfl) ?_ (fun a w hF hS => ?_)
              · exact obs_nil
              refine block_n ?_
              refine block_n ?_
              refine then_n ?_
              exact ⟨(w64 (n2 + 300)), hF.weak [1, 2, 7, 15, 16] (by kernel_rfl), hS, hm⟩
      · refine cond_ev (t := 17) (b := decide (z1 < few1)) hF (by kernel_rfl) (fun hb => ?_) (fun hb => ?_)
        · replace hm := if_t hm hb
          refine wp_skip ?_
          refine then_n ?_
          exact ⟨hF.weak [1, 2, 7, 15, 16] (by kernel_rfl), hS, hm⟩
        · replace hm := if_f hm hb
          refine wp_exit ?_
          refine then_e (then_e (block_e (then_n ?_)))
          rw [← hφ1] at hm
          have hm : ((bridge_failed_J2 doubled1) n2).bind some = some r := hm
          exact ⟨n2, hF.weak [1, 7] (by kernel_rfl), hS, hm⟩
  · refine reg [] [] [0, 1, 2, 10] [pl 0 (.int .i64 few1), pl 1 (.int .i64 doubled1), pl 2 (.bool vulnerable1), pl 10 (.bool (doubled1 == 0))] hF hS Fol (by kernel_rfl) (by kernel_rfl) (by kernel_rfl) ?_ (fun a w hF hS => ?_)
    · exact obs_nil
    refine cond_ev (t := 10) (b := (doubled1 == 0)) hF (by kernel_rfl) (fun hb => ?_) (fun hb => ?_)
    · replace hm := if_t hm hb
      obtain ⟨r1, hr1, hm⟩ := call_b hm
      refine reg [⟨false, [], callFunc 65 #[.bool vulnerable1, .int .i64 100, .int .i64 50], .int .i64 r1⟩] [none, none, some (.int .i64 r1), none, none] [6] [pl 6 (.int .i64 (w64 (few1 * r1)))] hF hS Fol (by kernel_rfl) (by kernel_rfl) (by kernel_rfl) ?_ (fun a w hF hS => ?_)
      · exact obs_cons (ob_call Try.func65 (by kernel_rfl) rfl (fun _ _ hS => quiet_of hS (bridge_pick_w hr1 ))) <| obs_nil
      refine wp_ret ?_
      refine then_r ?_
      have hm : some (w64 (few1 * r1)) = some r := hm
      obtain rfl := Option.some.inj hm
      exact ret1 (t := 6) (v := .int .i64 (w64 (few1 * r1))) hF rfl (by kernel_rfl) ⟨rfl, hS⟩
    · replace hm := if_f hm hb
      refine wp_skip ?_
      refine then_n ?_
      exact ⟨hF.weak [0, 1, 2] (by kernel_rfl), hS, hm⟩

noncomputable def bridge_Score_J4 (c_Level1 : Int) (c_Doubled1 : Int) (tricks1 : Int) (n1 : Int) (each1 : Int) : Option (Int × Int) :=
  some ((w64 ((w64 (n1 + (w64 (50 * c_Doubled1)))) + (w64 ((w64 ((w64 (tricks1 - c_Level1)) - 6)) * each1)))), 0)

noncomputable def bridge_Score_J3 (c_Level1 : Int) (c_Doubled1 : Int) (vulnerable1 : Bool) (tricks1 : Int) (r2 : Int) (n1 : Int) : Option (Int × Int) :=
  if (decide ((0 : Int) < c_Doubled1)) then ((bridge_pick_m vulnerable1 200 100).bind fun r8 => (bridge_Score_J4 c_Level1 c_Doubled1 tricks1 n1) (w64 (r8 * c_Doubled1))) else ((bridge_Score_J4 c_Level1 c_Doubled1 tricks1 n1) r2)

noncomputable def bridge_Score_J2 (c_Level1 : Int) (c_Strain1 : Int) (c_Doubled1 : Int) (vulnerable1 : Bool) (tricks1 : Int) : Option (Int × Int) :=
  (bridge_pick_m (decide (c_Strain1 < 2)) 20 30).bind fun r2 => (bridge_pick_m (c_Strain1 == 4) 10 0).bind fun r3 => asrt ((0 : Int) ≤ c_Doubled1) <| (bridge_pick_m vulnerable1 500 300).bind fun r4 => (bridge_pick_m (decide ((100 : Int) ≤ (shlK .i64 (w64 ((w64 (c_Level1 * r2)) + r3)) c_Doubled1))) r4 50).bind fun r5 => if (c_Level1 == 6) then ((bridge_pick_m vulnerable1 750 500).bind fun r6 => (bridge_Score_J3 c_Level1 c_Doubled1 vulnerable1 tricks1 r2) (w64 ((w64 ((shlK .i64 (w64 ((w64 (c_Level1 * r2)) + r3)) c_Doubled1) + r5)) + r6))) else (if (c_Level1 == 7) then ((bridge_pick_m vulnerable1 1500 1000).bind fun r7 => (bridge_Score_J3 c_Level1 c_Doubled1 vulnerable1 tricks1 r2) (w64 ((w64 ((shlK .i64 (w64 ((w64 (c_Level1 * r2)) + r3)) c_Doubled1) + r5)) + r7))) else ((bridge_Score_J3 c_Level1 c_Doubled1 vulnerable1 tricks1 r2) (w64 ((shlK .i64 (w64 ((w64 (c_Level1 * r2)) + r3)) c_Doubled1) + r5))))

noncomputable def bridge_Score_J1 (c_Level1 : Int) (c_Strain1 : Int) (c_Doubled1 : Int) (vulnerable1 : Bool) (tricks1 : Int) : Option (Int × Int) :=
  if (decide ((w64 ((w64 (tricks1 - c_Level1)) - 6)) < 0)) then ((bridge_failed_m (w64 (0 - (w64 ((w64 (tricks1 - c_Level1)) - 6)))) c_Doubled1 vulnerable1).bind fun r1 => some ((w64 (0 - r1)), 0)) else ((bridge_Score_J2 c_Level1 c_Strain1 c_Doubled1 vulnerable1 tricks1))

noncomputable def bridge_Score_m (c_Level1 : Int) (c_Strain1 : Int) (c_Doubled1 : Int) (c_Declarer1 : Int) (vulnerable1 : Bool) (tricks1 : Int) : Option (Int × Int) :=
  if ((((((((((decide (c_Level1 < 1)) || (decide ((7 : Int) < c_Level1))) || (decide (c_Strain1 < 0))) || (decide ((4 : Int) < c_Strain1))) || (decide (c_Doubled1 < 0))) || (decide ((2 : Int) < c_Doubled1))) || (decide (c_Declarer1 < 0))) || (decide ((3 : Int) < c_Declarer1))) || (decide (tricks1 < 0))) || (decide ((13 : Int) < tricks1))) then (some (0, 3)) else ((bridge_Score_J1 c_Level1 c_Strain1 c_Doubled1 vulnerable1 tricks1))

noncomputable def bridge_Score_J4N (N : Nat) (c_Level1 : Int) (c_Doubled1 : Int) (tricks1 : Int) (n1 : Int) (each1 : Int) : Option (Int × Int) :=
  some ((w64 ((w64 (n1 + (w64 (50 * c_Doubled1)))) + (w64 ((w64 ((w64 (tricks1 - c_Level1)) - 6)) * each1)))), 0)

theorem bridge_Score_J4_le (N : Nat) (c_Level1 : Int) (c_Doubled1 : Int) (tricks1 : Int) (n1 : Int) (each1 : Int) : Le (bridge_Score_J4N N c_Level1 c_Doubled1 tricks1 n1 each1) (bridge_Score_J4 c_Level1 c_Doubled1 tricks1 n1 each1) := by
  unfold bridge_Score_J4N bridge_Score_J4
  repeat' (first | with_reducible exact Le.refl _ | refine Le.asrt ?_ | refine Le.ite ?_ ?_ | refine Le.bind ?_ (fun _ => ?_) | refine Le.loop (fun _ => ?_))

noncomputable def bridge_Score_J3N (N : Nat) (c_Level1 : Int) (c_Doubled1 : Int) (vulnerable1 : Bool) (tricks1 : Int) (r2 : Int) (n1 : Int) : Option (Int × Int) :=
  if (decide ((0 : Int) < c_Doubled1)) then ((bridge_pick_mN N vulnerable1 200 100).bind fun r8 => (bridge_Score_J4N N c_Level1 c_Doubled1 tricks1 n1) (w64 (r8 * c_Doubled1))) else ((bridge_Score_J4N N c_Level1 c_Doubled1 tricks1 n1) r2)

theorem bridge_Score_J3_le (N : Nat) (c_Level1 : Int) (c_Doubled1 : Int) (vulnerable1 : Bool) (tricks1 : Int) (r2 : Int) (n1 : Int) : Le (bridge_Score_J3N N c_Level1 c_Doubled1 vulnerable1 tricks1 r2 n1) (bridge_Score_J3 c_Level1 c_Doubled1 vulnerable1 tricks1 r2 n1) := by
  unfold bridge_Score_J3N bridge_Score_J3
  repeat' (first | with_reducible exact Le.refl _ | (with_reducible exact bridge_Score_J4_le _ _ _ _ _ _) | (with_reducible exact bridge_pick_m_le _ _ _ _) | refine Le.asrt ?_ | refine Le.ite ?_ ?_ | refine Le.bind ?_ (fun _ => ?_) | refine Le.loop (fun _ => ?_))

noncomputable def bridge_Score_J2N (N : Nat) (c_Level1 : Int) (c_Strain1 : Int) (c_Doubled1 : Int) (vulnerable1 : Bool) (tricks1 : Int) : Option (Int × Int) :=
  (bridge_pick_mN N (decide (c_Strain1 < 2)) 20 30).bind fun r2 => (bridge_pick_mN N (c_Strain1 == 4) 10 0).bind fun r3 => asrt ((0 : Int) ≤ c_Doubled1) <| (bridge_pick_mN N vulnerable1 500 300).bind fun r4 => (bridge_pick_mN N (decide ((100 : Int) ≤ (shlK .i64 (w64 ((w64 (c_Level1 * r2)) + r3)) c_Doubled1))) r4 50).bind fun r5 => if (c_Level1 == 6) then ((bridge_pick_mN N vulnerable1 750 500).bind fun r6 => (bridge_Score_J3N N c_Level1 c_Doubled1 vulnerable1 tricks1 r2) (w64 ((w64 ((shlK .i64 (w64 ((w64 (c_Level1 * r2)) + r3)) c_Doubled1) + r5)) + r6))) else (if (c_Level1 == 7) then ((bridge_pick_mN N vulnerable1 1500 1000).bind fun r7 => (bridge_Score_J3N N c_Level1 c_Doubled1 vulnerable1 tricks1 r2) (w64 ((w64 ((shlK .i64 (w64 ((w64 (c_Level1 * r2)) + r3)) c_Doubled1) + r5)) + r7))) else ((bridge_Score_J3N N c_Level1 c_Doubled1 vulnerable1 tricks1 r2) (w64 ((shlK .i64 (w64 ((w64 (c_Level1 * r2)) + r3)) c_Doubled1) + r5))))

theorem bridge_Score_J2_le (N : Nat) (c_Level1 : Int) (c_Strain1 : Int) (c_Doubled1 : Int) (vulnerable1 : Bool) (tricks1 : Int) : Le (bridge_Score_J2N N c_Level1 c_Strain1 c_Doubled1 vulnerable1 tricks1) (bridge_Score_J2 c_Level1 c_Strain1 c_Doubled1 vulnerable1 tricks1) := by
  unfold bridge_Score_J2N bridge_Score_J2
  repeat' (first | with_reducible exact Le.refl _ | (with_reducible exact bridge_Score_J3_le _ _ _ _ _ _ _) | (with_reducible exact bridge_pick_m_le _ _ _ _) | refine Le.asrt ?_ | refine Le.ite ?_ ?_ | refine Le.bind ?_ (fun _ => ?_) | refine Le.loop (fun _ => ?_))

noncomputable def bridge_Score_J1N (N : Nat) (c_Level1 : Int) (c_Strain1 : Int) (c_Doubled1 : Int) (vulnerable1 : Bool) (tricks1 : Int) : Option (Int × Int) :=
  if (decide ((w64 ((w64 (tricks1 - c_Level1)) - 6)) < 0)) then ((bridge_failed_mN N (w64 (0 - (w64 ((w64 (tricks1 - c_Level1)) - 6)))) c_Doubled1 vulnerable1).bind fun r1 => some ((w64 (0 - r1)), 0)) else ((bridge_Score_J2N N c_Level1 c_Strain1 c_Doubled1 vulnerable1 tricks1))

theorem bridge_Score_J1_le (N : Nat) (c_Level1 : Int) (c_Strain1 : Int) (c_Doubled1 : Int) (vulnerable1 : Bool) (tricks1 : Int) : Le (bridge_Score_J1N N c_Level1 c_Strain1 c_Doubled1 vulnerable1 tricks1) (bridge_Score_J1 c_Level1 c_Strain1 c_Doubled1 vulnerable1 tricks1) := by
  unfold bridge_Score_J1N bridge_Score_J1
  repeat' (first | with_reducible exact Le.refl _ | (with_reducible exact bridge_Score_J2_le _ _ _ _ _ _) | (with_reducible exact bridge_failed_m_le _ _ _ _) | refine Le.asrt ?_ | refine Le.ite ?_ ?_ | refine Le.bind ?_ (fun _ => ?_) | refine Le.loop (fun _ => ?_))

noncomputable def bridge_Score_mN (N : Nat) (c_Level1 : Int) (c_Strain1 : Int) (c_Doubled1 : Int) (c_Declarer1 : Int) (vulnerable1 : Bool) (tricks1 : Int) : Option (Int × Int) :=
  if ((((((((((decide (c_Level1 < 1)) || (decide ((7 : Int) < c_Level1))) || (decide (c_Strain1 < 0))) || (decide ((4 : Int) < c_Strain1))) || (decide (c_Doubled1 < 0))) || (decide ((2 : Int) < c_Doubled1))) || (decide (c_Declarer1 < 0))) || (decide ((3 : Int) < c_Declarer1))) || (decide (tricks1 < 0))) || (decide ((13 : Int) < tricks1))) then (some (0, 3)) else ((bridge_Score_J1N N c_Level1 c_Strain1 c_Doubled1 vulnerable1 tricks1))

theorem bridge_Score_m_le (N : Nat) (c_Level1 : Int) (c_Strain1 : Int) (c_Doubled1 : Int) (c_Declarer1 : Int) (vulnerable1 : Bool) (tricks1 : Int) : Le (bridge_Score_mN N c_Level1 c_Strain1 c_Doubled1 c_Declarer1 vulnerable1 tricks1) (bridge_Score_m c_Level1 c_Strain1 c_Doubled1 c_Declarer1 vulnerable1 tricks1) := by
  unfold bridge_Score_mN bridge_Score_m
  repeat' (first | with_reducible exact Le.refl _ | (with_reducible exact bridge_Score_J1_le _ _ _ _ _ _) | refine Le.asrt ?_ | refine Le.ite ?_ ?_ | refine Le.bind ?_ (fun _ => ?_) | refine Le.loop (fun _ => ?_))

set_option maxRecDepth 100000 in
set_option maxHeartbeats 4000000 in
theorem bridge_Score_w {c_Level1 : Int} {c_Strain1 : Int} {c_Doubled1 : Int} {c_Declarer1 : Int} {vulnerable1 : Bool} {tricks1 : Int} {r : (Int × Int)} {w0 : World} (hm : bridge_Score_m c_Level1 c_Strain1 c_Doubled1 c_Declarer1 vulnerable1 tricks1 = some r) :
    Calls Try.prog 27 #[.agg #[.int .i64 c_Level1, .int .i64 c_Strain1, .int .i64 c_Doubled1, .int .i64 c_Declarer1], .bool vulnerable1, .int .i64 tricks1] w0 fun e w' => e = .returned (.tuple #[.int .i64 r.1, .int .i64 r.2]) ∧ Sep w0 w0.heap.size w' [] := by
  unfold bridge_Score_m at hm
  replace hm := start_b hm
  refine enterS (l := [.agg #[.int .i64 c_Level1, .int .i64 c_Strain1, .int .i64 c_Doubled1, .int .i64 c_Declarer1], .bool vulnerable1, .int .i64 tricks1]) (n := 127) Try.func27 rfl rfl (by simp) (fun a w hF hS => ?_)
  refine seqR ?_
  refine at_do (d := 3) (s := vS (Instr.box 47 (.agg #[.int .i64 c_Level1, .int .i64 c_Strain1, .int .i64 c_Doubled1, .int .i64 c_Declarer1]))) (v := .pointer (some ⟨w.heap.size, 0, none⟩)) (w' := w.alloc (.cells #[.int .i64 c_Level1, .int .i64 c_Strain1, .int .i64 c_Doubled1, .int .i64 c_Declarer1] 47)) hF (by kernel_rfl) (by kernel_rfl) (by kernel_rfl) (fun a hF => ?_)
  have hS : Sep w0 w0.heap.size (w.alloc (.cells #[.int .i64 c_Level1, .int .i64 c_Strain1, .int .i64 c_Doubled1, .int .i64 c_Declarer1] 47)) (blk w.heap.size 47 #[.int .i64 c_Level1, .int .i64 c_Strain1, .int .i64 c_Doubled1, .int .i64 c_Declarer1] :: []) := hS.box 47 #[.int .i64 c_Level1, .int .i64 c_Strain1, .int .i64 c_Doubled1, .int .i64 c_Declarer1]
  generalize w.heap.size = g1 at hF hS
  generalize w.alloc (.cells #[.int .i64 c_Level1, .int .i64 c_Strain1, .int .i64 c_Doubled1, .int .i64 c_Declarer1] 47) = w at hS ⊢
  refine at_run 2 [] [] [1, 2, 3] [pl 1 (.bool vulnerable1), pl 2 (.int .i64 tricks1), pl 3 (.pointer (some ⟨g1, 0, none⟩))] hF hS (by kernel_rfl) (by kernel_rfl) ?_ (fun a w hF hS => ?_)
  · exact obs_nil
  refine at_end [1, 2, 3] [pl 1 (.bool vulnerable1), pl 2 (.int .i64 tricks1), pl 3 (.pointer (some ⟨g1, 0, none⟩))] hF rfl (by kernel_rfl) (fun hF => ?_)
  refine then_n ?_
  refine seq_cut (fun a w => Fr 127 [pl 1 (.bool vulnerable1), pl 2 (.int .i64 tricks1), pl 3 (.pointer (some ⟨g1, 0, none⟩))] a ∧ Sep w0 w0.heap.size w [blk g1 47 #[.int .i64 c_Level1, .int .i64 c_Strain1, .int .i64 c_Doubled1, .int .i64 c_Declarer1]] ∧ ((bridge_Score_J1 c_Level1 c_Strain1 c_Doubled1 vulnerable1 tricks1)).bind some = some r) ?_ ?_
  · rintro a w ⟨hF, hS, hm⟩
    unfold bridge_Score_J1 at hm
    refine reg [⟨false, [], vS (Instr.loadAt 3 (.pointer (some ⟨g1, 0, none⟩))), .int .i64 c_Level1⟩] [none, none, some (.int .i64 c_Level1), none, none, none] [1, 3, 8] [pl 1 (.bool vulnerable1), pl 3 (.pointer (some ⟨g1, 0, none⟩)), pl 8 (.int .i64 (w64 ((w64 (tricks1 - c_Level1)) - 6)))] hF hS Fol (by kernel_rfl) (by kernel_rfl) (by kernel_rfl) ?_ (fun a w hF hS => ?_)
    · exact obs_cons (ob_load Agg3 (fun _ _ hS => (hS.at_ 0 rfl).cell rfl)) <| obs_nil
    refine seq_cut (fun a w => Fr 127 [pl 1 (.bool vulnerable1), pl 3 (.pointer (some ⟨g1, 0, none⟩)), pl 8 (.int .i64 (w64 ((w64 (tricks1 - c_Level1)) - 6)))] a ∧ Sep w0 w0.heap.size w [blk g1 47 #[.int .i64 c_Level1, .int .i64 c_Strain1, .int .i64 c_Doubled1, .int .i64 c_Declarer1]] ∧ ((bridge_Score_J2 c_Level1 c_Strain1 c_Doubled1 vulnerable1 tricks1)).bind some = some r) ?_ ?_
    · rintro a w ⟨hF, hS, hm⟩
      unfold bridge_Score_J2 at hm
      obtain ⟨r2, hr2, hm⟩ := call_b hm
      refine reg [⟨false, [], vS (Instr.loadAt 3 (.pointer (some ⟨g1, 1, none⟩))), .int .i64 c_Strain1⟩, ⟨false, [], callFunc 65 #[.bool (decide (c_Strain1 < 2)), .int .i64 20, .int .i64 30], .int .i64 r2⟩] [none, some (.int .i64 c_Strain1), none, some (.int .i64 r2), none] [1, 3, 8, 9] [pl 1 (.bool vulnerable1), pl 3 (.pointer (some ⟨g1, 0, none⟩)), pl 8 (.int .i64 (w64 ((w64 (tricks1 - c_Level1)) - 6))), pl 9 (.int .i64 r2)] hF hS Fol (by kernel_rfl) (by kernel_rfl) (by kernel_rfl) ?_ (fun a w hF hS => ?_)
      · exact obs_cons (ob_load Agg3 (fun _ _ hS => (hS.at_ 0 rfl).cell rfl)) <| obs_cons (ob_call Try.func65 (by kernel_rfl) rfl (fun _ _ hS => quiet_of hS (bridge_pick_w hr2 ))) <| obs_nil
      obtain ⟨r3, hr3, hm⟩ := call_b hm
      refine reg [⟨false, [], vS (Instr.loadAt 3 (.pointer (some ⟨g1, 0, none⟩))), .int .i64 c_Level1⟩, ⟨false, [], vS (Instr.loadAt 3 (.pointer (some ⟨g1, 1, none⟩))), .int .i64 c_Strain1⟩, ⟨false, [], callFunc 65 #[.bool (c_Strain1 == 4), .int .i64 10, .int .i64 0], .int .i64 r3⟩] [none, some (.int .i64 c_Level1), none, none, none, some (.int .i64 c_Strain1), none, some (.int .i64 r3), none, none] [1, 3, 8, 9, 10] [pl 1 (.bool vulnerable1), pl 3 (.pointer (some ⟨g1, 0, none⟩)), pl 8 (.int .i64 (w64 ((w64 (tricks1 - c_Level1)) - 6))), pl 9 (.int .i64 r2), pl 10 (.int .i64 (w64 ((w64 (c_Level1 * r2)) + r3)))] hF hS Fol (by kernel_rfl) (by kernel_rfl) (by kernel_rfl) ?_ (fun a w hF hS => ?_)
      · exact obs_cons (ob_load Agg3 (fun _ _ hS => (hS.at_ 0 rfl).cell rfl)) <| obs_cons (ob_load Agg3 (fun _ _ hS => (hS.at_ 0 rfl).cell rfl)) <| obs_cons (ob_call Try.func65 (by kernel_rfl) rfl (fun _ _ hS => quiet_of hS (bridge_pick_w hr3 ))) <| obs_nil
      obtain ⟨hp1, hm⟩ := asrt_b hm
      refine reg [⟨false, [], vS (Instr.loadAt 3 (.pointer (some ⟨g1, 2, none⟩))), .int .i64 c_Doubled1⟩, ⟨true, [], vS (Op.shift .shl .i64 (w64 ((w64 (c_Level1 * r2)) + r3)) .i64 c_Doubled1), .int .i64 (shlK .i64 (w64 ((w64 (c_Level1 * r2)) + r3)) c_Doubled1)⟩] [none, none, some (.int .i64 c_Doubled1), some (.int .i64 (shlK .i64 (w64 ((w64 (c_Level1 * r2)) + r3)) c_Doubled1)), none] [1, 3, 8, 9, 10] [pl 1 (.bool vulnerable1), pl 3 (.pointer (some ⟨g1, 0, none⟩)), pl 8 (.int .i64 (w64 ((w64 (tricks1 - c_Level1)) - 6))), pl 9 (.int .i64 r2), pl 10 (.int .i64 (shlK .i64 (w64 ((w64 (c_Level1 * r2)) + r3)) c_Doubled1))] hF hS Fol (by kernel_rfl) (by kernel_rfl) (by kernel_rfl) ?_ (fun a w hF hS => ?_)
      · exact obs_cons (ob_load Agg3 (fun _ _ hS => (hS.at_ 0 rfl).cell rfl)) <| obs_cons (ob_shl (fun _ => hp1)) <| obs_nil
      obtain ⟨r4, hr4, hm⟩ := call_b hm
      obtain ⟨r5, hr5, hm⟩ := call_b hm
      refine reg [⟨false, [], callFunc 65 #[.bool vulnerable1, .int .i64 500, .int .i64 300], .int .i64 r4⟩, ⟨false, [], callFunc 65 #[.bool (decide ((100 : Int) ≤ (shlK .i64 (w64 ((w64 (c_Level1 * r2)) + r3)) c_Doubled1))), .int .i64 r4, .int .i64 50], .int .i64 r5⟩] [none, none, none, none, some (.int .i64 r4), some (.int .i64 r5), none, none] [1, 3, 8, 9, 10] [pl 1 (.bool vulnerable1), pl 3 (.pointer (some ⟨g1, 0, none⟩)), pl 8 (.int .i64 (w64 ((w64 (tricks1 - c_Level1)) - 6))), pl 9 (.int .i64 r2), pl 10 (.int .i64 (w64 ((shlK .i64 (w64 ((w64 (c_Level1 * r2)) + r3)) c_Doubled1) + r5)))] hF hS Fol (by kernel_rfl) (by kernel_rfl) (by kernel_rfl) ?_ (fun a w hF hS => ?_)
      · exact obs_cons (ob_call Try.func65 (by kernel_rfl) rfl (fun _ _ hS => quiet_of hS (bridge_pick_w hr4 ))) <| obs_cons (ob_call Try.func65 (by kernel_rfl) rfl (fun _ _ hS => quiet_of hS (bridge_pick_w hr5 ))) <| obs_nil
      refine seq_cut (fun a w => ∃ (n1 : Int), Fr 127 [pl 1 (.bool vulnerable1), pl 3 (.pointer (some ⟨g1, 0, none⟩)), pl 8 (.int .i64 (w64 ((w64 (tricks1 - c_Level1)) - 6))), pl 9 (.int .i64 r2), pl 10 (.int .i64 n1)] a ∧ Sep w0 w0.heap.size w [blk g1 47 #[.int .i64 c_Level1, .int .i64 c_Strain1, .int .i64 c_Doubled1, .int .i64 c_Declarer1]] ∧ ((bridge_Score_J3 c_Level1 c_Doubled1 vulnerable1 tricks1 r2) n1).bind some = some r) ?_ ?_
      · rintro a w ⟨n1, hF, hS, hm⟩
        unfold bridge_Score_J3 at hm
        refine reg [⟨false, [], vS (Instr.loadAt 3 (.pointer (some ⟨g1, 2, none⟩))), .int .i64 c_Doubled1⟩] [none, none, some (.int .i64 c_Doubled1), none, none, none] [1, 3, 8, 9, 10] [pl 1 (.bool vulnerable1), pl 3 (.pointer (some ⟨g1, 0, none⟩)), pl 8 (.int .i64 (w64 ((w64 (tricks1 - c_Level1)) - 6))), pl 9 (.int .i64 r2), pl 10 (.int .i64 (w64 (n1 + (w64 (50 * c_Doubled1)))))] hF hS Fol (by kernel_rfl) (by kernel_rfl) (by kernel_rfl) ?_ (fun a w hF hS => ?_)
        · exact obs_cons (ob_load Agg3 (fun _ _ hS => (hS.at_ 0 rfl).cell rfl)) <| obs_nil
        refine seq_cut (fun a w => ∃ (each1 : Int), Fr 127 [pl 8 (.int .i64 (w64 ((w64 (tricks1 - c_Level1)) - 6))), pl 9 (.int .i64 each1), pl 10 (.int .i64 (w64 (n1 + (w64 (50 * c_Doubled1)))))] a ∧ Sep w0 w0.heap.size w [] ∧ ((bridge_Score_J4 c_Level1 c_Doubled1 tricks1 n1) each1).bind some = some r) ?_ ?_
        · rintro a w ⟨each1, hF, hS, hm⟩
          unfold bridge_Score_J4 at hm
          refine reg [] [] [6, 7] [pl 6 (.int .i64 (w64 ((w64 (n1 + (w64 (50 * c_Doubled1)))) + (w64 ((w64 ((w64 (tricks1 - c_Level1)) - 6)) * each1))))), pl 7 (.int .i64 0)] hF hS Fol (by kernel_rfl) (by kernel_rfl) (by kernel_rfl) ?_ (fun a w hF hS => ?_)
          · exact obs_nil
          refine wp_ret ?_
          have hm : some ((w64 ((w64 (n1 + (w64 (50 * c_Doubled1)))) + (w64 ((w64 ((w64 (tricks1 - c_Level1)) - 6)) * each1)))), 0) = some r := hm
          obtain rfl := Option.some.inj hm
          exact ret2 (t := 6) (u := 7) (v := .int .i64 (w64 ((w64 (n1 + (w64 (50 * c_Doubled1)))) + (w64 ((w64 ((w64 (tricks1 - c_Level1)) - 6)) * each1))))) (v' := .int .i64 0) hF rfl (by kernel_rfl) (by kernel_rfl) ⟨rfl, hS⟩
        · refine reg [⟨false, [], vS (Instr.loadAt 3 (.pointer (some ⟨g1, 2, none⟩))), .int .i64 c_Doubled1⟩] [none, some (.int .i64 c_Doubled1), none] [1, 3, 8, 9, 10, 116] [pl 1 (.bool vulnerable1), pl 3 (.pointer (some ⟨g1, 0, none⟩)), pl 8 (.int .i64 (w64 ((w64 (tricks1 - c_Level1)) - 6))), pl 9 (.int .i64 r2), pl 10 (.int .i64 (w64 (n1 + (w64 (50 * c_Doubled1))))), pl 116 (.bool (decide ((0 : Int) < c_Doubled1)))] hF hS Fol (by kernel_rfl) (by kernel_rfl) (by kernel_rfl) ?_ (fun a w hF hS => ?_)
          · exact obs_cons (ob_load Agg3 (fun _ _ hS => (hS.at_ 0 rfl).cell rfl)) <| obs_nil
          refine cond_ev (t := 116) (b := decide ((0 : Int) < c_Doubled1)) hF (by kernel_rfl) (fun hb => ?_) (fun hb => ?_)
          · replace hm := if_t hm hb
            obtain ⟨r8, hr8, hm⟩ := call_b hm
            refine reg1 [⟨false, [], callFunc 65 #[.bool vulnerable1, .int .i64 200, .int .i64 100], .int .i64 r8⟩, ⟨false, [], vS (Instr.loadAt 3 (.pointer (some ⟨g1, 2, none⟩))), .int .i64 c_Doubled1⟩] [none, some (.int .i64 r8), none, some (.int .i64 c_Doubled1), none, none] [8, 9, 10] [pl 8 (.int .i64 (w64 ((w64 (tricks1 - c_Level1)) - 6))), pl 9 (.int .i64 (w64 (r8 * c_Doubled1))), pl 10 (.int .i64 (w64 (n1 + (w64 (50 * c_Doubled1)))))] hF hS Fol (by kernel_rfl) (by kernel_rfl) (by kernel_rfl) ?_ (fun a w hF hS => ?_)
            · exact obs_cons (ob_call Try.func65 (by kernel_rfl) rfl (fun _ _ hS => quiet_of hS (bridge_pick_w hr8 ))) <| obs_cons (ob_load Agg3 (fun _ _ hS => (hS.at_ 0 rfl).cell rfl)) <| obs_nil
            refine then_n ?_
            have hS := hS.pick [] (by decide)
            exact ⟨(w64 (r8 * c_Doubled1)), hF.weak [8, 9, 10] (by kernel_rfl), hS, hm⟩
          · replace hm := if_f hm hb
            refine wp_skip ?_
            refine then_n ?_
            have hS := hS.pick [] (by decide)
            exact ⟨r2, hF.weak [8, 9, 10] (by kernel_rfl), hS, hm⟩
      · refine reg [⟨false, [], vS (Instr.loadAt 3 (.pointer (some ⟨g1, 0, none⟩))), .int .i64 c_Level1⟩] [none, some (.int .i64 c_Level1)] [1, 3, 8, 9, 10, 96] [pl 1 (.bool vulnerable1), pl 3 (.pointer (some ⟨g1, 0, none⟩)), pl 8 (.int .i64 (w64 ((w64 (tricks1 - c_Level1)) - 6))), pl 9 (.int .i64 r2), pl 10 (.int .i64 (w64 ((shlK .i64 (w64 ((w64 (c_Level1 * r2)) + r3)) c_Doubled1) + r5))), pl 96 (.int .i64 c_Level1)] hF hS Fol (by kernel_rfl) (by kernel_rfl) (by kernel_rfl) ?_ (fun a w hF hS => ?_)
        · exact obs_cons (ob_load Agg3 (fun _ _ hS => (hS.at_ 0 rfl).cell rfl)) <| obs_nil
        refine wp_block ?_
        refine reg [] [] [1, 3, 8, 9, 10, 96, 97] [pl 1 (.bool vulnerable1), pl 3 (.pointer (some ⟨g1, 0, none⟩)), pl 8 (.int .i64 (w64 ((w64 (tricks1 - c_Level1)) - 6))), pl 9 (.int .i64 r2), pl 10 (.int .i64 (w64 ((shlK .i64 (w64 ((w64 (c_Level1 * r2)) + r3)) c_Doubled1) + r5))), pl 96 (.int .i64 c_Level1), pl 97 (.bool (c_Level1 == 6))] hF hS Fol (by kernel_rfl) (by kernel_rfl) (by kernel_rfl) ?_ (fun a w hF hS => ?_)
        · exact obs_nil
        refine cond_ev (t := 97) (b := (c_Level1 == 6)) hF (by kernel_rfl) (fun hb => ?_) (fun hb => ?_)
        · replace hm := if_t hm hb
          obtain ⟨r6, hr6, hm⟩ := call_b hm
          refine reg1 [⟨false, [], callFunc 65 #[.bool vulnerable1, .int .i64 750, .int .i64 500], .int .i64 r6⟩] [none, none, some (.int .i64 r6), none, none] [1, 3, 8, 9, 10] [pl 1 (.bool vulnerable1), pl 3 (.pointer (some ⟨g1, 0, none⟩)), pl 8 (.int .i64 (w64 ((w64 (tricks1 - c_Level1)) - 6))), pl 9 (.int .i64 r2), pl 10 (.int .i64 (w64 ((w64 ((shlK .i64 (w64 ((w64 (c_Level1 * r2)) + r3)) c_Doubled1) + r5)) + r6)))] hF hS Fol (by kernel_rfl) (by kernel_rfl) (by kernel_rfl) ?_ (fun a w hF hS => ?_)
          · exact obs_cons (ob_call Try.func65 (by kernel_rfl) rfl (fun _ _ hS => quiet_of hS (bridge_pick_w hr6 ))) <| obs_nil
          refine block_n ?_
          refine then_n ?_
          exact ⟨(w64 ((w64 ((shlK .i64 (w64 ((w64 (c_Level1 * r2)) + r3)) c_Doubled1) + r5)) + r6)), hF.weak [1, 3, 8, 9, 10] (by kernel_rfl), hS, hm⟩
        · replace hm := if_f hm hb
          refine reg [] [] [1, 3, 8, 9, 10, 103] [pl 1 (.bool vulnerable1), pl 3 (.pointer (some ⟨g1, 0, none⟩)), pl 8 (.int .i64 (w64 ((w64 (tricks1 - c_Level1)) - 6))), pl 9 (.int .i64 r2), pl 10 (.int .i64 (w64 ((shlK .i64 (w64 ((w64 (c_Level1 * r2)) + r3)) c_Doubled1) + r5))), pl 103 (.bool (c_Level1 == 7))] hF hS Fol (by kernel_rfl) (by kernel_rfl) (by kernel_rfl) ?_ (fun a w hF hS => ?_)
          · exact obs_nil
          refine cond_ev (t := 103) (b := (c_Level1 == 7)) hF (by kernel_rfl) (fun hb => ?_) (fun hb => ?_)
          · replace hm := if_t hm hb
            obtain ⟨r7, hr7, hm⟩ := call_b hm
            refine reg1 [⟨false, [], callFunc 65 #[.bool vulnerable1, .int .i64 1500, .int .i64 1000], .int .i64 r7⟩] [none, none, some (.int .i64 r7), none, none] [1, 3, 8, 9, 10] [pl 1 (.bool vulnerable1), pl 3 (.pointer (some ⟨g1, 0, none⟩)), pl 8 (.int .i64 (w64 ((w64 (tricks1 - c_Level1)) - 6))), pl 9 (.int .i64 r2), pl 10 (.int .i64 (w64 ((w64 ((shlK .i64 (w64 ((w64 (c_Level1 * r2)) + r3)) c_Doubled1) + r5)) + r7)))] hF hS Fol (by kernel_rfl) (by kernel_rfl) (by kernel_rfl) ?_ (fun a w hF hS => ?_)
            · exact obs_cons (ob_call Try.func65 (by kernel_rfl) rfl (fun _ _ hS => quiet_of hS (bridge_pick_w hr7 ))) <| obs_nil
            refine block_n ?_
            refine then_n ?_
            exact ⟨(w64 ((w64 ((shlK .i64 (w64 ((w64 (c_Level1 * r2)) + r3)) c_Doubled1) + r5)) + r7)), hF.weak [1, 3, 8, 9, 10] (by kernel_rfl), hS, hm⟩
          · replace hm := if_f hm hb
            refine wp_skip ?_
            refine block_n ?_
            refine then_n ?_
            exact ⟨(w64 ((shlK .i64 (w64 ((w64 (c_Level1 * r2)) + r3)) c_Doubled1) + r5)), hF.weak [1, 3, 8, 9, 10] (by kernel_rfl), hS, hm⟩
    · refine reg [] [] [1, 3, 8, 63] [pl 1 (.bool vulnerable1), pl 3 (.pointer (some ⟨g1, 0, none⟩)), pl 8 (.int .i64 (w64 ((w64 (tricks1 - c_Level1)) - 6))), pl 63 (.bool (decide ((w64 ((w64 (tricks1 - c_Level1)) - 6)) < 0)))] hF hS Fol (by kernel_rfl) (by kernel_rfl) (by kernel_rfl) ?_ (fun a w hF hS => ?_)
      · exact obs_nil
      refine cond_ev (t := 63) (b := decide ((w64 ((w64 (tricks1 - c_Level1)) - 6)) < 0)) hF (by kernel_rfl) (fun hb => ?_) (fun hb => ?_)
      · replace hm := if_t hm hb
        obtain ⟨r1, hr1, hm⟩ := call_b hm
        refine reg [⟨false, [], vS (Instr.loadAt 3 (.pointer (some ⟨g1, 2, none⟩))), .int .i64 c_Doubled1⟩, ⟨false, [], callFunc 64 #[.int .i64 (w64 (0 - (w64 ((w64 (tricks1 - c_Level1)) - 6)))), .int .i64 c_Doubled1, .bool vulnerable1], .int .i64 r1⟩] [none, none, none, some (.int .i64 c_Doubled1), none, some (.int .i64 r1), none, none, none] [6, 7] [pl 6 (.int .i64 (w64 (0 - r1))), pl 7 (.int .i64 0)] hF hS Fol (by kernel_rfl) (by kernel_rfl) (by kernel_rfl) ?_ (fun a w hF hS => ?_)
        · exact obs_cons (ob_load Agg3 (fun _ _ hS => (hS.at_ 0 rfl).cell rfl)) <| obs_cons (ob_call Try.func64 (by kernel_rfl) rfl (fun _ _ hS => quiet_of hS (bridge_failed_w hr1 ))) <| obs_nil
        refine wp_ret ?_
        refine then_r ?_
        have hS := hS.pick [] (by decide)
        have hm : some ((w64 (0 - r1)), 0) = some r := hm
        obtain rfl := Option.some.inj hm
        exact ret2 (t := 6) (u := 7) (v := .int .i64 (w64 (0 - r1))) (v' := .int .i64 0) hF rfl (by kernel_rfl) (by kernel_rfl) ⟨rfl, hS⟩
      · replace hm := if_f hm hb
        refine wp_skip ?_
        refine then_n ?_
        exact ⟨hF.weak [1, 3, 8] (by kernel_rfl), hS, hm⟩
  · refine reg [⟨false, [], vS (Instr.loadAt 3 (.pointer (some ⟨g1, 0, none⟩))), .int .i64 c_Level1⟩, ⟨false, [(decide (c_Level1 < 1), false)], vS (Instr.loadAt 3 (.pointer (some ⟨g1, 0, none⟩))), .int .i64 c_Level1⟩, ⟨false, [((decide (c_Level1 < 1)) || (decide ((7 : Int) < c_Level1)), false)], vS (Instr.loadAt 3 (.pointer (some ⟨g1, 1, none⟩))), .int .i64 c_Strain1⟩, ⟨false, [(((decide (c_Level1 < 1)) || (decide ((7 : Int) < c_Level1))) || (decide (c_Strain1 < 0)), false)], vS (Instr.loadAt 3 (.pointer (some ⟨g1, 1, none⟩))), .int .i64 c_Strain1⟩, ⟨false, [((((decide (c_Level1 < 1)) || (decide ((7 : Int) < c_Level1))) || (decide (c_Strain1 < 0))) || (decide ((4 : Int) < c_Strain1)), false)], vS (Instr.loadAt 3 (.pointer (some ⟨g1, 2, none⟩))), .int .i64 c_Doubled1⟩, ⟨false, [(((((decide (c_Level1 < 1)) || (decide ((7 : Int) < c_Level1))) || (decide (c_Strain1 < 0))) || (decide ((4 : Int) < c_Strain1))) || (decide (c_Doubled1 < 0)), false)], vS (Instr.loadAt 3 (.pointer (some ⟨g1, 2, none⟩))), .int .i64 c_Doubled1⟩, ⟨false, [((((((decide (c_Level1 < 1)) || (decide ((7 : Int) < c_Level1))) || (decide (c_Strain1 < 0))) || (decide ((4 : Int) < c_Strain1))) || (decide (c_Doubled1 < 0))) || (decide ((2 : Int) < c_Doubled1)), false)], vS (Instr.loadAt 3 (.pointer (some ⟨g1, 3, none⟩))), .int .i64 c_Declarer1⟩, ⟨false, [(((((((decide (c_Level1 < 1)) || (decide ((7 : Int) < c_Level1))) || (decide (c_Strain1 < 0))) || (decide ((4 : Int) < c_Strain1))) || (decide (c_Doubled1 < 0))) || (decide ((2 : Int) < c_Doubled1))) || (decide (c_Declarer1 < 0)), false)], vS (Instr.loadAt 3 (.pointer (some ⟨g1, 3, none⟩))), .int .i64 c_Declarer1⟩] [none, some (.int .i64 c_Level1), none, none, none, some (.int .i64 c_Level1), none, none, none, none, some (.int .i64 c_Strain1), none, none, none, none, some (.int .i64 c_Strain1), none, none, none, none, some (.int .i64 c_Doubled1), none, none, none, none, some (.int .i64 c_Doubled1), none, none, none, none, some (.int .i64 c_Declarer1), none, none, none, none, some (.int .i64 c_Declarer1), none, none, none, none, none, none, none, none, none, none] [1, 2, 3, 56] [pl 1 (.bool vulnerable1), pl 2 (.int .i64 tricks1), pl 3 (.pointer (some ⟨g1, 0, none⟩)), pl 56 (.bool ((((((((((decide (c_Level1 < 1)) || (decide ((7 : Int) < c_Level1))) || (decide (c_Strain1 < 0))) || (decide ((4 : Int) < c_Strain1))) || (decide (c_Doubled1 < 0))) || (decide ((2 : Int) < c_Doubled1))) || (decide (c_Declarer1 < 0))) || (decide ((3 : Int) < c_Declarer1))) || (decide (tricks1 < 0))) || (decide ((13 : Int) < tricks1))))] hF hS Fol (by kernel_rfl) (by kernel_rfl) (by kernel_rfl) ?_ (fun a w hF hS => ?_)
    · exact obs_cons (ob_load Agg3 (fun _ _ hS => (hS.at_ 0 rfl).cell rfl)) <| obs_cons (ob_load Agg3 (fun _ _ hS => (hS.at_ 0 rfl).cell rfl)) <| obs_cons (ob_load Agg3 (fun _ _ hS => (hS.at_ 0 rfl).cell rfl)) <| obs_cons (ob_load Agg3 (fun _ _ hS => (hS.at_ 0 rfl).cell rfl)) <| obs_cons (ob_load Agg3 (fun _ _ hS => (hS.at_ 0 rfl).cell rfl)) <| obs_cons (ob_load Agg3 (fun _ _ hS => (hS.at_ 0 rfl).cell rfl)) <| obs_cons (ob_load Agg3 (fun _ _ hS => (hS.at_ 0 rfl).cell rfl)) <| obs_cons (ob_load Agg3 (fun _ _ hS => (hS.at_ 0 rfl).cell rfl)) <| obs_nil
    refine cond_ev (t := 56) (b := (((((((((decide (c_Level1 < 1)) || (decide ((7 : Int) < c_Level1))) || (decide (c_Strain1 < 0))) || (decide ((4 : Int) < c_Strain1))) || (decide (c_Doubled1 < 0))) || (decide ((2 : Int) < c_Doubled1))) || (decide (c_Declarer1 < 0))) || (decide ((3 : Int) < c_Declarer1))) || (decide (tricks1 < 0))) || (decide ((13 : Int) < tricks1))) hF (by kernel_rfl) (fun hb => ?_) (fun hb => ?_)
    · replace hm := if_t hm hb
      refine reg [] [] [6, 7] [pl 6 (.int .i64 0), pl 7 (.int .i64 3)] hF hS Fol (by kernel_rfl) (by kernel_rfl) (by kernel_rfl) ?_ (fun a w hF hS => ?_)
      · exact obs_nil
      refine wp_ret ?_
      refine then_r ?_
      have hS := hS.pick [] (by decide)
      have hm : some (0, 3) = some r := hm
      obtain rfl := Option.some.inj hm
      exact ret2 (t := 6) (u := 7) (v := .int .i64 0) (v' := .int .i64 3) hF rfl (by kernel_rfl) (by kernel_rfl) ⟨rfl, hS⟩
    · replace hm := if_f hm hb
      refine wp_skip ?_
      refine then_n ?_
      exact ⟨hF.weak [1, 2, 3] (by kernel_rfl), hS, hm⟩

noncomputable def gameroomref_within_m (n1 : Int) (low1 : Int) (high1 : Int) : Option Bool :=
  some ((decide (low1 ≤ n1)) && (decide (n1 ≤ high1)))

noncomputable def gameroomref_within_mN (N : Nat) (n1 : Int) (low1 : Int) (high1 : Int) : Option Bool :=
  some ((decide (low1 ≤ n1)) && (decide (n1 ≤ high1)))

theorem gameroomref_within_m_le (N : Nat) (n1 : Int) (low1 : Int) (high1 : Int) : Le (gameroomref_within_mN N n1 low1 high1) (gameroomref_within_m n1 low1 high1) := by
  unfold gameroomref_within_mN gameroomref_within_m
  repeat' (first | with_reducible exact Le.refl _ | refine Le.asrt ?_ | refine Le.ite ?_ ?_ | refine Le.bind ?_ (fun _ => ?_) | refine Le.loop (fun _ => ?_))

set_option maxRecDepth 100000 in
set_option maxHeartbeats 4000000 in
theorem gameroomref_within_w {n1 : Int} {low1 : Int} {high1 : Int} {r : Bool} {w0 : World} (hm : gameroomref_within_m n1 low1 high1 = some r) :
    Calls Try.prog 60 #[.int .i64 n1, .int .i64 low1, .int .i64 high1] w0 fun e w' => e = .returned (.bool r) ∧ Sep w0 w0.heap.size w' [] := by
  unfold gameroomref_within_m at hm
  replace hm := start_b hm
  refine enterS (l := [.int .i64 n1, .int .i64 low1, .int .i64 high1]) (n := 15) Try.func60 rfl rfl (by simp) (fun a w hF hS => ?_)
  refine reg [] [] [0, 1, 2] [pl 0 (.int .i64 n1), pl 1 (.int .i64 low1), pl 2 (.int .i64 high1)] hF hS Fol (by kernel_rfl) (by kernel_rfl) (by kernel_rfl) ?_ (fun a w hF hS => ?_)
  · exact obs_nil
  refine reg [] [] [6] [pl 6 (.bool ((decide (low1 ≤ n1)) && (decide (n1 ≤ high1))))] hF hS Fol (by kernel_rfl) (by kernel_rfl) (by kernel_rfl) ?_ (fun a w hF hS => ?_)
  · exact obs_nil
  refine wp_ret ?_
  have hm : some ((decide (low1 ≤ n1)) && (decide (n1 ≤ high1))) = some r := hm
  obtain rfl := Option.some.inj hm
  exact ret1 (t := 6) (v := .bool ((decide (low1 ≤ n1)) && (decide (n1 ≤ high1)))) hF rfl (by kernel_rfl) ⟨rfl, hS⟩

noncomputable def gameroomref_ContractMay_m (c_Level1 : Int) (c_Strain1 : Int) (c_Doubled1 : Int) (c_Declarer1 : Int) (tricks1 : Int) : Option Bool :=
  (gameroomref_within_m c_Level1 1 7).bind fun r1 => ((if r1 then gameroomref_within_m c_Strain1 0 4 else some false)).bind fun r2 => ((if (r1 && r2) then gameroomref_within_m c_Doubled1 0 2 else some false)).bind fun r3 => ((if ((r1 && r2) && r3) then gameroomref_within_m c_Declarer1 0 3 else some false)).bind fun r4 => ((if (((r1 && r2) && r3) && r4) then gameroomref_within_m tricks1 0 13 else some false)).bind fun r5 => some ((((r1 && r2) && r3) && r4) && r5)

noncomputable def gameroomref_ContractMay_mN (N : Nat) (c_Level1 : Int) (c_Strain1 : Int) (c_Doubled1 : Int) (c_Declarer1 : Int) (tricks1 : Int) : Option Bool :=
  (gameroomref_within_mN N c_Level1 1 7).bind fun r1 => ((if r1 then gameroomref_within_mN N c_Strain1 0 4 else some false)).bind fun r2 => ((if (r1 && r2) then gameroomref_within_mN N c_Doubled1 0 2 else some false)).bind fun r3 => ((if ((r1 && r2) && r3) then gameroomref_within_mN N c_Declarer1 0 3 else some false)).bind fun r4 => ((if (((r1 && r2) && r3) && r4) then gameroomref_within_mN N tricks1 0 13 else some false)).bind fun r5 => some ((((r1 && r2) && r3) && r4) && r5)

theorem gameroomref_ContractMay_m_le (N : Nat) (c_Level1 : Int) (c_Strain1 : Int) (c_Doubled1 : Int) (c_Declarer1 : Int) (tricks1 : Int) : Le (gameroomref_ContractMay_mN N c_Level1 c_Strain1 c_Doubled1 c_Declarer1 tricks1) (gameroomref_ContractMay_m c_Level1 c_Strain1 c_Doubled1 c_Declarer1 tricks1) := by
  unfold gameroomref_ContractMay_mN gameroomref_ContractMay_m
  repeat' (first | with_reducible exact Le.refl _ | (with_reducible exact gameroomref_within_m_le _ _ _ _) | refine Le.asrt ?_ | refine Le.ite ?_ ?_ | refine Le.bind ?_ (fun _ => ?_) | refine Le.loop (fun _ => ?_))

set_option maxRecDepth 100000 in
set_option maxHeartbeats 4000000 in
theorem gameroomref_ContractMay_w {c_Level1 : Int} {c_Strain1 : Int} {c_Doubled1 : Int} {c_Declarer1 : Int} {tricks1 : Int} {r : Bool} {w0 : World} (hm : gameroomref_ContractMay_m c_Level1 c_Strain1 c_Doubled1 c_Declarer1 tricks1 = some r) :
    Calls Try.prog 28 #[.agg #[.int .i64 c_Level1, .int .i64 c_Strain1, .int .i64 c_Doubled1, .int .i64 c_Declarer1], .int .i64 tricks1] w0 fun e w' => e = .returned (.bool r) ∧ Sep w0 w0.heap.size w' [] := by
  unfold gameroomref_ContractMay_m at hm
  replace hm := start_b hm
  refine enterS (l := [.agg #[.int .i64 c_Level1, .int .i64 c_Strain1, .int .i64 c_Doubled1, .int .i64 c_Declarer1], .int .i64 tricks1]) (n := 27) Try.func28 rfl rfl (by simp) (fun a w hF hS => ?_)
  refine seqR ?_
  refine at_do (d := 2) (s := vS (Instr.box 47 (.agg #[.int .i64 c_Level1, .int .i64 c_Strain1, .int .i64 c_Doubled1, .int .i64 c_Declarer1]))) (v := .pointer (some ⟨w.heap.size, 0, none⟩)) (w' := w.alloc (.cells #[.int .i64 c_Level1, .int .i64 c_Strain1, .int .i64 c_Doubled1, .int .i64 c_Declarer1] 47)) hF (by kernel_rfl) (by kernel_rfl) (by kernel_rfl) (fun a hF => ?_)
  have hS : Sep w0 w0.heap.size (w.alloc (.cells #[.int .i64 c_Level1, .int .i64 c_Strain1, .int .i64 c_Doubled1, .int .i64 c_Declarer1] 47)) (blk w.heap.size 47 #[.int .i64 c_Level1, .int .i64 c_Strain1, .int .i64 c_Doubled1, .int .i64 c_Declarer1] :: []) := hS.box 47 #[.int .i64 c_Level1, .int .i64 c_Strain1, .int .i64 c_Doubled1, .int .i64 c_Declarer1]
  generalize w.heap.size = g1 at hF hS
  generalize w.alloc (.cells #[.int .i64 c_Level1, .int .i64 c_Strain1, .int .i64 c_Doubled1, .int .i64 c_Declarer1] 47) = w at hS ⊢
  refine at_run 1 [] [] [1, 2] [pl 1 (.int .i64 tricks1), pl 2 (.pointer (some ⟨g1, 0, none⟩))] hF hS (by kernel_rfl) (by kernel_rfl) ?_ (fun a w hF hS => ?_)
  · exact obs_nil
  refine at_end [1, 2] [pl 1 (.int .i64 tricks1), pl 2 (.pointer (some ⟨g1, 0, none⟩))] hF rfl (by kernel_rfl) (fun hF => ?_)
  refine then_n ?_
  obtain ⟨r1, hr1, hm⟩ := call_b hm
  obtain ⟨r2, hr2, hm⟩ := call_b hm
  obtain ⟨r3, hr3, hm⟩ := call_b hm
  obtain ⟨r4, hr4, hm⟩ := call_b hm
  obtain ⟨r5, hr5, hm⟩ := call_b hm
  refine reg [⟨false, [], vS (Instr.loadAt 3 (.pointer (some ⟨g1, 0, none⟩))), .int .i64 c_Level1⟩, ⟨false, [], callFunc 60 #[.int .i64 c_Level1, .int .i64 1, .int .i64 7], .bool r1⟩, ⟨false, [(r1, true)], vS (Instr.loadAt 3 (.pointer (some ⟨g1, 1, none⟩))), .int .i64 c_Strain1⟩, ⟨false, [(r1, true)], callFunc 60 #[.int .i64 c_Strain1, .int .i64 0, .int .i64 4], .bool r2⟩, ⟨false, [(r1 && r2, true)], vS (Instr.loadAt 3 (.pointer (some ⟨g1, 2, none⟩))), .int .i64 c_Doubled1⟩, ⟨false, [(r1 && r2, true)], callFunc 60 #[.int .i64 c_Doubled1, .int .i64 0, .int .i64 2], .bool r3⟩, ⟨false, [((r1 && r2) && r3, true)], vS (Instr.loadAt 3 (.pointer (some ⟨g1, 3, none⟩))), .int .i64 c_Declarer1⟩, ⟨false, [((r1 && r2) && r3, true)], callFunc 60 #[.int .i64 c_Declarer1, .int .i64 0, .int .i64 3], .bool r4⟩, ⟨false, [(((r1 && r2) && r3) && r4, true)], callFunc 60 #[.int .i64 tricks1, .int .i64 0, .int .i64 13], .bool r5⟩] [none, some (.int .i64 c_Level1), some (.bool r1), none, none, some (.int .i64 c_Strain1), some (.bool r2), none, none, none, some (.int .i64 c_Doubled1), some (.bool r3), none, none, none, some (.int .i64 c_Declarer1), some (.bool r4), none, none, none, some (.bool r5), none, none] [4] [pl 4 (.bool ((((r1 && r2) && r3) && r4) && r5))] hF hS Fol (by kernel_rfl) (by kernel_rfl) (by kernel_rfl) ?_ (fun a w hF hS => ?_)
  · exact obs_cons (ob_load Agg3 (fun _ _ hS => (hS.at_ 0 rfl).cell rfl)) <| obs_cons (ob_call Try.func60 (by kernel_rfl) rfl (fun _ _ hS => quiet_of hS (gameroomref_within_w hr1 ))) <| obs_cons (ob_load Agg3 (fun _ _ hS => (hS.at_ 0 rfl).cell rfl)) <| obs_cons (ob_call Try.func60 (by kernel_rfl) rfl (fun hy _ hS => quiet_of hS (gameroomref_within_w (ite_some hr2 (by rw [show r1 = true from hy (r1, true) (by simp)]; try rfl)) ))) <| obs_cons (ob_load Agg3 (fun _ _ hS => (hS.at_ 0 rfl).cell rfl)) <| obs_cons (ob_call Try.func60 (by kernel_rfl) rfl (fun hy _ hS => quiet_of hS (gameroomref_within_w (ite_some hr3 (by rw [show (r1 && r2) = true from hy (r1 && r2, true) (by simp)]; try rfl)) ))) <| obs_cons (ob_load Agg3 (fun _ _ hS => (hS.at_ 0 rfl).cell rfl)) <| obs_cons (ob_call Try.func60 (by kernel_rfl) rfl (fun hy _ hS => quiet_of hS (gameroomref_within_w (ite_some hr4 (by rw [show ((r1 && r2) && r3) = true from hy ((r1 && r2) && r3, true) (by simp)]; try rfl)) ))) <| obs_cons (ob_call Try.func60 (by kernel_rfl) rfl (fun hy _ hS => quiet_of hS (gameroomref_within_w (ite_some hr5 (by rw [show (((r1 && r2) && r3) && r4) = true from hy (((r1 && r2) && r3) && r4, true) (by simp)]; try rfl)) ))) <| obs_nil
  refine wp_ret ?_
  have hS := hS.pick [] (by decide)
  have hm : some ((((r1 && r2) && r3) && r4) && r5) = some r := hm
  obtain rfl := Option.some.inj hm
  exact ret1 (t := 4) (v := .bool ((((r1 && r2) && r3) && r4) && r5)) hF rfl (by kernel_rfl) ⟨rfl, hS⟩

noncomputable def gameroomref_ScoreOf_J2 (n1 : Int) : Option Int :=
  some (w64 (0 - n1))

noncomputable def gameroomref_ScoreOf_K1 : Int → Option Int :=
  fun (x : Int) => match x with | n1 => gameroomref_ScoreOf_J2 n1

noncomputable def gameroomref_ScoreOf_J4 (i1 : Int) (n3 : Int) : Option (St (Int × Int) Int) :=
  some (.next (n3, (w64 (i1 + 1))))

noncomputable def gameroomref_ScoreOf_J3 (c_Doubled1 : Int) (vulnerable1 : Bool) (n2 : Int) (i1 : Int) : Option (St (Int × Int) Int) :=
  if ((c_Doubled1 == 0) && vulnerable1) then ((gameroomref_ScoreOf_J4 i1) (w64 (n2 + 100))) else (if (c_Doubled1 == 0) then ((gameroomref_ScoreOf_J4 i1) (w64 (n2 + 50))) else (if (vulnerable1 && (i1 == 1)) then ((gameroomref_ScoreOf_J4 i1) (w64 (n2 + (w64 (200 * c_Doubled1))))) else (if (vulnerable1 || (decide ((3 : Int) < i1))) then ((gameroomref_ScoreOf_J4 i1) (w64 (n2 + (w64 (300 * c_Doubled1))))) else (if (i1 == 1) then ((gameroomref_ScoreOf_J4 i1) (w64 (n2 + (w64 (100 * c_Doubled1))))) else ((gameroomref_ScoreOf_J4 i1) (w64 (n2 + (w64 (200 * c_Doubled1)))))))))

noncomputable def gameroomref_ScoreOf_L1 (c_Level1 : Int) (c_Doubled1 : Int) (vulnerable1 : Bool) (tricks1 : Int) : (Int × Int) → Option (St (Int × Int) Int) :=
  fun (x : (Int × Int)) => match x with | (n2, i1) => if (decide (i1 ≤ (w64 ((w64 (c_Level1 + 6)) - tricks1)))) then ((gameroomref_ScoreOf_J3 c_Doubled1 vulnerable1 n2 i1)) else (some (.done n2))

noncomputable def gameroomref_ScoreOf_J15 (c_Level1 : Int) (c_Doubled1 : Int) (tricks1 : Int) (n11 : Int) : Option Int :=
  some (w64 ((w64 (n11 + (w64 (50 * c_Doubled1)))) + (w64 ((w64 ((w64 (tricks1 - (w64 (c_Level1 + 6)))) * 100)) * c_Doubled1))))

noncomputable def gameroomref_ScoreOf_J14 (c_Level1 : Int) (c_Doubled1 : Int) (vulnerable1 : Bool) (tricks1 : Int) (n11 : Int) : Option Int :=
  if vulnerable1 then (some (w64 ((w64 (n11 + (w64 (50 * c_Doubled1)))) + (w64 ((w64 ((w64 (tricks1 - (w64 (c_Level1 + 6)))) * 200)) * c_Doubled1))))) else ((gameroomref_ScoreOf_J15 c_Level1 c_Doubled1 tricks1 n11))

noncomputable def gameroomref_ScoreOf_J13 (c_Level1 : Int) (c_Doubled1 : Int) (vulnerable1 : Bool) (tricks1 : Int) (each1 : Int) (n11 : Int) : Option Int :=
  if (c_Doubled1 == 0) then (some (w64 ((w64 (n11 + (w64 (50 * c_Doubled1)))) + (w64 ((w64 (tricks1 - (w64 (c_Level1 + 6)))) * each1))))) else ((gameroomref_ScoreOf_J14 c_Level1 c_Doubled1 vulnerable1 tricks1 n11))

noncomputable def gameroomref_ScoreOf_J12 (c_Level1 : Int) (c_Doubled1 : Int) (vulnerable1 : Bool) (tricks1 : Int) (each1 : Int) (n10 : Int) : Option Int :=
  if ((c_Level1 == 7) && (!vulnerable1)) then ((gameroomref_ScoreOf_J13 c_Level1 c_Doubled1 vulnerable1 tricks1 each1) (w64 (n10 + 1000))) else ((gameroomref_ScoreOf_J13 c_Level1 c_Doubled1 vulnerable1 tricks1 each1) n10)

noncomputable def gameroomref_ScoreOf_J11 (c_Level1 : Int) (c_Doubled1 : Int) (vulnerable1 : Bool) (tricks1 : Int) (each1 : Int) (n9 : Int) : Option Int :=
  if ((c_Level1 == 7) && vulnerable1) then ((gameroomref_ScoreOf_J12 c_Level1 c_Doubled1 vulnerable1 tricks1 each1) (w64 (n9 + 1500))) else ((gameroomref_ScoreOf_J12 c_Level1 c_Doubled1 vulnerable1 tricks1 each1) n9)

noncomputable def gameroomref_ScoreOf_J10 (c_Level1 : Int) (c_Doubled1 : Int) (vulnerable1 : Bool) (tricks1 : Int) (each1 : Int) (n8 : Int) : Option Int :=
  if ((c_Level1 == 6) && (!vulnerable1)) then ((gameroomref_ScoreOf_J11 c_Level1 c_Doubled1 vulnerable1 tricks1 each1) (w64 (n8 + 500))) else ((gameroomref_ScoreOf_J11 c_Level1 c_Doubled1 vulnerable1 tricks1 each1) n8)

noncomputable def gameroomref_ScoreOf_J9 (c_Level1 : Int) (c_Doubled1 : Int) (vulnerable1 : Bool) (tricks1 : Int) (each1 : Int) (n7 : Int) : Option Int :=
  if ((c_Level1 == 6) && vulnerable1) then ((gameroomref_ScoreOf_J10 c_Level1 c_Doubled1 vulnerable1 tricks1 each1) (w64 (n7 + 750))) else ((gameroomref_ScoreOf_J10 c_Level1 c_Doubled1 vulnerable1 tricks1 each1) n7)

noncomputable def gameroomref_ScoreOf_J8 (c_Level1 : Int) (c_Doubled1 : Int) (vulnerable1 : Bool) (tricks1 : Int) (each1 : Int) (n6 : Int) : Option Int :=
  if (decide (n6 < 100)) then ((gameroomref_ScoreOf_J9 c_Level1 c_Doubled1 vulnerable1 tricks1 each1) (w64 (n6 + 50))) else (if vulnerable1 then ((gameroomref_ScoreOf_J9 c_Level1 c_Doubled1 vulnerable1 tricks1 each1) (w64 (n6 + 500))) else ((gameroomref_ScoreOf_J9 c_Level1 c_Doubled1 vulnerable1 tricks1 each1) (w64 (n6 + 300))))

noncomputable def gameroomref_ScoreOf_J7 (c_Level1 : Int) (c_Doubled1 : Int) (vulnerable1 : Bool) (tricks1 : Int) (each1 : Int) (n5 : Int) : Option Int :=
  if (c_Doubled1 == 2) then ((gameroomref_ScoreOf_J8 c_Level1 c_Doubled1 vulnerable1 tricks1 each1) (w64 (4 * n5))) else ((gameroomref_ScoreOf_J8 c_Level1 c_Doubled1 vulnerable1 tricks1 each1) n5)

noncomputable def gameroomref_ScoreOf_J6 (c_Level1 : Int) (c_Doubled1 : Int) (vulnerable1 : Bool) (tricks1 : Int) (each1 : Int) (n4 : Int) : Option Int :=
  if (c_Doubled1 == 1) then ((gameroomref_ScoreOf_J7 c_Level1 c_Doubled1 vulnerable1 tricks1 each1) (w64 (2 * n4))) else ((gameroomref_ScoreOf_J7 c_Level1 c_Doubled1 vulnerable1 tricks1 each1) n4)

noncomputable def gameroomref_ScoreOf_J5 (c_Level1 : Int) (c_Strain1 : Int) (c_Doubled1 : Int) (vulnerable1 : Bool) (tricks1 : Int) (each1 : Int) : Option Int :=
  if (c_Strain1 == 4) then ((gameroomref_ScoreOf_J6 c_Level1 c_Doubled1 vulnerable1 tricks1 each1) (w64 ((w64 (each1 * c_Level1)) + 10))) else ((gameroomref_ScoreOf_J6 c_Level1 c_Doubled1 vulnerable1 tricks1 each1) (w64 (each1 * c_Level1)))

noncomputable def gameroomref_ScoreOf_J1 (c_Level1 : Int) (c_Strain1 : Int) (c_Doubled1 : Int) (vulnerable1 : Bool) (tricks1 : Int) : Option Int :=
  if (decide (c_Strain1 ≤ 1)) then ((gameroomref_ScoreOf_J5 c_Level1 c_Strain1 c_Doubled1 vulnerable1 tricks1) 20) else ((gameroomref_ScoreOf_J5 c_Level1 c_Strain1 c_Doubled1 vulnerable1 tricks1) 30)

noncomputable def gameroomref_ScoreOf_m (c_Level1 : Int) (c_Strain1 : Int) (c_Doubled1 : Int) (c_Declarer1 : Int) (vulnerable1 : Bool) (tricks1 : Int) : Option Int :=
  if (decide (tricks1 < (w64 (c_Level1 + 6)))) then ((loop (gameroomref_ScoreOf_L1 c_Level1 c_Doubled1 vulnerable1 tricks1) (0, 1)).bind gameroomref_ScoreOf_K1) else ((gameroomref_ScoreOf_J1 c_Level1 c_Strain1 c_Doubled1 vulnerable1 tricks1))

noncomputable def gameroomref_ScoreOf_J2N (N : Nat) (n1 : Int) : Option Int :=
  some (w64 (0 - n1))

theorem gameroomref_ScoreOf_J2_le (N : Nat) (n1 : Int) : Le (gameroomref_ScoreOf_J2N N n1) (gameroomref_ScoreOf_J2 n1) := by
  unfold gameroomref_ScoreOf_J2N gameroomref_ScoreOf_J2
  repeat' (first | with_reducible exact Le.refl _ | refine Le.asrt ?_ | refine Le.ite ?_ ?_ | refine Le.bind ?_ (fun _ => ?_) | refine Le.loop (fun _ => ?_))

noncomputable def gameroomref_ScoreOf_K1N (N : Nat) : Int → Option Int :=
  fun (x : Int) => match x with | n1 => (gameroomref_ScoreOf_J2N N) n1

theorem gameroomref_ScoreOf_K1_le (N : Nat) (x : Int) : Le (gameroomref_ScoreOf_K1N N x) (gameroomref_ScoreOf_K1  x) := by
  rcases x with n1
  all_goals
    unfold gameroomref_ScoreOf_K1N gameroomref_ScoreOf_K1
    dsimp only
    repeat' (first | with_reducible exact Le.refl _ | (with_reducible exact gameroomref_ScoreOf_J2_le _ _) | refine Le.asrt ?_ | refine Le.ite ?_ ?_ | refine Le.bind ?_ (fun _ => ?_) | refine Le.loop (fun _ => ?_))

noncomputable def gameroomref_ScoreOf_J4N (N : Nat) (i1 : Int) (n3 : Int) : Option (St (Int × Int) Int) :=
  some (.next (n3, (w64 (i1 + 1))))

theorem gameroomref_ScoreOf_J4_le (N : Nat) (i1 : Int) (n3 : Int) : Le (gameroomref_ScoreOf_J4N N i1 n3) (gameroomref_ScoreOf_J4 i1 n3) := by
  unfold gameroomref_ScoreOf_J4N gameroomref_ScoreOf_J4
  repeat' (first | with_reducible exact Le.refl _ | refine Le.asrt ?_ | refine Le.ite ?_ ?_ | refine Le.bind ?_ (fun _ => ?_) | refine Le.loop (fun _ => ?_))

noncomputable def gameroomref_ScoreOf_J3N (N : Nat) (c_Doubled1 : Int) (vulnerable1 : Bool) (n2 : Int) (i1 : Int) : Option (St (Int × Int) Int) :=
  if ((c_Doubled1 == 0) && vulnerable1) then ((gameroomref_ScoreOf_J4N N i1) (w64 (n2 + 100))) else (if (c_Doubled1 == 0) then ((gameroomref_ScoreOf_J4N N i1) (w64 (n2 + 50))) else (if (vulnerable1 && (i1 == 1)) then ((gameroomref_ScoreOf_J4N N i1) (w64 (n2 + (w64 (200 * c_Doubled1))))) else (if (vulnerable1 || (decide ((3 : Int) < i1))) then ((gameroomref_ScoreOf_J4N N i1) (w64 (n2 + (w64 (300 * c_Doubled1))))) else (if (i1 == 1) then ((gameroomref_ScoreOf_J4N N i1) (w64 (n2 + (w64 (100 * c_Doubled1))))) else ((gameroomref_ScoreOf_J4N N i1) (w64 (n2 + (w64 (200 * c_Doubled1)))))))))

theorem gameroomref_ScoreOf_J3_le (N : Nat) (c_Doubled1 : Int) (vulnerable1 : Bool) (n2 : Int) (i1 : Int) : Le (gameroomref_ScoreOf_J3N N c_Doubled1 vulnerable1 n2 i1) (gameroomref_ScoreOf_J3 c_Doubled1 vulnerable1 n2 i1) := by
  unfold gameroomref_ScoreOf_J3N gameroomref_ScoreOf_J3
  repeat' (first | with_reducible exact Le.refl _ | (with_reducible exact gameroomref_ScoreOf_J4_le _ _ _) | refine Le.asrt ?_ | refine Le.ite ?_ ?_ | refine Le.bind ?_ (fun _ => ?_) | refine Le.loop (fun _ => ?_))

noncomputable def gameroomref_ScoreOf_L1N (N : Nat) (c_Level1 : Int) (c_Doubled1 : Int) (vulnerable1 : Bool) (tricks1 : Int) : (Int × Int) → Option (St (Int × Int) Int) :=
  fun (x : (Int × Int)) => match x with | (n2, i1) => if (decide (i1 ≤ (w64 ((w64 (c_Level1 + 6)) - tricks1)))) then ((gameroomref_ScoreOf_J3N N c_Doubled1 vulnerable1 n2 i1)) else (some (.done n2))

theorem gameroomref_ScoreOf_L1_le (N : Nat) (c_Level1 : Int) (c_Doubled1 : Int) (vulnerable1 : Bool) (tricks1 : Int) (x : (Int × Int)) : Le (gameroomref_ScoreOf_L1N N c_Level1 c_Doubled1 vulnerable1 tricks1 x) (gameroomref_ScoreOf_L1 c_Level1 c_Doubled1 vulnerable1 tricks1 x) := by
  rcases x with ⟨n2, i1⟩
  all_goals
    unfold gameroomref_ScoreOf_L1N gameroomref_ScoreOf_L1
    dsimp only
    repeat' (first | with_reducible exact Le.refl _ | (with_reducible exact gameroomref_ScoreOf_J3_le _ _ _ _ _) | refine Le.asrt ?_ | refine Le.ite ?_ ?_ | refine Le.bind ?_ (fun _ => ?_) | refine Le.loop (fun _ => ?_))

noncomputable def gameroomref_ScoreOf_J15N (N : Nat) (c_Level1 : Int) (c_Doubled1 : Int) (tricks1 : Int) (n11 : Int) : Option Int :=
  some (w64 ((w64 (n11 + (w64 (50 * c_Doubled1)))) + (w64 ((w64 ((w64 (tricks1 - (w64 (c_Level1 + 6)))) * 100)) * c_Doubled1))))

theorem gameroomref_ScoreOf_J15_le (N : Nat) (c_Level1 : Int) (c_Doubled1 : Int) (tricks1 : Int) (n11 : Int) : Le (gameroomref_ScoreOf_J15N N c_Level1 c_Doubled1 tricks1 n11) (gameroomref_ScoreOf_J15 c_Level1 c_Doubled1 tricks1 n11) := by
  unfold gameroomref_ScoreOf_J15N gameroomref_ScoreOf_J15
  repeat' (first | with_reducible exact Le.refl _ | refine Le.asrt ?_ | refine Le.ite ?_ ?_ | refine Le.bind ?_ (fun _ => ?_) | refine Le.loop (fun _ => ?_))

noncomputable def gameroomref_ScoreOf_J14N (N : Nat) (c_Level1 : Int) (c_Doubled1 : Int) (vulnerable1 : Bool) (tricks1 : Int) (n11 : Int) : Option Int :=
  if vulnerable1 then (some (w64 ((w64 (n11 + (w64 (50 * c_Doubled1)))) + (w64 ((w64 ((w64 (tricks1 - (w64 (c_Level1 + 6)))) * 200)) * c_Doubled1))))) else ((gameroomref_ScoreOf_J15N N c_Level1 c_Doubled1 tricks1 n11))

theorem gameroomref_ScoreOf_J14_le (N : Nat) (c_Level1 : Int) (c_Doubled1 : Int) (vulnerable1 : Bool) (tricks1 : Int) (n11 : Int) : Le (gameroomref_ScoreOf_J14N N c_Level1 c_Doubled1 vulnerable1 tricks1 n11) (gameroomref_ScoreOf_J14 c_Level1 c_Doubled1 vulnerable1 tricks1 n11) := by
  unfold gameroomref_ScoreOf_J14N gameroomref_ScoreOf_J14
  repeat' (first | with_reducible exact Le.refl _ | (with_reducible exact gameroomref_ScoreOf_J15_le _ _ _ _ _) | refine Le.asrt ?_ | refine Le.ite ?_ ?_ | refine Le.bind ?_ (fun _ => ?_) | refine Le.loop (fun _ => ?_))

noncomputable def gameroomref_ScoreOf_J13N (N : Nat) (c_Level1 : Int) (c_Doubled1 : Int) (vulnerable1 : Bool) (tricks1 : Int) (each1 : Int) (n11 : Int) : Option Int :=
  if (c_Doubled1 == 0) then (some (w64 ((w64 (n11 + (w64 (50 * c_Doubled1)))) + (w64 ((w64 (tricks1 - (w64 (c_Level1 + 6)))) * each1))))) else ((gameroomref_ScoreOf_J14N N c_Level1 c_Doubled1 vulnerable1 tricks1 n11))

theorem gameroomref_ScoreOf_J13_le (N : Nat) (c_Level1 : Int) (c_Doubled1 : Int) (vulnerable1 : Bool) (tricks1 : Int) (each1 : Int) (n11 : Int) : Le (gameroomref_ScoreOf_J13N N c_Level1 c_Doubled1 vulnerable1 tricks1 each1 n11) (gameroomref_ScoreOf_J13 c_Level1 c_Doubled1 vulnerable1 tricks1 each1 n11) := by
  unfold gameroomref_ScoreOf_J13N gameroomref_ScoreOf_J13
  repeat' (first | with_reducible exact Le.refl _ | (with_reducible exact gameroomref_ScoreOf_J14_le _ _ _ _ _ _) | refine Le.asrt ?_ | refine Le.ite ?_ ?_ | refine Le.bind ?_ (fun _ => ?_) | refine Le.loop (fun _ => ?_))

noncomputable def gameroomref_ScoreOf_J12N (N : Nat) (c_Level1 : Int) (c_Doubled1 : Int) (vulnerable1 : Bool) (tricks1 : Int) (each1 : Int) (n10 : Int) : Option Int :=
  if ((c_Level1 == 7) && (!vulnerable1)) then ((gameroomref_ScoreOf_J13N N c_Level1 c_Doubled1 vulnerable1 tricks1 each1) (w64 (n10 + 1000))) else ((gameroomref_ScoreOf_J13N N c_Level1 c_Doubled1 vulnerable1 tricks1 each1) n10)

theorem gameroomref_ScoreOf_J12_le (N : Nat) (c_Level1 : Int) (c_Doubled1 : Int) (vulnerable1 : Bool) (tricks1 : Int) (each1 : Int) (n10 : Int) : Le (gameroomref_ScoreOf_J12N N c_Level1 c_Doubled1 vulnerable1 tricks1 each1 n10) (gameroomref_ScoreOf_J12 c_Level1 c_Doubled1 vulnerable1 tricks1 each1 n10) := by
  unfold gameroomref_ScoreOf_J12N gameroomref_ScoreOf_J12
  repeat' (first | with_reducible exact Le.refl _ | (with_reducible exact gameroomref_ScoreOf_J13_le _ _ _ _ _ _ _) | refine Le.asrt ?_ | refine Le.ite ?_ ?_ | refine Le.bind ?_ (fun _ => ?_) | refine Le.loop (fun _ => ?_))

noncomputable def gameroomref_ScoreOf_J11N (N : Nat) (c_Level1 : Int) (c_Doubled1 : Int) (vulnerable1 : Bool) (tricks1 : Int) (each1 : Int) (n9 : Int) : Option Int :=
  if ((c_Level1 == 7) && vulnerable1) then ((gameroomref_ScoreOf_J12N N c_Level1 c_Doubled1 vulnerable1 tricks1 each1) (w64 (n9 + 1500))) else ((gameroomref_ScoreOf_J12N N c_Level1 c_Doubled1 vulnerable1 tricks1 each1) n9)

theorem gameroomref_ScoreOf_J11_le (N : Nat) (c_Level1 : Int) (c_Doubled1 : Int) (vulnerable1 : Bool) (tricks1 : Int) (each1 : Int) (n9 : Int) : Le (gameroomref_ScoreOf_J11N N c_Level1 c_Doubled1 vulnerable1 tricks1 each1 n9) (gameroomref_ScoreOf_J11 c_Level1 c_Doubled1 vulnerable1 tricks1 each1 n9) := by
  unfold gameroomref_ScoreOf_J11N gameroomref_ScoreOf_J11
  repeat' (first | with_reducible exact Le.refl _ | (with_reducible exact gameroomref_ScoreOf_J12_le _ _ _ _ _ _ _) | refine Le.asrt ?_ | refine Le.ite ?_ ?_ | refine Le.bind ?_ (fun _ => ?_) | refine Le.loop (fun _ => ?_))

noncomputable def gameroomref_ScoreOf_J10N (N : Nat) (c_Level1 : Int) (c_Doubled1 : Int) (vulnerable1 : Bool) (tricks1 : Int) (each1 : Int) (n8 : Int) : Option Int :=
  if ((c_Level1 == 6) && (!vulnerable1)) then ((gameroomref_ScoreOf_J11N N c_Level1 c_Doubled1 vulnerable1 tricks1 each1) (w64 (n8 + 500))) else ((gameroomref_ScoreOf_J11N N c_Level1 c_Doubled1 vulnerable1 tricks1 each1) n8)

theorem gameroomref_ScoreOf_J10_le (N : Nat) (c_Level1 : Int) (c_Doubled1 : Int) (vulnerable1 : Bool) (tricks1 : Int) (each1 : Int) (n8 : Int) : Le (gameroomref_ScoreOf_J10N N c_Level1 c_Doubled1 vulnerable1 tricks1 each1 n8) (gameroomref_ScoreOf_J10 c_Level1 c_Doubled1 vulnerable1 tricks1 each1 n8) := by
  unfold gameroomref_ScoreOf_J10N gameroomref_ScoreOf_J10
  repeat' (first | with_reducible exact Le.refl _ | (with_reducible exact gameroomref_ScoreOf_J11_le _ _ _ _ _ _ _) | refine Le.asrt ?_ | refine Le.ite ?_ ?_ | refine Le.bind ?_ (fun _ => ?_) | refine Le.loop (fun _ => ?_))

noncomputable def gameroomref_ScoreOf_J9N (N : Nat) (c_Level1 : Int) (c_Doubled1 : Int) (vulnerable1 : Bool) (tricks1 : Int) (each1 : Int) (n7 : Int) : Option Int :=
  if ((c_Level1 == 6) && vulnerable1) then ((gameroomref_ScoreOf_J10N N c_Level1 c_Doubled1 vulnerable1 tricks1 each1) (w64 (n7 + 750))) else ((gameroomref_ScoreOf_J10N N c_Level1 c_Doubled1 vulnerable1 tricks1 each1) n7)

theorem gameroomref_ScoreOf_J9_le (N : Nat) (c_Level1 : Int) (c_Doubled1 : Int) (vulnerable1 : Bool) (tricks1 : Int) (each1 : Int) (n7 : Int) : Le (gameroomref_ScoreOf_J9N N c_Level1 c_Doubled1 vulnerable1 tricks1 each1 n7) (gameroomref_ScoreOf_J9 c_Level1 c_Doubled1 vulnerable1 tricks1 each1 n7) := by
  unfold gameroomref_ScoreOf_J9N gameroomref_ScoreOf_J9
  repeat' (first | with_reducible exact Le.refl _ | (with_reducible exact gameroomref_ScoreOf_J10_le _ _ _ _ _ _ _) | refine Le.asrt ?_ | refine Le.ite ?_ ?_ | refine Le.bind ?_ (fun _ => ?_) | refine Le.loop (fun _ => ?_))

noncomputable def gameroomref_ScoreOf_J8N (N : Nat) (c_Level1 : Int) (c_Doubled1 : Int) (vulnerable1 : Bool) (tricks1 : Int) (each1 : Int) (n6 : Int) : Option Int :=
  if (decide (n6 < 100)) then ((gameroomref_ScoreOf_J9N N c_Level1 c_Doubled1 vulnerable1 tricks1 each1) (w64 (n6 + 50))) else (if vulnerable1 then ((gameroomref_ScoreOf_J9N N c_Level1 c_Doubled1 vulnerable1 tricks1 each1) (w64 (n6 + 500))) else ((gameroomref_ScoreOf_J9N N c_Level1 c_Doubled1 vulnerable1 tricks1 each1) (w64 (n6 + 300))))

theorem gameroomref_ScoreOf_J8_le (N : Nat) (c_Level1 : Int) (c_Doubled1 : Int) (vulnerable1 : Bool) (tricks1 : Int) (each1 : Int) (n6 : Int) : Le (gameroomref_ScoreOf_J8N N c_Level1 c_Doubled1 vulnerable1 tricks1 each1 n6) (gameroomref_ScoreOf_J8 c_Level1 c_Doubled1 vulnerable1 tricks1 each1 n6) := by
  unfold gameroomref_ScoreOf_J8N gameroomref_ScoreOf_J8
  repeat' (first | with_reducible exact Le.refl _ | (with_reducible exact gameroomref_ScoreOf_J9_le _ _ _ _ _ _ _) | refine Le.asrt ?_ | refine Le.ite ?_ ?_ | refine Le.bind ?_ (fun _ => ?_) | refine Le.loop (fun _ => ?_))

noncomputable def gameroomref_ScoreOf_J7N (N : Nat) (c_Level1 : Int) (c_Doubled1 : Int) (vulnerable1 : Bool) (tricks1 : Int) (each1 : Int) (n5 : Int) : Option Int :=
  if (c_Doubled1 == 2) then ((gameroomref_ScoreOf_J8N N c_Level1 c_Doubled1 vulnerable1 tricks1 each1) (w64 (4 * n5))) else ((gameroomref_ScoreOf_J8N N c_Level1 c_Doubled1 vulnerable1 tricks1 each1) n5)

theorem gameroomref_ScoreOf_J7_le (N : Nat) (c_Level1 : Int) (c_Doubled1 : Int) (vulnerable1 : Bool) (tricks1 : Int) (each1 : Int) (n5 : Int) : Le (gameroomref_ScoreOf_J7N N c_Level1 c_Doubled1 vulnerable1 tricks1 each1 n5) (gameroomref_ScoreOf_J7 c_Level1 c_Doubled1 vulnerable1 tricks1 each1 n5) := by
  unfold gameroomref_ScoreOf_J7N gameroomref_ScoreOf_J7
  repeat' (first | with_reducible exact Le.refl _ | (with_reducible exact gameroomref_ScoreOf_J8_le _ _ _ _ _ _ _) | refine Le.asrt ?_ | refine Le.ite ?_ ?_ | refine Le.bind ?_ (fun _ => ?_) | refine Le.loop (fun _ => ?_))

noncomputable def gameroomref_ScoreOf_J6N (N : Nat) (c_Level1 : Int) (c_Doubled1 : Int) (vulnerable1 : Bool) (tricks1 : Int) (each1 : Int) (n4 : Int) : Option Int :=
  if (c_Doubled1 == 1) then ((gameroomref_ScoreOf_J7N N c_Level1 c_Doubled1 vulnerable1 tricks1 each1) (w64 (2 * n4))) else ((gameroomref_ScoreOf_J7N N c_Level1 c_Doubled1 vulnerable1 tricks1 each1) n4)

theorem gameroomref_ScoreOf_J6_le (N : Nat) (c_Level1 : Int) (c_Doubled1 : Int) (vulnerable1 : Bool) (tricks1 : Int) (each1 : Int) (n4 : Int) : Le (gameroomref_ScoreOf_J6N N c_Level1 c_Doubled1 vulnerable1 tricks1 each1 n4) (gameroomref_ScoreOf_J6 c_Level1 c_Doubled1 vulnerable1 tricks1 each1 n4) := by
  unfold gameroomref_ScoreOf_J6N gameroomref_ScoreOf_J6
  repeat' (first | with_reducible exact Le.refl _ | (with_reducible exact gameroomref_ScoreOf_J7_le _ _ _ _ _ _ _) | refine Le.asrt ?_ | refine Le.ite ?_ ?_ | refine Le.bind ?_ (fun _ => ?_) | refine Le.loop (fun _ => ?_))

noncomputable def gameroomref_ScoreOf_J5N (N : Nat) (c_Level1 : Int) (c_Strain1 : Int) (c_Doubled1 : Int) (vulnerable1 : Bool) (tricks1 : Int) (each1 : Int) : Option Int :=
  if (c_Strain1 == 4) then ((gameroomref_ScoreOf_J6N N c_Level1 c_Doubled1 vulnerable1 tricks1 each1) (w64 ((w64 (each1 * c_Level1)) + 10))) else ((gameroomref_ScoreOf_J6N N c_Level1 c_Doubled1 vulnerable1 tricks1 each1) (w64 (each1 * c_Level1)))

theorem gameroomref_ScoreOf_J5_le (N : Nat) (c_Level1 : Int) (c_Strain1 : Int) (c_Doubled1 : Int) (vulnerable1 : Bool) (tricks1 : Int) (each1 : Int) : Le (gameroomref_ScoreOf_J5N N c_Level1 c_Strain1 c_Doubled1 vulnerable1 tricks1 each1) (gameroomref_ScoreOf_J5 c_Level1 c_Strain1 c_Doubled1 vulnerable1 tricks1 each1) := by
  unfold gameroomref_ScoreOf_J5N gameroomref_ScoreOf_J5
  repeat' (first | with_reducible exact Le.refl _ | (with_reducible exact gameroomref_ScoreOf_J6_le _ _ _ _ _ _ _) | refine Le.asrt ?_ | refine Le.ite ?_ ?_ | refine Le.bind ?_ (fun _ => ?_) | refine Le.loop (fun _ => ?_))

noncomputable def gameroomref_ScoreOf_J1N (N : Nat) (c_Level1 : Int) (c_Strain1 : Int) (c_Doubled1 : Int) (vulnerable1 : Bool) (tricks1 : Int) : Option Int :=
  if (decide (c_Strain1 ≤ 1)) then ((gameroomref_ScoreOf_J5N N c_Level1 c_Strain1 c_Doubled1 vulnerable1 tricks1) 20) else ((gameroomref_ScoreOf_J5N N c_Level1 c_Strain1 c_Doubled1 vulnerable1 tricks1) 30)

theorem gameroomref_ScoreOf_J1_le (N : Nat) (c_Level1 : Int) (c_Strain1 : Int) (c_Doubled1 : Int) (vulnerable1 : Bool) (tricks1 : Int) : Le (gameroomref_ScoreOf_J1N N c_Level1 c_Strain1 c_Doubled1 vulnerable1 tricks1) (gameroomref_ScoreOf_J1 c_Level1 c_Strain1 c_Doubled1 vulnerable1 tricks1) := by
  unfold gameroomref_ScoreOf_J1N gameroomref_ScoreOf_J1
  repeat' (first | with_reducible exact Le.refl _ | (with_reducible exact gameroomref_ScoreOf_J5_le _ _ _ _ _ _ _) | refine Le.asrt ?_ | refine Le.ite ?_ ?_ | refine Le.bind ?_ (fun _ => ?_) | refine Le.loop (fun _ => ?_))

noncomputable def gameroomref_ScoreOf_mN (N : Nat) (c_Level1 : Int) (c_Strain1 : Int) (c_Doubled1 : Int) (c_Declarer1 : Int) (vulnerable1 : Bool) (tricks1 : Int) : Option Int :=
  if (decide (tricks1 < (w64 (c_Level1 + 6)))) then ((loopN (gameroomref_ScoreOf_L1N N c_Level1 c_Doubled1 vulnerable1 tricks1) N (0, 1)).bind (gameroomref_ScoreOf_K1N N)) else ((gameroomref_ScoreOf_J1N N c_Level1 c_Strain1 c_Doubled1 vulnerable1 tricks1))

theorem gameroomref_ScoreOf_m_le (N : Nat) (c_Level1 : Int) (c_Strain1 : Int) (c_Doubled1 : Int) (c_Declarer1 : Int) (vulnerable1 : Bool) (tricks1 : Int) : Le (gameroomref_ScoreOf_mN N c_Level1 c_Strain1 c_Doubled1 c_Declarer1 vulnerable1 tricks1) (gameroomref_ScoreOf_m c_Level1 c_Strain1 c_Doubled1 c_Declarer1 vulnerable1 tricks1) := by
  unfold gameroomref_ScoreOf_mN gameroomref_ScoreOf_m
  repeat' (first | with_reducible exact Le.refl _ | (with_reducible exact gameroomref_ScoreOf_L1_le _ _ _ _ _ _) | (with_reducible exact gameroomref_ScoreOf_K1_le _ _) | (with_reducible exact gameroomref_ScoreOf_J1_le _ _ _ _ _ _) | refine Le.asrt ?_ | refine Le.ite ?_ ?_ | refine Le.bind ?_ (fun _ => ?_) | refine Le.loop (fun _ => ?_))

set_option maxRecDepth 100000 in
set_option maxHeartbeats 4000000 in
theorem gameroomref_ScoreOf_w {c_Level1 : Int} {c_Strain1 : Int} {c_Doubled1 : Int} {c_Declarer1 : Int} {vulnerable1 : Bool} {tricks1 : Int} {r : Int} {w0 : World} (hm : gameroomref_ScoreOf_m c_Level1 c_Strain1 c_Doubled1 c_Declarer1 vulnerable1 tricks1 = some r) :
    Calls Try.prog 29 #[.agg #[.int .i64 c_Level1, .int .i64 c_Strain1, .int .i64 c_Doubled1, .int .i64 c_Declarer1], .bool vulnerable1, .int .i64 tricks1] w0 fun e w' => e = .returned (.int .i64 r) ∧ Sep w0 w0.heap.size w' [] := by
  unfold gameroomref_ScoreOf_m at hm
  replace hm := start_b hm
  refine enterS (l := [.agg #[.int .i64 c_Level1, .int .i64 c_Strain1, .int .i64 c_Doubled1, .int .i64 c_Declarer1], .bool vulnerable1, .int .i64 tricks1]) (n := 171) Try.func29 rfl rfl (by simp) (fun a w hF hS => ?_)
  refine seqR ?_
  refine at_do (d := 3) (s := vS (Instr.box 47 (.agg #[.int .i64 c_Level1, .int .i64 c_Strain1, .int .i64 c_Doubled1, .int .i64 c_Declarer1]))) (v := .pointer (some ⟨w.heap.size, 0, none⟩)) (w' := w.alloc (.cells #[.int .i64 c_Level1, .int .i64 c_Strain1, .int .i64 c_Doubled1, .int .i64 c_Declarer1] 47)) hF (by kernel_rfl) (by kernel_rfl) (by kernel_rfl) (fun a hF => ?_)
  have hS : Sep w0 w0.heap.size (w.alloc (.cells #[.int .i64 c_Level1, .int .i64 c_Strain1, .int .i64 c_Doubled1, .int .i64 c_Declarer1] 47)) (blk w.heap.size 47 #[.int .i64 c_Level1, .int .i64 c_Strain1, .int .i64 c_Doubled1, .int .i64 c_Declarer1] :: []) := hS.box 47 #[.int .i64 c_Level1, .int .i64 c_Strain1, .int .i64 c_Doubled1, .int .i64 c_Declarer1]
  generalize w.heap.size = g1 at hF hS
  generalize w.alloc (.cells #[.int .i64 c_Level1, .int .i64 c_Strain1, .int .i64 c_Doubled1, .int .i64 c_Declarer1] 47) = w at hS ⊢
  refine at_run 1 [] [] [1, 2, 3] [pl 1 (.bool vulnerable1), pl 2 (.int .i64 tricks1), pl 3 (.pointer (some ⟨g1, 0, none⟩))] hF hS (by kernel_rfl) (by kernel_rfl) ?_ (fun a w hF hS => ?_)
  · exact obs_nil
  refine at_end [1, 2, 3] [pl 1 (.bool vulnerable1), pl 2 (.int .i64 tricks1), pl 3 (.pointer (some ⟨g1, 0, none⟩))] hF rfl (by kernel_rfl) (fun hF => ?_)
  refine then_n ?_
  refine reg [⟨false, [], vS (Instr.loadAt 3 (.pointer (some ⟨g1, 0, none⟩))), .int .i64 c_Level1⟩] [none, some (.int .i64 c_Level1), none, none] [1, 2, 3, 7] [pl 1 (.bool vulnerable1), pl 2 (.int .i64 tricks1), pl 3 (.pointer (some ⟨g1, 0, none⟩)), pl 7 (.int .i64 (w64 (c_Level1 + 6)))] hF hS Fol (by kernel_rfl) (by kernel_rfl) (by kernel_rfl) ?_ (fun a w hF hS => ?_)
  · exact obs_cons (ob_load Agg3 (fun _ _ hS => (hS.at_ 0 rfl).cell rfl)) <| obs_nil
  refine seq_cut (fun a w => Fr 171 [pl 1 (.bool vulnerable1), pl 2 (.int .i64 tricks1), pl 3 (.pointer (some ⟨g1, 0, none⟩)), pl 7 (.int .i64 (w64 (c_Level1 + 6)))] a ∧ Sep w0 w0.heap.size w [blk g1 47 #[.int .i64 c_Level1, .int .i64 c_Strain1, .int .i64 c_Doubled1, .int .i64 c_Declarer1]] ∧ ((gameroomref_ScoreOf_J1 c_Level1 c_Strain1 c_Doubled1 vulnerable1 tricks1)).bind some = some r) ?_ ?_
  · rintro a w ⟨hF, hS, hm⟩
    unfold gameroomref_ScoreOf_J1 at hm
    refine reg [] [] [1, 2, 3, 7, 11] [pl 1 (.bool vulnerable1), pl 2 (.int .i64 tricks1), pl 3 (.pointer (some ⟨g1, 0, none⟩)), pl 7 (.int .i64 (w64 (c_Level1 + 6))), pl 11 (.int .i64 30)] hF hS Fol (by kernel_rfl) (by kernel_rfl) (by kernel_rfl) ?_ (fun a w hF hS => ?_)
    · exact obs_nil
    refine seq_cut (fun a w => ∃ (each1 : Int), Fr 171 [pl 1 (.bool vulnerable1), pl 2 (.int .i64 tricks1), pl 3 (.pointer (some ⟨g1, 0, none⟩)), pl 7 (.int .i64 (w64 (c_Level1 + 6))), pl 11 (.int .i64 each1)] a ∧ Sep w0 w0.heap.size w [blk g1 47 #[.int .i64 c_Level1, .int .i64 c_Strain1, .int .i64 c_Doubled1, .int .i64 c_Declarer1]] ∧ ((gameroomref_ScoreOf_J5 c_Level1 c_Strain1 c_Doubled1 vulnerable1 tricks1) each1).bind some = some r) ?_ ?_
    · rintro a w ⟨each1, hF, hS, hm⟩
      unfold gameroomref_ScoreOf_J5 at hm
      refine reg [⟨false, [], vS (Instr.loadAt 3 (.pointer (some ⟨g1, 0, none⟩))), .int .i64 c_Level1⟩] [none, none, some (.int .i64 c_Level1), none, none] [1, 2, 3, 7, 11, 12] [pl 1 (.bool vulnerable1), pl 2 (.int .i64 tricks1), pl 3 (.pointer (some ⟨g1, 0, none⟩)), pl 7 (.int .i64 (w64 (c_Level1 + 6))), pl 11 (.int .i64 each1), pl 12 (.int .i64 (w64 (each1 * c_Level1)))] hF hS Fol (by kernel_rfl) (by kernel_rfl) (by kernel_rfl) ?_ (fun a w hF hS => ?_)
      · exact obs_cons (ob_load Agg3 (fun _ _ hS => (hS.at_ 0 rfl).cell rfl)) <| obs_nil
      refine seq_cut (fun a w => ∃ (n4 : Int), Fr 171 [pl 1 (.bool vulnerable1), pl 2 (.int .i64 tricks1), pl 3 (.pointer (some ⟨g1, 0, none⟩)), pl 7 (.int .i64 (w64 (c_Level1 + 6))), pl 11 (.int .i64 each1), pl 12 (.int .i64 n4)] a ∧ Sep w0 w0.heap.size w [blk g1 47 #[.int .i64 c_Level1, .int .i64 c_Strain1, .int .i64 c_Doubled1, .int .i64 c_Declarer1]] ∧ ((gameroomref_ScoreOf_J6 c_Level1 c_Doubled1 vulnerable1 tricks1 each1) n4).bind some = some r) ?_ ?_
      · rintro a w ⟨n4, hF, hS, hm⟩
        unfold gameroomref_ScoreOf_J6 at hm
        refine seq_cut (fun a w => ∃ (n5 : Int), Fr 171 [pl 1 (.bool vulnerable1), pl 2 (.int .i64 tricks1), pl 3 (.pointer (some ⟨g1, 0, none⟩)), pl 7 (.int .i64 (w64 (c_Level1 + 6))), pl 11 (.int .i64 each1), pl 12 (.int .i64 n5)] a ∧ Sep w0 w0.heap.size w [blk g1 47 #[.int .i64 c_Level1, .int .i64 c_Strain1, .int .i64 c_Doubled1, .int .i64 c_Declarer1]] ∧ ((gameroomref_ScoreOf_J7 c_Level1 c_Doubled1 vulnerable1 tricks1 each1) n5).bind some = some r) ?_ ?_
        · rintro a w ⟨n5, hF, hS, hm⟩
          unfold gameroomref_ScoreOf_J7 at hm
          refine seq_cut (fun a w => ∃ (n6 : Int), Fr 171 [pl 1 (.bool vulnerable1), pl 2 (.int .i64 tricks1), pl 3 (.pointer (some ⟨g1, 0, none⟩)), pl 7 (.int .i64 (w64 (c_Level1 + 6))), pl 11 (.int .i64 each1), pl 12 (.int .i64 n6)] a ∧ Sep w0 w0.heap.size w [blk g1 47 #[.int .i64 c_Level1, .int .i64 c_Strain1, .int .i64 c_Doubled1, .int .i64 c_Declarer1]] ∧ ((gameroomref_ScoreOf_J8 c_Level1 c_Doubled1 vulnerable1 tricks1 each1) n6).bind some = some r) ?_ ?_
          · rintro a w ⟨n6, hF, hS, hm⟩
            unfold gameroomref_ScoreOf_J8 at hm
            refine seq_cut (fun a w => ∃ (n7 : Int), Fr 171 [pl 1 (.bool vulnerable1), pl 2 (.int .i64 tricks1), pl 3 (.pointer (some ⟨g1, 0, none⟩)), pl 7 (.int .i64 (w64 (c_Level1 + 6))), pl 11 (.int .i64 each1), pl 12 (.int .i64 n7)] a ∧ Sep w0 w0.heap.size w [blk g1 47 #[.int .i64 c_Level1, .int .i64 c_Strain1, .int .i64 c_Doubled1, .int .i64 c_Declarer1]] ∧ ((gameroomref_ScoreOf_J9 c_Level1 c_Doubled1 vulnerable1 tricks1 each1) n7).bind some = some r) ?_ ?_
            · rintro a w ⟨n7, hF, hS, hm⟩
              unfold gameroomref_ScoreOf_J9 at hm
              refine seq_cut (fun a w => ∃ (n8 : Int), Fr 171 [pl 1 (.bool vulnerable1), pl 2 (.int .i64 tricks1), pl 3 (.pointer (some ⟨g1, 0, none⟩)), pl 7 (.int .i64 (w64 (c_Level1 + 6))), pl 11 (.int .i64 each1), pl 12 (.int .i64 n8)] a ∧ Sep w0 w0.heap.size w [blk g1 47 #[.int .i64 c_Level1, .int .i64 c_Strain1, .int .i64 c_Doubled1, .int .i64 c_Declarer1]] ∧ ((gameroomref_ScoreOf_J10 c_Level1 c_Doubled1 vulnerable1 tricks1 each1) n8).bind some = some r) ?_ ?_
              · rintro a w ⟨n8, hF, hS, hm⟩
                unfold gameroomref_ScoreOf_J10 at hm
                refine seq_cut (fun a w => ∃ (n9 : Int), Fr 171 [pl 1 (.bool vulnerable1), pl 2 (.int .i64 tricks1), pl 3 (.pointer (some ⟨g1, 0, none⟩)), pl 7 (.int .i64 (w64 (c_Level1 + 6))), pl 11 (.int .i64 each1), pl 12 (.int .i64 n9)] a ∧ Sep w0 w0.heap.size w [blk g1 47 #[.int .i64 c_Level1, .int .i64 c_Strain1, .int .i64 c_Doubled1, .int .i64 c_Declarer1]] ∧ ((gameroomref_ScoreOf_J11 c_Level1 c_Doubled1 vulnerable1 tricks1 each1) n9).bind some = some r) ?_ ?_
                · rintro a w ⟨n9, hF, hS, hm⟩
                  unfold gameroomref_ScoreOf_J11 at hm
                  refine seq_cut (fun a w => ∃ (n10 : Int), Fr 171 [pl 1 (.bool vulnerable1), pl 2 (.int .i64 tricks1), pl 3 (.pointer (some ⟨g1, 0, none⟩)), pl 7 (.int .i64 (w64 (c_Level1 + 6))), pl 11 (.int .i64 each1), pl 12 (.int .i64 n10)] a ∧ Sep w0 w0.heap.size w [blk g1 47 #[.int .i64 c_Level1, .int .i64 c_Strain1, .int .i64 c_Doubled1, .int .i64 c_Declarer1]] ∧ ((gameroomref_ScoreOf_J12 c_Level1 c_Doubled1 vulnerable1 tricks1 each1) n10).bind some = some r) ?_ ?_
                  · rintro a w ⟨n10, hF, hS, hm⟩
                    unfold gameroomref_ScoreOf_J12 at hm
                    refine seq_cut (fun a w => ∃ (n11 : Int), Fr 171 [pl 1 (.bool vulnerable1), pl 2 (.int .i64 tricks1), pl 3 (.pointer (some ⟨g1, 0, none⟩)), pl 7 (.int .i64 (w64 (c_Level1 + 6))), pl 11 (.int .i64 each1), pl 12 (.int .i64 n11)] a ∧ Sep w0 w0.heap.size w [blk g1 47 #[.int .i64 c_Level1, .int .i64 c_Strain1, .int .i64 c_Doubled1, .int .i64 c_Declarer1]] ∧ ((gameroomref_ScoreOf_J13 c_Level1 c_Doubled1 vulnerable1 tricks1 each1) n11).bind some = some r) ?_ ?_
                    · rintro a w ⟨n11, hF, hS, hm⟩
                      unfold gameroomref_ScoreOf_J13 at hm
                      refine reg [⟨false, [], vS (Instr.loadAt 3 (.pointer (some ⟨g1, 2, none⟩))), .int .i64 c_Doubled1⟩] [none, none, some (.int .i64 c_Doubled1), none, none, none] [1, 2, 3, 7, 11, 12] [pl 1 (.bool vulnerable1), pl 2 (.int .i64 tricks1), pl 3 (.pointer (some ⟨g1, 0, none⟩)), pl 7 (.int .i64 (w64 (c_Level1 + 6))), pl 11 (.int .i64 each1), pl 12 (.int .i64 (w64 (n11 + (w64 (50 * c_Doubled1)))))] hF hS Fol (by kernel_rfl) (by kernel_rfl) (by kernel_rfl) ?_ (fun a w hF hS => ?_)
                      · exact obs_cons (ob_load Agg3 (fun _ _ hS => (hS.at_ 0 rfl).cell rfl)) <| obs_nil
                      refine reg [] [] [1, 3, 11, 12, 13] [pl 1 (.bool vulnerable1), pl 3 (.pointer (some ⟨g1, 0, none⟩)), pl 11 (.int .i64 each1), pl 12 (.int .i64 (w64 (n11 + (w64 (50 * c_Doubled1))))), pl 13 (.int .i64 (w64 (tricks1 - (w64 (c_Level1 + 6)))))] hF hS Fol (by kernel_rfl) (by kernel_rfl) (by kernel_rfl) ?_ (fun a w hF hS => ?_)
                      · exact obs_nil
                      refine seq_cut (fun a w => Fr 171 [pl 1 (.bool vulnerable1), pl 3 (.pointer (some ⟨g1, 0, none⟩)), pl 12 (.int .i64 (w64 (n11 + (w64 (50 * c_Doubled1))))), pl 13 (.int .i64 (w64 (tricks1 - (w64 (c_Level1 + 6)))))] a ∧ Sep w0 w0.heap.size w [blk g1 47 #[.int .i64 c_Level1, .int .i64 c_Strain1, .int .i64 c_Doubled1, .int .i64 c_Declarer1]] ∧ ((gameroomref_ScoreOf_J14 c_Level1 c_Doubled1 vulnerable1 tricks1 n11)).bind some = some r) ?_ ?_
                      · rintro a w ⟨hF, hS, hm⟩
                        unfold gameroomref_ScoreOf_J14 at hm
                        refine seq_cut (fun a w => Fr 171 [pl 3 (.pointer (some ⟨g1, 0, none⟩)), pl 12 (.int .i64 (w64 (n11 + (w64 (50 * c_Doubled1))))), pl 13 (.int .i64 (w64 (tricks1 - (w64 (c_Level1 + 6)))))] a ∧ Sep w0 w0.heap.size w [blk g1 47 #[.int .i64 c_Level1, .int .i64 c_Strain1, .int .i64 c_Doubled1, .int .i64 c_Declarer1]] ∧ ((gameroomref_ScoreOf_J15 c_Level1 c_Doubled1 tricks1 n11)).bind some = some r) ?_ ?_
                        · rintro a w ⟨hF, hS, hm⟩
                          unfold gameroomref_ScoreOf_J15 at hm
                          refine reg [⟨false, [], vS (Instr.loadAt 3 (.pointer (some ⟨g1, 2, none⟩))), .int .i64 c_Doubled1⟩] [none, none, none, none, some (.int .i64 c_Doubled1), none, none, none] [6] [pl 6 (.int .i64 (w64 ((w64 (n11 + (w64 (50 * c_Doubled1)))) + (w64 ((w64 ((w64 (tricks1 - (w64 (c_Level1 + 6)))) * 100)) * c_Doubled1)))))] hF hS Fol (by kernel_rfl) (by kernel_rfl) (by kernel_rfl) ?_ (fun a w hF hS => ?_)
                          · exact obs_cons (ob_load Agg3 (fun _ _ hS => (hS.at_ 0 rfl).cell rfl)) <| obs_nil
                          refine wp_ret ?_
                          have hS := hS.pick [] (by decide)
                          have hm : some (w64 ((w64 (n11 + (w64 (50 * c_Doubled1)))) + (w64 ((w64 ((w64 (tricks1 - (w64 (c_Level1 + 6)))) * 100)) * c_Doubled1)))) = some r := hm
                          obtain rfl := Option.some.inj hm
                          exact ret1 (t := 6) (v := .int .i64 (w64 ((w64 (n11 + (w64 (50 * c_Doubled1)))) + (w64 ((w64 ((w64 (tricks1 - (w64 (c_Level1 + 6)))) * 100)) * c_Doubled1))))) hF rfl (by kernel_rfl) ⟨rfl, hS⟩
                        · refine reg [] [] [3, 12, 13, 156] [pl 3 (.pointer (some ⟨g1, 0, none⟩)), pl 12 (.int .i64 (w64 (n11 + (w64 (50 * c_Doubled1))))), pl 13 (.int .i64 (w64 (tricks1 - (w64 (c_Level1 + 6))))), pl 156 (.bool vulnerable1)] hF hS Fol (by kernel_rfl) (by kernel_rfl) (by kernel_rfl) ?_ (fun a w hF hS => ?_)
                          · exact obs_nil
                          refine cond_ev (t := 156) (b := vulnerable1) hF (by kernel_rfl) (fun hb => ?_) (fun hb => ?_)
                          · replace hm := if_t hm hb
                            refine reg [⟨false, [], vS (Instr.loadAt 3 (.pointer (some ⟨g1, 2, none⟩))), .int .i64 c_Doubled1⟩] [none, none, none, none, some (.int .i64 c_Doubled1), none, none, none] [6] [pl 6 (.int .i64 (w64 ((w64 (n11 + (w64 (50 * c_Doubled1)))) + (w64 ((w64 ((w64 (tricks1 - (w64 (c_Level1 + 6)))) * 200)) * c_Doubled1)))))] hF hS Fol (by kernel_rfl) (by kernel_rfl) (by kernel_rfl) ?_ (fun a w hF hS => ?_)
                            · exact obs_cons (ob_load Agg3 (fun _ _ hS => (hS.at_ 0 rfl).cell rfl)) <| obs_nil
                            refine wp_ret ?_
                            refine then_r ?_
                            have hS := hS.pick [] (by decide)
                            have hm : some (w64 ((w64 (n11 + (w64 (50 * c_Doubled1)))) + (w64 ((w64 ((w64 (tricks1 - (w64 (c_Level1 + 6)))) * 200)) * c_Doubled1)))) = some r := hm
                            obtain rfl := Option.some.inj hm
                            exact ret1 (t := 6) (v := .int .i64 (w64 ((w64 (n11 + (w64 (50 * c_Doubled1)))) + (w64 ((w64 ((w64 (tricks1 - (w64 (c_Level1 + 6)))) * 200)) * c_Doubled1))))) hF rfl (by kernel_rfl) ⟨rfl, hS⟩
                          · replace hm := if_f hm hb
                            refine wp_skip ?_
                            refine then_n ?_
                            exact ⟨hF.weak [3, 12, 13] (by kernel_rfl), hS, hm⟩
                      · refine reg [⟨false, [], vS (Instr.loadAt 3 (.pointer (some ⟨g1, 2, none⟩))), .int .i64 c_Doubled1⟩] [none, some (.int .i64 c_Doubled1), none] [1, 3, 11, 12, 13, 150] [pl 1 (.bool vulnerable1), pl 3 (.pointer (some ⟨g1, 0, none⟩)), pl 11 (.int .i64 each1), pl 12 (.int .i64 (w64 (n11 + (w64 (50 * c_Doubled1))))), pl 13 (.int .i64 (w64 (tricks1 - (w64 (c_Level1 + 6))))), pl 150 (.bool (c_Doubled1 == 0))] hF hS Fol (by kernel_rfl) (by kernel_rfl) (by kernel_rfl) ?_ (fun a w hF hS => ?_)
                        · exact obs_cons (ob_load Agg3 (fun _ _ hS => (hS.at_ 0 rfl).cell rfl)) <| obs_nil
                        refine cond_ev (t := 150) (b := (c_Doubled1 == 0)) hF (by kernel_rfl) (fun hb => ?_) (fun hb => ?_)
                        · replace hm := if_t hm hb
                          refine reg [] [] [6] [pl 6 (.int .i64 (w64 ((w64 (n11 + (w64 (50 * c_Doubled1)))) + (w64 ((w64 (tricks1 - (w64 (c_Level1 + 6)))) * each1)))))] hF hS Fol (by kernel_rfl) (by kernel_rfl) (by kernel_rfl) ?_ (fun a w hF hS => ?_)
                          · exact obs_nil
                          refine wp_ret ?_
                          refine then_r ?_
                          have hS := hS.pick [] (by decide)
                          have hm : some (w64 ((w64 (n11 + (w64 (50 * c_Doubled1)))) + (w64 ((w64 (tricks1 - (w64 (c_Level1 + 6)))) * each1)))) = some r := hm
                          obtain rfl := Option.some.inj hm
                          exact ret1 (t := 6) (v := .int .i64 (w64 ((w64 (n11 + (w64 (50 * c_Doubled1)))) + (w64 ((w64 (tricks1 - (w64 (c_Level1 + 6)))) * each1))))) hF rfl (by kernel_rfl) ⟨rfl, hS⟩
                        · replace hm := if_f hm hb
                          refine wp_skip ?_
                          refine then_n ?_
                          exact ⟨hF.weak [1, 3, 12, 13] (by kernel_rfl), hS, hm⟩
                    · refine reg [⟨false, [], vS (Instr.loadAt 3 (.pointer (some ⟨g1, 0, none⟩))), .int .i64 c_Level1⟩] [none, some (.int .i64 c_Level1), none, none, none, none, none] [1, 2, 3, 7, 11, 12, 137] [pl 1 (.bool vulnerable1), pl 2 (.int .i64 tricks1), pl 3 (.pointer (some ⟨g1, 0, none⟩)), pl 7 (.int .i64 (w64 (c_Level1 + 6))), pl 11 (.int .i64 each1), pl 12 (.int .i64 n10), pl 137 (.bool ((c_Level1 == 7) && (!vulnerable1)))] hF hS Fol (by kernel_rfl) (by kernel_rfl) (by kernel_rfl) ?_ (fun a w hF hS => ?_)
                      · exact obs_cons (ob_load Agg3 (fun _ _ hS => (hS.at_ 0 rfl).cell rfl)) <| obs_nil
                      refine cond_ev (t := 137) (b := (c_Level1 == 7) && (!vulnerable1)) hF (by kernel_rfl) (fun hb => ?_) (fun hb => ?_)
                      · replace hm := if_t hm hb
                        refine reg1 [] [] [1, 2, 3, 7, 11, 12] [pl 1 (.bool vulnerable1), pl 2 (.int .i64 tricks1), pl 3 (.pointer (some ⟨g1, 0, none⟩)), pl 7 (.int .i64 (w64 (c_Level1 + 6))), pl 11 (.int .i64 each1), pl 12 (.int .i64 (w64 (n10 + 1000)))] hF hS Fol (by kernel_rfl) (by kernel_rfl) (by kernel_rfl) ?_ (fun a w hF hS => ?_)
                        · exact obs_nil
                        refine then_n ?_
                        exact ⟨(w64 (n10 + 1000)), hF.weak [1, 2, 3, 7, 11, 12] (by kernel_rfl), hS, hm⟩
                      · replace hm := if_f hm hb
                        refine wp_skip ?_
                        refine then_n ?_
                        exact ⟨n10, hF.weak [1, 2, 3, 7, 11, 12] (by kernel_rfl), hS, hm⟩
                  · refine reg [⟨false, [], vS (Instr.loadAt 3 (.pointer (some ⟨g1, 0, none⟩))), .int .i64 c_Level1⟩] [none, some (.int .i64 c_Level1), none, none, none, none] [1, 2, 3, 7, 11, 12, 128] [pl 1 (.bool vulnerable1), pl 2 (.int .i64 tricks1), pl 3 (.pointer (some ⟨g1, 0, none⟩)), pl 7 (.int .i64 (w64 (c_Level1 + 6))), pl 11 (.int .i64 each1), pl 12 (.int .i64 n9), pl 128 (.bool ((c_Level1 == 7) && vulnerable1))] hF hS Fol (by kernel_rfl) (by kernel_rfl) (by kernel_rfl) ?_ (fun a w hF hS => ?_)
                    · exact obs_cons (ob_load Agg3 (fun _ _ hS => (hS.at_ 0 rfl).cell rfl)) <| obs_nil
                    refine cond_ev (t := 128) (b := (c_Level1 == 7) && vulnerable1) hF (by kernel_rfl) (fun hb => ?_) (fun hb => ?_)
                    · replace hm := if_t hm hb
                      refine reg1 [] [] [1, 2, 3, 7, 11, 12] [pl 1 (.bool vulnerable1), pl 2 (.int .i64 tricks1), pl 3 (.pointer (some ⟨g1, 0, none⟩)), pl 7 (.int .i64 (w64 (c_Level1 + 6))), pl 11 (.int .i64 each1), pl 12 (.int .i64 (w64 (n9 + 1500)))] hF hS Fol (by kernel_rfl) (by kernel_rfl) (by kernel_rfl) ?_ (fun a w hF hS => ?_)
                      · exact obs_nil
                      refine then_n ?_
                      exact ⟨(w64 (n9 + 1500)), hF.weak [1, 2, 3, 7, 11, 12] (by kernel_rfl), hS, hm⟩
                    · replace hm := if_f hm hb
                      refine wp_skip ?_
                      refine then_n ?_
                      exact ⟨n9, hF.weak [1, 2, 3, 7, 11, 12] (by kernel_rfl), hS, hm⟩
                · refine reg [⟨false, [], vS (Instr.loadAt 3 (.pointer (some ⟨g1, 0, none⟩))), .int .i64 c_Level1⟩] [none, some (.int .i64 c_Level1), none, none, none, none, none] [1, 2, 3, 7, 11, 12, 120] [pl 1 (.bool vulnerable1), pl 2 (.int .i64 tricks1), pl 3 (.pointer (some ⟨g1, 0, none⟩)), pl 7 (.int .i64 (w64 (c_Level1 + 6))), pl 11 (.int .i64 each1), pl 12 (.int .i64 n8), pl 120 (.bool ((c_Level1 == 6) && (!vulnerable1)))] hF hS Fol (by kernel_rfl) (by kernel_rfl) (by kernel_rfl) ?_ (fun a w hF hS => ?_)
                  · exact obs_cons (ob_load Agg3 (fun _ _ hS => (hS.at_ 0 rfl).cell rfl)) <| obs_nil
                  refine cond_ev (t := 120) (b := (c_Level1 == 6) && (!vulnerable1)) hF (by kernel_rfl) (fun hb => ?_) (fun hb => ?_)
                  · replace hm := if_t hm hb
                    refine reg1 [] [] [1, 2, 3, 7, 11, 12] [pl 1 (.bool vulnerable1), pl 2 (.int .i64 tricks1), pl 3 (.pointer (some ⟨g1, 0, none⟩)), pl 7 (.int .i64 (w64 (c_Level1 + 6))), pl 11 (.int .i64 each1), pl 12 (.int .i64 (w64 (n8 + 500)))] hF hS Fol (by kernel_rfl) (by kernel_rfl) (by kernel_rfl) ?_ (fun a w hF hS => ?_)
                    · exact obs_nil
                    refine then_n ?_
                    exact ⟨(w64 (n8 + 500)), hF.weak [1, 2, 3, 7, 11, 12] (by kernel_rfl), hS, hm⟩
                  · replace hm := if_f hm hb
                    refine wp_skip ?_
                    refine then_n ?_
                    exact ⟨n8, hF.weak [1, 2, 3, 7, 11, 12] (by kernel_rfl), hS, hm⟩
              · refine reg [⟨false, [], vS (Instr.loadAt 3 (.pointer (some ⟨g1, 0, none⟩))), .int .i64 c_Level1⟩] [none, some (.int .i64 c_Level1), none, none, none, none] [1, 2, 3, 7, 11, 12, 111] [pl 1 (.bool vulnerable1), pl 2 (.int .i64 tricks1), pl 3 (.pointer (some ⟨g1, 0, none⟩)), pl 7 (.int .i64 (w64 (c_Level1 + 6))), pl 11 (.int .i64 each1), pl 12 (.int .i64 n7), pl 111 (.bool ((c_Level1 == 6) && vulnerable1))] hF hS Fol (by kernel_rfl) (by kernel_rfl) (by kernel_rfl) ?_ (fun a w hF hS => ?_)
                · exact obs_cons (ob_load Agg3 (fun _ _ hS => (hS.at_ 0 rfl).cell rfl)) <| obs_nil
                refine cond_ev (t := 111) (b := (c_Level1 == 6) && vulnerable1) hF (by kernel_rfl) (fun hb => ?_) (fun hb => ?_)
                · replace hm := if_t hm hb
                  refine reg1 [] [] [1, 2, 3, 7, 11, 12] [pl 1 (.bool vulnerable1), pl 2 (.int .i64 tricks1), pl 3 (.pointer (some ⟨g1, 0, none⟩)), pl 7 (.int .i64 (w64 (c_Level1 + 6))), pl 11 (.int .i64 each1), pl 12 (.int .i64 (w64 (n7 + 750)))] hF hS Fol (by kernel_rfl) (by kernel_rfl) (by kernel_rfl) ?_ (fun a w hF hS => ?_)
                  · exact obs_nil
                  refine then_n ?_
                  exact ⟨(w64 (n7 + 750)), hF.weak [1, 2, 3, 7, 11, 12] (by kernel_rfl), hS, hm⟩
                · replace hm := if_f hm hb
                  refine wp_skip ?_
                  refine then_n ?_
                  exact ⟨n7, hF.weak [1, 2, 3, 7, 11, 12] (by kernel_rfl), hS, hm⟩
            · refine reg [] [] [1, 2, 3, 7, 11, 12, 98] [pl 1 (.bool vulnerable1), pl 2 (.int .i64 tricks1), pl 3 (.pointer (some ⟨g1, 0, none⟩)), pl 7 (.int .i64 (w64 (c_Level1 + 6))), pl 11 (.int .i64 each1), pl 12 (.int .i64 n6), pl 98 (.bool (decide (n6 < 100)))] hF hS Fol (by kernel_rfl) (by kernel_rfl) (by kernel_rfl) ?_ (fun a w hF hS => ?_)
              · exact obs_nil
              refine cond_ev (t := 98) (b := decide (n6 < 100)) hF (by kernel_rfl) (fun hb => ?_) (fun hb => ?_)
              · replace hm := if_t hm hb
                refine reg1 [] [] [1, 2, 3, 7, 11, 12] [pl 1 (.bool vulnerable1), pl 2 (.int .i64 tricks1), pl 3 (.pointer (some ⟨g1, 0, none⟩)), pl 7 (.int .i64 (w64 (c_Level1 + 6))), pl 11 (.int .i64 each1), pl 12 (.int .i64 (w64 (n6 + 50)))] hF hS Fol (by kernel_rfl) (by kernel_rfl) (by kernel_rfl) ?_ (fun a w hF hS => ?_)
                · exact obs_nil
                refine then_n ?_
                exact ⟨(w64 (n6 + 50)), hF.weak [1, 2, 3, 7, 11, 12] (by kernel_rfl), hS, hm⟩
              · replace hm := if_f hm hb
                refine reg [] [] [1, 2, 3, 7, 11, 12, 101] [pl 1 (.bool vulnerable1), pl 2 (.int .i64 tricks1), pl 3 (.pointer (some ⟨g1, 0, none⟩)), pl 7 (.int .i64 (w64 (c_Level1 + 6))), pl 11 (.int .i64 each1), pl 12 (.int .i64 n6), pl 101 (.bool vulnerable1)] hF hS Fol (by kernel_rfl) (by kernel_rfl) (by kernel_rfl) ?_ (fun a w hF hS => ?_)
                · exact obs_nil
                refine cond_ev (t := 101) (b := vulnerable1) hF (by kernel_rfl) (fun hb => ?_) (fun hb => ?_)
                · replace hm := if_t hm hb
                  refine reg1 [] [] [1, 2, 3, 7, 11, 12] [pl 1 (.bool vulnerable1), pl 2 (.int .i64 tricks1), pl 3 (.pointer (some ⟨g1, 0, none⟩)), pl 7 (.int .i64 (w64 (c_Level1 + 6))), pl 11 (.int .i64 each1), pl 12 (.int .i64 (w64 (n6 + 500)))] hF hS Fol (by kernel_rfl) (by kernel_rfl) (by kernel_rfl) ?_ (fun a w hF hS => ?_)
                  · exact obs_nil
                  refine then_n ?_
                  exact ⟨(w64 (n6 + 500)), hF.weak [1, 2, 3, 7, 11, 12] (by kernel_rfl), hS, hm⟩
                · replace hm := if_f hm hb
                  refine reg1 [] [] [1, 2, 3, 7, 11, 12] [pl 1 (.bool vulnerable1), pl 2 (.int .i64 tricks1), pl 3 (.pointer (some ⟨g1, 0, none⟩)), pl 7 (.int .i64 (w64 (c_Level1 + 6))), pl 11 (.int .i64 each1), pl 12 (.int .i64 (w64 (n6 + 300)))] hF hS Fol (by kernel_rfl) (by kernel_rfl) (by kernel_rfl) ?_ (fun a w hF hS => ?_)
                  · exact obs_nil
                  refine then_n ?_
                  exact ⟨(w64 (n6 + 300)), hF.weak [1, 2, 3, 7, 11, 12] (by kernel_rfl), hS, hm⟩
          · refine reg [⟨false, [], vS (Instr.loadAt 3 (.pointer (some ⟨g1, 2, none⟩))), .int .i64 c_Doubled1⟩] [none, some (.int .i64 c_Doubled1), none] [1, 2, 3, 7, 11, 12, 94] [pl 1 (.bool vulnerable1), pl 2 (.int .i64 tricks1), pl 3 (.pointer (some ⟨g1, 0, none⟩)), pl 7 (.int .i64 (w64 (c_Level1 + 6))), pl 11 (.int .i64 each1), pl 12 (.int .i64 n5), pl 94 (.bool (c_Doubled1 == 2))] hF hS Fol (by kernel_rfl) (by kernel_rfl) (by kernel_rfl) ?_ (fun a w hF hS => ?_)
            · exact obs_cons (ob_load Agg3 (fun _ _ hS => (hS.at_ 0 rfl).cell rfl)) <| obs_nil
            refine cond_ev (t := 94) (b := (c_Doubled1 == 2)) hF (by kernel_rfl) (fun hb => ?_) (fun hb => ?_)
            · replace hm := if_t hm hb
              refine reg1 [] [] [1, 2, 3, 7, 11, 12] [pl 1 (.bool vulnerable1), pl 2 (.int .i64 tricks1), pl 3 (.pointer (some ⟨g1, 0, none⟩)), pl 7 (.int .i64 (w64 (c_Level1 + 6))), pl 11 (.int .i64 each1), pl 12 (.int .i64 (w64 (4 * n5)))] hF hS Fol (by kernel_rfl) (by kernel_rfl) (by kernel_rfl) ?_ (fun a w hF hS => ?_)
              · exact obs_nil
              refine then_n ?_
              exact ⟨(w64 (4 * n5)), hF.weak [1, 2, 3, 7, 11, 12] (by kernel_rfl), hS, hm⟩
            · replace hm := if_f hm hb
              refine wp_skip ?_
              refine then_n ?_
              exact ⟨n5, hF.weak [1, 2, 3, 7, 11, 12] (by kernel_rfl), hS, hm⟩
        · refine reg [⟨false, [], vS (Instr.loadAt 3 (.pointer (some ⟨g1, 2, none⟩))), .int .i64 c_Doubled1⟩] [none, some (.int .i64 c_Doubled1), none] [1, 2, 3, 7, 11, 12, 89] [pl 1 (.bool vulnerable1), pl 2 (.int .i64 tricks1), pl 3 (.pointer (some ⟨g1, 0, none⟩)), pl 7 (.int .i64 (w64 (c_Level1 + 6))), pl 11 (.int .i64 each1), pl 12 (.int .i64 n4), pl 89 (.bool (c_Doubled1 == 1))] hF hS Fol (by kernel_rfl) (by kernel_rfl) (by kernel_rfl) ?_ (fun a w hF hS => ?_)
          · exact obs_cons (ob_load Agg3 (fun _ _ hS => (hS.at_ 0 rfl).cell rfl)) <| obs_nil
          refine cond_ev (t := 89) (b := (c_Doubled1 == 1)) hF (by kernel_rfl) (fun hb => ?_) (fun hb => ?_)
          · replace hm := if_t hm hb
            refine reg1 [] [] [1, 2, 3, 7, 11, 12] [pl 1 (.bool vulnerable1), pl 2 (.int .i64 tricks1), pl 3 (.pointer (some ⟨g1, 0, none⟩)), pl 7 (.int .i64 (w64 (c_Level1 + 6))), pl 11 (.int .i64 each1), pl 12 (.int .i64 (w64 (2 * n4)))] hF hS Fol (by kernel_rfl) (by kernel_rfl) (by kernel_rfl) ?_ (fun a w hF hS => ?_)
            · exact obs_nil
            refine then_n ?_
            exact ⟨(w64 (2 * n4)), hF.weak [1, 2, 3, 7, 11, 12] (by kernel_rfl), hS, hm⟩
          · replace hm := if_f hm hb
            refine wp_skip ?_
            refine then_n ?_
            exact ⟨n4, hF.weak [1, 2, 3, 7, 11, 12] (by kernel_rfl), hS, hm⟩
      · refine reg [⟨false, [], vS (Instr.loadAt 3 (.pointer (some ⟨g1, 1, none⟩))), .int .i64 c_Strain1⟩] [none, some (.int .i64 c_Strain1), none] [1, 2, 3, 7, 11, 12, 84] [pl 1 (.bool vulnerable1), pl 2 (.int .i64 tricks1), pl 3 (.pointer (some ⟨g1, 0, none⟩)), pl 7 (.int .i64 (w64 (c_Level1 + 6))), pl 11 (.int .i64 each1), pl 12 (.int .i64 (w64 (each1 * c_Level1))), pl 84 (.bool (c_Strain1 == 4))] hF hS Fol (by kernel_rfl) (by kernel_rfl) (by kernel_rfl) ?_ (fun a w hF hS => ?_)
        · exact obs_cons (ob_load Agg3 (fun _ _ hS => (hS.at_ 0 rfl).cell rfl)) <| obs_nil
        refine cond_ev (t := 84) (b := (c_Strain1 == 4)) hF (by kernel_rfl) (fun hb => ?_) (fun hb => ?_)
        · replace hm := if_t hm hb
          refine reg1 [] [] [1, 2, 3, 7, 11, 12] [pl 1 (.bool vulnerable1), pl 2 (.int .i64 tricks1), pl 3 (.pointer (some ⟨g1, 0, none⟩)), pl 7 (.int .i64 (w64 (c_Level1 + 6))), pl 11 (.int .i64 each1), pl 12 (.int .i64 (w64 ((w64 (each1 * c_Level1)) + 10)))] hF hS Fol (by kernel_rfl) (by kernel_rfl) (by kernel_rfl) ?_ (fun a w hF hS => ?_)
          · exact obs_nil
          refine then_n ?_
          exact ⟨(w64 ((w64 (each1 * c_Level1)) + 10)), hF.weak [1, 2, 3, 7, 11, 12] (by kernel_rfl), hS, hm⟩
        · replace hm := if_f hm hb
          refine wp_skip ?_
          refine then_n ?_
          exact ⟨(w64 (each1 * c_Level1)), hF.weak [1, 2, 3, 7, 11, 12] (by kernel_rfl), hS, hm⟩
    · refine reg [⟨false, [], vS (Instr.loadAt 3 (.pointer (some ⟨g1, 1, none⟩))), .int .i64 c_Strain1⟩] [none, some (.int .i64 c_Strain1), none] [1, 2, 3, 7, 11, 77] [pl 1 (.bool vulnerable1), pl 2 (.int .i64 tricks1), pl 3 (.pointer (some ⟨g1, 0, none⟩)), pl 7 (.int .i64 (w64 (c_Level1 + 6))), pl 11 (.int .i64 30), pl 77 (.bool (decide (c_Strain1 ≤ 1)))] hF hS Fol (by kernel_rfl) (by kernel_rfl) (by kernel_rfl) ?_ (fun a w hF hS => ?_)
      · exact obs_cons (ob_load Agg3 (fun _ _ hS => (hS.at_ 0 rfl).cell rfl)) <| obs_nil
      refine cond_ev (t := 77) (b := decide (c_Strain1 ≤ 1)) hF (by kernel_rfl) (fun hb => ?_) (fun hb => ?_)
      · replace hm := if_t hm hb
        refine reg1 [] [] [1, 2, 3, 7, 11] [pl 1 (.bool vulnerable1), pl 2 (.int .i64 tricks1), pl 3 (.pointer (some ⟨g1, 0, none⟩)), pl 7 (.int .i64 (w64 (c_Level1 + 6))), pl 11 (.int .i64 20)] hF hS Fol (by kernel_rfl) (by kernel_rfl) (by kernel_rfl) ?_ (fun a w hF hS => ?_)
        · exact obs_nil
        refine then_n ?_
        exact ⟨20, hF.weak [1, 2, 3, 7, 11] (by kernel_rfl), hS, hm⟩
      · replace hm := if_f hm hb
        refine wp_skip ?_
        refine then_n ?_
        exact ⟨30, hF.weak [1, 2, 3, 7, 11] (by kernel_rfl), hS, hm⟩
  · refine reg [] [] [1, 2, 3, 7, 19] [pl 1 (.bool vulnerable1), pl 2 (.int .i64 tricks1), pl 3 (.pointer (some ⟨g1, 0, none⟩)), pl 7 (.int .i64 (w64 (c_Level1 + 6))), pl 19 (.bool (decide (tricks1 < (w64 (c_Level1 + 6)))))] hF hS Fol (by kernel_rfl) (by kernel_rfl) (by kernel_rfl) ?_ (fun a w hF hS => ?_)
    · exact obs_nil
    refine cond_ev (t := 19) (b := decide (tricks1 < (w64 (c_Level1 + 6)))) hF (by kernel_rfl) (fun hb => ?_) (fun hb => ?_)
    · replace hm := if_t hm hb
      refine reg [] [] [1, 3, 8] [pl 1 (.bool vulnerable1), pl 3 (.pointer (some ⟨g1, 0, none⟩)), pl 8 (.int .i64 (w64 ((w64 (c_Level1 + 6)) - tricks1)))] hF hS Fol (by kernel_rfl) (by kernel_rfl) (by kernel_rfl) ?_ (fun a w hF hS => ?_)
      · exact obs_nil
      refine reg [] [] [1, 3, 8, 9] [pl 1 (.bool vulnerable1), pl 3 (.pointer (some ⟨g1, 0, none⟩)), pl 8 (.int .i64 (w64 ((w64 (c_Level1 + 6)) - tricks1))), pl 9 (.int .i64 0)] hF hS Fol (by kernel_rfl) (by kernel_rfl) (by kernel_rfl) ?_ (fun a w hF hS => ?_)
      · exact obs_nil
      refine seq_cut (fun a w => ∃ (n1 : Int), Fr 171 [pl 9 (.int .i64 n1)] a ∧ Sep w0 w0.heap.size w [] ∧ (gameroomref_ScoreOf_J2 n1).bind some = some r) ?_ ?_
      · rintro a w ⟨n1, hF, hS, hm⟩
        unfold gameroomref_ScoreOf_J2 at hm
        refine reg [] [] [6] [pl 6 (.int .i64 (w64 (0 - n1)))] hF hS Fol (by kernel_rfl) (by kernel_rfl) (by kernel_rfl) ?_ (fun a w hF hS => ?_)
        · exact obs_nil
        refine wp_ret ?_
        refine then_r ?_
        have hm : some (w64 (0 - n1)) = some r := hm
        obtain rfl := Option.some.inj hm
        exact ret1 (t := 6) (v := .int .i64 (w64 (0 - n1))) hF rfl (by kernel_rfl) ⟨rfl, hS⟩
      · refine reg [] [] [1, 3, 8, 9, 10] [pl 1 (.bool vulnerable1), pl 3 (.pointer (some ⟨g1, 0, none⟩)), pl 8 (.int .i64 (w64 ((w64 (c_Level1 + 6)) - tricks1))), pl 9 (.int .i64 0), pl 10 (.int .i64 1)] hF hS Fol (by kernel_rfl) (by kernel_rfl) (by kernel_rfl) ?_ (fun a w hF hS => ?_)
        · exact obs_nil
        refine wp_block ?_
        refine wp_loop_model (S := (Int × Int)) (R := Int) (gameroomref_ScoreOf_L1 c_Level1 c_Doubled1 vulnerable1 tricks1) (fun x => (gameroomref_ScoreOf_K1 x).bind some) r (fun (x : (Int × Int)) a w => Fr 171 [pl 1 (.bool vulnerable1), pl 3 (.pointer (some ⟨g1, 0, none⟩)), pl 8 (.int .i64 (w64 ((w64 (c_Level1 + 6)) - tricks1))), pl 9 (.int .i64 x.1), pl 10 (.int .i64 x.2)] a ∧ Sep w0 w0.heap.size w [blk g1 47 #[.int .i64 c_Level1, .int .i64 c_Strain1, .int .i64 c_Doubled1, .int .i64 c_Declarer1]]) (assoc_b hm) ⟨hF.weak [1, 3, 8, 9, 10] (by kernel_rfl), hS⟩ ?_
        clear hF hS hm
        rintro nn1 ⟨n2, i1⟩ a w ⟨hF, hS⟩ hm
        generalize hφ1 : stK (gameroomref_ScoreOf_L1 c_Level1 c_Doubled1 vulnerable1 tricks1) nn1 (fun x => (gameroomref_ScoreOf_K1 x).bind some) = φ1 at hm
        unfold gameroomref_ScoreOf_L1 at hm
        dsimp only at hF hS hm
        refine seq_cut (fun a w => Fr 171 [pl 1 (.bool vulnerable1), pl 3 (.pointer (some ⟨g1, 0, none⟩)), pl 8 (.int .i64 (w64 ((w64 (c_Level1 + 6)) - tricks1))), pl 9 (.int .i64 n2), pl 10 (.int .i64 i1)] a ∧ Sep w0 w0.heap.size w [blk g1 47 #[.int .i64 c_Level1, .int .i64 c_Strain1, .int .i64 c_Doubled1, .int .i64 c_Declarer1]] ∧ ((gameroomref_ScoreOf_J3 c_Doubled1 vulnerable1 n2 i1)).bind φ1 = some r) ?_ ?_
        · rintro a w ⟨hF, hS, hm⟩
          unfold gameroomref_ScoreOf_J3 at hm
          refine seq_cut (fun a w => ∃ (n3 : Int), Fr 171 [pl 1 (.bool vulnerable1), pl 3 (.pointer (some ⟨g1, 0, none⟩)), pl 8 (.int .i64 (w64 ((w64 (c_Level1 + 6)) - tricks1))), pl 9 (.int .i64 n3), pl 10 (.int .i64 i1)] a ∧ Sep w0 w0.heap.size w [blk g1 47 #[.int .i64 c_Level1, .int .i64 c_Strain1, .int .i64 c_Doubled1, .int .i64 c_Declarer1]] ∧ ((gameroomref_ScoreOf_J4 i1) n3).bind φ1 = some r) ?_ ?_
          · rintro a w ⟨n3, hF, hS, hm⟩
            unfold gameroomref_ScoreOf_J4 at hm
            refine reg1 [] [] [1, 3, 8, 9, 10] [pl 1 (.bool vulnerable1), pl 3 (.pointer (some ⟨g1, 0, none⟩)), pl 8 (.int .i64 (w64 ((w64 (c_Level1 + 6)) - tricks1))), pl 9 (.int .i64 n3), pl 10 (.int .i64 (w64 (i1 + 1)))] hF hS Fol (by kernel_rfl) (by kernel_rfl) (by kernel_rfl) ?_ (fun a w hF hS => ?_)
            · exact obs_nil
            refine then_n ?_
            rw [← hφ1] at hm
            exact ⟨(n3, (w64 (i1 + 1))), ⟨hF.weak [1, 3, 8, 9, 10] (by kernel_rfl), hS⟩, hm⟩
          · refine wp_block ?_
            refine reg [⟨false, [], vS (Instr.loadAt 3 (.pointer (some ⟨g1, 2, none⟩))), .int .i64 c_Doubled1⟩] [none, some (.int .i64 c_Doubled1), none, none, none, none] [1, 3, 8, 9, 10, 33] [pl 1 (.bool vulnerable1), pl 3 (.pointer (some ⟨g1, 0, none⟩)), pl 8 (.int .i64 (w64 ((w64 (c_Level1 + 6)) - tricks1))), pl 9 (.int .i64 n2), pl 10 (.int .i64 i1), pl 33 (.bool ((c_Doubled1 == 0) && vulnerable1))] hF hS Fol (by kernel_rfl) (by kernel_rfl) (by kernel_rfl) ?_ (fun a w hF hS => ?_)
            · exact obs_cons (ob_load Agg3 (fun _ _ hS => (hS.at_ 0 rfl).cell rfl)) <| obs_nil
            refine cond_ev (t := 33) (b := (c_Doubled1 == 0) && vulnerable1) hF (by kernel_rfl) (fun hb => ?_) (fun hb => ?_)
            · replace hm := if_t hm hb
              refine reg1 [] [] [1, 3, 8, 9, 10] [pl 1 (.bool vulnerable1), pl 3 (.pointer (some ⟨g1, 0, none⟩)), pl 8 (.int .i64 (w64 ((w64 (c_Level1 + 6)) - tricks1))), pl 9 (.int .i64 (w64 (n2 + 100))), pl 10 (.int .i64 i1)] hF hS Fol (by kernel_rfl) (by kernel_rfl) (by kernel_rfl) ?_ (fun a w hF hS => ?_)
              · exact obs_nil
              refine block_n ?_
              refine then_n ?_
              exact ⟨(w64 (n2 + 100)), hF.weak [1, 3, 8, 9, 10] (by kernel_rfl), hS, hm⟩
            · replace hm := if_f hm hb
              refine reg [⟨false, [], vS (Instr.loadAt 3 (.pointer (some ⟨g1, 2, none⟩))), .int .i64 c_Doubled1⟩] [none, some (.int .i64 c_Doubled1), none] [1, 3, 8, 9, 10, 38] [pl 1 (.bool vulnerable1), pl 3 (.pointer (some ⟨g1, 0, none⟩)), pl 8 (.int .i64 (w64 ((w64 (c_Level1 + 6)) - tricks1))), pl 9 (.int .i64 n2), pl 10 (.int .i64 i1), pl 38 (.bool (c_Doubled1 == 0))] hF hS Fol (by kernel_rfl) (by kernel_rfl) (by kernel_rfl) ?_ (fun a w hF hS => ?_)
              · exact obs_cons (ob_load Agg3 (fun _ _ hS => (hS.at_ 0 rfl).cell rfl)) <| obs_nil
              refine cond_ev (t := 38) (b := (c_Doubled1 == 0)) hF (by kernel_rfl) (fun hb => ?_) (fun hb => ?_)
              · replace hm := if_t hm hb
                refine reg1 [] [] [1, 3, 8, 9, 10] [pl 1 (.bool vulnerable1), pl 3 (.pointer (some ⟨g1, 0, none⟩)), pl 8 (.int .i64 (w64 ((w64 (c_Level1 + 6)) - tricks1))), pl 9 (.int .i64 (w64 (n2 + 50))), pl 10 (.int .i64 i1)] hF hS Fol (by kernel_rfl) (by kernel_rfl) (by kernel_rfl) ?_ (fun a w hF hS => ?_)
                · exact obs_nil
                refine block_n ?_
                refine then_n ?_
                exact ⟨(w64 (n2 + 50)), hF.weak [1, 3, 8, 9, 10] (by kernel_rfl), hS, hm⟩
              · replace hm := if_f hm hb
                refine reg [] [] [1, 3, 8, 9, 10, 45] [pl 1 (.bool vulnerable1), pl 3 (.pointer (some ⟨g1, 0, none⟩)), pl 8 (.int .i64 (w64 ((w64 (c_Level1 + 6)) - tricks1))), pl 9 (.int .i64 n2), pl 10 (.int .i64 i1), pl 45 (.bool (vulnerable1 && (i1 == 1)))] hF hS Fol (by kernel_rfl) (by kernel_rfl) (by kernel_rfl) ?_ (fun a w hF hS => ?_)
                · exact obs_nil
                refine cond_ev (t := 45) (b := vulnerable1 && (i1 == 1)) hF (by kernel_rfl) (fun hb => ?_) (fun hb => ?_)
                · replace hm := if_t hm hb
                  refine reg1 [⟨false, [], vS (Instr.loadAt 3 (.pointer (some ⟨g1, 2, none⟩))), .int .i64 c_Doubled1⟩] [none, none, some (.int .i64 c_Doubled1), none, none, none] [1, 3, 8, 9, 10] [pl 1 (.bool vulnerable1), pl 3 (.pointer (some ⟨g1, 0, none⟩)), pl 8 (.int .i64 (w64 ((w64 (c_Level1 + 6)) - tricks1))), pl 9 (.int .i64 (w64 (n2 + (w64 (200 * c_Doubled1))))), pl 10 (.int .i64 i1)] hF hS Fol (by kernel_rfl) (by kernel_rfl) (by kernel_rfl) ?_ (fun a w hF hS => ?_)
                  · exact obs_cons (ob_load Agg3 (fun _ _ hS => (hS.at_ 0 rfl).cell rfl)) <| obs_nil
                  refine block_n ?_
                  refine then_n ?_
                  exact ⟨(w64 (n2 + (w64 (200 * c_Doubled1)))), hF.weak [1, 3, 8, 9, 10] (by kernel_rfl), hS, hm⟩
                · replace hm := if_f hm hb
                  refine reg [] [] [1, 3, 8, 9, 10, 55] [pl 1 (.bool vulnerable1), pl 3 (.pointer (some ⟨g1, 0, none⟩)), pl 8 (.int .i64 (w64 ((w64 (c_Level1 + 6)) - tricks1))), pl 9 (.int .i64 n2), pl 10 (.int .i64 i1), pl 55 (.bool (vulnerable1 || (decide ((3 : Int) < i1))))] hF hS Fol (by kernel_rfl) (by kernel_rfl) (by kernel_rfl) ?_ (fun a w hF hS => ?_)
                  · exact obs_nil
                  refine cond_ev (t := 55) (b := vulnerable1 || (decide ((3 : Int) < i1))) hF (by kernel_rfl) (fun hb => ?_) (fun hb => ?_)
                  · replace hm := if_t hm hb
                    refine reg1 [⟨false, [], vS (Instr.loadAt 3 (.pointer (some ⟨g1, 2, none⟩))), .int .i64 c_Doubled1⟩] [none, none, some (.int .i64 c_Doubled1), none, none, none] [1, 3, 8, 9, 10] [pl 1 (.bool vulnerable1), pl 3 (.pointer (some ⟨g1, 0, none⟩)), pl 8 (.int .i64 (w64 ((w64 (c_Level1 + 6)) - tricks1))), pl 9 (.int .i64 (w64 (n2 + (w64 (300 * c_Doubled1))))), pl 10 (.int .i64 i1)] hF hS Fol (by kernel_rfl) (by kernel_rfl) (by kernel_rfl) ?_ (fun a w hF hS => ?_)
                    · exact obs_cons (ob_load Agg3 (fun _ _ hS => (hS.at_ 0 rfl).cell rfl)) <| obs_nil
                    refine block_n ?_
                    refine then_n ?_
                    exact ⟨(w64 (n2 + (w64 (300 * c_Doubled1)))), hF.weak [1, 3, 8, 9, 10] (by kernel_rfl), hS, hm⟩
                  · replace hm := if_f hm hb
                    refine reg [] [] [1, 3, 8, 9, 10, 62] [pl 1 (.bool vulnerable1), pl 3 (.pointer (some ⟨g1, 0, none⟩)), pl 8 (.int .i64 (w64 ((w64 (c_Level1 + 6)) - tricks1))), pl 9 (.int .i64 n2), pl 10 (.int .i64 i1), pl 62 (.bool (i1 == 1))] hF hS Fol (by kernel_rfl) (by kernel_rfl) (by kernel_rfl) ?_ (fun a w hF hS => ?_)
                    · exact obs_nil
                    refine cond_ev (t := 62) (b := (i1 == 1)) hF (by kernel_rfl) (fun hb => ?_) (fun hb => ?_)
                    · replace hm := if_t hm hb
                      refine reg1 [⟨false, [], vS (Instr.loadAt 3 (.pointer (some ⟨g1, 2, none⟩))), .int .i64 c_Doubled1⟩] [none, none, some (.int .i64 c_Doubled1), none, none, none] [1, 3, 8, 9, 10] [pl 1 (.bool vulnerable1), pl 3 (.pointer (some ⟨g1, 0, none⟩)), pl 8 (.int .i64 (w64 ((w64 (c_Level1 + 6)) - tricks1))), pl 9 (.int .i64 (w64 (n2 + (w64 (100 * c_Doubled1))))), pl 10 (.int .i64 i1)] hF hS Fol (by kernel_rfl) (by kernel_rfl) (by kernel_rfl) ?_ (fun a w hF hS => ?_)
                      · exact obs_cons (ob_load Agg3 (fun _ _ hS => (hS.at_ 0 rfl).cell rfl)) <| obs_nil
                      refine block_n ?_
                      refine then_n ?_
                      exact ⟨(w64 (n2 + (w64 (100 * c_Doubled1)))), hF.weak [1, 3, 8, 9, 10] (by kernel_rfl), hS, hm⟩
                    · replace hm := if_f hm hb
                      refine reg1 [⟨false, [], vS (Instr.loadAt 3 (.pointer (some ⟨g1, 2, none⟩))), .int .i64 c_Doubled1⟩] [none, none, some (.int .i64 c_Doubled1), none, none, none] [1, 3, 8, 9, 10] [pl 1 (.bool vulnerable1), pl 3 (.pointer (some ⟨g1, 0, none⟩)), pl 8 (.int .i64 (w64 ((w64 (c_Level1 + 6)) - tricks1))), pl 9 (.int .i64 (w64 (n2 + (w64 (200 * c_Doubled1))))), pl 10 (.int .i64 i1)] hF hS Fol (by kernel_rfl) (by kernel_rfl) (by kernel_rfl) ?_ (fun a w hF hS => ?_)
                      · exact obs_cons (ob_load Agg3 (fun _ _ hS => (hS.at_ 0 rfl).cell rfl)) <| obs_nil
                      refine block_n ?_
                      refine then_n ?_
                      exact ⟨(w64 (n2 + (w64 (200 * c_Doubled1)))), hF.weak [1, 3, 8, 9, 10] (by kernel_rfl), hS, hm⟩
        · refine reg [] [] [1, 3, 8, 9, 10, 25] [pl 1 (.bool vulnerable1), pl 3 (.pointer (some ⟨g1, 0, none⟩)), pl 8 (.int .i64 (w64 ((w64 (c_Level1 + 6)) - tricks1))), pl 9 (.int .i64 n2), pl 10 (.int .i64 i1), pl 25 (.bool (decide (i1 ≤ (w64 ((w64 (c_Level1 + 6)) - tricks1)))))] hF hS Fol (by kernel_rfl) (by kernel_rfl) (by kernel_rfl) ?_ (fun a w hF hS => ?_)
          · exact obs_nil
          refine cond_ev (t := 25) (b := decide (i1 ≤ (w64 ((w64 (c_Level1 + 6)) - tricks1)))) hF (by kernel_rfl) (fun hb => ?_) (fun hb => ?_)
          · replace hm := if_t hm hb
            refine wp_skip ?_
            refine then_n ?_
            exact ⟨hF.weak [1, 3, 8, 9, 10] (by kernel_rfl), hS, hm⟩
          · replace hm := if_f hm hb
            refine wp_exit ?_
            refine then_e (then_e (block_e (then_n ?_)))
            have hS := hS.pick [] (by decide)
            rw [← hφ1] at hm
            have hm : (gameroomref_ScoreOf_J2 n2).bind some = some r := hm
            exact ⟨n2, hF.weak [9] (by kernel_rfl), hS, hm⟩
    · replace hm := if_f hm hb
      refine wp_skip ?_
      refine then_n ?_
      exact ⟨hF.weak [1, 2, 3, 7] (by kernel_rfl), hS, hm⟩

noncomputable def gameroomlaw_BridgeScores_J1 (c_Level1 : Int) (c_Strain1 : Int) (c_Doubled1 : Int) (c_Declarer1 : Int) (vulnerable1 : Bool) (tricks1 : Int) (r1 : (Int × Int)) : Option Bool :=
  ((if (r1.2 == 0) then gameroomref_ScoreOf_m c_Level1 c_Strain1 c_Doubled1 c_Declarer1 vulnerable1 tricks1 else some 0)).bind fun r3 => some ((r1.2 == 0) && (r1.1 == r3))

noncomputable def gameroomlaw_BridgeScores_m (c_Level1 : Int) (c_Strain1 : Int) (c_Doubled1 : Int) (c_Declarer1 : Int) (vulnerable1 : Bool) (tricks1 : Int) : Option Bool :=
  (bridge_Score_m c_Level1 c_Strain1 c_Doubled1 c_Declarer1 vulnerable1 tricks1).bind fun r1 => (gameroomref_ContractMay_m c_Level1 c_Strain1 c_Doubled1 c_Declarer1 tricks1).bind fun r2 => if (!r2) then (some ((r1.2 == 3) && (r1.1 == 0))) else ((gameroomlaw_BridgeScores_J1 c_Level1 c_Strain1 c_Doubled1 c_Declarer1 vulnerable1 tricks1 r1))

noncomputable def gameroomlaw_BridgeScores_J1N (N : Nat) (c_Level1 : Int) (c_Strain1 : Int) (c_Doubled1 : Int) (c_Declarer1 : Int) (vulnerable1 : Bool) (tricks1 : Int) (r1 : (Int × Int)) : Option Bool :=
  ((if (r1.2 == 0) then gameroomref_ScoreOf_mN N c_Level1 c_Strain1 c_Doubled1 c_Declarer1 vulnerable1 tricks1 else some 0)).bind fun r3 => some ((r1.2 == 0) && (r1.1 == r3))

theorem gameroomlaw_BridgeScores_J1_le (N : Nat) (c_Level1 : Int) (c_Strain1 : Int) (c_Doubled1 : Int) (c_Declarer1 : Int) (vulnerable1 : Bool) (tricks1 : Int) (r1 : (Int × Int)) : Le (gameroomlaw_BridgeScores_J1N N c_Level1 c_Strain1 c_Doubled1 c_Declarer1 vulnerable1 tricks1 r1) (gameroomlaw_BridgeScores_J1 c_Level1 c_Strain1 c_Doubled1 c_Declarer1 vulnerable1 tricks1 r1) := by
  unfold gameroomlaw_BridgeScores_J1N gameroomlaw_BridgeScores_J1
  repeat' (first | with_reducible exact Le.refl _ | (with_reducible exact gameroomref_ScoreOf_m_le _ _ _ _ _ _ _) | refine Le.asrt ?_ | refine Le.ite ?_ ?_ | refine Le.bind ?_ (fun _ => ?_) | refine Le.loop (fun _ => ?_))

noncomputable def gameroomlaw_BridgeScores_mN (N : Nat) (c_Level1 : Int) (c_Strain1 : Int) (c_Doubled1 : Int) (c_Declarer1 : Int) (vulnerable1 : Bool) (tricks1 : Int) : Option Bool :=
  (bridge_Score_mN N c_Level1 c_Strain1 c_Doubled1 c_Declarer1 vulnerable1 tricks1).bind fun r1 => (gameroomref_ContractMay_mN N c_Level1 c_Strain1 c_Doubled1 c_Declarer1 tricks1).bind fun r2 => if (!r2) then (some ((r1.2 == 3) && (r1.1 == 0))) else ((gameroomlaw_BridgeScores_J1N N c_Level1 c_Strain1 c_Doubled1 c_Declarer1 vulnerable1 tricks1 r1))

theorem gameroomlaw_BridgeScores_m_le (N : Nat) (c_Level1 : Int) (c_Strain1 : Int) (c_Doubled1 : Int) (c_Declarer1 : Int) (vulnerable1 : Bool) (tricks1 : Int) : Le (gameroomlaw_BridgeScores_mN N c_Level1 c_Strain1 c_Doubled1 c_Declarer1 vulnerable1 tricks1) (gameroomlaw_BridgeScores_m c_Level1 c_Strain1 c_Doubled1 c_Declarer1 vulnerable1 tricks1) := by
  unfold gameroomlaw_BridgeScores_mN gameroomlaw_BridgeScores_m
  repeat' (first | with_reducible exact Le.refl _ | (with_reducible exact gameroomlaw_BridgeScores_J1_le _ _ _ _ _ _ _ _) | (with_reducible exact bridge_Score_m_le _ _ _ _ _ _ _) | (with_reducible exact gameroomref_ContractMay_m_le _ _ _ _ _ _) | refine Le.asrt ?_ | refine Le.ite ?_ ?_ | refine Le.bind ?_ (fun _ => ?_) | refine Le.loop (fun _ => ?_))

set_option maxRecDepth 100000 in
set_option maxHeartbeats 4000000 in
theorem gameroomlaw_BridgeScores_w {c_Level1 : Int} {c_Strain1 : Int} {c_Doubled1 : Int} {c_Declarer1 : Int} {vulnerable1 : Bool} {tricks1 : Int} {r : Bool} {w0 : World} (hm : gameroomlaw_BridgeScores_m c_Level1 c_Strain1 c_Doubled1 c_Declarer1 vulnerable1 tricks1 = some r) :
    Calls Try.prog 8 #[.agg #[.int .i64 c_Level1, .int .i64 c_Strain1, .int .i64 c_Doubled1, .int .i64 c_Declarer1], .bool vulnerable1, .int .i64 tricks1] w0 fun e w' => e = .returned (.bool r) ∧ Sep w0 w0.heap.size w' [] := by
  unfold gameroomlaw_BridgeScores_m at hm
  replace hm := start_b hm
  refine enterS (l := [.agg #[.int .i64 c_Level1, .int .i64 c_Strain1, .int .i64 c_Doubled1, .int .i64 c_Declarer1], .bool vulnerable1, .int .i64 tricks1]) (n := 36) Try.func8 rfl rfl (by simp) (fun a w hF hS => ?_)
  refine seqR ?_
  refine at_do (d := 3) (s := vS (Instr.box 47 (.agg #[.int .i64 c_Level1, .int .i64 c_Strain1, .int .i64 c_Doubled1, .int .i64 c_Declarer1]))) (v := .pointer (some ⟨w.heap.size, 0, none⟩)) (w' := w.alloc (.cells #[.int .i64 c_Level1, .int .i64 c_Strain1, .int .i64 c_Doubled1, .int .i64 c_Declarer1] 47)) hF (by kernel_rfl) (by kernel_rfl) (by kernel_rfl) (fun a hF => ?_)
  have hS : Sep w0 w0.heap.size (w.alloc (.cells #[.int .i64 c_Level1, .int .i64 c_Strain1, .int .i64 c_Doubled1, .int .i64 c_Declarer1] 47)) (blk w.heap.size 47 #[.int .i64 c_Level1, .int .i64 c_Strain1, .int .i64 c_Doubled1, .int .i64 c_Declarer1] :: []) := hS.box 47 #[.int .i64 c_Level1, .int .i64 c_Strain1, .int .i64 c_Doubled1, .int .i64 c_Declarer1]
  generalize w.heap.size = g1 at hF hS
  generalize w.alloc (.cells #[.int .i64 c_Level1, .int .i64 c_Strain1, .int .i64 c_Doubled1, .int .i64 c_Declarer1] 47) = w at hS ⊢
  refine at_run 1 [] [] [1, 2, 3] [pl 1 (.bool vulnerable1), pl 2 (.int .i64 tricks1), pl 3 (.pointer (some ⟨g1, 0, none⟩))] hF hS (by kernel_rfl) (by kernel_rfl) ?_ (fun a w hF hS => ?_)
  · exact obs_nil
  refine at_end [1, 2, 3] [pl 1 (.bool vulnerable1), pl 2 (.int .i64 tricks1), pl 3 (.pointer (some ⟨g1, 0, none⟩))] hF rfl (by kernel_rfl) (fun hF => ?_)
  refine then_n ?_
  obtain ⟨r1, hr1, hm⟩ := call_b hm
  refine reg [⟨false, [], vS (Instr.loadAt 47 (.pointer (some ⟨g1, 0, none⟩))), .agg #[.int .i64 c_Level1, .int .i64 c_Strain1, .int .i64 c_Doubled1, .int .i64 c_Declarer1]⟩, ⟨false, [], callFunc 27 #[.agg #[.int .i64 c_Level1, .int .i64 c_Strain1, .int .i64 c_Doubled1, .int .i64 c_Declarer1], .bool vulnerable1, .int .i64 tricks1], .tuple #[.int .i64 r1.1, .int .i64 r1.2]⟩] [some (.agg #[.int .i64 c_Level1, .int .i64 c_Strain1, .int .i64 c_Doubled1, .int .i64 c_Declarer1]), none, none, some (.tuple #[.int .i64 r1.1, .int .i64 r1.2]), none, none, none, none, none] [1, 2, 3, 7, 8] [pl 1 (.bool vulnerable1), pl 2 (.int .i64 tricks1), pl 3 (.pointer (some ⟨g1, 0, none⟩)), pl 7 (.int .i64 r1.1), pl 8 (.int .i64 r1.2)] hF hS Fol (by kernel_rfl) (by kernel_rfl) (by kernel_rfl) ?_ (fun a w hF hS => ?_)
  · exact obs_cons (ob_loadA (cs := #[.int .i64 c_Level1, .int .i64 c_Strain1, .int .i64 c_Doubled1, .int .i64 c_Declarer1]) (by kernel_rfl) (by kernel_rfl) (fun _ _ hS => (hS.at_ 0 rfl).cellsAt 0 (by rfl))) <| obs_cons (ob_call Try.func27 (by kernel_rfl) rfl (fun _ _ hS => quiet_of hS (bridge_Score_w hr1 ))) <| obs_nil
  refine seq_cut (fun a w => Fr 36 [pl 1 (.bool vulnerable1), pl 2 (.int .i64 tricks1), pl 3 (.pointer (some ⟨g1, 0, none⟩)), pl 7 (.int .i64 r1.1), pl 8 (.int .i64 r1.2)] a ∧ Sep w0 w0.heap.size w [blk g1 47 #[.int .i64 c_Level1, .int .i64 c_Strain1, .int .i64 c_Doubled1, .int .i64 c_Declarer1]] ∧ ((gameroomlaw_BridgeScores_J1 c_Level1 c_Strain1 c_Doubled1 c_Declarer1 vulnerable1 tricks1 r1)).bind some = some r) ?_ ?_
  · rintro a w ⟨hF, hS, hm⟩
    unfold gameroomlaw_BridgeScores_J1 at hm
    obtain ⟨r3, hr3, hm⟩ := call_b hm
    refine reg [⟨false, [((r1.2 == 0), true)], vS (Instr.loadAt 47 (.pointer (some ⟨g1, 0, none⟩))), .agg #[.int .i64 c_Level1, .int .i64 c_Strain1, .int .i64 c_Doubled1, .int .i64 c_Declarer1]⟩, ⟨false, [((r1.2 == 0), true)], callFunc 29 #[.agg #[.int .i64 c_Level1, .int .i64 c_Strain1, .int .i64 c_Doubled1, .int .i64 c_Declarer1], .bool vulnerable1, .int .i64 tricks1], .int .i64 r3⟩] [none, none, none, none, some (.agg #[.int .i64 c_Level1, .int .i64 c_Strain1, .int .i64 c_Doubled1, .int .i64 c_Declarer1]), none, none, some (.int .i64 r3), none, none, none] [6] [pl 6 (.bool ((r1.2 == 0) && (r1.1 == r3)))] hF hS Fol (by kernel_rfl) (by kernel_rfl) (by kernel_rfl) ?_ (fun a w hF hS => ?_)
    · exact obs_cons (ob_loadA (cs := #[.int .i64 c_Level1, .int .i64 c_Strain1, .int .i64 c_Doubled1, .int .i64 c_Declarer1]) (by kernel_rfl) (by kernel_rfl) (fun _ _ hS => (hS.at_ 0 rfl).cellsAt 0 (by rfl))) <| obs_cons (ob_call Try.func29 (by kernel_rfl) rfl (fun hy _ hS => quiet_of hS (gameroomref_ScoreOf_w (ite_some hr3 (by rw [show (r1.2 == 0) = true from hy ((r1.2 == 0), true) (by simp)]; try rfl)) ))) <| obs_nil
    refine wp_ret ?_
    have hS := hS.pick [] (by decide)
    have hm : some ((r1.2 == 0) && (r1.1 == r3)) = some r := hm
    obtain rfl := Option.some.inj hm
    exact ret1 (t := 6) (v := .bool ((r1.2 == 0) && (r1.1 == r3))) hF rfl (by kernel_rfl) ⟨rfl, hS⟩
  · obtain ⟨r2, hr2, hm⟩ := call_b hm
    refine reg [⟨false, [], vS (Instr.loadAt 47 (.pointer (some ⟨g1, 0, none⟩))), .agg #[.int .i64 c_Level1, .int .i64 c_Strain1, .int .i64 c_Doubled1, .int .i64 c_Declarer1]⟩, ⟨false, [], callFunc 28 #[.agg #[.int .i64 c_Level1, .int .i64 c_Strain1, .int .i64 c_Doubled1, .int .i64 c_Declarer1], .int .i64 tricks1], .bool r2⟩] [some (.agg #[.int .i64 c_Level1, .int .i64 c_Strain1, .int .i64 c_Doubled1, .int .i64 c_Declarer1]), none, some (.bool r2), none] [1, 2, 3, 7, 8, 19] [pl 1 (.bool vulnerable1), pl 2 (.int .i64 tricks1), pl 3 (.pointer (some ⟨g1, 0, none⟩)), pl 7 (.int .i64 r1.1), pl 8 (.int .i64 r1.2), pl 19 (.bool (!r2))] hF hS Fol (by kernel_rfl) (by kernel_rfl) (by kernel_rfl) ?_ (fun a w hF hS => ?_)
    · exact obs_cons (ob_loadA (cs := #[.int .i64 c_Level1, .int .i64 c_Strain1, .int .i64 c_Doubled1, .int .i64 c_Declarer1]) (by kernel_rfl) (by kernel_rfl) (fun _ _ hS => (hS.at_ 0 rfl).cellsAt 0 (by rfl))) <| obs_cons (ob_call Try.func28 (by kernel_rfl) rfl (fun _ _ hS => quiet_of hS (gameroomref_ContractMay_w hr2 ))) <| obs_nil
    refine cond_ev (t := 19) (b := !r2) hF (by kernel_rfl) (fun hb => ?_) (fun hb => ?_)
    · replace hm := if_t hm hb
      refine reg [] [] [6] [pl 6 (.bool ((r1.2 == 3) && (r1.1 == 0)))] hF hS Fol (by kernel_rfl) (by kernel_rfl) (by kernel_rfl) ?_ (fun a w hF hS => ?_)
      · exact obs_nil
      refine wp_ret ?_
      refine then_r ?_
      have hS := hS.pick [] (by decide)
      have hm : some ((r1.2 == 3) && (r1.1 == 0)) = some r := hm
      obtain rfl := Option.some.inj hm
      exact ret1 (t := 6) (v := .bool ((r1.2 == 3) && (r1.1 == 0))) hF rfl (by kernel_rfl) ⟨rfl, hS⟩
    · replace hm := if_f hm hb
      refine wp_skip ?_
      refine then_n ?_
      exact ⟨hF.weak [1, 2, 3, 7, 8] (by kernel_rfl), hS, hm⟩

end Go.Proofs.Ytnplejebgbdfpaa
