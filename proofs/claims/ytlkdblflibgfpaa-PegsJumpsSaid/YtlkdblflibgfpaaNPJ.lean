/-
  Models and walks, printed by our own program (wip/gen).
-/
import Derived.Test.YtlkdblflibgfpaaFB
import Derived.Test.YtlkdblflibgfpaaLibMV
import Derived.Test.YtlkdblflibgfpaaSF
import Derived.Test.YtlkdblflibgfpaaNPJa
namespace Go.Proofs.Ytlkdblflibgfpaa
set_option linter.unusedVariables false
open Go Go.GL Go.RowKit

noncomputable def gameroomlaw_noGrid_m  (g1 : Int) (g2 : Int) (g3 : List Int) : Option Bool :=
  some (((g1 == 0) && (g2 == 0)) && ((g3.length : Int) == 0))

set_option maxRecDepth 100000 in
set_option maxHeartbeats 4000000 in
theorem gameroomlaw_noGrid_w {g1 : Int} {g2 : Int} {A1 : Option Addr} {c1 : Nat} {n1 : Nat} {g3 : List Int} {r : Bool} {w0 w : World} {B : Nat} {fs : List HP} (hm : gameroomlaw_noGrid_m g1 g2 g3 = some r) (hS : Sep w0 B w (fs)) (hr_g3 : RdF w0 B fs A1 (vI g3)) (_hc_g3 : g3.length ≤ c1) (_hn_g3 : n1 = g3.length) :
    Calls Try.prog 35 #[.agg #[.int .i64 g1, .int .i64 g2, .slice A1 n1 c1]] w fun e w' => e = .returned (.bool r) ∧ Sep w0 B w' (fs) := by
  obtain ⟨i3, hi3, hz3, hs3, hb3⟩ := info_parts Info3
  obtain rfl := _hn_g3
  unfold gameroomlaw_noGrid_m at hm
  replace hm := start_b hm
  refine enter (l := [.agg #[.int .i64 g1, .int .i64 g2, .slice A1 g3.length c1]]) (n := 17) Try.func35 rfl rfl (by simp) (fun a hF => ?_)
  refine seqR ?_
  refine at_do (d := 1) (s := vS (Instr.box 41 (.agg #[.int .i64 g1, .int .i64 g2, .slice A1 g3.length c1]))) (v := .pointer (some ⟨w.heap.size, 0, none⟩)) (w' := w.alloc (.cells #[.int .i64 g1, .int .i64 g2, .slice A1 g3.length c1] 41)) hF (by kernel_rfl) (by kernel_rfl) (by kernel_rfl) (fun a hF => ?_)
  have hS : Sep w0 B (w.alloc (.cells #[.int .i64 g1, .int .i64 g2, .slice A1 g3.length c1] 41)) (blk w.heap.size 41 #[.int .i64 g1, .int .i64 g2, .slice A1 g3.length c1] :: (fs)) := hS.box 41 #[.int .i64 g1, .int .i64 g2, .slice A1 g3.length c1]
  generalize w.heap.size = g4 at hF hS
  generalize w.alloc (.cells #[.int .i64 g1, .int .i64 g2, .slice A1 g3.length c1] 41) = w at hS ⊢
  refine at_run 1 [] [] [1] [pl 1 (.pointer (some ⟨g4, 0, none⟩))] hF hS (by kernel_rfl) (by kernel_rfl) ?_ (fun a w hF hS => ?_)
  · exact obs_nil
  refine at_end [1] [pl 1 (.pointer (some ⟨g4, 0, none⟩))] hF rfl (by kernel_rfl) (fun hF => ?_)
  refine then_n ?_
  refine reg [⟨false, [], vS (Instr.loadAt 3 (.pointer (some ⟨g4, 0, none⟩))), .int .i64 g1⟩, ⟨false, [((g1 == 0), true)], vS (Instr.loadAt 3 (.pointer (some ⟨g4, 1, none⟩))), .int .i64 g2⟩, ⟨false, [((g1 == 0) && (g2 == 0), true)], vS (Instr.loadAt 22 (.pointer (some ⟨g4, 2, none⟩))), .slice A1 g3.length c1⟩] [none, some (.int .i64 g1), none, none, none, some (.int .i64 g2), none, none, none, none, some (.slice A1 g3.length c1), none, none, none, none] [2] [pl 2 (.bool (((g1 == 0) && (g2 == 0)) && ((g3.length : Int) == 0)))] hF hS Fol (by kernel_rfl) (by kernel_rfl) (by kernel_rfl) ?_ (fun a w hF hS => ?_)
  · exact obs_cons (ob_load Agg3 (fun _ _ hS => (hS.at_ 0 rfl).cell rfl)) <| obs_cons (ob_load Agg3 (fun _ _ hS => (hS.at_ 0 rfl).cell rfl)) <| obs_cons (ob_load Agg22 (fun _ _ hS => (hS.at_ 0 rfl).cell rfl)) <| obs_nil
  refine wpIn_ret ?_
  have hS := hS.pickN 1 [] (by decide)
  have hm : some (((g1 == 0) && (g2 == 0)) && ((g3.length : Int) == 0)) = some r := hm
  obtain rfl := Option.some.inj hm
  exact retV (rs := [.tmp 2]) (vs := [.bool (((g1 == 0) && (g2 == 0)) && ((g3.length : Int) == 0))]) hF rfl (rv_t (by kernel_rfl) <| rv_nil) rfl ⟨rfl, hS⟩

noncomputable def gameroomref_size_J1  (n1 : Int) : Option Int :=
  some n1

noncomputable def gameroomref_size_m  (n1 : Int) : Option Int :=
  if (decide (n1 < 0)) then (some (w64 (0 - n1))) else ((gameroomref_size_J1 n1))

set_option maxRecDepth 100000 in
set_option maxHeartbeats 4000000 in
theorem gameroomref_size_w {n1 : Int} {r : Int} {w0 w : World} {B : Nat} {fs : List HP} (hm : gameroomref_size_m n1 = some r) (hS : Sep w0 B w (fs)) :
    Calls Try.prog 105 #[.int .i64 n1] w fun e w' => e = .returned (.int .i64 r) ∧ Sep w0 B w' (fs) := by
  unfold gameroomref_size_m at hm
  replace hm := start_b hm
  refine enter (l := [.int .i64 n1]) (n := 8) Try.func105 rfl rfl (by simp) (fun a hF => ?_)
  refine reg [] [] [0] [pl 0 (.int .i64 n1)] hF hS Fol (by kernel_rfl) (by kernel_rfl) (by kernel_rfl) ?_ (fun a w hF hS => ?_)
  · exact obs_nil
  refine seq_cut (fun a w => Fr 8 [pl 0 (.int .i64 n1)] a ∧ Sep w0 B w (fs) ∧ ((gameroomref_size_J1 n1)).bind some = some r) ?_ ?_
  · rintro a w ⟨hF, hS, hm⟩
    unfold gameroomref_size_J1 at hm
    refine reg [] [] [2] [pl 2 (.int .i64 n1)] hF hS Fol (by kernel_rfl) (by kernel_rfl) (by kernel_rfl) ?_ (fun a w hF hS => ?_)
    · exact obs_nil
    refine wpIn_ret ?_
    have hm : some n1 = some r := hm
    obtain rfl := Option.some.inj hm
    exact retV (rs := [.tmp 2]) (vs := [.int .i64 n1]) hF rfl (rv_t (by kernel_rfl) <| rv_nil) rfl ⟨rfl, hS⟩
  · refine reg [] [] [0, 4] [pl 0 (.int .i64 n1), pl 4 (.bool (decide (n1 < 0)))] hF hS Fol (by kernel_rfl) (by kernel_rfl) (by kernel_rfl) ?_ (fun a w hF hS => ?_)
    · exact obs_nil
    refine cond_ev (t := 4) (b := decide (n1 < 0)) hF (by kernel_rfl) (fun hb => ?_) (fun hb => ?_)
    · replace hm := if_t hm hb
      refine reg [] [] [2] [pl 2 (.int .i64 (w64 (0 - n1)))] hF hS Fol (by kernel_rfl) (by kernel_rfl) (by kernel_rfl) ?_ (fun a w hF hS => ?_)
      · exact obs_nil
      refine wpIn_ret ?_
      refine then_r ?_
      have hm : some (w64 (0 - n1)) = some r := hm
      obtain rfl := Option.some.inj hm
      exact retV (rs := [.tmp 2]) (vs := [.int .i64 (w64 (0 - n1))]) hF rfl (rv_t (by kernel_rfl) <| rv_nil) rfl ⟨rfl, hS⟩
    · replace hm := if_f hm hb
      refine wpIn_skip ?_
      refine then_n ?_
      exact ⟨hF.weak [0] (by kernel_rfl), hS, hm⟩

noncomputable def gameroomref_JumpCan_J1  (g1 : Int) (g3 : List Int) (from1 : Int) (to1 : Int) : Option Bool :=
  asrt (g1 ≠ (0 : Int)) <| asrt (g1 ≠ (0 : Int)) <| asrt (g1 ≠ (0 : Int)) <| asrt (g1 ≠ (0 : Int)) <| (gameroomref_size_m (w64 ((Int.tmod to1 g1) - (Int.tmod from1 g1)))).bind fun r3 => (gameroomref_size_m (w64 ((w64 (Int.tdiv to1 g1)) - (w64 (Int.tdiv from1 g1))))).bind fun r4 => asrt ((((w64 (r3 + r4)) == 2) && ((w64 ((w64 ((Int.tmod to1 g1) - (Int.tmod from1 g1))) * (w64 ((w64 (Int.tdiv to1 g1)) - (w64 (Int.tdiv from1 g1)))))) == 0)) = true → 0 ≤ from1 ∧ from1 < (g3.length : Int)) <| asrt (((((w64 (r3 + r4)) == 2) && ((w64 ((w64 ((Int.tmod to1 g1) - (Int.tmod from1 g1))) * (w64 ((w64 (Int.tdiv to1 g1)) - (w64 (Int.tdiv from1 g1)))))) == 0)) && ((geti g3 from1) == 1)) = true → 0 ≤ (w64 (Int.tdiv (w64 (from1 + to1)) 2)) ∧ (w64 (Int.tdiv (w64 (from1 + to1)) 2)) < (g3.length : Int)) <| asrt ((((((w64 (r3 + r4)) == 2) && ((w64 ((w64 ((Int.tmod to1 g1) - (Int.tmod from1 g1))) * (w64 ((w64 (Int.tdiv to1 g1)) - (w64 (Int.tdiv from1 g1)))))) == 0)) && ((geti g3 from1) == 1)) && ((geti g3 (w64 (Int.tdiv (w64 (from1 + to1)) 2))) == 1)) = true → 0 ≤ to1 ∧ to1 < (g3.length : Int)) <| some ((((((w64 (r3 + r4)) == 2) && ((w64 ((w64 ((Int.tmod to1 g1) - (Int.tmod from1 g1))) * (w64 ((w64 (Int.tdiv to1 g1)) - (w64 (Int.tdiv from1 g1)))))) == 0)) && ((geti g3 from1) == 1)) && ((geti g3 (w64 (Int.tdiv (w64 (from1 + to1)) 2))) == 1)) && ((geti g3 to1) == 0))

noncomputable def gameroomref_JumpCan_m  (g1 : Int) (g2 : Int) (g3 : List Int) (from1 : Int) (to1 : Int) : Option Bool :=
  (gameroomref_within_m from1 0 (w64 ((g3.length : Int) - 1))).bind fun r1 => ((if (!(!r1)) then gameroomref_within_m to1 0 (w64 ((g3.length : Int) - 1)) else some false)).bind fun r2 => if ((!r1) || (!r2)) then (some false) else ((gameroomref_JumpCan_J1 g1 g3 from1 to1))

set_option maxRecDepth 100000 in
set_option maxHeartbeats 4000000 in
theorem gameroomref_JumpCan_w {g1 : Int} {g2 : Int} {A1 : Option Addr} {c1 : Nat} {n1 : Nat} {g3 : List Int} {from1 : Int} {to1 : Int} {r : Bool} {w0 w : World} {B : Nat} {fs : List HP} (hm : gameroomref_JumpCan_m g1 g2 g3 from1 to1 = some r) (hS : Sep w0 B w (fs)) (hr_g3 : RdF w0 B fs A1 (vI g3)) (_hc_g3 : g3.length ≤ c1) (_hn_g3 : n1 = g3.length) :
    Calls Try.prog 36 #[.agg #[.int .i64 g1, .int .i64 g2, .slice A1 n1 c1], .int .i64 from1, .int .i64 to1] w fun e w' => e = .returned (.bool r) ∧ Sep w0 B w' (fs) := by
  obtain ⟨i3, hi3, hz3, hs3, hb3⟩ := info_parts Info3
  obtain rfl := _hn_g3
  unfold gameroomref_JumpCan_m at hm
  replace hm := start_b hm
  refine enter (l := [.agg #[.int .i64 g1, .int .i64 g2, .slice A1 g3.length c1], .int .i64 from1, .int .i64 to1]) (n := 82) Try.func36 rfl rfl (by simp) (fun a hF => ?_)
  refine seqR ?_
  refine at_do (d := 3) (s := vS (Instr.box 41 (.agg #[.int .i64 g1, .int .i64 g2, .slice A1 g3.length c1]))) (v := .pointer (some ⟨w.heap.size, 0, none⟩)) (w' := w.alloc (.cells #[.int .i64 g1, .int .i64 g2, .slice A1 g3.length c1] 41)) hF (by kernel_rfl) (by kernel_rfl) (by kernel_rfl) (fun a hF => ?_)
  have hS : Sep w0 B (w.alloc (.cells #[.int .i64 g1, .int .i64 g2, .slice A1 g3.length c1] 41)) (blk w.heap.size 41 #[.int .i64 g1, .int .i64 g2, .slice A1 g3.length c1] :: (fs)) := hS.box 41 #[.int .i64 g1, .int .i64 g2, .slice A1 g3.length c1]
  generalize w.heap.size = g4 at hF hS
  generalize w.alloc (.cells #[.int .i64 g1, .int .i64 g2, .slice A1 g3.length c1] 41) = w at hS ⊢
  refine at_run 1 [] [] [1, 2, 3] [pl 1 (.int .i64 from1), pl 2 (.int .i64 to1), pl 3 (.pointer (some ⟨g4, 0, none⟩))] hF hS (by kernel_rfl) (by kernel_rfl) ?_ (fun a w hF hS => ?_)
  · exact obs_nil
  refine at_end [1, 2, 3] [pl 1 (.int .i64 from1), pl 2 (.int .i64 to1), pl 3 (.pointer (some ⟨g4, 0, none⟩))] hF rfl (by kernel_rfl) (fun hF => ?_)
  refine then_n ?_
  refine seq_cut (fun a w => Fr 82 [pl 1 (.int .i64 from1), pl 2 (.int .i64 to1), pl 3 (.pointer (some ⟨g4, 0, none⟩))] a ∧ Sep w0 B w (blk g4 41 #[.int .i64 g1, .int .i64 g2, .slice A1 g3.length c1] :: fs) ∧ ((gameroomref_JumpCan_J1 g1 g3 from1 to1)).bind some = some r) ?_ ?_
  · rintro a w ⟨hF, hS, hm⟩
    unfold gameroomref_JumpCan_J1 at hm
    obtain ⟨hp1, hm⟩ := asrt_b hm
    obtain ⟨hp2, hm⟩ := asrt_b hm
    obtain ⟨hp3, hm⟩ := asrt_b hm
    obtain ⟨hp4, hm⟩ := asrt_b hm
    refine reg [⟨false, [], vS (Instr.loadAt 3 (.pointer (some ⟨g4, 0, none⟩))), .int .i64 g1⟩, ⟨true, [], vS (Op.intDiv .rem .i64 to1 g1), .int .i64 (Int.tmod to1 g1)⟩, ⟨false, [], vS (Instr.loadAt 3 (.pointer (some ⟨g4, 0, none⟩))), .int .i64 g1⟩, ⟨true, [], vS (Op.intDiv .rem .i64 from1 g1), .int .i64 (Int.tmod from1 g1)⟩, ⟨false, [], vS (Instr.loadAt 3 (.pointer (some ⟨g4, 0, none⟩))), .int .i64 g1⟩, ⟨true, [], vS (Op.intDiv .quo .i64 to1 g1), .int .i64 (w64 (Int.tdiv to1 g1))⟩, ⟨false, [], vS (Instr.loadAt 3 (.pointer (some ⟨g4, 0, none⟩))), .int .i64 g1⟩, ⟨true, [], vS (Op.intDiv .quo .i64 from1 g1), .int .i64 (w64 (Int.tdiv from1 g1))⟩] [none, none, some (.int .i64 g1), some (.int .i64 (Int.tmod to1 g1)), none, none, some (.int .i64 g1), some (.int .i64 (Int.tmod from1 g1)), none, none, none, some (.int .i64 g1), some (.int .i64 (w64 (Int.tdiv to1 g1))), none, none, some (.int .i64 g1), some (.int .i64 (w64 (Int.tdiv from1 g1))), none, none, none] [1, 2, 3, 7, 8] [pl 1 (.int .i64 from1), pl 2 (.int .i64 to1), pl 3 (.pointer (some ⟨g4, 0, none⟩)), pl 7 (.int .i64 (w64 ((Int.tmod to1 g1) - (Int.tmod from1 g1)))), pl 8 (.int .i64 (w64 ((w64 (Int.tdiv to1 g1)) - (w64 (Int.tdiv from1 g1)))))] hF hS Fol (by kernel_rfl) (by kernel_rfl) (by kernel_rfl) ?_ (fun a w hF hS => ?_)
    · exact obs_cons (ob_load Agg3 (fun _ _ hS => (hS.at_ 0 rfl).cell rfl)) <| obs_cons (ob_rem rfl (fun _ => hp1)) <| obs_cons (ob_load Agg3 (fun _ _ hS => (hS.at_ 0 rfl).cell rfl)) <| obs_cons (ob_rem rfl (fun _ => hp2)) <| obs_cons (ob_load Agg3 (fun _ _ hS => (hS.at_ 0 rfl).cell rfl)) <| obs_cons (ob_quo rfl (fun _ => hp3)) <| obs_cons (ob_load Agg3 (fun _ _ hS => (hS.at_ 0 rfl).cell rfl)) <| obs_cons (ob_quo rfl (fun _ => hp4)) <| obs_nil
    obtain ⟨r3, hr3, hm⟩ := call_b hm
    obtain ⟨r4, hr4, hm⟩ := call_b hm
    obtain ⟨hp5, hm⟩ := asrt_b hm
    obtain ⟨hp6, hm⟩ := asrt_b hm
    obtain ⟨hp7, hm⟩ := asrt_b hm
    refine reg [⟨false, [], callFunc 105 #[.int .i64 (w64 ((Int.tmod to1 g1) - (Int.tmod from1 g1)))], .int .i64 r3⟩, ⟨false, [], callFunc 105 #[.int .i64 (w64 ((w64 (Int.tdiv to1 g1)) - (w64 (Int.tdiv from1 g1))))], .int .i64 r4⟩, ⟨false, [(((w64 (r3 + r4)) == 2) && ((w64 ((w64 ((Int.tmod to1 g1) - (Int.tmod from1 g1))) * (w64 ((w64 (Int.tdiv to1 g1)) - (w64 (Int.tdiv from1 g1)))))) == 0), true)], vS (Instr.loadAt 22 (.pointer (some ⟨g4, 2, none⟩))), .slice A1 g3.length c1⟩, ⟨true, [(((w64 (r3 + r4)) == 2) && ((w64 ((w64 ((Int.tmod to1 g1) - (Int.tmod from1 g1))) * (w64 ((w64 (Int.tdiv to1 g1)) - (w64 (Int.tdiv from1 g1)))))) == 0), true)], vS (Instr.indexAt 22 (.slice A1 g3.length c1) (.int .i64 from1)), .pointer (some (sAddr A1 from1))⟩, ⟨false, [(((w64 (r3 + r4)) == 2) && ((w64 ((w64 ((Int.tmod to1 g1) - (Int.tmod from1 g1))) * (w64 ((w64 (Int.tdiv to1 g1)) - (w64 (Int.tdiv from1 g1)))))) == 0), true)], vS (Instr.loadAt 3 (.pointer (some (sAddr A1 from1)))), .int .i64 (geti g3 from1)⟩, ⟨false, [((((w64 (r3 + r4)) == 2) && ((w64 ((w64 ((Int.tmod to1 g1) - (Int.tmod from1 g1))) * (w64 ((w64 (Int.tdiv to1 g1)) - (w64 (Int.tdiv from1 g1)))))) == 0)) && ((geti g3 from1) == 1), true)], vS (Instr.loadAt 22 (.pointer (some ⟨g4, 2, none⟩))), .slice A1 g3.length c1⟩, ⟨true, [((((w64 (r3 + r4)) == 2) && ((w64 ((w64 ((Int.tmod to1 g1) - (Int.tmod from1 g1))) * (w64 ((w64 (Int.tdiv to1 g1)) - (w64 (Int.tdiv from1 g1)))))) == 0)) && ((geti g3 from1) == 1), true)], vS (Instr.indexAt 22 (.slice A1 g3.length c1) (.int .i64 (w64 (Int.tdiv (w64 (from1 + to1)) 2)))), .pointer (some (sAddr A1 (w64 (Int.tdiv (w64 (from1 + to1)) 2))))⟩, ⟨false, [((((w64 (r3 + r4)) == 2) && ((w64 ((w64 ((Int.tmod to1 g1) - (Int.tmod from1 g1))) * (w64 ((w64 (Int.tdiv to1 g1)) - (w64 (Int.tdiv from1 g1)))))) == 0)) && ((geti g3 from1) == 1), true)], vS (Instr.loadAt 3 (.pointer (some (sAddr A1 (w64 (Int.tdiv (w64 (from1 + to1)) 2)))))), .int .i64 (geti g3 (w64 (Int.tdiv (w64 (from1 + to1)) 2)))⟩, ⟨false, [(((((w64 (r3 + r4)) == 2) && ((w64 ((w64 ((Int.tmod to1 g1) - (Int.tmod from1 g1))) * (w64 ((w64 (Int.tdiv to1 g1)) - (w64 (Int.tdiv from1 g1)))))) == 0)) && ((geti g3 from1) == 1)) && ((geti g3 (w64 (Int.tdiv (w64 (from1 + to1)) 2))) == 1), true)], vS (Instr.loadAt 22 (.pointer (some ⟨g4, 2, none⟩))), .slice A1 g3.length c1⟩, ⟨true, [(((((w64 (r3 + r4)) == 2) && ((w64 ((w64 ((Int.tmod to1 g1) - (Int.tmod from1 g1))) * (w64 ((w64 (Int.tdiv to1 g1)) - (w64 (Int.tdiv from1 g1)))))) == 0)) && ((geti g3 from1) == 1)) && ((geti g3 (w64 (Int.tdiv (w64 (from1 + to1)) 2))) == 1), true)], vS (Instr.indexAt 22 (.slice A1 g3.length c1) (.int .i64 to1)), .pointer (some (sAddr A1 to1))⟩, ⟨false, [(((((w64 (r3 + r4)) == 2) && ((w64 ((w64 ((Int.tmod to1 g1) - (Int.tmod from1 g1))) * (w64 ((w64 (Int.tdiv to1 g1)) - (w64 (Int.tdiv from1 g1)))))) == 0)) && ((geti g3 from1) == 1)) && ((geti g3 (w64 (Int.tdiv (w64 (from1 + to1)) 2))) == 1), true)], vS (Instr.loadAt 3 (.pointer (some (sAddr A1 to1)))), .int .i64 (geti g3 to1)⟩] [none, some (.int .i64 r3), none, some (.int .i64 r4), none, none, none, none, none, none, none, none, none, none, some (.slice A1 g3.length c1), none, some (.pointer (some (sAddr A1 from1))), some (.int .i64 (geti g3 from1)), none, none, none, none, some (.slice A1 g3.length c1), none, none, none, none, some (.pointer (some (sAddr A1 (w64 (Int.tdiv (w64 (from1 + to1)) 2))))), some (.int .i64 (geti g3 (w64 (Int.tdiv (w64 (from1 + to1)) 2)))), none, none, none, none, some (.slice A1 g3.length c1), none, some (.pointer (some (sAddr A1 to1))), some (.int .i64 (geti g3 to1)), none, none, none] [6] [pl 6 (.bool ((((((w64 (r3 + r4)) == 2) && ((w64 ((w64 ((Int.tmod to1 g1) - (Int.tmod from1 g1))) * (w64 ((w64 (Int.tdiv to1 g1)) - (w64 (Int.tdiv from1 g1)))))) == 0)) && ((geti g3 from1) == 1)) && ((geti g3 (w64 (Int.tdiv (w64 (from1 + to1)) 2))) == 1)) && ((geti g3 to1) == 0)))] hF hS Fol (by kernel_rfl) (by kernel_rfl) (by kernel_rfl) ?_ (fun a w hF hS => ?_)
    · exact obs_cons (ob_call Try.func105 (by kernel_rfl) rfl (fun _ _ hS => gameroomref_size_w hr3 hS )) <| obs_cons (ob_call Try.func105 (by kernel_rfl) rfl (fun _ _ hS => gameroomref_size_w hr4 hS )) <| obs_cons (ob_load Agg22 (fun _ _ hS => (hS.at_ 0 rfl).cell rfl)) <| obs_cons (ob_ix1 (f := (Value.int .i64)) (m := g3) Und22 hi3 hs3 (hr_g3 _ (hS.dropN 1)) rfl (fun hy => hp5 (hy (((w64 (r3 + r4)) == 2) && ((w64 ((w64 ((Int.tmod to1 g1) - (Int.tmod from1 g1))) * (w64 ((w64 (Int.tdiv to1 g1)) - (w64 (Int.tdiv from1 g1)))))) == 0), true) (by simp)))) <| obs_cons (ob_get1 (n := g3.length) (m := g3) (Value.int .i64) (0 : Int) Agg3 (fun _ hS => ⟨_, (hr_g3 _ (hS.dropN 1))⟩) (fun _ hS => rfl) (fun hy => hp5 (hy (((w64 (r3 + r4)) == 2) && ((w64 ((w64 ((Int.tmod to1 g1) - (Int.tmod from1 g1))) * (w64 ((w64 (Int.tdiv to1 g1)) - (w64 (Int.tdiv from1 g1)))))) == 0), true) (by simp)))) <| obs_cons (ob_load Agg22 (fun _ _ hS => (hS.at_ 0 rfl).cell rfl)) <| obs_cons (ob_ix1 (f := (Value.int .i64)) (m := g3) Und22 hi3 hs3 (hr_g3 _ (hS.dropN 1)) rfl (fun hy => hp6 (hy ((((w64 (r3 + r4)) == 2) && ((w64 ((w64 ((Int.tmod to1 g1) - (Int.tmod from1 g1))) * (w64 ((w64 (Int.tdiv to1 g1)) - (w64 (Int.tdiv from1 g1)))))) == 0)) && ((geti g3 from1) == 1), true) (by simp)))) <| obs_cons (ob_get1 (n := g3.length) (m := g3) (Value.int .i64) (0 : Int) Agg3 (fun _ hS => ⟨_, (hr_g3 _ (hS.dropN 1))⟩) (fun _ hS => rfl) (fun hy => hp6 (hy ((((w64 (r3 + r4)) == 2) && ((w64 ((w64 ((Int.tmod to1 g1) - (Int.tmod from1 g1))) * (w64 ((w64 (Int.tdiv to1 g1)) - (w64 (Int.tdiv from1 g1)))))) == 0)) && ((geti g3 from1) == 1), true) (by simp)))) <| obs_cons (ob_load Agg22 (fun _ _ hS => (hS.at_ 0 rfl).cell rfl)) <| obs_cons (ob_ix1 (f := (Value.int .i64)) (m := g3) Und22 hi3 hs3 (hr_g3 _ (hS.dropN 1)) rfl (fun hy => hp7 (hy (((((w64 (r3 + r4)) == 2) && ((w64 ((w64 ((Int.tmod to1 g1) - (Int.tmod from1 g1))) * (w64 ((w64 (Int.tdiv to1 g1)) - (w64 (Int.tdiv from1 g1)))))) == 0)) && ((geti g3 from1) == 1)) && ((geti g3 (w64 (Int.tdiv (w64 (from1 + to1)) 2))) == 1), true) (by simp)))) <| obs_cons (ob_get1 (n := g3.length) (m := g3) (Value.int .i64) (0 : Int) Agg3 (fun _ hS => ⟨_, (hr_g3 _ (hS.dropN 1))⟩) (fun _ hS => rfl) (fun hy => hp7 (hy (((((w64 (r3 + r4)) == 2) && ((w64 ((w64 ((Int.tmod to1 g1) - (Int.tmod from1 g1))) * (w64 ((w64 (Int.tdiv to1 g1)) - (w64 (Int.tdiv from1 g1)))))) == 0)) && ((geti g3 from1) == 1)) && ((geti g3 (w64 (Int.tdiv (w64 (from1 + to1)) 2))) == 1), true) (by simp)))) <| obs_nil
    refine wpIn_ret ?_
    have hS := hS.pickN 1 [] (by decide)
    have hm : some ((((((w64 (r3 + r4)) == 2) && ((w64 ((w64 ((Int.tmod to1 g1) - (Int.tmod from1 g1))) * (w64 ((w64 (Int.tdiv to1 g1)) - (w64 (Int.tdiv from1 g1)))))) == 0)) && ((geti g3 from1) == 1)) && ((geti g3 (w64 (Int.tdiv (w64 (from1 + to1)) 2))) == 1)) && ((geti g3 to1) == 0)) = some r := hm
    obtain rfl := Option.some.inj hm
    exact retV (rs := [.tmp 6]) (vs := [.bool ((((((w64 (r3 + r4)) == 2) && ((w64 ((w64 ((Int.tmod to1 g1) - (Int.tmod from1 g1))) * (w64 ((w64 (Int.tdiv to1 g1)) - (w64 (Int.tdiv from1 g1)))))) == 0)) && ((geti g3 from1) == 1)) && ((geti g3 (w64 (Int.tdiv (w64 (from1 + to1)) 2))) == 1)) && ((geti g3 to1) == 0))]) hF rfl (rv_t (by kernel_rfl) <| rv_nil) rfl ⟨rfl, hS⟩
  · obtain ⟨r1, hr1, hm⟩ := call_b hm
    obtain ⟨r2, hr2, hm⟩ := call_b hm
    refine reg [⟨false, [], vS (Instr.loadAt 22 (.pointer (some ⟨g4, 2, none⟩))), .slice A1 g3.length c1⟩, ⟨false, [], callFunc 95 #[.int .i64 from1, .int .i64 0, .int .i64 (w64 ((g3.length : Int) - 1))], .bool r1⟩, ⟨false, [(!r1, false)], vS (Instr.loadAt 22 (.pointer (some ⟨g4, 2, none⟩))), .slice A1 g3.length c1⟩, ⟨false, [(!r1, false)], callFunc 95 #[.int .i64 to1, .int .i64 0, .int .i64 (w64 ((g3.length : Int) - 1))], .bool r2⟩] [none, none, some (.slice A1 g3.length c1), none, none, some (.bool r1), none, none, none, none, some (.slice A1 g3.length c1), none, none, some (.bool r2), none, none] [1, 2, 3, 24] [pl 1 (.int .i64 from1), pl 2 (.int .i64 to1), pl 3 (.pointer (some ⟨g4, 0, none⟩)), pl 24 (.bool ((!r1) || (!r2)))] hF hS Fol (by kernel_rfl) (by kernel_rfl) (by kernel_rfl) ?_ (fun a w hF hS => ?_)
    · exact obs_cons (ob_load Agg22 (fun _ _ hS => (hS.at_ 0 rfl).cell rfl)) <| obs_cons (ob_call Try.func95 (by kernel_rfl) rfl (fun _ _ hS => gameroomref_within_w hr1 hS )) <| obs_cons (ob_load Agg22 (fun _ _ hS => (hS.at_ 0 rfl).cell rfl)) <| obs_cons (ob_call Try.func95 (by kernel_rfl) rfl (fun hy _ hS => gameroomref_within_w (ite_some hr2 (by rw [show (!r1) = false from hy (!r1, false) (by simp)]; try rfl)) hS )) <| obs_nil
    refine cond_ev (t := 24) (b := (!r1) || (!r2)) hF (by kernel_rfl) (fun hb => ?_) (fun hb => ?_)
    · replace hm := if_t hm hb
      refine reg [] [] [6] [pl 6 (.bool false)] hF hS Fol (by kernel_rfl) (by kernel_rfl) (by kernel_rfl) ?_ (fun a w hF hS => ?_)
      · exact obs_nil
      refine wpIn_ret ?_
      refine then_r ?_
      have hS := hS.pickN 1 [] (by decide)
      have hm : some false = some r := hm
      obtain rfl := Option.some.inj hm
      exact retV (rs := [.tmp 6]) (vs := [.bool false]) hF rfl (rv_t (by kernel_rfl) <| rv_nil) rfl ⟨rfl, hS⟩
    · replace hm := if_f hm hb
      refine wpIn_skip ?_
      refine then_n ?_
      exact ⟨hF.weak [1, 2, 3] (by kernel_rfl), hS, hm⟩

noncomputable def gameroomref_JumpDone_m  (g1 : Int) (g2 : Int) (g3 : List Int) (m1 : Int) (m2 : Int) (m3 : Int) : Option (Int × Int × List Int) :=
  (gameroomref_GridOf_m g1 g2 g3).bind fun r1 => asrt (0 ≤ m1 ∧ m1 < (r1.2.2.length : Int)) <| asrt (0 ≤ (w64 (Int.tdiv (w64 (m1 + m2)) 2)) ∧ (w64 (Int.tdiv (w64 (m1 + m2)) 2)) < (r1.2.2.length : Int)) <| asrt (0 ≤ m2 ∧ m2 < (r1.2.2.length : Int)) <| some (r1.1, r1.2.1, (((r1.2.2.set (Int.toNat m1) 0).set (Int.toNat (w64 (Int.tdiv (w64 (m1 + m2)) 2))) 0).set (Int.toNat m2) 1))

set_option maxRecDepth 100000 in
set_option maxHeartbeats 4000000 in
theorem gameroomref_JumpDone_w {g1 : Int} {g2 : Int} {A1 : Option Addr} {c1 : Nat} {n1 : Nat} {g3 : List Int} {m1 : Int} {m2 : Int} {m3 : Int} {r : (Int × Int × List Int)} {w0 w : World} {B : Nat} {fs : List HP} (hm : gameroomref_JumpDone_m g1 g2 g3 m1 m2 m3 = some r) (hS : Sep w0 B w (fs)) (hr_g3 : RdF w0 B fs A1 (vI g3)) (_hc_g3 : g3.length ≤ c1) (_hn_g3 : n1 = g3.length) :
    Calls Try.prog 37 #[.agg #[.int .i64 g1, .int .i64 g2, .slice A1 n1 c1], .agg #[.int .i64 m1, .int .i64 m2, .int .i64 m3]] w fun e w' => ∃ v, e = .returned v ∧ ∃ (A3 : Option Addr) (c3 : Nat), v = .agg #[.int .i64 r.1, .int .i64 r.2.1, .slice A3 r.2.2.length c3] ∧ Sep w0 B w' (own 3 (.slice A3 r.2.2.length c3) (vI r.2.2) :: fs) := by
  obtain ⟨i3, hi3, hz3, hs3, hb3⟩ := info_parts Info3
  obtain rfl := _hn_g3
  unfold gameroomref_JumpDone_m at hm
  replace hm := start_b hm
  refine enter (l := [.agg #[.int .i64 g1, .int .i64 g2, .slice A1 g3.length c1], .agg #[.int .i64 m1, .int .i64 m2, .int .i64 m3]]) (n := 28) Try.func37 rfl rfl (by simp) (fun a hF => ?_)
  refine seqR ?_
  refine at_do (d := 2) (s := vS (Instr.box 41 (.agg #[.int .i64 g1, .int .i64 g2, .slice A1 g3.length c1]))) (v := .pointer (some ⟨w.heap.size, 0, none⟩)) (w' := w.alloc (.cells #[.int .i64 g1, .int .i64 g2, .slice A1 g3.length c1] 41)) hF (by kernel_rfl) (by kernel_rfl) (by kernel_rfl) (fun a hF => ?_)
  have hS : Sep w0 B (w.alloc (.cells #[.int .i64 g1, .int .i64 g2, .slice A1 g3.length c1] 41)) (blk w.heap.size 41 #[.int .i64 g1, .int .i64 g2, .slice A1 g3.length c1] :: (fs)) := hS.box 41 #[.int .i64 g1, .int .i64 g2, .slice A1 g3.length c1]
  generalize w.heap.size = g4 at hF hS
  generalize w.alloc (.cells #[.int .i64 g1, .int .i64 g2, .slice A1 g3.length c1] 41) = w at hS ⊢
  refine at_do (d := 3) (s := vS (Instr.box 54 (.agg #[.int .i64 m1, .int .i64 m2, .int .i64 m3]))) (v := .pointer (some ⟨w.heap.size, 0, none⟩)) (w' := w.alloc (.cells #[.int .i64 m1, .int .i64 m2, .int .i64 m3] 54)) hF (by kernel_rfl) (by kernel_rfl) (by kernel_rfl) (fun a hF => ?_)
  have hS : Sep w0 B (w.alloc (.cells #[.int .i64 m1, .int .i64 m2, .int .i64 m3] 54)) (blk w.heap.size 54 #[.int .i64 m1, .int .i64 m2, .int .i64 m3] :: (blk g4 41 #[.int .i64 g1, .int .i64 g2, .slice A1 g3.length c1] :: fs)) := hS.box 54 #[.int .i64 m1, .int .i64 m2, .int .i64 m3]
  generalize w.heap.size = g5 at hF hS
  generalize w.alloc (.cells #[.int .i64 m1, .int .i64 m2, .int .i64 m3] 54) = w at hS ⊢
  refine at_do (d := 4) (s := vS (Instr.alloc 41 true (.tuple #[]))) (v := .pointer (some ⟨w.heap.size, 0, none⟩)) (w' := w.alloc (.cells #[.int .i64 0, .int .i64 0, .slice none 0 0] 41)) hF (by kernel_rfl) (by kernel_rfl) (by kernel_rfl) (fun a hF => ?_)
  have hS : Sep w0 B (w.alloc (.cells #[.int .i64 0, .int .i64 0, .slice none 0 0] 41)) (blk w.heap.size 41 #[.int .i64 0, .int .i64 0, .slice none 0 0] :: (blk g5 54 #[.int .i64 m1, .int .i64 m2, .int .i64 m3] :: blk g4 41 #[.int .i64 g1, .int .i64 g2, .slice A1 g3.length c1] :: fs)) := hS.box 41 #[.int .i64 0, .int .i64 0, .slice none 0 0]
  generalize w.heap.size = g6 at hF hS
  generalize w.alloc (.cells #[.int .i64 0, .int .i64 0, .slice none 0 0] 41) = w at hS ⊢
  refine at_end [2, 3, 4] [pl 2 (.pointer (some ⟨g4, 0, none⟩)), pl 3 (.pointer (some ⟨g5, 0, none⟩)), pl 4 (.pointer (some ⟨g6, 0, none⟩))] hF rfl (by kernel_rfl) (fun hF => ?_)
  refine then_n ?_
  refine seqR ?_
  obtain ⟨r1, hr1, hm⟩ := call_b hm
  refine at_run 1 [⟨false, [], vS (Instr.loadAt 41 (.pointer (some ⟨g4, 0, none⟩))), .agg #[.int .i64 g1, .int .i64 g2, .slice A1 g3.length c1]⟩] [some (.agg #[.int .i64 g1, .int .i64 g2, .slice A1 g3.length c1])] [3, 4, 6] [pl 3 (.pointer (some ⟨g5, 0, none⟩)), pl 4 (.pointer (some ⟨g6, 0, none⟩)), pl 6 (.agg #[.int .i64 g1, .int .i64 g2, .slice A1 g3.length c1])] hF hS (by kernel_rfl) (by kernel_rfl) ?_ (fun a w hF hS => ?_)
  · exact obs_cons (ob_loadA (cs := #[.int .i64 g1, .int .i64 g2, .slice A1 g3.length c1]) (by kernel_rfl) (by kernel_rfl) (fun _ _ hS => (hS.at_ 2 rfl).cellsAt 0 (by rfl))) <| obs_nil
  refine at_call (f := 30) (args := #[.agg #[.int .i64 g1, .int .i64 g2, .slice A1 g3.length c1]]) (d := 7) hF (by kernel_rfl) (by kernel_rfl) Try.func30 (by kernel_rfl) rfl (gameroomref_GridOf_w hr1 hS (fun _ hS => (hr_g3 _ (hS.dropN 3))) _hc_g3 rfl) (fun v a w hR hF => ?_)
  clear hS
  obtain ⟨A2, c2, rfl, hS⟩ := hR
  have hS : Sep w0 B w (own 3 (.slice A2 r1.2.2.length c2) (vI r1.2.2) :: blk g6 41 #[.int .i64 0, .int .i64 0, .slice none 0 0] :: blk g5 54 #[.int .i64 m1, .int .i64 m2, .int .i64 m3] :: blk g4 41 #[.int .i64 g1, .int .i64 g2, .slice A1 g3.length c1] :: fs) := hS
  refine at_do (d := 5) (s := vS (Instr.alloc 41 true (.tuple #[]))) (v := .pointer (some ⟨w.heap.size, 0, none⟩)) (w' := w.alloc (.cells #[.int .i64 0, .int .i64 0, .slice none 0 0] 41)) hF (by kernel_rfl) (by kernel_rfl) (by kernel_rfl) (fun a hF => ?_)
  have hS : Sep w0 B (w.alloc (.cells #[.int .i64 0, .int .i64 0, .slice none 0 0] 41)) (blk w.heap.size 41 #[.int .i64 0, .int .i64 0, .slice none 0 0] :: (own 3 (.slice A2 r1.2.2.length c2) (vI r1.2.2) :: blk g6 41 #[.int .i64 0, .int .i64 0, .slice none 0 0] :: blk g5 54 #[.int .i64 m1, .int .i64 m2, .int .i64 m3] :: blk g4 41 #[.int .i64 g1, .int .i64 g2, .slice A1 g3.length c1] :: fs)) := hS.box 41 #[.int .i64 0, .int .i64 0, .slice none 0 0]
  generalize w.heap.size = g7 at hF hS
  generalize w.alloc (.cells #[.int .i64 0, .int .i64 0, .slice none 0 0] 41) = w at hS ⊢
  obtain ⟨w, hrun, hS⟩ := run_putA (P := Try.prog) (t := 41) (us := #[.int .i64 r1.1, .int .i64 r1.2.1, .slice A2 r1.2.2.length c2]) (o := 0) (hS.at_ 0 rfl) (by kernel_rfl) (all_one (by kernel_rfl)) (Nat.le_of_ble_eq_true (by kernel_rfl))
  refine at_skip hF (by kernel_rfl) hrun ?_
  have hS : Sep w0 B w (blk g7 41 #[.int .i64 r1.1, .int .i64 r1.2.1, .slice A2 r1.2.2.length c2] :: own 3 (.slice A2 r1.2.2.length c2) (vI r1.2.2) :: blk g6 41 #[.int .i64 0, .int .i64 0, .slice none 0 0] :: blk g5 54 #[.int .i64 m1, .int .i64 m2, .int .i64 m3] :: blk g4 41 #[.int .i64 g1, .int .i64 g2, .slice A1 g3.length c1] :: fs) := hS
  refine at_end [3, 4, 5] [pl 3 (.pointer (some ⟨g5, 0, none⟩)), pl 4 (.pointer (some ⟨g6, 0, none⟩)), pl 5 (.pointer (some ⟨g7, 0, none⟩))] hF rfl (by kernel_rfl) (fun hF => ?_)
  refine then_n ?_
  refine seqR ?_
  obtain ⟨hp1, hm⟩ := asrt_b hm
  refine at_run 5 [⟨false, [], vS (Instr.loadAt 22 (.pointer (some ⟨g7, 2, none⟩))), .slice A2 r1.2.2.length c2⟩, ⟨false, [], vS (Instr.loadAt 3 (.pointer (some ⟨g5, 0, none⟩))), .int .i64 m1⟩, ⟨true, [], vS (Instr.indexAt 22 (.slice A2 r1.2.2.length c2) (.int .i64 m1)), .pointer (some (sAddr A2 m1))⟩] [none, some (.slice A2 r1.2.2.length c2), none, some (.int .i64 m1), some (.pointer (some (sAddr A2 m1)))] [3, 4, 5, 12] [pl 3 (.pointer (some ⟨g5, 0, none⟩)), pl 4 (.pointer (some ⟨g6, 0, none⟩)), pl 5 (.pointer (some ⟨g7, 0, none⟩)), pl 12 (.pointer (some (sAddr A2 m1)))] hF hS (by kernel_rfl) (by kernel_rfl) ?_ (fun a w hF hS => ?_)
  · exact obs_cons (ob_load Agg22 (fun _ _ hS => (hS.at_ 0 rfl).cell rfl)) <| obs_cons (ob_load Agg3 (fun _ _ hS => (hS.at_ 3 rfl).cell rfl)) <| obs_cons (ob_ix1 (f := (Value.int .i64)) (m := r1.2.2) Und22 hi3 hs3 (hS.at_ 1 rfl).rd rfl (fun _ => hp1)) <| obs_nil
  obtain ⟨w, hrun, hS⟩ := run_set1 (P := Try.prog) (t := 3) (x := 0) (Value.int .i64) (hS.at_ 1 rfl) hi3 hs3 rfl rfl hp1
  refine at_skip hF (by kernel_rfl) hrun ?_
  have hS : Sep w0 B w (blk g7 41 #[.int .i64 r1.1, .int .i64 r1.2.1, .slice A2 r1.2.2.length c2] :: own 3 (.slice A2 r1.2.2.length c2) (vI (r1.2.2.set (Int.toNat m1) 0)) :: blk g6 41 #[.int .i64 0, .int .i64 0, .slice none 0 0] :: blk g5 54 #[.int .i64 m1, .int .i64 m2, .int .i64 m3] :: blk g4 41 #[.int .i64 g1, .int .i64 g2, .slice A1 g3.length c1] :: fs) := hS
  refine at_end [3, 4, 5] [pl 3 (.pointer (some ⟨g5, 0, none⟩)), pl 4 (.pointer (some ⟨g6, 0, none⟩)), pl 5 (.pointer (some ⟨g7, 0, none⟩))] hF rfl (by kernel_rfl) (fun hF => ?_)
  refine then_n ?_
  refine seqR ?_
  obtain ⟨hp2, hm⟩ := asrt_b hm
  refine at_run 9 [⟨false, [], vS (Instr.loadAt 22 (.pointer (some ⟨g7, 2, none⟩))), .slice A2 r1.2.2.length c2⟩, ⟨false, [], vS (Instr.loadAt 3 (.pointer (some ⟨g5, 0, none⟩))), .int .i64 m1⟩, ⟨false, [], vS (Instr.loadAt 3 (.pointer (some ⟨g5, 1, none⟩))), .int .i64 m2⟩, ⟨true, [], vS (Instr.indexAt 22 (.slice A2 r1.2.2.length c2) (.int .i64 (w64 (Int.tdiv (w64 (m1 + m2)) 2)))), .pointer (some (sAddr A2 (w64 (Int.tdiv (w64 (m1 + m2)) 2))))⟩] [none, some (.slice A2 r1.2.2.length c2), none, some (.int .i64 m1), none, some (.int .i64 m2), none, none, some (.pointer (some (sAddr A2 (w64 (Int.tdiv (w64 (m1 + m2)) 2)))))] [3, 4, 5, 21] [pl 3 (.pointer (some ⟨g5, 0, none⟩)), pl 4 (.pointer (some ⟨g6, 0, none⟩)), pl 5 (.pointer (some ⟨g7, 0, none⟩)), pl 21 (.pointer (some (sAddr A2 (w64 (Int.tdiv (w64 (m1 + m2)) 2)))))] hF hS (by kernel_rfl) (by kernel_rfl) ?_ (fun a w hF hS => ?_)
  · exact obs_cons (ob_load Agg22 (fun _ _ hS => (hS.at_ 0 rfl).cell rfl)) <| obs_cons (ob_load Agg3 (fun _ _ hS => (hS.at_ 3 rfl).cell rfl)) <| obs_cons (ob_load Agg3 (fun _ _ hS => (hS.at_ 3 rfl).cell rfl)) <| obs_cons (ob_ix1 (f := (Value.int .i64)) (m := (r1.2.2.set (Int.toNat m1) 0)) Und22 hi3 hs3 (hS.at_ 1 rfl).rd ((hS.at_ 1 rfl).len1) (fun _ => hp2)) <| obs_nil
  obtain ⟨w, hrun, hS⟩ := run_set1 (P := Try.prog) (t := 3) (x := 0) (Value.int .i64) (hS.at_ 1 rfl) hi3 hs3 rfl rfl hp2
  refine at_skip hF (by kernel_rfl) hrun ?_
  have hS : Sep w0 B w (blk g7 41 #[.int .i64 r1.1, .int .i64 r1.2.1, .slice A2 r1.2.2.length c2] :: own 3 (.slice A2 r1.2.2.length c2) (vI ((r1.2.2.set (Int.toNat m1) 0).set (Int.toNat (w64 (Int.tdiv (w64 (m1 + m2)) 2))) 0)) :: blk g6 41 #[.int .i64 0, .int .i64 0, .slice none 0 0] :: blk g5 54 #[.int .i64 m1, .int .i64 m2, .int .i64 m3] :: blk g4 41 #[.int .i64 g1, .int .i64 g2, .slice A1 g3.length c1] :: fs) := hS
  refine at_end [3, 4, 5] [pl 3 (.pointer (some ⟨g5, 0, none⟩)), pl 4 (.pointer (some ⟨g6, 0, none⟩)), pl 5 (.pointer (some ⟨g7, 0, none⟩))] hF rfl (by kernel_rfl) (fun hF => ?_)
  refine then_n ?_
  refine seqR ?_
  obtain ⟨hp3, hm⟩ := asrt_b hm
  refine at_run 5 [⟨false, [], vS (Instr.loadAt 22 (.pointer (some ⟨g7, 2, none⟩))), .slice A2 r1.2.2.length c2⟩, ⟨false, [], vS (Instr.loadAt 3 (.pointer (some ⟨g5, 1, none⟩))), .int .i64 m2⟩, ⟨true, [], vS (Instr.indexAt 22 (.slice A2 r1.2.2.length c2) (.int .i64 m2)), .pointer (some (sAddr A2 m2))⟩] [none, some (.slice A2 r1.2.2.length c2), none, some (.int .i64 m2), some (.pointer (some (sAddr A2 m2)))] [4, 5, 26] [pl 4 (.pointer (some ⟨g6, 0, none⟩)), pl 5 (.pointer (some ⟨g7, 0, none⟩)), pl 26 (.pointer (some (sAddr A2 m2)))] hF hS (by kernel_rfl) (by kernel_rfl) ?_ (fun a w hF hS => ?_)
  · exact obs_cons (ob_load Agg22 (fun _ _ hS => (hS.at_ 0 rfl).cell rfl)) <| obs_cons (ob_load Agg3 (fun _ _ hS => (hS.at_ 3 rfl).cell rfl)) <| obs_cons (ob_ix1 (f := (Value.int .i64)) (m := ((r1.2.2.set (Int.toNat m1) 0).set (Int.toNat (w64 (Int.tdiv (w64 (m1 + m2)) 2))) 0)) Und22 hi3 hs3 (hS.at_ 1 rfl).rd ((hS.at_ 1 rfl).len1) (fun _ => hp3)) <| obs_nil
  obtain ⟨w, hrun, hS⟩ := run_set1 (P := Try.prog) (t := 3) (x := 1) (Value.int .i64) (hS.at_ 1 rfl) hi3 hs3 rfl rfl hp3
  refine at_skip hF (by kernel_rfl) hrun ?_
  have hS : Sep w0 B w (blk g7 41 #[.int .i64 r1.1, .int .i64 r1.2.1, .slice A2 r1.2.2.length c2] :: own 3 (.slice A2 r1.2.2.length c2) (vI (((r1.2.2.set (Int.toNat m1) 0).set (Int.toNat (w64 (Int.tdiv (w64 (m1 + m2)) 2))) 0).set (Int.toNat m2) 1)) :: blk g6 41 #[.int .i64 0, .int .i64 0, .slice none 0 0] :: blk g5 54 #[.int .i64 m1, .int .i64 m2, .int .i64 m3] :: blk g4 41 #[.int .i64 g1, .int .i64 g2, .slice A1 g3.length c1] :: fs) := hS
  refine at_end [4, 5] [pl 4 (.pointer (some ⟨g6, 0, none⟩)), pl 5 (.pointer (some ⟨g7, 0, none⟩))] hF rfl (by kernel_rfl) (fun hF => ?_)
  refine then_n ?_
  refine seqR ?_
  refine at_run 1 [⟨false, [], vS (Instr.loadAt 41 (.pointer (some ⟨g7, 0, none⟩))), .agg #[.int .i64 r1.1, .int .i64 r1.2.1, .slice A2 r1.2.2.length c2]⟩] [some (.agg #[.int .i64 r1.1, .int .i64 r1.2.1, .slice A2 r1.2.2.length c2])] [4, 27] [pl 4 (.pointer (some ⟨g6, 0, none⟩)), pl 27 (.agg #[.int .i64 r1.1, .int .i64 r1.2.1, .slice A2 r1.2.2.length c2])] hF hS (by kernel_rfl) (by kernel_rfl) ?_ (fun a w hF hS => ?_)
  · exact obs_cons (ob_loadA (cs := #[.int .i64 r1.1, .int .i64 r1.2.1, .slice A2 r1.2.2.length c2]) (by kernel_rfl) (by kernel_rfl) (fun _ _ hS => (hS.at_ 0 rfl).cellsAt 0 (by rfl))) <| obs_nil
  obtain ⟨w, hrun, hS⟩ := run_putA (P := Try.prog) (t := 41) (us := #[.int .i64 r1.1, .int .i64 r1.2.1, .slice A2 r1.2.2.length c2]) (o := 0) (hS.at_ 2 rfl) (by kernel_rfl) (all_one (by kernel_rfl)) (Nat.le_of_ble_eq_true (by kernel_rfl))
  refine at_skip hF (by kernel_rfl) hrun ?_
  have hS : Sep w0 B w (blk g7 41 #[.int .i64 r1.1, .int .i64 r1.2.1, .slice A2 r1.2.2.length c2] :: own 3 (.slice A2 r1.2.2.length c2) (vI (((r1.2.2.set (Int.toNat m1) 0).set (Int.toNat (w64 (Int.tdiv (w64 (m1 + m2)) 2))) 0).set (Int.toNat m2) 1)) :: blk g6 41 #[.int .i64 r1.1, .int .i64 r1.2.1, .slice A2 r1.2.2.length c2] :: blk g5 54 #[.int .i64 m1, .int .i64 m2, .int .i64 m3] :: blk g4 41 #[.int .i64 g1, .int .i64 g2, .slice A1 g3.length c1] :: fs) := hS
  refine at_end [4] [pl 4 (.pointer (some ⟨g6, 0, none⟩))] hF rfl (by kernel_rfl) (fun hF => ?_)
  refine then_n ?_
  refine wpIn_ret ?_
  have hl1 := (hS.at_ 1 rfl).len1
  have hS := (hS.at_ 1 rfl).reN hl1
  have hS := (hS.at_ 0 rfl).reBlk (congrArg (fun k9 => (#[.int .i64 r1.1, .int .i64 r1.2.1, .slice A2 k9 c2] : Array Value)) hl1)
  have hS := (hS.at_ 2 rfl).reBlk (congrArg (fun k9 => (#[.int .i64 r1.1, .int .i64 r1.2.1, .slice A2 k9 c2] : Array Value)) hl1)
  have hS : Sep w0 B w (blk g7 41 #[.int .i64 r1.1, .int .i64 r1.2.1, .slice A2 ((((r1.2.2.set (Int.toNat m1) 0).set (Int.toNat (w64 (Int.tdiv (w64 (m1 + m2)) 2))) 0).set (Int.toNat m2) 1).length) c2] :: own 3 (.slice A2 ((((r1.2.2.set (Int.toNat m1) 0).set (Int.toNat (w64 (Int.tdiv (w64 (m1 + m2)) 2))) 0).set (Int.toNat m2) 1).length) c2) (vI (((r1.2.2.set (Int.toNat m1) 0).set (Int.toNat (w64 (Int.tdiv (w64 (m1 + m2)) 2))) 0).set (Int.toNat m2) 1)) :: blk g6 41 #[.int .i64 r1.1, .int .i64 r1.2.1, .slice A2 ((((r1.2.2.set (Int.toNat m1) 0).set (Int.toNat (w64 (Int.tdiv (w64 (m1 + m2)) 2))) 0).set (Int.toNat m2) 1).length) c2] :: blk g5 54 #[.int .i64 m1, .int .i64 m2, .int .i64 m3] :: blk g4 41 #[.int .i64 g1, .int .i64 g2, .slice A1 g3.length c1] :: fs) := hS
  have hld0 := run_loadVarA (P := Try.prog) (t := 41) (cs := #[.int .i64 r1.1, .int .i64 r1.2.1, .slice A2 ((((r1.2.2.set (Int.toNat m1) 0).set (Int.toNat (w64 (Int.tdiv (w64 (m1 + m2)) 2))) 0).set (Int.toNat m2) 1).length) c2]) (by kernel_rfl) (by kernel_rfl) ((hS.at_ 2 rfl).cellsAt 0 (by rfl))
  have hS := hS.pickN 5 [1] (by decide)
  have hm : some (r1.1, r1.2.1, (((r1.2.2.set (Int.toNat m1) 0).set (Int.toNat (w64 (Int.tdiv (w64 (m1 + m2)) 2))) 0).set (Int.toNat m2) 1)) = some r := hm
  obtain rfl := Option.some.inj hm
  exact retV (rs := [.cell 4 41]) (vs := [.agg #[.int .i64 r1.1, .int .i64 r1.2.1, .slice A2 ((((r1.2.2.set (Int.toNat m1) 0).set (Int.toNat (w64 (Int.tdiv (w64 (m1 + m2)) 2))) 0).set (Int.toNat m2) 1).length) c2]]) hF rfl (rv_c (by kernel_rfl) hld0 <| rv_nil) rfl ⟨_, rfl, A2, c2, rfl, hS⟩

noncomputable def gameroomref_JumpsOf_J5  (b1 : Int) (l5 : List (Int × Int × Int)) : Option (St (List (Int × Int × Int) × Int) (List (Int × Int × Int))) :=
  some (.next (l5, (w64 (b1 + 1))))

noncomputable def gameroomref_JumpsOf_J4  (g1 : Int) (g2 : Int) (g3 : List Int) (a1 : Int) (l3 : List (Int × Int × Int)) (b1 : Int) : Option (St (List (Int × Int × Int) × Int) (List (Int × Int × Int))) :=
  (gameroomref_JumpCan_m g1 g2 g3 a1 b1).bind fun r1 => if r1 then (asrt ((l3.length : Int) + 1 ≤ bigT) <| (gameroomref_JumpsOf_J5 b1) (l3 ++ ([(a1, b1, 0)] : List (Int × Int × Int)))) else ((gameroomref_JumpsOf_J5 b1) l3)

noncomputable def gameroomref_JumpsOf_J3  (a1 : Int) (l4 : List (Int × Int × Int)) : Option (St (List (Int × Int × Int) × Int) (List (Int × Int × Int))) :=
  some (.next (l4, (w64 (a1 + 1))))

noncomputable def gameroomref_JumpsOf_K2  (a1 : Int) : (List (Int × Int × Int)) → Option (St (List (Int × Int × Int) × Int) (List (Int × Int × Int))) :=
  fun (x : (List (Int × Int × Int))) => match x with | l4 => (gameroomref_JumpsOf_J3 a1) l4

noncomputable def gameroomref_JumpsOf_L2  (g1 : Int) (g2 : Int) (g3 : List Int) (a1 : Int) : (List (Int × Int × Int) × Int) → Option (St (List (Int × Int × Int) × Int) (List (Int × Int × Int))) :=
  fun (x : (List (Int × Int × Int) × Int)) => match x with | (l3, b1) => if (decide (b1 < (g3.length : Int))) then ((gameroomref_JumpsOf_J4 g1 g2 g3 a1 l3 b1)) else (some (.done l3))

noncomputable def gameroomref_JumpsOf_J2  (g1 : Int) (g2 : Int) (g3 : List Int) (l1 : List (Int × Int × Int)) (a1 : Int) : Option (St (List (Int × Int × Int) × Int) (List (Int × Int × Int))) :=
  (loop (gameroomref_JumpsOf_L2 g1 g2 g3 a1) (l1, 0)).bind (gameroomref_JumpsOf_K2 a1)

noncomputable def gameroomref_JumpsOf_J1  (l2 : List (Int × Int × Int)) : Option (List (Int × Int × Int)) :=
  some l2

noncomputable def gameroomref_JumpsOf_K1  : (List (Int × Int × Int)) → Option (List (Int × Int × Int)) :=
  fun (x : (List (Int × Int × Int))) => match x with | l2 => gameroomref_JumpsOf_J1 l2

noncomputable def gameroomref_JumpsOf_L1  (g1 : Int) (g2 : Int) (g3 : List Int) : (List (Int × Int × Int) × Int) → Option (St (List (Int × Int × Int) × Int) (List (Int × Int × Int))) :=
  fun (x : (List (Int × Int × Int) × Int)) => match x with | (l1, a1) => if (decide (a1 < (g3.length : Int))) then ((gameroomref_JumpsOf_J2 g1 g2 g3 l1 a1)) else (some (.done l1))

noncomputable def gameroomref_JumpsOf_m  (g1 : Int) (g2 : Int) (g3 : List Int) : Option (List (Int × Int × Int)) :=
  (loop (gameroomref_JumpsOf_L1 g1 g2 g3) (([] : List (Int × Int × Int)), 0)).bind gameroomref_JumpsOf_K1

set_option maxRecDepth 100000 in
set_option maxHeartbeats 4000000 in
theorem gameroomref_JumpsOf_w {g1 : Int} {g2 : Int} {A1 : Option Addr} {c1 : Nat} {n1 : Nat} {g3 : List Int} {r : (List (Int × Int × Int))} {w0 w : World} {B : Nat} {fs : List HP} (hm : gameroomref_JumpsOf_m g1 g2 g3 = some r) (hS : Sep w0 B w (fs)) (hr_g3 : RdF w0 B fs A1 (vI g3)) (_hc_g3 : g3.length ≤ c1) (_hn_g3 : n1 = g3.length) :
    Calls Try.prog 39 #[.agg #[.int .i64 g1, .int .i64 g2, .slice A1 n1 c1]] w fun e w' => ∃ v, e = .returned v ∧ ∃ (A8 : Option Addr) (c8 : Nat), v = .slice A8 r.length c8 ∧ Sep w0 B w' (ownK 54 3 A8 r.length c8 (List.flatMap enc54 r) :: fs) := by
  obtain ⟨i3, hi3, hz3, hs3, hb3⟩ := info_parts Info3
  obtain ⟨i54, hi54, hz54, hs54, hb54⟩ := info_parts Info54
  obtain rfl := _hn_g3
  unfold gameroomref_JumpsOf_m at hm
  replace hm := start_b hm
  refine enter (l := [.agg #[.int .i64 g1, .int .i64 g2, .slice A1 g3.length c1]]) (n := 31) Try.func39 rfl rfl (by simp) (fun a hF => ?_)
  refine seqR ?_
  refine at_do (d := 1) (s := vS (Instr.box 41 (.agg #[.int .i64 g1, .int .i64 g2, .slice A1 g3.length c1]))) (v := .pointer (some ⟨w.heap.size, 0, none⟩)) (w' := w.alloc (.cells #[.int .i64 g1, .int .i64 g2, .slice A1 g3.length c1] 41)) hF (by kernel_rfl) (by kernel_rfl) (by kernel_rfl) (fun a hF => ?_)
  have hS : Sep w0 B (w.alloc (.cells #[.int .i64 g1, .int .i64 g2, .slice A1 g3.length c1] 41)) (blk w.heap.size 41 #[.int .i64 g1, .int .i64 g2, .slice A1 g3.length c1] :: (fs)) := hS.box 41 #[.int .i64 g1, .int .i64 g2, .slice A1 g3.length c1]
  generalize w.heap.size = g4 at hF hS
  generalize w.alloc (.cells #[.int .i64 g1, .int .i64 g2, .slice A1 g3.length c1] 41) = w at hS ⊢
  refine at_run 1 [] [] [1] [pl 1 (.pointer (some ⟨g4, 0, none⟩))] hF hS (by kernel_rfl) (by kernel_rfl) ?_ (fun a w hF hS => ?_)
  · exact obs_nil
  refine at_end [1] [pl 1 (.pointer (some ⟨g4, 0, none⟩))] hF rfl (by kernel_rfl) (fun hF => ?_)
  refine then_n ?_
  refine reg [] [] [1, 3] [pl 1 (.pointer (some ⟨g4, 0, none⟩)), pl 3 (.slice none 0 0)] hF hS Fol (by kernel_rfl) (by kernel_rfl) (by kernel_rfl) ?_ (fun a w hF hS => ?_)
  · exact obs_nil
  refine seq_cut (fun a w => ∃ (l2 : List (Int × Int × Int)) (A3 : Option Addr) (c3 : Nat), Fr 31 [pl 3 (.slice A3 l2.length c3)] a ∧ Sep w0 B w (ownK 54 3 A3 l2.length c3 (List.flatMap enc54 l2) :: fs) ∧ (gameroomref_JumpsOf_J1 l2).bind some = some r) ?_ ?_
  · rintro a w ⟨l2, A3, c3, hF, hS, hm⟩
    unfold gameroomref_JumpsOf_J1 at hm
    refine reg [] [] [2] [pl 2 (.slice A3 l2.length c3)] hF hS Fol (by kernel_rfl) (by kernel_rfl) (by kernel_rfl) ?_ (fun a w hF hS => ?_)
    · exact obs_nil
    refine wpIn_ret ?_
    have hm : some l2 = some r := hm
    obtain rfl := Option.some.inj hm
    exact retV (rs := [.tmp 2]) (vs := [.slice A3 l2.length c3]) hF rfl (rv_t (by kernel_rfl) <| rv_nil) rfl ⟨_, rfl, A3, c3, rfl, hS⟩
  · refine reg [] [] [1, 3, 4] [pl 1 (.pointer (some ⟨g4, 0, none⟩)), pl 3 (.slice none 0 0), pl 4 (.int .i64 0)] hF hS Fol (by kernel_rfl) (by kernel_rfl) (by kernel_rfl) ?_ (fun a w hF hS => ?_)
    · exact obs_nil
    refine wpIn_block ?_
    have hS : Sep w0 B w (ownK 54 3 none 0 0 (List.flatMap enc54 ([] : List (Int × Int × Int))) :: blk g4 41 #[.int .i64 g1, .int .i64 g2, .slice A1 g3.length c1] :: fs) := hS.nilK 54 3 enc54
    have hl1 := (hS.at_ 0 rfl).lenK encK54
    have hS := (hS.at_ 0 rfl).reNK hl1
    have hS : Sep w0 B w (ownK 54 3 none (([] : List (Int × Int × Int)).length) 0 (List.flatMap enc54 ([] : List (Int × Int × Int))) :: blk g4 41 #[.int .i64 g1, .int .i64 g2, .slice A1 g3.length c1] :: fs) := hS
    have hF := hF.cast (t := 3) (v := .slice none 0 0) (v' := .slice none (([] : List (Int × Int × Int)).length) 0) rfl rfl (congrArg (fun k => Value.slice none k 0) hl1)
    have hS := hS.pickN 2 [1, 0] (by decide)
    refine wp_loop_model (S := (List (Int × Int × Int) × Int)) (R := (List (Int × Int × Int))) (gameroomref_JumpsOf_L1 g1 g2 g3) (fun x => (gameroomref_JumpsOf_K1 x).bind some) r (fun (x : (List (Int × Int × Int) × Int)) a w => ∃ (A2 : Option Addr) (c2 : Nat), Fr 31 [pl 1 (.pointer (some ⟨g4, 0, none⟩)), pl 3 (.slice A2 x.1.length c2), pl 4 (.int .i64 x.2)] a ∧ Sep w0 B w (blk g4 41 #[.int .i64 g1, .int .i64 g2, .slice A1 g3.length c1] :: ownK 54 3 A2 x.1.length c2 (List.flatMap enc54 x.1) :: fs)) (assoc_b hm) ⟨none, 0, hF.weak [1, 3, 4] (by kernel_rfl), hS⟩ ?_
    clear hF hS hm
    rintro nn1 ⟨l1, a1⟩ a w ⟨A2, c2, hF, hS⟩ hm
    generalize hφ1 : stK (gameroomref_JumpsOf_L1 g1 g2 g3) nn1 (fun x => (gameroomref_JumpsOf_K1 x).bind some) = φ1 at hm
    unfold gameroomref_JumpsOf_L1 at hm
    dsimp only at hF hS hm
    refine seq_cut (fun a w => Fr 31 [pl 1 (.pointer (some ⟨g4, 0, none⟩)), pl 3 (.slice A2 l1.length c2), pl 4 (.int .i64 a1)] a ∧ Sep w0 B w (blk g4 41 #[.int .i64 g1, .int .i64 g2, .slice A1 g3.length c1] :: ownK 54 3 A2 l1.length c2 (List.flatMap enc54 l1) :: fs) ∧ ((gameroomref_JumpsOf_J2 g1 g2 g3 l1 a1)).bind φ1 = some r) ?_ ?_
    · rintro a w ⟨hF, hS, hm⟩
      unfold gameroomref_JumpsOf_J2 at hm
      refine seq_cut (fun a w => ∃ (l4 : List (Int × Int × Int)) (A5 : Option Addr) (c5 : Nat), Fr 31 [pl 1 (.pointer (some ⟨g4, 0, none⟩)), pl 3 (.slice A5 l4.length c5), pl 4 (.int .i64 a1)] a ∧ Sep w0 B w (blk g4 41 #[.int .i64 g1, .int .i64 g2, .slice A1 g3.length c1] :: ownK 54 3 A5 l4.length c5 (List.flatMap enc54 l4) :: fs) ∧ ((gameroomref_JumpsOf_J3 a1) l4).bind φ1 = some r) ?_ ?_
      · rintro a w ⟨l4, A5, c5, hF, hS, hm⟩
        unfold gameroomref_JumpsOf_J3 at hm
        refine reg1 [] [] [1, 3, 4] [pl 1 (.pointer (some ⟨g4, 0, none⟩)), pl 3 (.slice A5 l4.length c5), pl 4 (.int .i64 (w64 (a1 + 1)))] hF hS Fol (by kernel_rfl) (by kernel_rfl) (by kernel_rfl) ?_ (fun a w hF hS => ?_)
        · exact obs_nil
        refine then_n ?_
        rw [← hφ1] at hm
        exact ⟨(l4, (w64 (a1 + 1))), ⟨A5, c5, hF.weak [1, 3, 4] (by kernel_rfl), hS⟩, hm⟩
      · refine wpIn_block ?_
        refine reg [] [] [1, 3, 4, 5] [pl 1 (.pointer (some ⟨g4, 0, none⟩)), pl 3 (.slice A2 l1.length c2), pl 4 (.int .i64 a1), pl 5 (.int .i64 0)] hF hS Fol (by kernel_rfl) (by kernel_rfl) (by kernel_rfl) ?_ (fun a w hF hS => ?_)
        · exact obs_nil
        refine wpIn_block ?_
        refine wp_loop_model (S := (List (Int × Int × Int) × Int)) (R := (List (Int × Int × Int))) (gameroomref_JumpsOf_L2 g1 g2 g3 a1) (fun x => ((gameroomref_JumpsOf_K2 a1) x).bind φ1) r (fun (x : (List (Int × Int × Int) × Int)) a w => ∃ (A4 : Option Addr) (c4 : Nat), Fr 31 [pl 1 (.pointer (some ⟨g4, 0, none⟩)), pl 3 (.slice A4 x.1.length c4), pl 4 (.int .i64 a1), pl 5 (.int .i64 x.2)] a ∧ Sep w0 B w (blk g4 41 #[.int .i64 g1, .int .i64 g2, .slice A1 g3.length c1] :: ownK 54 3 A4 x.1.length c4 (List.flatMap enc54 x.1) :: fs)) (assoc_b hm) ⟨A2, c2, hF.weak [1, 3, 4, 5] (by kernel_rfl), hS⟩ ?_
        clear hF hS hm
        rintro nn2 ⟨l3, b1⟩ a w ⟨A4, c4, hF, hS⟩ hm
        generalize hφ2 : stK (gameroomref_JumpsOf_L2 g1 g2 g3 a1) nn2 (fun x => ((gameroomref_JumpsOf_K2 a1) x).bind φ1) = φ2 at hm
        unfold gameroomref_JumpsOf_L2 at hm
        dsimp only at hF hS hm
        refine seq_cut (fun a w => Fr 31 [pl 1 (.pointer (some ⟨g4, 0, none⟩)), pl 3 (.slice A4 l3.length c4), pl 4 (.int .i64 a1), pl 5 (.int .i64 b1)] a ∧ Sep w0 B w (blk g4 41 #[.int .i64 g1, .int .i64 g2, .slice A1 g3.length c1] :: ownK 54 3 A4 l3.length c4 (List.flatMap enc54 l3) :: fs) ∧ ((gameroomref_JumpsOf_J4 g1 g2 g3 a1 l3 b1)).bind φ2 = some r) ?_ ?_
        · rintro a w ⟨hF, hS, hm⟩
          unfold gameroomref_JumpsOf_J4 at hm
          refine seq_cut (fun a w => ∃ (l5 : List (Int × Int × Int)) (A7 : Option Addr) (c7 : Nat), Fr 31 [pl 1 (.pointer (some ⟨g4, 0, none⟩)), pl 3 (.slice A7 l5.length c7), pl 4 (.int .i64 a1), pl 5 (.int .i64 b1)] a ∧ Sep w0 B w (blk g4 41 #[.int .i64 g1, .int .i64 g2, .slice A1 g3.length c1] :: ownK 54 3 A7 l5.length c7 (List.flatMap enc54 l5) :: fs) ∧ ((gameroomref_JumpsOf_J5 b1) l5).bind φ2 = some r) ?_ ?_
          · rintro a w ⟨l5, A7, c7, hF, hS, hm⟩
            unfold gameroomref_JumpsOf_J5 at hm
            refine reg1 [] [] [1, 3, 4, 5] [pl 1 (.pointer (some ⟨g4, 0, none⟩)), pl 3 (.slice A7 l5.length c7), pl 4 (.int .i64 a1), pl 5 (.int .i64 (w64 (b1 + 1)))] hF hS Fol (by kernel_rfl) (by kernel_rfl) (by kernel_rfl) ?_ (fun a w hF hS => ?_)
            · exact obs_nil
            refine then_n ?_
            rw [← hφ2] at hm
            exact ⟨(l5, (w64 (b1 + 1))), ⟨A7, c7, hF.weak [1, 3, 4, 5] (by kernel_rfl), hS⟩, hm⟩
          · refine wpIn_block ?_
            obtain ⟨r1, hr1, hm⟩ := call_b hm
            refine reg [⟨false, [], vS (Instr.loadAt 41 (.pointer (some ⟨g4, 0, none⟩))), .agg #[.int .i64 g1, .int .i64 g2, .slice A1 g3.length c1]⟩, ⟨false, [], callFunc 36 #[.agg #[.int .i64 g1, .int .i64 g2, .slice A1 g3.length c1], .int .i64 a1, .int .i64 b1], .bool r1⟩] [some (.agg #[.int .i64 g1, .int .i64 g2, .slice A1 g3.length c1]), none, none, some (.bool r1)] [1, 3, 4, 5, 23] [pl 1 (.pointer (some ⟨g4, 0, none⟩)), pl 3 (.slice A4 l3.length c4), pl 4 (.int .i64 a1), pl 5 (.int .i64 b1), pl 23 (.bool r1)] hF hS Fol (by kernel_rfl) (by kernel_rfl) (by kernel_rfl) ?_ (fun a w hF hS => ?_)
            · exact obs_cons (ob_loadA (cs := #[.int .i64 g1, .int .i64 g2, .slice A1 g3.length c1]) (by kernel_rfl) (by kernel_rfl) (fun _ _ hS => (hS.at_ 0 rfl).cellsAt 0 (by rfl))) <| obs_cons (ob_call Try.func36 (by kernel_rfl) rfl (fun _ _ hS => gameroomref_JumpCan_w hr1 hS (fun _ hS => (hr_g3 _ (hS.dropN 2))) _hc_g3 rfl)) <| obs_nil
            refine cond_ev (t := 23) (b := r1) hF (by kernel_rfl) (fun hb => ?_) (fun hb => ?_)
            · replace hm := if_t hm hb
              refine oneR ?_
              obtain ⟨hp1, hm⟩ := asrt_b hm
              refine at_run 4 [] [] [1, 4, 5, 24, 27] [pl 1 (.pointer (some ⟨g4, 0, none⟩)), pl 4 (.int .i64 a1), pl 5 (.int .i64 b1), pl 24 (.slice A4 l3.length c4), pl 27 (.agg #[.int .i64 a1, .int .i64 b1, .int .i64 0])] hF hS (by kernel_rfl) (by kernel_rfl) ?_ (fun a w hF hS => ?_)
              · exact obs_nil
              refine at_do (d := 28) (s := vS (Instr.buildSlice 42 1 #[(0, .agg #[.int .i64 a1, .int .i64 b1, .int .i64 0])])) (v := .slice (some ⟨w.heap.size, 0, none⟩) 1 1) (w' := w.alloc (.cells #[.int .i64 a1, .int .i64 b1, .int .i64 0] 54)) hF (by kernel_rfl) (by kernel_rfl) (by kernel_rfl) (fun a hF => ?_)
              have hS : Sep w0 B (w.alloc (.cells #[.int .i64 a1, .int .i64 b1, .int .i64 0] 54)) (ownK 54 3 (some (⟨w.heap.size, 0, none⟩ : Addr)) 1 1 (List.flatMap enc54 ([(a1, b1, 0)] : List (Int × Int × Int))) :: (blk g4 41 #[.int .i64 g1, .int .i64 g2, .slice A1 g3.length c1] :: ownK 54 3 A4 l3.length c4 (List.flatMap enc54 l3) :: fs)) := hS.litK 54 3 #[.int .i64 a1, .int .i64 b1, .int .i64 0] 1 rfl (by omega)
              generalize (some (⟨w.heap.size, 0, none⟩ : Addr)) = g5 at hF hS
              generalize w.alloc (.cells #[.int .i64 a1, .int .i64 b1, .int .i64 0] 54) = w at hS ⊢
              obtain ⟨A6, c6, w, hrun, hS⟩ := run_appK3 (P := Try.prog) (t := 42) (m := l3) (ys := ([(a1, b1, 0)] : List (Int × Int × Int))) (A2 := g5) (m2 := 1) (c2 := 1) encK54 (hS.at_ 2 rfl) (hS.at_ 0 rfl).rdK ((hS.at_ 0 rfl).lenK encK54) 42 Und42 hi54 hz54 hs54 rfl (by omega) hp1
              have hS : Sep w0 B w (ownK 54 3 g5 1 1 (List.flatMap enc54 ([(a1, b1, 0)] : List (Int × Int × Int))) :: blk g4 41 #[.int .i64 g1, .int .i64 g2, .slice A1 g3.length c1] :: ownK 54 3 A6 ((l3 ++ ([(a1, b1, 0)] : List (Int × Int × Int))).length) c6 (List.flatMap enc54 (l3 ++ ([(a1, b1, 0)] : List (Int × Int × Int)))) :: fs) := hS
              refine at_do (d := 29) hF (by kernel_rfl) (by kernel_rfl) hrun (fun a hF => ?_)
              refine at_run 1 [] [] [1, 3, 4, 5] [pl 1 (.pointer (some ⟨g4, 0, none⟩)), pl 3 (.slice A6 ((l3 ++ ([(a1, b1, 0)] : List (Int × Int × Int))).length) c6), pl 4 (.int .i64 a1), pl 5 (.int .i64 b1)] hF hS (by kernel_rfl) (by kernel_rfl) ?_ (fun a w hF hS => ?_)
              · exact obs_nil
              refine at_end [1, 3, 4, 5] [pl 1 (.pointer (some ⟨g4, 0, none⟩)), pl 3 (.slice A6 ((l3 ++ ([(a1, b1, 0)] : List (Int × Int × Int))).length) c6), pl 4 (.int .i64 a1), pl 5 (.int .i64 b1)] hF rfl (by kernel_rfl) (fun hF => ?_)
              refine block_n ?_
              refine then_n ?_
              have hS := hS.pickN 3 [1, 2] (by decide)
              exact ⟨(l3 ++ ([(a1, b1, 0)] : List (Int × Int × Int))), A6, c6, hF.weak [1, 3, 4, 5] (by kernel_rfl), hS, hm⟩
            · replace hm := if_f hm hb
              refine wpIn_skip ?_
              refine block_n ?_
              refine then_n ?_
              exact ⟨l3, A4, c4, hF.weak [1, 3, 4, 5] (by kernel_rfl), hS, hm⟩
        · refine reg [⟨false, [], vS (Instr.loadAt 22 (.pointer (some ⟨g4, 2, none⟩))), .slice A1 g3.length c1⟩] [none, none, some (.slice A1 g3.length c1), none, none] [1, 3, 4, 5, 17] [pl 1 (.pointer (some ⟨g4, 0, none⟩)), pl 3 (.slice A4 l3.length c4), pl 4 (.int .i64 a1), pl 5 (.int .i64 b1), pl 17 (.bool (decide (b1 < (g3.length : Int))))] hF hS Fol (by kernel_rfl) (by kernel_rfl) (by kernel_rfl) ?_ (fun a w hF hS => ?_)
          · exact obs_cons (ob_load Agg22 (fun _ _ hS => (hS.at_ 0 rfl).cell rfl)) <| obs_nil
          refine cond_ev (t := 17) (b := decide (b1 < (g3.length : Int))) hF (by kernel_rfl) (fun hb => ?_) (fun hb => ?_)
          · replace hm := if_t hm hb
            refine wpIn_skip ?_
            refine then_n ?_
            exact ⟨hF.weak [1, 3, 4, 5] (by kernel_rfl), hS, hm⟩
          · replace hm := if_f hm hb
            refine wpIn_exit ?_
            refine then_e (then_e (block_e (block_n (then_n ?_))))
            rw [← hφ2] at hm
            replace hm := done_b hm
            unfold gameroomref_JumpsOf_K2 at hm
            try dsimp only at hm
            have hm : ((gameroomref_JumpsOf_J3 a1) l3).bind φ1 = some r := hm
            exact ⟨l3, A4, c4, hF.weak [1, 3, 4] (by kernel_rfl), hS, hm⟩
    · refine reg [⟨false, [], vS (Instr.loadAt 22 (.pointer (some ⟨g4, 2, none⟩))), .slice A1 g3.length c1⟩] [none, none, some (.slice A1 g3.length c1), none, none] [1, 3, 4, 10] [pl 1 (.pointer (some ⟨g4, 0, none⟩)), pl 3 (.slice A2 l1.length c2), pl 4 (.int .i64 a1), pl 10 (.bool (decide (a1 < (g3.length : Int))))] hF hS Fol (by kernel_rfl) (by kernel_rfl) (by kernel_rfl) ?_ (fun a w hF hS => ?_)
      · exact obs_cons (ob_load Agg22 (fun _ _ hS => (hS.at_ 0 rfl).cell rfl)) <| obs_nil
      refine cond_ev (t := 10) (b := decide (a1 < (g3.length : Int))) hF (by kernel_rfl) (fun hb => ?_) (fun hb => ?_)
      · replace hm := if_t hm hb
        refine wpIn_skip ?_
        refine then_n ?_
        exact ⟨hF.weak [1, 3, 4] (by kernel_rfl), hS, hm⟩
      · replace hm := if_f hm hb
        refine wpIn_exit ?_
        refine then_e (then_e (block_e (then_n ?_)))
        have hS := hS.pickN 2 [1] (by decide)
        rw [← hφ1] at hm
        replace hm := done_b hm
        unfold gameroomref_JumpsOf_K1 at hm
        try dsimp only at hm
        have hm : (gameroomref_JumpsOf_J1 l1).bind some = some r := hm
        exact ⟨l1, A2, c2, hF.weak [3] (by kernel_rfl), hS, hm⟩

noncomputable def gameroomlaw_sameMoves_J4  (i1 : Int) : Option (St Int (Fl Unit Bool)) :=
  some (.next (w64 (i1 + 1)))

noncomputable def gameroomlaw_sameMoves_J3  (a1 : List (Int × Int × Int)) (b1 : List (Int × Int × Int)) (i1 : Int) : Option (St Int (Fl Unit Bool)) :=
  asrt (0 ≤ i1 ∧ i1 < (a1.length : Int)) <| asrt (0 ≤ i1 ∧ i1 < (b1.length : Int)) <| if (!((((getd ((0, 0, 0) : (Int × Int × Int)) a1 i1).1) == ((getd ((0, 0, 0) : (Int × Int × Int)) b1 i1).1)) && ((((getd ((0, 0, 0) : (Int × Int × Int)) a1 i1).2.1) == ((getd ((0, 0, 0) : (Int × Int × Int)) b1 i1).2.1)) && (((getd ((0, 0, 0) : (Int × Int × Int)) a1 i1).2.2) == ((getd ((0, 0, 0) : (Int × Int × Int)) b1 i1).2.2))))) then (some (.done (.ret false))) else ((gameroomlaw_sameMoves_J4 i1))

noncomputable def gameroomlaw_sameMoves_J2  : Option Bool :=
  some true

noncomputable def gameroomlaw_sameMoves_K1  : (Fl Unit Bool) → Option Bool :=
  fun (x : (Fl Unit Bool)) => match x with | .go _ => gameroomlaw_sameMoves_J2 | .ret x => some x

noncomputable def gameroomlaw_sameMoves_L1  (a1 : List (Int × Int × Int)) (b1 : List (Int × Int × Int)) : Int → Option (St Int (Fl Unit Bool)) :=
  fun (x : Int) => match x with | i1 => if (decide (i1 < (a1.length : Int))) then ((gameroomlaw_sameMoves_J3 a1 b1 i1)) else (some (.done (.go ())))

noncomputable def gameroomlaw_sameMoves_J1  (a1 : List (Int × Int × Int)) (b1 : List (Int × Int × Int)) : Option Bool :=
  (loop (gameroomlaw_sameMoves_L1 a1 b1) 0).bind gameroomlaw_sameMoves_K1

noncomputable def gameroomlaw_sameMoves_m  (a1 : List (Int × Int × Int)) (b1 : List (Int × Int × Int)) : Option Bool :=
  if ((a1.length : Int) != (b1.length : Int)) then (some false) else ((gameroomlaw_sameMoves_J1 a1 b1))

set_option maxRecDepth 100000 in
set_option maxHeartbeats 4000000 in
theorem gameroomlaw_sameMoves_w {A1 : Option Addr} {c1 : Nat} {n1 : Nat} {a1 : List (Int × Int × Int)} {A2 : Option Addr} {c2 : Nat} {n2 : Nat} {b1 : List (Int × Int × Int)} {r : Bool} {w0 w : World} {B : Nat} {fs : List HP} (hm : gameroomlaw_sameMoves_m a1 b1 = some r) (hS : Sep w0 B w (fs)) (hr_a1 : RdF w0 B fs A1 ((List.flatMap enc54 a1))) (_hc_a1 : a1.length ≤ c1) (_hn_a1 : n1 = a1.length) (hr_b1 : RdF w0 B fs A2 ((List.flatMap enc54 b1))) (_hc_b1 : b1.length ≤ c2) (_hn_b1 : n2 = b1.length) :
    Calls Try.prog 38 #[.slice A1 n1 c1, .slice A2 n2 c2] w fun e w' => e = .returned (.bool r) ∧ Sep w0 B w' (fs) := by
  obtain ⟨i54, hi54, hz54, hs54, hb54⟩ := info_parts Info54
  obtain rfl := _hn_a1
  obtain rfl := _hn_b1
  unfold gameroomlaw_sameMoves_m at hm
  replace hm := start_b hm
  refine enter (l := [.slice A1 a1.length c1, .slice A2 b1.length c2]) (n := 26) Try.func38 rfl rfl (by simp) (fun a hF => ?_)
  refine reg [] [] [0, 1] [pl 0 (.slice A1 a1.length c1), pl 1 (.slice A2 b1.length c2)] hF hS Fol (by kernel_rfl) (by kernel_rfl) (by kernel_rfl) ?_ (fun a w hF hS => ?_)
  · exact obs_nil
  refine seq_cut (fun a w => Fr 26 [pl 0 (.slice A1 a1.length c1), pl 1 (.slice A2 b1.length c2)] a ∧ Sep w0 B w (fs) ∧ ((gameroomlaw_sameMoves_J1 a1 b1)).bind some = some r) ?_ ?_
  · rintro a w ⟨hF, hS, hm⟩
    unfold gameroomlaw_sameMoves_J1 at hm
    refine seq_cut (fun a w => Fr 26 [] a ∧ Sep w0 B w (fs) ∧ (gameroomlaw_sameMoves_J2).bind some = some r) ?_ ?_
    · rintro a w ⟨hF, hS, hm⟩
      unfold gameroomlaw_sameMoves_J2 at hm
      refine reg [] [] [4] [pl 4 (.bool true)] hF hS Fol (by kernel_rfl) (by kernel_rfl) (by kernel_rfl) ?_ (fun a w hF hS => ?_)
      · exact obs_nil
      refine wpIn_ret ?_
      have hm : some true = some r := hm
      obtain rfl := Option.some.inj hm
      exact retV (rs := [.tmp 4]) (vs := [.bool true]) hF rfl (rv_t (by kernel_rfl) <| rv_nil) rfl ⟨rfl, hS⟩
    · refine reg [] [] [0, 1, 5] [pl 0 (.slice A1 a1.length c1), pl 1 (.slice A2 b1.length c2), pl 5 (.int .i64 0)] hF hS Fol (by kernel_rfl) (by kernel_rfl) (by kernel_rfl) ?_ (fun a w hF hS => ?_)
      · exact obs_nil
      refine wpIn_block ?_
      refine wp_loop_model (S := Int) (R := (Fl Unit Bool)) (gameroomlaw_sameMoves_L1 a1 b1) (fun x => (gameroomlaw_sameMoves_K1 x).bind some) r (fun (x : Int) a w => Fr 26 [pl 0 (.slice A1 a1.length c1), pl 1 (.slice A2 b1.length c2), pl 5 (.int .i64 x)] a ∧ Sep w0 B w (fs)) (assoc_b hm) ⟨hF.weak [0, 1, 5] (by kernel_rfl), hS⟩ ?_
      clear hF hS hm
      rintro nn1 i1 a w ⟨hF, hS⟩ hm
      generalize hφ1 : stK (gameroomlaw_sameMoves_L1 a1 b1) nn1 (fun x => (gameroomlaw_sameMoves_K1 x).bind some) = φ1 at hm
      unfold gameroomlaw_sameMoves_L1 at hm
      dsimp only at hm
      refine seq_cut (fun a w => Fr 26 [pl 0 (.slice A1 a1.length c1), pl 1 (.slice A2 b1.length c2), pl 5 (.int .i64 i1)] a ∧ Sep w0 B w (fs) ∧ ((gameroomlaw_sameMoves_J3 a1 b1 i1)).bind φ1 = some r) ?_ ?_
      · rintro a w ⟨hF, hS, hm⟩
        unfold gameroomlaw_sameMoves_J3 at hm
        refine seq_cut (fun a w => Fr 26 [pl 0 (.slice A1 a1.length c1), pl 1 (.slice A2 b1.length c2), pl 5 (.int .i64 i1)] a ∧ Sep w0 B w (fs) ∧ ((gameroomlaw_sameMoves_J4 i1)).bind φ1 = some r) ?_ ?_
        · rintro a w ⟨hF, hS, hm⟩
          unfold gameroomlaw_sameMoves_J4 at hm
          refine reg1 [] [] [0, 1, 5] [pl 0 (.slice A1 a1.length c1), pl 1 (.slice A2 b1.length c2), pl 5 (.int .i64 (w64 (i1 + 1)))] hF hS Fol (by kernel_rfl) (by kernel_rfl) (by kernel_rfl) ?_ (fun a w hF hS => ?_)
          · exact obs_nil
          refine then_n ?_
          rw [← hφ1] at hm
          exact ⟨(w64 (i1 + 1)), ⟨hF.weak [0, 1, 5] (by kernel_rfl), hS⟩, hm⟩
        · refine wpIn_block ?_
          obtain ⟨hp1, hm⟩ := asrt_b hm
          obtain ⟨hp2, hm⟩ := asrt_b hm
          refine reg [⟨true, [], vS (Instr.indexAt 42 (.slice A1 a1.length c1) (.int .i64 i1)), .pointer (some (sAddrK A1 3 i1))⟩, ⟨false, [], vS (Instr.loadAt 54 (.pointer (some (sAddrK A1 3 i1)))), .agg #[.int .i64 ((getd ((0, 0, 0) : (Int × Int × Int)) a1 i1).1), .int .i64 ((getd ((0, 0, 0) : (Int × Int × Int)) a1 i1).2.1), .int .i64 ((getd ((0, 0, 0) : (Int × Int × Int)) a1 i1).2.2)]⟩, ⟨true, [], vS (Instr.indexAt 42 (.slice A2 b1.length c2) (.int .i64 i1)), .pointer (some (sAddrK A2 3 i1))⟩, ⟨false, [], vS (Instr.loadAt 54 (.pointer (some (sAddrK A2 3 i1)))), .agg #[.int .i64 ((getd ((0, 0, 0) : (Int × Int × Int)) b1 i1).1), .int .i64 ((getd ((0, 0, 0) : (Int × Int × Int)) b1 i1).2.1), .int .i64 ((getd ((0, 0, 0) : (Int × Int × Int)) b1 i1).2.2)]⟩, ⟨true, [], vS (do eqGuard .neq 54 (.tmp 20) (.tmp 24) (.agg #[.int .i64 ((getd ((0, 0, 0) : (Int × Int × Int)) a1 i1).1), .int .i64 ((getd ((0, 0, 0) : (Int × Int × Int)) a1 i1).2.1), .int .i64 ((getd ((0, 0, 0) : (Int × Int × Int)) a1 i1).2.2)]) (.agg #[.int .i64 ((getd ((0, 0, 0) : (Int × Int × Int)) b1 i1).1), .int .i64 ((getd ((0, 0, 0) : (Int × Int × Int)) b1 i1).2.1), .int .i64 ((getd ((0, 0, 0) : (Int × Int × Int)) b1 i1).2.2)]); binOp .neq 54 (.agg #[.int .i64 ((getd ((0, 0, 0) : (Int × Int × Int)) a1 i1).1), .int .i64 ((getd ((0, 0, 0) : (Int × Int × Int)) a1 i1).2.1), .int .i64 ((getd ((0, 0, 0) : (Int × Int × Int)) a1 i1).2.2)]) (.agg #[.int .i64 ((getd ((0, 0, 0) : (Int × Int × Int)) b1 i1).1), .int .i64 ((getd ((0, 0, 0) : (Int × Int × Int)) b1 i1).2.1), .int .i64 ((getd ((0, 0, 0) : (Int × Int × Int)) b1 i1).2.2)])), .bool (!((((getd ((0, 0, 0) : (Int × Int × Int)) a1 i1).1) == ((getd ((0, 0, 0) : (Int × Int × Int)) b1 i1).1)) && ((((getd ((0, 0, 0) : (Int × Int × Int)) a1 i1).2.1) == ((getd ((0, 0, 0) : (Int × Int × Int)) b1 i1).2.1)) && (((getd ((0, 0, 0) : (Int × Int × Int)) a1 i1).2.2) == ((getd ((0, 0, 0) : (Int × Int × Int)) b1 i1).2.2)))))⟩] [none, none, some (.pointer (some (sAddrK A1 3 i1))), some (.agg #[.int .i64 ((getd ((0, 0, 0) : (Int × Int × Int)) a1 i1).1), .int .i64 ((getd ((0, 0, 0) : (Int × Int × Int)) a1 i1).2.1), .int .i64 ((getd ((0, 0, 0) : (Int × Int × Int)) a1 i1).2.2)]), none, none, some (.pointer (some (sAddrK A2 3 i1))), some (.agg #[.int .i64 ((getd ((0, 0, 0) : (Int × Int × Int)) b1 i1).1), .int .i64 ((getd ((0, 0, 0) : (Int × Int × Int)) b1 i1).2.1), .int .i64 ((getd ((0, 0, 0) : (Int × Int × Int)) b1 i1).2.2)]), some (.bool (!((((getd ((0, 0, 0) : (Int × Int × Int)) a1 i1).1) == ((getd ((0, 0, 0) : (Int × Int × Int)) b1 i1).1)) && ((((getd ((0, 0, 0) : (Int × Int × Int)) a1 i1).2.1) == ((getd ((0, 0, 0) : (Int × Int × Int)) b1 i1).2.1)) && (((getd ((0, 0, 0) : (Int × Int × Int)) a1 i1).2.2) == ((getd ((0, 0, 0) : (Int × Int × Int)) b1 i1).2.2))))))] [0, 1, 5, 25] [pl 0 (.slice A1 a1.length c1), pl 1 (.slice A2 b1.length c2), pl 5 (.int .i64 i1), pl 25 (.bool (!((((getd ((0, 0, 0) : (Int × Int × Int)) a1 i1).1) == ((getd ((0, 0, 0) : (Int × Int × Int)) b1 i1).1)) && ((((getd ((0, 0, 0) : (Int × Int × Int)) a1 i1).2.1) == ((getd ((0, 0, 0) : (Int × Int × Int)) b1 i1).2.1)) && (((getd ((0, 0, 0) : (Int × Int × Int)) a1 i1).2.2) == ((getd ((0, 0, 0) : (Int × Int × Int)) b1 i1).2.2))))))] hF hS Fol (by kernel_rfl) (by kernel_rfl) (by kernel_rfl) ?_ (fun a w hF hS => ?_)
          · exact obs_cons (ob_ixK (m := a1) encK54 Und42 hi54 hs54 (hr_a1 _ (hS.dropN 0)) rfl (fun _ => hp1)) <| obs_cons (ob_getK (n := a1.length) (m := a1) encK54 ((0, 0, 0) : (Int × Int × Int)) (by kernel_rfl) (by kernel_rfl) (fun _ hS => ⟨_, (hr_a1 _ (hS.dropN 0))⟩) (fun _ hS => rfl) (fun _ => hp1)) <| obs_cons (ob_ixK (m := b1) encK54 Und42 hi54 hs54 (hr_b1 _ (hS.dropN 0)) rfl (fun _ => hp2)) <| obs_cons (ob_getK (n := b1.length) (m := b1) encK54 ((0, 0, 0) : (Int × Int × Int)) (by kernel_rfl) (by kernel_rfl) (fun _ hS => ⟨_, (hr_b1 _ (hS.dropN 0))⟩) (fun _ hS => rfl) (fun _ => hp2)) <| obs_cons (ob_neq rfl (by kernel_rfl) (fun w => Eql54 w)) <| obs_nil
          refine cond_ev (t := 25) (b := !((((getd ((0, 0, 0) : (Int × Int × Int)) a1 i1).1) == ((getd ((0, 0, 0) : (Int × Int × Int)) b1 i1).1)) && ((((getd ((0, 0, 0) : (Int × Int × Int)) a1 i1).2.1) == ((getd ((0, 0, 0) : (Int × Int × Int)) b1 i1).2.1)) && (((getd ((0, 0, 0) : (Int × Int × Int)) a1 i1).2.2) == ((getd ((0, 0, 0) : (Int × Int × Int)) b1 i1).2.2))))) hF (by kernel_rfl) (fun hb => ?_) (fun hb => ?_)
          · replace hm := if_t hm hb
            refine reg [] [] [4] [pl 4 (.bool false)] hF hS Fol (by kernel_rfl) (by kernel_rfl) (by kernel_rfl) ?_ (fun a w hF hS => ?_)
            · exact obs_nil
            refine wpIn_ret ?_
            refine block_r (then_r (then_r (block_r (then_r ?_))))
            rw [← hφ1] at hm
            replace hm := done_b hm
            unfold gameroomlaw_sameMoves_K1 at hm
            try dsimp only at hm
            have hm : some false = some r := hm
            obtain rfl := Option.some.inj hm
            exact retV (rs := [.tmp 4]) (vs := [.bool false]) hF rfl (rv_t (by kernel_rfl) <| rv_nil) rfl ⟨rfl, hS⟩
          · replace hm := if_f hm hb
            refine wpIn_skip ?_
            refine block_n ?_
            refine then_n ?_
            exact ⟨hF.weak [0, 1, 5] (by kernel_rfl), hS, hm⟩
      · refine reg [] [] [0, 1, 5, 14] [pl 0 (.slice A1 a1.length c1), pl 1 (.slice A2 b1.length c2), pl 5 (.int .i64 i1), pl 14 (.bool (decide (i1 < (a1.length : Int))))] hF hS Fol (by kernel_rfl) (by kernel_rfl) (by kernel_rfl) ?_ (fun a w hF hS => ?_)
        · exact obs_nil
        refine cond_ev (t := 14) (b := decide (i1 < (a1.length : Int))) hF (by kernel_rfl) (fun hb => ?_) (fun hb => ?_)
        · replace hm := if_t hm hb
          refine wpIn_skip ?_
          refine then_n ?_
          exact ⟨hF.weak [0, 1, 5] (by kernel_rfl), hS, hm⟩
        · replace hm := if_f hm hb
          refine wpIn_exit ?_
          refine then_e (then_e (block_e (then_n ?_)))
          rw [← hφ1] at hm
          replace hm := done_b hm
          unfold gameroomlaw_sameMoves_K1 at hm
          try dsimp only at hm
          have hm : (gameroomlaw_sameMoves_J2).bind some = some r := hm
          exact ⟨hF.weak [] (by kernel_rfl), hS, hm⟩
  · refine reg [] [] [0, 1, 10] [pl 0 (.slice A1 a1.length c1), pl 1 (.slice A2 b1.length c2), pl 10 (.bool ((a1.length : Int) != (b1.length : Int)))] hF hS Fol (by kernel_rfl) (by kernel_rfl) (by kernel_rfl) ?_ (fun a w hF hS => ?_)
    · exact obs_nil
    refine cond_ev (t := 10) (b := ((a1.length : Int) != (b1.length : Int))) hF (by kernel_rfl) (fun hb => ?_) (fun hb => ?_)
    · replace hm := if_t hm hb
      refine reg [] [] [4] [pl 4 (.bool false)] hF hS Fol (by kernel_rfl) (by kernel_rfl) (by kernel_rfl) ?_ (fun a w hF hS => ?_)
      · exact obs_nil
      refine wpIn_ret ?_
      refine then_r ?_
      have hm : some false = some r := hm
      obtain rfl := Option.some.inj hm
      exact retV (rs := [.tmp 4]) (vs := [.bool false]) hF rfl (rv_t (by kernel_rfl) <| rv_nil) rfl ⟨rfl, hS⟩
    · replace hm := if_f hm hb
      refine wpIn_skip ?_
      refine then_n ?_
      exact ⟨hF.weak [0, 1] (by kernel_rfl), hS, hm⟩

noncomputable def gameroomref_sameInts_J4  (i1 : Int) : Option (St Int (Fl Unit Bool)) :=
  some (.next (w64 (i1 + 1)))

noncomputable def gameroomref_sameInts_J3  (a1 : List Int) (b1 : List Int) (i1 : Int) : Option (St Int (Fl Unit Bool)) :=
  asrt (0 ≤ i1 ∧ i1 < (a1.length : Int)) <| asrt (0 ≤ i1 ∧ i1 < (b1.length : Int)) <| if ((geti a1 i1) != (geti b1 i1)) then (some (.done (.ret false))) else ((gameroomref_sameInts_J4 i1))

noncomputable def gameroomref_sameInts_J2  : Option Bool :=
  some true

noncomputable def gameroomref_sameInts_K1  : (Fl Unit Bool) → Option Bool :=
  fun (x : (Fl Unit Bool)) => match x with | .go _ => gameroomref_sameInts_J2 | .ret x => some x

noncomputable def gameroomref_sameInts_L1  (a1 : List Int) (b1 : List Int) : Int → Option (St Int (Fl Unit Bool)) :=
  fun (x : Int) => match x with | i1 => if (decide (i1 < (a1.length : Int))) then ((gameroomref_sameInts_J3 a1 b1 i1)) else (some (.done (.go ())))

noncomputable def gameroomref_sameInts_J1  (a1 : List Int) (b1 : List Int) : Option Bool :=
  (loop (gameroomref_sameInts_L1 a1 b1) 0).bind gameroomref_sameInts_K1

noncomputable def gameroomref_sameInts_m  (a1 : List Int) (b1 : List Int) : Option Bool :=
  if ((a1.length : Int) != (b1.length : Int)) then (some false) else ((gameroomref_sameInts_J1 a1 b1))

set_option maxRecDepth 100000 in
set_option maxHeartbeats 4000000 in
theorem gameroomref_sameInts_w {A1 : Option Addr} {c1 : Nat} {n1 : Nat} {a1 : List Int} {A2 : Option Addr} {c2 : Nat} {n2 : Nat} {b1 : List Int} {r : Bool} {w0 w : World} {B : Nat} {fs : List HP} (hm : gameroomref_sameInts_m a1 b1 = some r) (hS : Sep w0 B w (fs)) (hr_a1 : RdF w0 B fs A1 (vI a1)) (_hc_a1 : a1.length ≤ c1) (_hn_a1 : n1 = a1.length) (hr_b1 : RdF w0 B fs A2 (vI b1)) (_hc_b1 : b1.length ≤ c2) (_hn_b1 : n2 = b1.length) :
    Calls Try.prog 106 #[.slice A1 n1 c1, .slice A2 n2 c2] w fun e w' => e = .returned (.bool r) ∧ Sep w0 B w' (fs) := by
  obtain ⟨i3, hi3, hz3, hs3, hb3⟩ := info_parts Info3
  obtain rfl := _hn_a1
  obtain rfl := _hn_b1
  unfold gameroomref_sameInts_m at hm
  replace hm := start_b hm
  refine enter (l := [.slice A1 a1.length c1, .slice A2 b1.length c2]) (n := 26) Try.func106 rfl rfl (by simp) (fun a hF => ?_)
  refine reg [] [] [0, 1] [pl 0 (.slice A1 a1.length c1), pl 1 (.slice A2 b1.length c2)] hF hS Fol (by kernel_rfl) (by kernel_rfl) (by kernel_rfl) ?_ (fun a w hF hS => ?_)
  · exact obs_nil
  refine seq_cut (fun a w => Fr 26 [pl 0 (.slice A1 a1.length c1), pl 1 (.slice A2 b1.length c2)] a ∧ Sep w0 B w (fs) ∧ ((gameroomref_sameInts_J1 a1 b1)).bind some = some r) ?_ ?_
  · rintro a w ⟨hF, hS, hm⟩
    unfold gameroomref_sameInts_J1 at hm
    refine seq_cut (fun a w => Fr 26 [] a ∧ Sep w0 B w (fs) ∧ (gameroomref_sameInts_J2).bind some = some r) ?_ ?_
    · rintro a w ⟨hF, hS, hm⟩
      unfold gameroomref_sameInts_J2 at hm
      refine reg [] [] [4] [pl 4 (.bool true)] hF hS Fol (by kernel_rfl) (by kernel_rfl) (by kernel_rfl) ?_ (fun a w hF hS => ?_)
      · exact obs_nil
      refine wpIn_ret ?_
      have hm : some true = some r := hm
      obtain rfl := Option.some.inj hm
      exact retV (rs := [.tmp 4]) (vs := [.bool true]) hF rfl (rv_t (by kernel_rfl) <| rv_nil) rfl ⟨rfl, hS⟩
    · refine reg [] [] [0, 1, 5] [pl 0 (.slice A1 a1.length c1), pl 1 (.slice A2 b1.length c2), pl 5 (.int .i64 0)] hF hS Fol (by kernel_rfl) (by kernel_rfl) (by kernel_rfl) ?_ (fun a w hF hS => ?_)
      · exact obs_nil
      refine wpIn_block ?_
      refine wp_loop_model (S := Int) (R := (Fl Unit Bool)) (gameroomref_sameInts_L1 a1 b1) (fun x => (gameroomref_sameInts_K1 x).bind some) r (fun (x : Int) a w => Fr 26 [pl 0 (.slice A1 a1.length c1), pl 1 (.slice A2 b1.length c2), pl 5 (.int .i64 x)] a ∧ Sep w0 B w (fs)) (assoc_b hm) ⟨hF.weak [0, 1, 5] (by kernel_rfl), hS⟩ ?_
      clear hF hS hm
      rintro nn1 i1 a w ⟨hF, hS⟩ hm
      generalize hφ1 : stK (gameroomref_sameInts_L1 a1 b1) nn1 (fun x => (gameroomref_sameInts_K1 x).bind some) = φ1 at hm
      unfold gameroomref_sameInts_L1 at hm
      dsimp only at hm
      refine seq_cut (fun a w => Fr 26 [pl 0 (.slice A1 a1.length c1), pl 1 (.slice A2 b1.length c2), pl 5 (.int .i64 i1)] a ∧ Sep w0 B w (fs) ∧ ((gameroomref_sameInts_J3 a1 b1 i1)).bind φ1 = some r) ?_ ?_
      · rintro a w ⟨hF, hS, hm⟩
        unfold gameroomref_sameInts_J3 at hm
        refine seq_cut (fun a w => Fr 26 [pl 0 (.slice A1 a1.length c1), pl 1 (.slice A2 b1.length c2), pl 5 (.int .i64 i1)] a ∧ Sep w0 B w (fs) ∧ ((gameroomref_sameInts_J4 i1)).bind φ1 = some r) ?_ ?_
        · rintro a w ⟨hF, hS, hm⟩
          unfold gameroomref_sameInts_J4 at hm
          refine reg1 [] [] [0, 1, 5] [pl 0 (.slice A1 a1.length c1), pl 1 (.slice A2 b1.length c2), pl 5 (.int .i64 (w64 (i1 + 1)))] hF hS Fol (by kernel_rfl) (by kernel_rfl) (by kernel_rfl) ?_ (fun a w hF hS => ?_)
          · exact obs_nil
          refine then_n ?_
          rw [← hφ1] at hm
          exact ⟨(w64 (i1 + 1)), ⟨hF.weak [0, 1, 5] (by kernel_rfl), hS⟩, hm⟩
        · refine wpIn_block ?_
          obtain ⟨hp1, hm⟩ := asrt_b hm
          obtain ⟨hp2, hm⟩ := asrt_b hm
          refine reg [⟨true, [], vS (Instr.indexAt 22 (.slice A1 a1.length c1) (.int .i64 i1)), .pointer (some (sAddr A1 i1))⟩, ⟨false, [], vS (Instr.loadAt 3 (.pointer (some (sAddr A1 i1)))), .int .i64 (geti a1 i1)⟩, ⟨true, [], vS (Instr.indexAt 22 (.slice A2 b1.length c2) (.int .i64 i1)), .pointer (some (sAddr A2 i1))⟩, ⟨false, [], vS (Instr.loadAt 3 (.pointer (some (sAddr A2 i1)))), .int .i64 (geti b1 i1)⟩] [none, none, some (.pointer (some (sAddr A1 i1))), some (.int .i64 (geti a1 i1)), none, none, some (.pointer (some (sAddr A2 i1))), some (.int .i64 (geti b1 i1)), none] [0, 1, 5, 25] [pl 0 (.slice A1 a1.length c1), pl 1 (.slice A2 b1.length c2), pl 5 (.int .i64 i1), pl 25 (.bool ((geti a1 i1) != (geti b1 i1)))] hF hS Fol (by kernel_rfl) (by kernel_rfl) (by kernel_rfl) ?_ (fun a w hF hS => ?_)
          · exact obs_cons (ob_ix1 (f := (Value.int .i64)) (m := a1) Und22 hi3 hs3 (hr_a1 _ (hS.dropN 0)) rfl (fun _ => hp1)) <| obs_cons (ob_get1 (n := a1.length) (m := a1) (Value.int .i64) (0 : Int) Agg3 (fun _ hS => ⟨_, (hr_a1 _ (hS.dropN 0))⟩) (fun _ hS => rfl) (fun _ => hp1)) <| obs_cons (ob_ix1 (f := (Value.int .i64)) (m := b1) Und22 hi3 hs3 (hr_b1 _ (hS.dropN 0)) rfl (fun _ => hp2)) <| obs_cons (ob_get1 (n := b1.length) (m := b1) (Value.int .i64) (0 : Int) Agg3 (fun _ hS => ⟨_, (hr_b1 _ (hS.dropN 0))⟩) (fun _ hS => rfl) (fun _ => hp2)) <| obs_nil
          refine cond_ev (t := 25) (b := ((geti a1 i1) != (geti b1 i1))) hF (by kernel_rfl) (fun hb => ?_) (fun hb => ?_)
          · replace hm := if_t hm hb
            refine reg [] [] [4] [pl 4 (.bool false)] hF hS Fol (by kernel_rfl) (by kernel_rfl) (by kernel_rfl) ?_ (fun a w hF hS => ?_)
            · exact obs_nil
            refine wpIn_ret ?_
            refine block_r (then_r (then_r (block_r (then_r ?_))))
            rw [← hφ1] at hm
            replace hm := done_b hm
            unfold gameroomref_sameInts_K1 at hm
            try dsimp only at hm
            have hm : some false = some r := hm
            obtain rfl := Option.some.inj hm
            exact retV (rs := [.tmp 4]) (vs := [.bool false]) hF rfl (rv_t (by kernel_rfl) <| rv_nil) rfl ⟨rfl, hS⟩
          · replace hm := if_f hm hb
            refine wpIn_skip ?_
            refine block_n ?_
            refine then_n ?_
            exact ⟨hF.weak [0, 1, 5] (by kernel_rfl), hS, hm⟩
      · refine reg [] [] [0, 1, 5, 14] [pl 0 (.slice A1 a1.length c1), pl 1 (.slice A2 b1.length c2), pl 5 (.int .i64 i1), pl 14 (.bool (decide (i1 < (a1.length : Int))))] hF hS Fol (by kernel_rfl) (by kernel_rfl) (by kernel_rfl) ?_ (fun a w hF hS => ?_)
        · exact obs_nil
        refine cond_ev (t := 14) (b := decide (i1 < (a1.length : Int))) hF (by kernel_rfl) (fun hb => ?_) (fun hb => ?_)
        · replace hm := if_t hm hb
          refine wpIn_skip ?_
          refine then_n ?_
          exact ⟨hF.weak [0, 1, 5] (by kernel_rfl), hS, hm⟩
        · replace hm := if_f hm hb
          refine wpIn_exit ?_
          refine then_e (then_e (block_e (then_n ?_)))
          rw [← hφ1] at hm
          replace hm := done_b hm
          unfold gameroomref_sameInts_K1 at hm
          try dsimp only at hm
          have hm : (gameroomref_sameInts_J2).bind some = some r := hm
          exact ⟨hF.weak [] (by kernel_rfl), hS, hm⟩
  · refine reg [] [] [0, 1, 10] [pl 0 (.slice A1 a1.length c1), pl 1 (.slice A2 b1.length c2), pl 10 (.bool ((a1.length : Int) != (b1.length : Int)))] hF hS Fol (by kernel_rfl) (by kernel_rfl) (by kernel_rfl) ?_ (fun a w hF hS => ?_)
    · exact obs_nil
    refine cond_ev (t := 10) (b := ((a1.length : Int) != (b1.length : Int))) hF (by kernel_rfl) (fun hb => ?_) (fun hb => ?_)
    · replace hm := if_t hm hb
      refine reg [] [] [4] [pl 4 (.bool false)] hF hS Fol (by kernel_rfl) (by kernel_rfl) (by kernel_rfl) ?_ (fun a w hF hS => ?_)
      · exact obs_nil
      refine wpIn_ret ?_
      refine then_r ?_
      have hm : some false = some r := hm
      obtain rfl := Option.some.inj hm
      exact retV (rs := [.tmp 4]) (vs := [.bool false]) hF rfl (rv_t (by kernel_rfl) <| rv_nil) rfl ⟨rfl, hS⟩
    · replace hm := if_f hm hb
      refine wpIn_skip ?_
      refine then_n ?_
      exact ⟨hF.weak [0, 1] (by kernel_rfl), hS, hm⟩

noncomputable def gameroomref_SameGrid_m  (a1 : Int) (a2 : Int) (a3 : List Int) (b1 : Int) (b2 : Int) (b3 : List Int) : Option Bool :=
  ((if ((a1 == b1) && (a2 == b2)) then gameroomref_sameInts_m a3 b3 else some false)).bind fun r1 => some (((a1 == b1) && (a2 == b2)) && r1)

set_option maxRecDepth 100000 in
set_option maxHeartbeats 4000000 in
theorem gameroomref_SameGrid_w {a1 : Int} {a2 : Int} {A1 : Option Addr} {c1 : Nat} {n1 : Nat} {a3 : List Int} {b1 : Int} {b2 : Int} {A2 : Option Addr} {c2 : Nat} {n2 : Nat} {b3 : List Int} {r : Bool} {w0 w : World} {B : Nat} {fs : List HP} (hm : gameroomref_SameGrid_m a1 a2 a3 b1 b2 b3 = some r) (hS : Sep w0 B w (fs)) (hr_a3 : RdF w0 B fs A1 (vI a3)) (_hc_a3 : a3.length ≤ c1) (_hn_a3 : n1 = a3.length) (hr_b3 : RdF w0 B fs A2 (vI b3)) (_hc_b3 : b3.length ≤ c2) (_hn_b3 : n2 = b3.length) :
    Calls Try.prog 40 #[.agg #[.int .i64 a1, .int .i64 a2, .slice A1 n1 c1], .agg #[.int .i64 b1, .int .i64 b2, .slice A2 n2 c2]] w fun e w' => e = .returned (.bool r) ∧ Sep w0 B w' (fs) := by
  obtain ⟨i3, hi3, hz3, hs3, hb3⟩ := info_parts Info3
  obtain rfl := _hn_a3
  obtain rfl := _hn_b3
  unfold gameroomref_SameGrid_m at hm
  replace hm := start_b hm
  refine enter (l := [.agg #[.int .i64 a1, .int .i64 a2, .slice A1 a3.length c1], .agg #[.int .i64 b1, .int .i64 b2, .slice A2 b3.length c2]]) (n := 24) Try.func40 rfl rfl (by simp) (fun a hF => ?_)
  refine seqR ?_
  refine at_do (d := 2) (s := vS (Instr.box 41 (.agg #[.int .i64 a1, .int .i64 a2, .slice A1 a3.length c1]))) (v := .pointer (some ⟨w.heap.size, 0, none⟩)) (w' := w.alloc (.cells #[.int .i64 a1, .int .i64 a2, .slice A1 a3.length c1] 41)) hF (by kernel_rfl) (by kernel_rfl) (by kernel_rfl) (fun a hF => ?_)
  have hS : Sep w0 B (w.alloc (.cells #[.int .i64 a1, .int .i64 a2, .slice A1 a3.length c1] 41)) (blk w.heap.size 41 #[.int .i64 a1, .int .i64 a2, .slice A1 a3.length c1] :: (fs)) := hS.box 41 #[.int .i64 a1, .int .i64 a2, .slice A1 a3.length c1]
  generalize w.heap.size = g1 at hF hS
  generalize w.alloc (.cells #[.int .i64 a1, .int .i64 a2, .slice A1 a3.length c1] 41) = w at hS ⊢
  refine at_do (d := 3) (s := vS (Instr.box 41 (.agg #[.int .i64 b1, .int .i64 b2, .slice A2 b3.length c2]))) (v := .pointer (some ⟨w.heap.size, 0, none⟩)) (w' := w.alloc (.cells #[.int .i64 b1, .int .i64 b2, .slice A2 b3.length c2] 41)) hF (by kernel_rfl) (by kernel_rfl) (by kernel_rfl) (fun a hF => ?_)
  have hS : Sep w0 B (w.alloc (.cells #[.int .i64 b1, .int .i64 b2, .slice A2 b3.length c2] 41)) (blk w.heap.size 41 #[.int .i64 b1, .int .i64 b2, .slice A2 b3.length c2] :: (blk g1 41 #[.int .i64 a1, .int .i64 a2, .slice A1 a3.length c1] :: fs)) := hS.box 41 #[.int .i64 b1, .int .i64 b2, .slice A2 b3.length c2]
  generalize w.heap.size = g2 at hF hS
  generalize w.alloc (.cells #[.int .i64 b1, .int .i64 b2, .slice A2 b3.length c2] 41) = w at hS ⊢
  refine at_run 1 [] [] [2, 3] [pl 2 (.pointer (some ⟨g1, 0, none⟩)), pl 3 (.pointer (some ⟨g2, 0, none⟩))] hF hS (by kernel_rfl) (by kernel_rfl) ?_ (fun a w hF hS => ?_)
  · exact obs_nil
  refine at_end [2, 3] [pl 2 (.pointer (some ⟨g1, 0, none⟩)), pl 3 (.pointer (some ⟨g2, 0, none⟩))] hF rfl (by kernel_rfl) (fun hF => ?_)
  refine then_n ?_
  obtain ⟨r1, hr1, hm⟩ := call_b hm
  refine reg [⟨false, [], vS (Instr.loadAt 3 (.pointer (some ⟨g1, 0, none⟩))), .int .i64 a1⟩, ⟨false, [], vS (Instr.loadAt 3 (.pointer (some ⟨g2, 0, none⟩))), .int .i64 b1⟩, ⟨false, [((a1 == b1), true)], vS (Instr.loadAt 3 (.pointer (some ⟨g1, 1, none⟩))), .int .i64 a2⟩, ⟨false, [((a1 == b1), true)], vS (Instr.loadAt 3 (.pointer (some ⟨g2, 1, none⟩))), .int .i64 b2⟩, ⟨false, [((a1 == b1) && (a2 == b2), true)], vS (Instr.loadAt 22 (.pointer (some ⟨g1, 2, none⟩))), .slice A1 a3.length c1⟩, ⟨false, [((a1 == b1) && (a2 == b2), true)], vS (Instr.loadAt 22 (.pointer (some ⟨g2, 2, none⟩))), .slice A2 b3.length c2⟩, ⟨false, [((a1 == b1) && (a2 == b2), true)], callFunc 106 #[.slice A1 a3.length c1, .slice A2 b3.length c2], .bool r1⟩] [none, some (.int .i64 a1), none, some (.int .i64 b1), none, none, none, some (.int .i64 a2), none, some (.int .i64 b2), none, none, none, none, some (.slice A1 a3.length c1), none, some (.slice A2 b3.length c2), some (.bool r1), none, none] [4] [pl 4 (.bool (((a1 == b1) && (a2 == b2)) && r1))] hF hS Fol (by kernel_rfl) (by kernel_rfl) (by kernel_rfl) ?_ (fun a w hF hS => ?_)
  · exact obs_cons (ob_load Agg3 (fun _ _ hS => (hS.at_ 1 rfl).cell rfl)) <| obs_cons (ob_load Agg3 (fun _ _ hS => (hS.at_ 0 rfl).cell rfl)) <| obs_cons (ob_load Agg3 (fun _ _ hS => (hS.at_ 1 rfl).cell rfl)) <| obs_cons (ob_load Agg3 (fun _ _ hS => (hS.at_ 0 rfl).cell rfl)) <| obs_cons (ob_load Agg22 (fun _ _ hS => (hS.at_ 1 rfl).cell rfl)) <| obs_cons (ob_load Agg22 (fun _ _ hS => (hS.at_ 0 rfl).cell rfl)) <| obs_cons (ob_call Try.func106 (by kernel_rfl) rfl (fun hy _ hS => gameroomref_sameInts_w (ite_some hr1 (by rw [show ((a1 == b1) && (a2 == b2)) = true from hy ((a1 == b1) && (a2 == b2), true) (by simp)]; try rfl)) hS (fun _ hS => (hr_a3 _ (hS.dropN 2))) _hc_a3 rfl (fun _ hS => (hr_b3 _ (hS.dropN 2))) _hc_b3 rfl)) <| obs_nil
  refine wpIn_ret ?_
  have hS := hS.pickN 2 [] (by decide)
  have hm : some (((a1 == b1) && (a2 == b2)) && r1) = some r := hm
  obtain rfl := Option.some.inj hm
  exact retV (rs := [.tmp 4]) (vs := [.bool (((a1 == b1) && (a2 == b2)) && r1)]) hF rfl (rv_t (by kernel_rfl) <| rv_nil) rfl ⟨rfl, hS⟩

noncomputable def gameroomref_ClassOf_J3  (i1 : Int) (many3 : List Int) : Option (St (List Int × Int) (List Int)) :=
  some (.next (many3, (w64 (i1 + 1))))

noncomputable def gameroomref_ClassOf_J2  (g1 : Int) (g3 : List Int) (many1 : List Int) (i1 : Int) : Option (St (List Int × Int) (List Int)) :=
  asrt (0 ≤ i1 ∧ i1 < (g3.length : Int)) <| if ((geti g3 i1) == 1) then (asrt (g1 ≠ (0 : Int)) <| asrt (g1 ≠ (0 : Int)) <| asrt (0 ≤ (Int.tmod (w64 ((Int.tmod i1 g1) + (w64 (Int.tdiv i1 g1)))) 3) ∧ (Int.tmod (w64 ((Int.tmod i1 g1) + (w64 (Int.tdiv i1 g1)))) 3) < 6) <| asrt (0 ≤ (Int.tmod (w64 ((Int.tmod i1 g1) + (w64 (Int.tdiv i1 g1)))) 3) ∧ (Int.tmod (w64 ((Int.tmod i1 g1) + (w64 (Int.tdiv i1 g1)))) 3) < 6) <| asrt (0 ≤ (w64 (3 + (Int.tmod (w64 ((Int.tmod i1 g1) + (w64 (2 * (w64 (Int.tdiv i1 g1)))))) 3))) ∧ (w64 (3 + (Int.tmod (w64 ((Int.tmod i1 g1) + (w64 (2 * (w64 (Int.tdiv i1 g1)))))) 3))) < 6) <| asrt (0 ≤ (w64 (3 + (Int.tmod (w64 ((Int.tmod i1 g1) + (w64 (2 * (w64 (Int.tdiv i1 g1)))))) 3))) ∧ (w64 (3 + (Int.tmod (w64 ((Int.tmod i1 g1) + (w64 (2 * (w64 (Int.tdiv i1 g1)))))) 3))) < 6) <| (gameroomref_ClassOf_J3 i1) ((many1.set (Int.toNat (Int.tmod (w64 ((Int.tmod i1 g1) + (w64 (Int.tdiv i1 g1)))) 3)) (w64 ((geti many1 (Int.tmod (w64 ((Int.tmod i1 g1) + (w64 (Int.tdiv i1 g1)))) 3)) + 1))).set (Int.toNat (w64 (3 + (Int.tmod (w64 ((Int.tmod i1 g1) + (w64 (2 * (w64 (Int.tdiv i1 g1)))))) 3)))) (w64 ((geti (many1.set (Int.toNat (Int.tmod (w64 ((Int.tmod i1 g1) + (w64 (Int.tdiv i1 g1)))) 3)) (w64 ((geti many1 (Int.tmod (w64 ((Int.tmod i1 g1) + (w64 (Int.tdiv i1 g1)))) 3)) + 1))) (w64 (3 + (Int.tmod (w64 ((Int.tmod i1 g1) + (w64 (2 * (w64 (Int.tdiv i1 g1)))))) 3)))) + 1)))) else ((gameroomref_ClassOf_J3 i1) many1)

noncomputable def gameroomref_ClassOf_J1  (many2 : List Int) : Option (List Int) :=
  asrt (0 ≤ (0 : Int) ∧ (0 : Int) < 6) <| asrt (0 ≤ (1 : Int) ∧ (1 : Int) < 6) <| asrt (0 ≤ (1 : Int) ∧ (1 : Int) < 6) <| asrt (0 ≤ (2 : Int) ∧ (2 : Int) < 6) <| asrt (0 ≤ (3 : Int) ∧ (3 : Int) < 6) <| asrt (0 ≤ (4 : Int) ∧ (4 : Int) < 6) <| asrt (0 ≤ (4 : Int) ∧ (4 : Int) < 6) <| asrt (0 ≤ (5 : Int) ∧ (5 : Int) < 6) <| some ([Int.tmod (w64 ((geti many2 0) + (geti many2 1))) 2, Int.tmod (w64 ((geti many2 1) + (geti many2 2))) 2, Int.tmod (w64 ((geti many2 3) + (geti many2 4))) 2, Int.tmod (w64 ((geti many2 4) + (geti many2 5))) 2] : List Int)

noncomputable def gameroomref_ClassOf_K1  : (List Int) → Option (List Int) :=
  fun (x : (List Int)) => match x with | many2 => gameroomref_ClassOf_J1 many2

noncomputable def gameroomref_ClassOf_L1  (g1 : Int) (g3 : List Int) : (List Int × Int) → Option (St (List Int × Int) (List Int)) :=
  fun (x : (List Int × Int)) => match x with | (many1, i1) => if (decide (i1 < (g3.length : Int))) then ((gameroomref_ClassOf_J2 g1 g3 many1 i1)) else (some (.done many1))

noncomputable def gameroomref_ClassOf_m  (g1 : Int) (g2 : Int) (g3 : List Int) : Option (List Int) :=
  (loop (gameroomref_ClassOf_L1 g1 g3) (([0, 0, 0, 0, 0, 0] : List Int), 0)).bind gameroomref_ClassOf_K1

set_option maxRecDepth 100000 in
set_option maxHeartbeats 4000000 in
theorem gameroomref_ClassOf_w {g1 : Int} {g2 : Int} {A1 : Option Addr} {c1 : Nat} {n1 : Nat} {g3 : List Int} {r : (List Int)} {w0 w : World} {B : Nat} {fs : List HP} (hm : gameroomref_ClassOf_m g1 g2 g3 = some r) (hS : Sep w0 B w (fs)) (hr_g3 : RdF w0 B fs A1 (vI g3)) (_hc_g3 : g3.length ≤ c1) (_hn_g3 : n1 = g3.length) :
    Calls Try.prog 41 #[.agg #[.int .i64 g1, .int .i64 g2, .slice A1 n1 c1]] w fun e w' => e = .returned (.agg (List.toArray (([] : List Value) ++ (arr1 (Value.int .i64) (0 : Int) 4 r ++ ([] : List Value))))) ∧ Sep w0 B w' (fs) := by
  obtain ⟨i3, hi3, hz3, hs3, hb3⟩ := info_parts Info3
  obtain rfl := _hn_g3
  unfold gameroomref_ClassOf_m at hm
  replace hm := start_b hm
  refine enter (l := [.agg #[.int .i64 g1, .int .i64 g2, .slice A1 g3.length c1]]) (n := 82) Try.func41 rfl rfl (by simp) (fun a hF => ?_)
  refine seqR ?_
  refine at_do (d := 1) (s := vS (Instr.box 41 (.agg #[.int .i64 g1, .int .i64 g2, .slice A1 g3.length c1]))) (v := .pointer (some ⟨w.heap.size, 0, none⟩)) (w' := w.alloc (.cells #[.int .i64 g1, .int .i64 g2, .slice A1 g3.length c1] 41)) hF (by kernel_rfl) (by kernel_rfl) (by kernel_rfl) (fun a hF => ?_)
  have hS : Sep w0 B (w.alloc (.cells #[.int .i64 g1, .int .i64 g2, .slice A1 g3.length c1] 41)) (blk w.heap.size 41 #[.int .i64 g1, .int .i64 g2, .slice A1 g3.length c1] :: (fs)) := hS.box 41 #[.int .i64 g1, .int .i64 g2, .slice A1 g3.length c1]
  generalize w.heap.size = g4 at hF hS
  generalize w.alloc (.cells #[.int .i64 g1, .int .i64 g2, .slice A1 g3.length c1] 41) = w at hS ⊢
  refine at_do (d := 2) (s := vS (Instr.alloc 49 true (.tuple #[]))) (v := .pointer (some ⟨w.heap.size, 0, none⟩)) (w' := w.alloc (.cells (List.toArray (([] : List Value) ++ (arr1 (Value.int .i64) (0 : Int) 4 (List.replicate 4 (0 : Int)) ++ ([] : List Value)))) 49)) hF (by kernel_rfl) (by kernel_rfl) (by kernel_rfl) (fun a hF => ?_)
  have hS : Sep w0 B (w.alloc (.cells (List.toArray (([] : List Value) ++ (arr1 (Value.int .i64) (0 : Int) 4 (List.replicate 4 (0 : Int)) ++ ([] : List Value)))) 49)) (blk w.heap.size 49 (List.toArray (([] : List Value) ++ (arr1 (Value.int .i64) (0 : Int) 4 (List.replicate 4 (0 : Int)) ++ ([] : List Value)))) :: (blk g4 41 #[.int .i64 g1, .int .i64 g2, .slice A1 g3.length c1] :: fs)) := hS.box 49 (List.toArray (([] : List Value) ++ (arr1 (Value.int .i64) (0 : Int) 4 (List.replicate 4 (0 : Int)) ++ ([] : List Value))))
  generalize w.heap.size = g5 at hF hS
  generalize w.alloc (.cells (List.toArray (([] : List Value) ++ (arr1 (Value.int .i64) (0 : Int) 4 (List.replicate 4 (0 : Int)) ++ ([] : List Value)))) 49) = w at hS ⊢
  refine at_end [1, 2] [pl 1 (.pointer (some ⟨g4, 0, none⟩)), pl 2 (.pointer (some ⟨g5, 0, none⟩))] hF rfl (by kernel_rfl) (fun hF => ?_)
  refine then_n ?_
  refine seqR ?_
  refine at_do (d := 7) (s := vS (Instr.buildSlice 22 6 #[(0, .int .i64 0), (1, .int .i64 0), (2, .int .i64 0), (3, .int .i64 0), (4, .int .i64 0), (5, .int .i64 0)])) (v := .slice (some ⟨w.heap.size, 0, none⟩) 6 6) (w' := w.alloc (.cells #[.int .i64 0, .int .i64 0, .int .i64 0, .int .i64 0, .int .i64 0, .int .i64 0] 3)) hF (by kernel_rfl) (by kernel_rfl) (by kernel_rfl) (fun a hF => ?_)
  have hS : Sep w0 B (w.alloc (.cells #[.int .i64 0, .int .i64 0, .int .i64 0, .int .i64 0, .int .i64 0, .int .i64 0] 3)) (own 3 (.slice (some (⟨w.heap.size, 0, none⟩ : Addr)) 6 6) (vI ([0, 0, 0, 0, 0, 0] : List Int)) :: (blk g5 49 (List.toArray (([] : List Value) ++ (arr1 (Value.int .i64) (0 : Int) 4 (List.replicate 4 (0 : Int)) ++ ([] : List Value)))) :: blk g4 41 #[.int .i64 g1, .int .i64 g2, .slice A1 g3.length c1] :: fs)) := hS.lit 3 #[.int .i64 0, .int .i64 0, .int .i64 0, .int .i64 0, .int .i64 0, .int .i64 0] 6 rfl (by omega)
  generalize (some (⟨w.heap.size, 0, none⟩ : Addr)) = g6 at hF hS
  generalize w.alloc (.cells #[.int .i64 0, .int .i64 0, .int .i64 0, .int .i64 0, .int .i64 0, .int .i64 0] 3) = w at hS ⊢
  refine at_run 1 [] [] [1, 2, 3] [pl 1 (.pointer (some ⟨g4, 0, none⟩)), pl 2 (.pointer (some ⟨g5, 0, none⟩)), pl 3 (.slice g6 6 6)] hF hS (by kernel_rfl) (by kernel_rfl) ?_ (fun a w hF hS => ?_)
  · exact obs_nil
  refine at_end [1, 2, 3] [pl 1 (.pointer (some ⟨g4, 0, none⟩)), pl 2 (.pointer (some ⟨g5, 0, none⟩)), pl 3 (.slice g6 6 6)] hF rfl (by kernel_rfl) (fun hF => ?_)
  refine then_n ?_
  refine seq_cut (fun a w => ∃ (many2 : List Int), Fr 82 [pl 2 (.pointer (some ⟨g5, 0, none⟩)), pl 3 (.slice g6 6 6)] a ∧ Sep w0 B w (blk g5 49 (List.toArray (([] : List Value) ++ (arr1 (Value.int .i64) (0 : Int) 4 (List.replicate 4 (0 : Int)) ++ ([] : List Value)))) :: own 3 (.slice g6 6 6) (vI many2) :: fs) ∧ (gameroomref_ClassOf_J1 many2).bind some = some r) ?_ ?_
  · rintro a w ⟨many2, hF, hS, hm⟩
    unfold gameroomref_ClassOf_J1 at hm
    refine wpIn_seq ?_
    obtain ⟨hp8, hm⟩ := asrt_b hm
    obtain ⟨hp9, hm⟩ := asrt_b hm
    obtain ⟨hp10, hm⟩ := asrt_b hm
    obtain ⟨hp11, hm⟩ := asrt_b hm
    obtain ⟨hp12, hm⟩ := asrt_b hm
    obtain ⟨hp13, hm⟩ := asrt_b hm
    obtain ⟨hp14, hm⟩ := asrt_b hm
    obtain ⟨hp15, hm⟩ := asrt_b hm
    refine regMix4 [0, 1, 2, 3, 4, 5, 6, 7, 8, 9, 10, 11, 12, 13, 14, 15, 16, 17, 18, 19, 20, 21, 22, 23, 24, 25, 26, 27, 28, 29, 30, 31, 32] [33] [⟨true, [], vS (Instr.indexAt 22 (.slice g6 6 6) (.int .i64 0)), .pointer (some (sAddr g6 0))⟩, ⟨false, [], vS (Instr.loadAt 3 (.pointer (some (sAddr g6 0)))), .int .i64 (geti many2 0)⟩, ⟨true, [], vS (Instr.indexAt 22 (.slice g6 6 6) (.int .i64 1)), .pointer (some (sAddr g6 1))⟩, ⟨false, [], vS (Instr.loadAt 3 (.pointer (some (sAddr g6 1)))), .int .i64 (geti many2 1)⟩, ⟨true, [], vS (Instr.indexAt 22 (.slice g6 6 6) (.int .i64 1)), .pointer (some (sAddr g6 1))⟩, ⟨false, [], vS (Instr.loadAt 3 (.pointer (some (sAddr g6 1)))), .int .i64 (geti many2 1)⟩, ⟨true, [], vS (Instr.indexAt 22 (.slice g6 6 6) (.int .i64 2)), .pointer (some (sAddr g6 2))⟩, ⟨false, [], vS (Instr.loadAt 3 (.pointer (some (sAddr g6 2)))), .int .i64 (geti many2 2)⟩, ⟨true, [], vS (Instr.indexAt 22 (.slice g6 6 6) (.int .i64 3)), .pointer (some (sAddr g6 3))⟩, ⟨false, [], vS (Instr.loadAt 3 (.pointer (some (sAddr g6 3)))), .int .i64 (geti many2 3)⟩, ⟨true, [], vS (Instr.indexAt 22 (.slice g6 6 6) (.int .i64 4)), .pointer (some (sAddr g6 4))⟩, ⟨false, [], vS (Instr.loadAt 3 (.pointer (some (sAddr g6 4)))), .int .i64 (geti many2 4)⟩, ⟨true, [], vS (Instr.indexAt 22 (.slice g6 6 6) (.int .i64 4)), .pointer (some (sAddr g6 4))⟩, ⟨false, [], vS (Instr.loadAt 3 (.pointer (some (sAddr g6 4)))), .int .i64 (geti many2 4)⟩, ⟨true, [], vS (Instr.indexAt 22 (.slice g6 6 6) (.int .i64 5)), .pointer (some (sAddr g6 5))⟩, ⟨false, [], vS (Instr.loadAt 3 (.pointer (some (sAddr g6 5)))), .int .i64 (geti many2 5)⟩] [none, some (.pointer (some (sAddr g6 0))), some (.int .i64 (geti many2 0)), none, some (.pointer (some (sAddr g6 1))), some (.int .i64 (geti many2 1)), none, none, none, some (.pointer (some (sAddr g6 1))), some (.int .i64 (geti many2 1)), none, some (.pointer (some (sAddr g6 2))), some (.int .i64 (geti many2 2)), none, none, none, some (.pointer (some (sAddr g6 3))), some (.int .i64 (geti many2 3)), none, some (.pointer (some (sAddr g6 4))), some (.int .i64 (geti many2 4)), none, none, none, some (.pointer (some (sAddr g6 4))), some (.int .i64 (geti many2 4)), none, some (.pointer (some (sAddr g6 5))), some (.int .i64 (geti many2 5)), none, none, none] [2, 81] [pl 2 (.pointer (some ⟨g5, 0, none⟩)), pl 81 (.agg (List.toArray (([] : List Value) ++ (arr1 (Value.int .i64) (0 : Int) 4 ([Int.tmod (w64 ((geti many2 0) + (geti many2 1))) 2, Int.tmod (w64 ((geti many2 1) + (geti many2 2))) 2, Int.tmod (w64 ((geti many2 3) + (geti many2 4))) 2, Int.tmod (w64 ((geti many2 4) + (geti many2 5))) 2] : List Int) ++ ([] : List Value)))))] hF hS Fol (by kernel_rfl) (by kernel_rfl) (by kernel_rfl) (by kernel_rfl) (by kernel_rfl) ?_ (fun a w hF hS => ?_)
    · exact obs_cons (ob_ix1 (f := (Value.int .i64)) (m := many2) Und22 hi3 hs3 (hS.at_ 1 rfl).rd ((hS.at_ 1 rfl).len1) (fun _ => hp8)) <| obs_cons (ob_get1 (n := 6) (m := many2) (Value.int .i64) (0 : Int) Agg3 (fun _ hS => ⟨_, (hS.at_ 1 rfl).rd⟩) (fun _ hS => ((hS.at_ 1 rfl).len1)) (fun _ => hp8)) <| obs_cons (ob_ix1 (f := (Value.int .i64)) (m := many2) Und22 hi3 hs3 (hS.at_ 1 rfl).rd ((hS.at_ 1 rfl).len1) (fun _ => hp9)) <| obs_cons (ob_get1 (n := 6) (m := many2) (Value.int .i64) (0 : Int) Agg3 (fun _ hS => ⟨_, (hS.at_ 1 rfl).rd⟩) (fun _ hS => ((hS.at_ 1 rfl).len1)) (fun _ => hp9)) <| obs_cons (ob_ix1 (f := (Value.int .i64)) (m := many2) Und22 hi3 hs3 (hS.at_ 1 rfl).rd ((hS.at_ 1 rfl).len1) (fun _ => hp10)) <| obs_cons (ob_get1 (n := 6) (m := many2) (Value.int .i64) (0 : Int) Agg3 (fun _ hS => ⟨_, (hS.at_ 1 rfl).rd⟩) (fun _ hS => ((hS.at_ 1 rfl).len1)) (fun _ => hp10)) <| obs_cons (ob_ix1 (f := (Value.int .i64)) (m := many2) Und22 hi3 hs3 (hS.at_ 1 rfl).rd ((hS.at_ 1 rfl).len1) (fun _ => hp11)) <| obs_cons (ob_get1 (n := 6) (m := many2) (Value.int .i64) (0 : Int) Agg3 (fun _ hS => ⟨_, (hS.at_ 1 rfl).rd⟩) (fun _ hS => ((hS.at_ 1 rfl).len1)) (fun _ => hp11)) <| obs_cons (ob_ix1 (f := (Value.int .i64)) (m := many2) Und22 hi3 hs3 (hS.at_ 1 rfl).rd ((hS.at_ 1 rfl).len1) (fun _ => hp12)) <| obs_cons (ob_get1 (n := 6) (m := many2) (Value.int .i64) (0 : Int) Agg3 (fun _ hS => ⟨_, (hS.at_ 1 rfl).rd⟩) (fun _ hS => ((hS.at_ 1 rfl).len1)) (fun _ => hp12)) <| obs_cons (ob_ix1 (f := (Value.int .i64)) (m := many2) Und22 hi3 hs3 (hS.at_ 1 rfl).rd ((hS.at_ 1 rfl).len1) (fun _ => hp13)) <| obs_cons (ob_get1 (n := 6) (m := many2) (Value.int .i64) (0 : Int) Agg3 (fun _ hS => ⟨_, (hS.at_ 1 rfl).rd⟩) (fun _ hS => ((hS.at_ 1 rfl).len1)) (fun _ => hp13)) <| obs_cons (ob_ix1 (f := (Value.int .i64)) (m := many2) Und22 hi3 hs3 (hS.at_ 1 rfl).rd ((hS.at_ 1 rfl).len1) (fun _ => hp14)) <| obs_cons (ob_get1 (n := 6) (m := many2) (Value.int .i64) (0 : Int) Agg3 (fun _ hS => ⟨_, (hS.at_ 1 rfl).rd⟩) (fun _ hS => ((hS.at_ 1 rfl).len1)) (fun _ => hp14)) <| obs_cons (ob_ix1 (f := (Value.int .i64)) (m := many2) Und22 hi3 hs3 (hS.at_ 1 rfl).rd ((hS.at_ 1 rfl).len1) (fun _ => hp15)) <| obs_cons (ob_get1 (n := 6) (m := many2) (Value.int .i64) (0 : Int) Agg3 (fun _ hS => ⟨_, (hS.at_ 1 rfl).rd⟩) (fun _ hS => ((hS.at_ 1 rfl).len1)) (fun _ => hp15)) <| obs_nil
    obtain ⟨w, hrun, hS⟩ := run_putA (P := Try.prog) (t := 49) (us := (List.toArray (([] : List Value) ++ (arr1 (Value.int .i64) (0 : Int) 4 ([Int.tmod (w64 ((geti many2 0) + (geti many2 1))) 2, Int.tmod (w64 ((geti many2 1) + (geti many2 2))) 2, Int.tmod (w64 ((geti many2 3) + (geti many2 4))) 2, Int.tmod (w64 ((geti many2 4) + (geti many2 5))) 2] : List Int) ++ ([] : List Value))))) (o := 0) (hS.at_ 0 rfl) (by kernel_rfl) (all_one (by kernel_rfl)) (Nat.le_of_ble_eq_true (by kernel_rfl))
    refine at_skip hF (by kernel_rfl) hrun ?_
    have hS : Sep w0 B w (blk g5 49 (List.toArray (([] : List Value) ++ (arr1 (Value.int .i64) (0 : Int) 4 ([Int.tmod (w64 ((geti many2 0) + (geti many2 1))) 2, Int.tmod (w64 ((geti many2 1) + (geti many2 2))) 2, Int.tmod (w64 ((geti many2 3) + (geti many2 4))) 2, Int.tmod (w64 ((geti many2 4) + (geti many2 5))) 2] : List Int) ++ ([] : List Value)))) :: own 3 (.slice g6 6 6) (vI many2) :: fs) := hS
    refine at_end [2] [pl 2 (.pointer (some ⟨g5, 0, none⟩))] hF rfl (by kernel_rfl) (fun hF => ?_)
    refine np_n ?_
    refine then_n ?_
    refine wpIn_ret ?_
    have hld0 := run_loadVarA (P := Try.prog) (t := 49) (cs := (List.toArray (([] : List Value) ++ (arr1 (Value.int .i64) (0 : Int) 4 ([Int.tmod (w64 ((geti many2 0) + (geti many2 1))) 2, Int.tmod (w64 ((geti many2 1) + (geti many2 2))) 2, Int.tmod (w64 ((geti many2 3) + (geti many2 4))) 2, Int.tmod (w64 ((geti many2 4) + (geti many2 5))) 2] : List Int) ++ ([] : List Value))))) (by kernel_rfl) (by kernel_rfl) ((hS.at_ 0 rfl).cellsAt 0 (by rfl))
    have hS := hS.pickN 2 [] (by decide)
    have hm : some ([Int.tmod (w64 ((geti many2 0) + (geti many2 1))) 2, Int.tmod (w64 ((geti many2 1) + (geti many2 2))) 2, Int.tmod (w64 ((geti many2 3) + (geti many2 4))) 2, Int.tmod (w64 ((geti many2 4) + (geti many2 5))) 2] : List Int) = some r := hm
    obtain rfl := Option.some.inj hm
    exact retV (rs := [.cell 2 49]) (vs := [.agg (List.toArray (([] : List Value) ++ (arr1 (Value.int .i64) (0 : Int) 4 ([Int.tmod (w64 ((geti many2 0) + (geti many2 1))) 2, Int.tmod (w64 ((geti many2 1) + (geti many2 2))) 2, Int.tmod (w64 ((geti many2 3) + (geti many2 4))) 2, Int.tmod (w64 ((geti many2 4) + (geti many2 5))) 2] : List Int) ++ ([] : List Value))))]) hF rfl (rv_c (by kernel_rfl) hld0 <| rv_nil) rfl ⟨rfl, hS⟩
  · refine reg [] [] [1, 2, 3, 4] [pl 1 (.pointer (some ⟨g4, 0, none⟩)), pl 2 (.pointer (some ⟨g5, 0, none⟩)), pl 3 (.slice g6 6 6), pl 4 (.int .i64 0)] hF hS Fol (by kernel_rfl) (by kernel_rfl) (by kernel_rfl) ?_ (fun a w hF hS => ?_)
    · exact obs_nil
    refine wpIn_block ?_
    have hS := hS.pickN 3 [2, 1, 0] (by decide)
    refine wp_loop_model (S := (List Int × Int)) (R := (List Int)) (gameroomref_ClassOf_L1 g1 g3) (fun x => (gameroomref_ClassOf_K1 x).bind some) r (fun (x : (List Int × Int)) a w => Fr 82 [pl 1 (.pointer (some ⟨g4, 0, none⟩)), pl 2 (.pointer (some ⟨g5, 0, none⟩)), pl 3 (.slice g6 6 6), pl 4 (.int .i64 x.2)] a ∧ Sep w0 B w (blk g4 41 #[.int .i64 g1, .int .i64 g2, .slice A1 g3.length c1] :: blk g5 49 (List.toArray (([] : List Value) ++ (arr1 (Value.int .i64) (0 : Int) 4 (List.replicate 4 (0 : Int)) ++ ([] : List Value)))) :: own 3 (.slice g6 6 6) (vI x.1) :: fs)) (assoc_b hm) ⟨hF.weak [1, 2, 3, 4] (by kernel_rfl), hS⟩ ?_
    clear hF hS hm
    rintro nn1 ⟨many1, i1⟩ a w ⟨hF, hS⟩ hm
    generalize hφ1 : stK (gameroomref_ClassOf_L1 g1 g3) nn1 (fun x => (gameroomref_ClassOf_K1 x).bind some) = φ1 at hm
    unfold gameroomref_ClassOf_L1 at hm
    dsimp only at hF hS hm
    refine seq_cut (fun a w => Fr 82 [pl 1 (.pointer (some ⟨g4, 0, none⟩)), pl 2 (.pointer (some ⟨g5, 0, none⟩)), pl 3 (.slice g6 6 6), pl 4 (.int .i64 i1)] a ∧ Sep w0 B w (blk g4 41 #[.int .i64 g1, .int .i64 g2, .slice A1 g3.length c1] :: blk g5 49 (List.toArray (([] : List Value) ++ (arr1 (Value.int .i64) (0 : Int) 4 (List.replicate 4 (0 : Int)) ++ ([] : List Value)))) :: own 3 (.slice g6 6 6) (vI many1) :: fs) ∧ ((gameroomref_ClassOf_J2 g1 g3 many1 i1)).bind φ1 = some r) ?_ ?_
    · rintro a w ⟨hF, hS, hm⟩
      unfold gameroomref_ClassOf_J2 at hm
      refine seq_cut (fun a w => ∃ (many3 : List Int), Fr 82 [pl 1 (.pointer (some ⟨g4, 0, none⟩)), pl 2 (.pointer (some ⟨g5, 0, none⟩)), pl 3 (.slice g6 6 6), pl 4 (.int .i64 i1)] a ∧ Sep w0 B w (blk g4 41 #[.int .i64 g1, .int .i64 g2, .slice A1 g3.length c1] :: blk g5 49 (List.toArray (([] : List Value) ++ (arr1 (Value.int .i64) (0 : Int) 4 (List.replicate 4 (0 : Int)) ++ ([] : List Value)))) :: own 3 (.slice g6 6 6) (vI many3) :: fs) ∧ ((gameroomref_ClassOf_J3 i1) many3).bind φ1 = some r) ?_ ?_
      · rintro a w ⟨many3, hF, hS, hm⟩
        unfold gameroomref_ClassOf_J3 at hm
        refine reg1 [] [] [1, 2, 3, 4] [pl 1 (.pointer (some ⟨g4, 0, none⟩)), pl 2 (.pointer (some ⟨g5, 0, none⟩)), pl 3 (.slice g6 6 6), pl 4 (.int .i64 (w64 (i1 + 1)))] hF hS Fol (by kernel_rfl) (by kernel_rfl) (by kernel_rfl) ?_ (fun a w hF hS => ?_)
        · exact obs_nil
        refine then_n ?_
        rw [← hφ1] at hm
        exact ⟨(many3, (w64 (i1 + 1))), ⟨hF.weak [1, 2, 3, 4] (by kernel_rfl), hS⟩, hm⟩
      · refine wpIn_block ?_
        obtain ⟨hp1, hm⟩ := asrt_b hm
        refine reg [⟨false, [], vS (Instr.loadAt 22 (.pointer (some ⟨g4, 2, none⟩))), .slice A1 g3.length c1⟩, ⟨true, [], vS (Instr.indexAt 22 (.slice A1 g3.length c1) (.int .i64 i1)), .pointer (some (sAddr A1 i1))⟩, ⟨false, [], vS (Instr.loadAt 3 (.pointer (some (sAddr A1 i1)))), .int .i64 (geti g3 i1)⟩] [none, some (.slice A1 g3.length c1), none, some (.pointer (some (sAddr A1 i1))), some (.int .i64 (geti g3 i1)), none] [1, 2, 3, 4, 20] [pl 1 (.pointer (some ⟨g4, 0, none⟩)), pl 2 (.pointer (some ⟨g5, 0, none⟩)), pl 3 (.slice g6 6 6), pl 4 (.int .i64 i1), pl 20 (.bool ((geti g3 i1) == 1))] hF hS Fol (by kernel_rfl) (by kernel_rfl) (by kernel_rfl) ?_ (fun a w hF hS => ?_)
        · exact obs_cons (ob_load Agg22 (fun _ _ hS => (hS.at_ 0 rfl).cell rfl)) <| obs_cons (ob_ix1 (f := (Value.int .i64)) (m := g3) Und22 hi3 hs3 (hr_g3 _ (hS.dropN 3)) rfl (fun _ => hp1)) <| obs_cons (ob_get1 (n := g3.length) (m := g3) (Value.int .i64) (0 : Int) Agg3 (fun _ hS => ⟨_, (hr_g3 _ (hS.dropN 3))⟩) (fun _ hS => rfl) (fun _ => hp1)) <| obs_nil
        refine cond_ev (t := 20) (b := ((geti g3 i1) == 1)) hF (by kernel_rfl) (fun hb => ?_) (fun hb => ?_)
        · replace hm := if_t hm hb
          obtain ⟨hp2, hm⟩ := asrt_b hm
          obtain ⟨hp3, hm⟩ := asrt_b hm
          refine reg [⟨false, [], vS (Instr.loadAt 3 (.pointer (some ⟨g4, 0, none⟩))), .int .i64 g1⟩, ⟨true, [], vS (Op.intDiv .rem .i64 i1 g1), .int .i64 (Int.tmod i1 g1)⟩, ⟨false, [], vS (Instr.loadAt 3 (.pointer (some ⟨g4, 0, none⟩))), .int .i64 g1⟩, ⟨true, [], vS (Op.intDiv .quo .i64 i1 g1), .int .i64 (w64 (Int.tdiv i1 g1))⟩] [none, none, some (.int .i64 g1), some (.int .i64 (Int.tmod i1 g1)), none, none, some (.int .i64 g1), some (.int .i64 (w64 (Int.tdiv i1 g1))), none, none] [1, 2, 3, 4, 5, 6] [pl 1 (.pointer (some ⟨g4, 0, none⟩)), pl 2 (.pointer (some ⟨g5, 0, none⟩)), pl 3 (.slice g6 6 6), pl 4 (.int .i64 i1), pl 5 (.int .i64 (Int.tmod i1 g1)), pl 6 (.int .i64 (w64 (Int.tdiv i1 g1)))] hF hS Fol (by kernel_rfl) (by kernel_rfl) (by kernel_rfl) ?_ (fun a w hF hS => ?_)
          · exact obs_cons (ob_load Agg3 (fun _ _ hS => (hS.at_ 0 rfl).cell rfl)) <| obs_cons (ob_rem rfl (fun _ => hp2)) <| obs_cons (ob_load Agg3 (fun _ _ hS => (hS.at_ 0 rfl).cell rfl)) <| obs_cons (ob_quo rfl (fun _ => hp3)) <| obs_nil
          refine seqR ?_
          obtain ⟨hp4, hm⟩ := asrt_b hm
          obtain ⟨hp5, hm⟩ := asrt_b hm
          refine at_run 9 [⟨true, [], vS (Instr.indexAt 22 (.slice g6 6 6) (.int .i64 (Int.tmod (w64 ((Int.tmod i1 g1) + (w64 (Int.tdiv i1 g1)))) 3))), .pointer (some (sAddr g6 (Int.tmod (w64 ((Int.tmod i1 g1) + (w64 (Int.tdiv i1 g1)))) 3)))⟩, ⟨false, [], vS (Instr.loadAt 3 (.pointer (some (sAddr g6 (Int.tmod (w64 ((Int.tmod i1 g1) + (w64 (Int.tdiv i1 g1)))) 3))))), .int .i64 (geti many1 (Int.tmod (w64 ((Int.tmod i1 g1) + (w64 (Int.tdiv i1 g1)))) 3))⟩, ⟨true, [], vS (Instr.indexAt 22 (.slice g6 6 6) (.int .i64 (Int.tmod (w64 ((Int.tmod i1 g1) + (w64 (Int.tdiv i1 g1)))) 3))), .pointer (some (sAddr g6 (Int.tmod (w64 ((Int.tmod i1 g1) + (w64 (Int.tdiv i1 g1)))) 3)))⟩] [none, none, none, none, none, some (.pointer (some (sAddr g6 (Int.tmod (w64 ((Int.tmod i1 g1) + (w64 (Int.tdiv i1 g1)))) 3)))), some (.int .i64 (geti many1 (Int.tmod (w64 ((Int.tmod i1 g1) + (w64 (Int.tdiv i1 g1)))) 3))), none, some (.pointer (some (sAddr g6 (Int.tmod (w64 ((Int.tmod i1 g1) + (w64 (Int.tdiv i1 g1)))) 3))))] [1, 2, 3, 4, 5, 6, 36, 37] [pl 1 (.pointer (some ⟨g4, 0, none⟩)), pl 2 (.pointer (some ⟨g5, 0, none⟩)), pl 3 (.slice g6 6 6), pl 4 (.int .i64 i1), pl 5 (.int .i64 (Int.tmod i1 g1)), pl 6 (.int .i64 (w64 (Int.tdiv i1 g1))), pl 36 (.int .i64 (w64 ((geti many1 (Int.tmod (w64 ((Int.tmod i1 g1) + (w64 (Int.tdiv i1 g1)))) 3)) + 1))), pl 37 (.pointer (some (sAddr g6 (Int.tmod (w64 ((Int.tmod i1 g1) + (w64 (Int.tdiv i1 g1)))) 3))))] hF hS (by kernel_rfl) (by kernel_rfl) ?_ (fun a w hF hS => ?_)
          · exact obs_cons (ob_ix1 (f := (Value.int .i64)) (m := many1) Und22 hi3 hs3 (hS.at_ 2 rfl).rd ((hS.at_ 2 rfl).len1) (fun _ => hp4)) <| obs_cons (ob_get1 (n := 6) (m := many1) (Value.int .i64) (0 : Int) Agg3 (fun _ hS => ⟨_, (hS.at_ 2 rfl).rd⟩) (fun _ hS => ((hS.at_ 2 rfl).len1)) (fun _ => hp4)) <| obs_cons (ob_ix1 (f := (Value.int .i64)) (m := many1) Und22 hi3 hs3 (hS.at_ 2 rfl).rd ((hS.at_ 2 rfl).len1) (fun _ => hp5)) <| obs_nil
          obtain ⟨w, hrun, hS⟩ := run_set1 (P := Try.prog) (t := 3) (x := (w64 ((geti many1 (Int.tmod (w64 ((Int.tmod i1 g1) + (w64 (Int.tdiv i1 g1)))) 3)) + 1))) (Value.int .i64) (hS.at_ 2 rfl) hi3 hs3 rfl rfl hp5
          refine at_skip hF (by kernel_rfl) hrun ?_
          have hS : Sep w0 B w (blk g4 41 #[.int .i64 g1, .int .i64 g2, .slice A1 g3.length c1] :: blk g5 49 (List.toArray (([] : List Value) ++ (arr1 (Value.int .i64) (0 : Int) 4 (List.replicate 4 (0 : Int)) ++ ([] : List Value)))) :: own 3 (.slice g6 6 6) (vI (many1.set (Int.toNat (Int.tmod (w64 ((Int.tmod i1 g1) + (w64 (Int.tdiv i1 g1)))) 3)) (w64 ((geti many1 (Int.tmod (w64 ((Int.tmod i1 g1) + (w64 (Int.tdiv i1 g1)))) 3)) + 1)))) :: fs) := hS
          refine at_end [1, 2, 3, 4, 5, 6] [pl 1 (.pointer (some ⟨g4, 0, none⟩)), pl 2 (.pointer (some ⟨g5, 0, none⟩)), pl 3 (.slice g6 6 6), pl 4 (.int .i64 i1), pl 5 (.int .i64 (Int.tmod i1 g1)), pl 6 (.int .i64 (w64 (Int.tdiv i1 g1)))] hF rfl (by kernel_rfl) (fun hF => ?_)
          refine then_n ?_
          refine oneR ?_
          obtain ⟨hp6, hm⟩ := asrt_b hm
          obtain ⟨hp7, hm⟩ := asrt_b hm
          refine at_run 11 [⟨true, [], vS (Instr.indexAt 22 (.slice g6 6 6) (.int .i64 (w64 (3 + (Int.tmod (w64 ((Int.tmod i1 g1) + (w64 (2 * (w64 (Int.tdiv i1 g1)))))) 3))))), .pointer (some (sAddr g6 (w64 (3 + (Int.tmod (w64 ((Int.tmod i1 g1) + (w64 (2 * (w64 (Int.tdiv i1 g1)))))) 3)))))⟩, ⟨false, [], vS (Instr.loadAt 3 (.pointer (some (sAddr g6 (w64 (3 + (Int.tmod (w64 ((Int.tmod i1 g1) + (w64 (2 * (w64 (Int.tdiv i1 g1)))))) 3))))))), .int .i64 (geti (many1.set (Int.toNat (Int.tmod (w64 ((Int.tmod i1 g1) + (w64 (Int.tdiv i1 g1)))) 3)) (w64 ((geti many1 (Int.tmod (w64 ((Int.tmod i1 g1) + (w64 (Int.tdiv i1 g1)))) 3)) + 1))) (w64 (3 + (Int.tmod (w64 ((Int.tmod i1 g1) + (w64 (2 * (w64 (Int.tdiv i1 g1)))))) 3))))⟩, ⟨true, [], vS (Instr.indexAt 22 (.slice g6 6 6) (.int .i64 (w64 (3 + (Int.tmod (w64 ((Int.tmod i1 g1) + (w64 (2 * (w64 (Int.tdiv i1 g1)))))) 3))))), .pointer (some (sAddr g6 (w64 (3 + (Int.tmod (w64 ((Int.tmod i1 g1) + (w64 (2 * (w64 (Int.tdiv i1 g1)))))) 3)))))⟩] [none, none, none, none, none, none, none, some (.pointer (some (sAddr g6 (w64 (3 + (Int.tmod (w64 ((Int.tmod i1 g1) + (w64 (2 * (w64 (Int.tdiv i1 g1)))))) 3)))))), some (.int .i64 (geti (many1.set (Int.toNat (Int.tmod (w64 ((Int.tmod i1 g1) + (w64 (Int.tdiv i1 g1)))) 3)) (w64 ((geti many1 (Int.tmod (w64 ((Int.tmod i1 g1) + (w64 (Int.tdiv i1 g1)))) 3)) + 1))) (w64 (3 + (Int.tmod (w64 ((Int.tmod i1 g1) + (w64 (2 * (w64 (Int.tdiv i1 g1)))))) 3))))), none, some (.pointer (some (sAddr g6 (w64 (3 + (Int.tmod (w64 ((Int.tmod i1 g1) + (w64 (2 * (w64 (Int.tdiv i1 g1)))))) 3))))))] [1, 2, 3, 4, 47, 48] [pl 1 (.pointer (some ⟨g4, 0, none⟩)), pl 2 (.pointer (some ⟨g5, 0, none⟩)), pl 3 (.slice g6 6 6), pl 4 (.int .i64 i1), pl 47 (.int .i64 (w64 ((geti (many1.set (Int.toNat (Int.tmod (w64 ((Int.tmod i1 g1) + (w64 (Int.tdiv i1 g1)))) 3)) (w64 ((geti many1 (Int.tmod (w64 ((Int.tmod i1 g1) + (w64 (Int.tdiv i1 g1)))) 3)) + 1))) (w64 (3 + (Int.tmod (w64 ((Int.tmod i1 g1) + (w64 (2 * (w64 (Int.tdiv i1 g1)))))) 3)))) + 1))), pl 48 (.pointer (some (sAddr g6 (w64 (3 + (Int.tmod (w64 ((Int.tmod i1 g1) + (w64 (2 * (w64 (Int.tdiv i1 g1)))))) 3))))))] hF hS (by kernel_rfl) (by kernel_rfl) ?_ (fun a w hF hS => ?_)
          · exact obs_cons (ob_ix1 (f := (Value.int .i64)) (m := (many1.set (Int.toNat (Int.tmod (w64 ((Int.tmod i1 g1) + (w64 (Int.tdiv i1 g1)))) 3)) (w64 ((geti many1 (Int.tmod (w64 ((Int.tmod i1 g1) + (w64 (Int.tdiv i1 g1)))) 3)) + 1)))) Und22 hi3 hs3 (hS.at_ 2 rfl).rd ((hS.at_ 2 rfl).len1) (fun _ => hp6)) <| obs_cons (ob_get1 (n := 6) (m := (many1.set (Int.toNat (Int.tmod (w64 ((Int.tmod i1 g1) + (w64 (Int.tdiv i1 g1)))) 3)) (w64 ((geti many1 (Int.tmod (w64 ((Int.tmod i1 g1) + (w64 (Int.tdiv i1 g1)))) 3)) + 1)))) (Value.int .i64) (0 : Int) Agg3 (fun _ hS => ⟨_, (hS.at_ 2 rfl).rd⟩) (fun _ hS => ((hS.at_ 2 rfl).len1)) (fun _ => hp6)) <| obs_cons (ob_ix1 (f := (Value.int .i64)) (m := (many1.set (Int.toNat (Int.tmod (w64 ((Int.tmod i1 g1) + (w64 (Int.tdiv i1 g1)))) 3)) (w64 ((geti many1 (Int.tmod (w64 ((Int.tmod i1 g1) + (w64 (Int.tdiv i1 g1)))) 3)) + 1)))) Und22 hi3 hs3 (hS.at_ 2 rfl).rd ((hS.at_ 2 rfl).len1) (fun _ => hp7)) <| obs_nil
          obtain ⟨w, hrun, hS⟩ := run_set1 (P := Try.prog) (t := 3) (x := (w64 ((geti (many1.set (Int.toNat (Int.tmod (w64 ((Int.tmod i1 g1) + (w64 (Int.tdiv i1 g1)))) 3)) (w64 ((geti many1 (Int.tmod (w64 ((Int.tmod i1 g1) + (w64 (Int.tdiv i1 g1)))) 3)) + 1))) (w64 (3 + (Int.tmod (w64 ((Int.tmod i1 g1) + (w64 (2 * (w64 (Int.tdiv i1 g1)))))) 3)))) + 1))) (Value.int .i64) (hS.at_ 2 rfl) hi3 hs3 rfl rfl hp7
          refine at_skip hF (by kernel_rfl) hrun ?_
          have hS : Sep w0 B w (blk g4 41 #[.int .i64 g1, .int .i64 g2, .slice A1 g3.length c1] :: blk g5 49 (List.toArray (([] : List Value) ++ (arr1 (Value.int .i64) (0 : Int) 4 (List.replicate 4 (0 : Int)) ++ ([] : List Value)))) :: own 3 (.slice g6 6 6) (vI ((many1.set (Int.toNat (Int.tmod (w64 ((Int.tmod i1 g1) + (w64 (Int.tdiv i1 g1)))) 3)) (w64 ((geti many1 (Int.tmod (w64 ((Int.tmod i1 g1) + (w64 (Int.tdiv i1 g1)))) 3)) + 1))).set (Int.toNat (w64 (3 + (Int.tmod (w64 ((Int.tmod i1 g1) + (w64 (2 * (w64 (Int.tdiv i1 g1)))))) 3)))) (w64 ((geti (many1.set (Int.toNat (Int.tmod (w64 ((Int.tmod i1 g1) + (w64 (Int.tdiv i1 g1)))) 3)) (w64 ((geti many1 (Int.tmod (w64 ((Int.tmod i1 g1) + (w64 (Int.tdiv i1 g1)))) 3)) + 1))) (w64 (3 + (Int.tmod (w64 ((Int.tmod i1 g1) + (w64 (2 * (w64 (Int.tdiv i1 g1)))))) 3)))) + 1)))) :: fs) := hS
          refine at_end [1, 2, 3, 4] [pl 1 (.pointer (some ⟨g4, 0, none⟩)), pl 2 (.pointer (some ⟨g5, 0, none⟩)), pl 3 (.slice g6 6 6), pl 4 (.int .i64 i1)] hF rfl (by kernel_rfl) (fun hF => ?_)
          refine block_n ?_
          refine then_n ?_
          exact ⟨((many1.set (Int.toNat (Int.tmod (w64 ((Int.tmod i1 g1) + (w64 (Int.tdiv i1 g1)))) 3)) (w64 ((geti many1 (Int.tmod (w64 ((Int.tmod i1 g1) + (w64 (Int.tdiv i1 g1)))) 3)) + 1))).set (Int.toNat (w64 (3 + (Int.tmod (w64 ((Int.tmod i1 g1) + (w64 (2 * (w64 (Int.tdiv i1 g1)))))) 3)))) (w64 ((geti (many1.set (Int.toNat (Int.tmod (w64 ((Int.tmod i1 g1) + (w64 (Int.tdiv i1 g1)))) 3)) (w64 ((geti many1 (Int.tmod (w64 ((Int.tmod i1 g1) + (w64 (Int.tdiv i1 g1)))) 3)) + 1))) (w64 (3 + (Int.tmod (w64 ((Int.tmod i1 g1) + (w64 (2 * (w64 (Int.tdiv i1 g1)))))) 3)))) + 1))), hF.weak [1, 2, 3, 4] (by kernel_rfl), hS, hm⟩
        · replace hm := if_f hm hb
          refine wpIn_skip ?_
          refine block_n ?_
          refine then_n ?_
          exact ⟨many1, hF.weak [1, 2, 3, 4] (by kernel_rfl), hS, hm⟩
    · refine reg [⟨false, [], vS (Instr.loadAt 22 (.pointer (some ⟨g4, 2, none⟩))), .slice A1 g3.length c1⟩] [none, none, some (.slice A1 g3.length c1), none, none] [1, 2, 3, 4, 12] [pl 1 (.pointer (some ⟨g4, 0, none⟩)), pl 2 (.pointer (some ⟨g5, 0, none⟩)), pl 3 (.slice g6 6 6), pl 4 (.int .i64 i1), pl 12 (.bool (decide (i1 < (g3.length : Int))))] hF hS Fol (by kernel_rfl) (by kernel_rfl) (by kernel_rfl) ?_ (fun a w hF hS => ?_)
      · exact obs_cons (ob_load Agg22 (fun _ _ hS => (hS.at_ 0 rfl).cell rfl)) <| obs_nil
      refine cond_ev (t := 12) (b := decide (i1 < (g3.length : Int))) hF (by kernel_rfl) (fun hb => ?_) (fun hb => ?_)
      · replace hm := if_t hm hb
        refine wpIn_skip ?_
        refine then_n ?_
        exact ⟨hF.weak [1, 2, 3, 4] (by kernel_rfl), hS, hm⟩
      · replace hm := if_f hm hb
        refine wpIn_exit ?_
        refine then_e (then_e (block_e (then_n ?_)))
        have hS := hS.pickN 3 [1, 2] (by decide)
        rw [← hφ1] at hm
        replace hm := done_b hm
        unfold gameroomref_ClassOf_K1 at hm
        try dsimp only at hm
        have hm : (gameroomref_ClassOf_J1 many1).bind some = some r := hm
        exact ⟨many1, hF.weak [2, 3] (by kernel_rfl), hS, hm⟩

noncomputable def gameroomlaw_PegsJumps_J4  (i1 : Int) (now7 : Int) (now8 : Int) (now9 : List Int) (made3 : Int) (no3 : Int) : Option (St (Int × Int × List Int × Int × Int × Int) (Int × Int × List Int × Int × Int)) :=
  some (.next (now7, now8, now9, made3, no3, (w64 (i1 + 1))))

noncomputable def gameroomlaw_PegsJumps_J3  (l1 : List (Int × Int × Int)) (now1 : Int) (now2 : Int) (now3 : List Int) (made1 : Int) (no1 : Int) (i1 : Int) : Option (St (Int × Int × List Int × Int × Int × Int) (Int × Int × List Int × Int × Int)) :=
  asrt (0 ≤ i1 ∧ i1 < (l1.length : Int)) <| asrt ((((getd ((0, 0, 0) : (Int × Int × Int)) l1 i1).2.2) != 0) = false → 0 ≤ i1 ∧ i1 < (l1.length : Int)) <| asrt ((((getd ((0, 0, 0) : (Int × Int × Int)) l1 i1).2.2) != 0) = false → 0 ≤ i1 ∧ i1 < (l1.length : Int)) <| ((if (!(((getd ((0, 0, 0) : (Int × Int × Int)) l1 i1).2.2) != 0)) then gameroomref_JumpCan_m now1 now2 now3 ((getd ((0, 0, 0) : (Int × Int × Int)) l1 i1).1) ((getd ((0, 0, 0) : (Int × Int × Int)) l1 i1).2.1) else some false)).bind fun r11 => if ((((getd ((0, 0, 0) : (Int × Int × Int)) l1 i1).2.2) != 0) || (!r11)) then ((gameroomlaw_PegsJumps_J4 i1) now1 now2 now3 made1 8) else (asrt (0 ≤ i1 ∧ i1 < (l1.length : Int)) <| (gameroomref_JumpDone_m now1 now2 now3 ((getd ((0, 0, 0) : (Int × Int × Int)) l1 i1).1) ((getd ((0, 0, 0) : (Int × Int × Int)) l1 i1).2.1) ((getd ((0, 0, 0) : (Int × Int × Int)) l1 i1).2.2)).bind fun r12 => (gameroomlaw_PegsJumps_J4 i1) r12.1 r12.2.1 r12.2.2 (w64 (made1 + 1)) no1)

noncomputable def gameroomlaw_PegsJumps_J5  (z1 : Bool) : Option Bool :=
  some z1

noncomputable def gameroomlaw_PegsJumps_J2  (g1 : Int) (g2 : Int) (g3 : List Int) (r2 : (List (Int × Int × Int) × Int)) (r5 : (Int × Int × List Int × Int × Int)) (r7 : (List Int × Int)) (now4 : Int) (now5 : Int) (now6 : List Int) (made2 : Int) (no2 : Int) : Option Bool :=
  if (r2.2 == 0) then ((gameroomref_JumpsOf_m g1 g2 g3).bind fun r13 => ((if (r2.2 == 0) then gameroomlaw_sameMoves_m r2.1 r13 else some false)).bind fun r14 => ((if ((((r2.2 == 0) && r14) && (r5.2.2.2.2 == no2)) && (r5.2.2.2.1 == made2)) then gameroomref_SameGrid_m r5.1 r5.2.1 r5.2.2.1 now4 now5 now6 else some false)).bind fun r15 => ((if ((((((r2.2 == 0) && r14) && (r5.2.2.2.2 == no2)) && (r5.2.2.2.1 == made2)) && r15) && (r7.2 == 0)) then gameroomref_ClassOf_m g1 g2 g3 else some ([]))).bind fun r16 => gameroomlaw_PegsJumps_J5 (((((((r2.2 == 0) && r14) && (r5.2.2.2.2 == no2)) && (r5.2.2.2.1 == made2)) && r15) && (r7.2 == 0)) && (((geti r7.1 0) == (geti r16 0)) && (((geti r7.1 1) == (geti r16 1)) && (((geti r7.1 2) == (geti r16 2)) && ((geti r7.1 3) == (geti r16 3))))))) else (((if (r2.2 == 0) then gameroomlaw_sameMoves_m r2.1 ([] : List (Int × Int × Int)) else some false)).bind fun r17 => ((if ((((r2.2 == 0) && r17) && (r5.2.2.2.2 == no2)) && (r5.2.2.2.1 == made2)) then gameroomref_SameGrid_m r5.1 r5.2.1 r5.2.2.1 now4 now5 now6 else some false)).bind fun r18 => ((if ((((((r2.2 == 0) && r17) && (r5.2.2.2.2 == no2)) && (r5.2.2.2.1 == made2)) && r18) && (r7.2 == 0)) then gameroomref_ClassOf_m g1 g2 g3 else some ([]))).bind fun r19 => gameroomlaw_PegsJumps_J5 (((((((r2.2 == 0) && r17) && (r5.2.2.2.2 == no2)) && (r5.2.2.2.1 == made2)) && r18) && (r7.2 == 0)) && (((geti r7.1 0) == (geti r19 0)) && (((geti r7.1 1) == (geti r19 1)) && (((geti r7.1 2) == (geti r19 2)) && ((geti r7.1 3) == (geti r19 3)))))))

noncomputable def gameroomlaw_PegsJumps_K1  (g1 : Int) (g2 : Int) (g3 : List Int) (r2 : (List (Int × Int × Int) × Int)) (r5 : (Int × Int × List Int × Int × Int)) (r7 : (List Int × Int)) : (Int × Int × List Int × Int × Int) → Option Bool :=
  fun (x : (Int × Int × List Int × Int × Int)) => match x with | (now4, now5, now6, made2, no2) => (gameroomlaw_PegsJumps_J2 g1 g2 g3 r2 r5 r7) now4 now5 now6 made2 no2

noncomputable def gameroomlaw_PegsJumps_L1  (l1 : List (Int × Int × Int)) : (Int × Int × List Int × Int × Int × Int) → Option (St (Int × Int × List Int × Int × Int × Int) (Int × Int × List Int × Int × Int)) :=
  fun (x : (Int × Int × List Int × Int × Int × Int)) => match x with | (now1, now2, now3, made1, no1, i1) => if ((decide (i1 < (l1.length : Int))) && (no1 == 0)) then ((gameroomlaw_PegsJumps_J3 l1 now1 now2 now3 made1 no1 i1)) else (some (.done (now1, now2, now3, made1, no1)))

noncomputable def gameroomlaw_PegsJumps_J1  (g1 : Int) (g2 : Int) (g3 : List Int) (l1 : List (Int × Int × Int)) (r2 : (List (Int × Int × Int) × Int)) (r5 : (Int × Int × List Int × Int × Int)) (r7 : (List Int × Int)) : Option Bool :=
  (gameroomref_GridOf_m g1 g2 g3).bind fun r10 => (loop (gameroomlaw_PegsJumps_L1 l1) (r10.1, r10.2.1, r10.2.2, 0, 0, 0)).bind (gameroomlaw_PegsJumps_K1 g1 g2 g3 r2 r5 r7)

noncomputable def gameroomlaw_PegsJumps_m  (g1 : Int) (g2 : Int) (g3 : List Int) (l1 : List (Int × Int × Int)) : Option Bool :=
  (gameroomref_GridOf_m g1 g2 g3).bind fun r1 => (pegs_Jumps_m r1.1 r1.2.1 r1.2.2).bind fun r2 => (gameroomref_GridOf_m g1 g2 g3).bind fun r3 => (gameroomlaw_list_m l1).bind fun r4 => (pegs_Do_m r3.1 r3.2.1 r3.2.2 r4).bind fun r5 => (gameroomref_GridOf_m g1 g2 g3).bind fun r6 => (pegs_Class_m r6.1 r6.2.1 r6.2.2).bind fun r7 => (gameroomref_GridMay_m g1 g2 g3).bind fun r8 => if (!r8) then (((if ((((r2.2 == 12) && (r5.2.2.2.2 == 12)) && (r7.2 == 12)) && ((r2.1.length : Int) == 0)) then gameroomlaw_noGrid_m r5.1 r5.2.1 r5.2.2.1 else some false)).bind fun r9 => some (((((((r2.2 == 12) && (r5.2.2.2.2 == 12)) && (r7.2 == 12)) && ((r2.1.length : Int) == 0)) && r9) && (r5.2.2.2.1 == 0)) && (((geti r7.1 0) == (geti ([0, 0, 0, 0] : List Int) 0)) && (((geti r7.1 1) == (geti ([0, 0, 0, 0] : List Int) 1)) && (((geti r7.1 2) == (geti ([0, 0, 0, 0] : List Int) 2)) && ((geti r7.1 3) == (geti ([0, 0, 0, 0] : List Int) 3))))))) else ((gameroomlaw_PegsJumps_J1 g1 g2 g3 l1 r2 r5 r7))


end Go.Proofs.Ytlkdblflibgfpaa
