/-
  Models and walks, printed by our own program (wip/gen).
-/
import Derived.Test.YtogecbgngnjhgaaFB
import Derived.Test.YtogecbgngnjhgaaLibD
namespace Go.Proofs.Ytogecbgngnjhgaa
open Go Go.GL Go.RowKit




noncomputable def gameroomlaw_ints_m (l1 : List Int) : Option (List Int) :=
  asrt ((0 : Int) + (l1.length : Int) ≤ bigN) <| some ([] ++ l1)

set_option maxRecDepth 100000 in
set_option maxHeartbeats 4000000 in
theorem gameroomlaw_ints_w {A1 : Option Addr} {c1 : Nat} {n1 : Nat} {l1 : List Int} {r : (List Int)} {w0 w : World} {B : Nat} {fs : List HP} (hm : gameroomlaw_ints_m l1 = some r) (hS : Sep w0 B w (fs)) (hr_l1 : RdF w0 B fs A1 (vI l1)) (_hc_l1 : l1.length ≤ c1) (_hn_l1 : n1 = l1.length) :
    Calls Try.prog 40 #[.slice A1 n1 c1] w fun e w' => ∃ v, e = .returned v ∧ ∃ (A3 : Option Addr) (c3 : Nat), v = .slice A3 r.length c3 ∧ Sep w0 B w' (own 3 (.slice A3 r.length c3) (vI r) :: fs) := by
  obtain ⟨i3, hi3, hz3, hs3, hb3⟩ := info_parts Info3
  obtain rfl := _hn_l1
  unfold gameroomlaw_ints_m at hm
  replace hm := start_b hm
  refine enter (l := [.slice A1 l1.length c1]) (n := 5) Try.func40 rfl rfl (by simp) (fun a hF => ?_)
  refine reg [] [] [0] [pl 0 (.slice A1 l1.length c1)] hF hS Fol (by kernel_rfl) (by kernel_rfl) (by kernel_rfl) ?_ (fun a w hF hS => ?_)
  · exact obs_nil
  refine seqR ?_
  obtain ⟨hp1, hm⟩ := asrt_b hm
  refine at_run 1 [] [] [3] [pl 3 (.slice A1 l1.length c1)] hF hS (by kernel_rfl) (by kernel_rfl) ?_ (fun a w hF hS => ?_)
  · exact obs_nil
  have hS : Sep w0 B w (own 3 (.slice none 0 0) (vI ([] : List Int)) :: fs) := hS.nil 3
  obtain ⟨A2, c2, w, hrun, hS⟩ := run_app1 (P := Try.prog) (t := 22) (m := ([] : List Int)) (ys := l1) (A2 := A1) (m2 := l1.length) (c2 := c1) (Value.int .i64) (0 : Int) (hS.at_ 0 rfl) (hr_l1 _ (hS.dropN 1)) rfl 22 Und22 hi3 hz3 hs3 (by omega) rfl (fun _ => rfl) hp1
  have hS : Sep w0 B w (own 3 (.slice A2 (([] ++ l1).length) c2) (vI ([] ++ l1)) :: fs) := hS
  refine at_do (d := 4) hF (by kernel_rfl) (by kernel_rfl) hrun (fun a hF => ?_)
  refine at_run 1 [] [] [2] [pl 2 (.slice A2 (([] ++ l1).length) c2)] hF hS (by kernel_rfl) (by kernel_rfl) ?_ (fun a w hF hS => ?_)
  · exact obs_nil
  refine at_end [2] [pl 2 (.slice A2 (([] ++ l1).length) c2)] hF rfl (by kernel_rfl) (fun hF => ?_)
  refine then_n ?_
  refine wp_ret ?_
  have hm : some ([] ++ l1) = some r := hm
  obtain rfl := Option.some.inj hm
  exact retV (rs := [.tmp 2]) (vs := [.slice A2 (([] ++ l1).length) c2]) hF rfl (rv_t (by kernel_rfl) <| rv_nil) rfl ⟨_, rfl, A2, c2, rfl, hS⟩

noncomputable def gameroomlaw_seeds_J1 (b2 : Int) (z1 : List Int) : Option (List Int × Int) :=
  some (z1, b2)

noncomputable def gameroomlaw_seeds_m (b1 : List Int) (b2 : Int) : Option (List Int × Int) :=
  (gameroomlaw_ints_m b1).bind fun r1 => (gameroomlaw_seeds_J1 b2) r1

set_option maxRecDepth 100000 in
set_option maxHeartbeats 4000000 in
theorem gameroomlaw_seeds_w {A1 : Option Addr} {c1 : Nat} {n1 : Nat} {b1 : List Int} {b2 : Int} {r : (List Int × Int)} {w0 w : World} {B : Nat} {fs : List HP} (hm : gameroomlaw_seeds_m b1 b2 = some r) (hS : Sep w0 B w (fs)) (hr_b1 : RdF w0 B fs A1 (vI b1)) (_hc_b1 : b1.length ≤ c1) (_hn_b1 : n1 = b1.length) :
    Calls Try.prog 25 #[.agg #[.slice A1 n1 c1, .int .i64 b2]] w fun e w' => ∃ v, e = .returned v ∧ ∃ (A5 : Option Addr) (c5 : Nat), v = .agg #[.slice A5 r.1.length c5, .int .i64 r.2] ∧ Sep w0 B w' (own 3 (.slice A5 r.1.length c5) (vI r.1) :: fs) := by
  obtain ⟨i3, hi3, hz3, hs3, hb3⟩ := info_parts Info3
  obtain rfl := _hn_b1
  unfold gameroomlaw_seeds_m at hm
  replace hm := start_b hm
  refine enter (l := [.agg #[.slice A1 b1.length c1, .int .i64 b2]]) (n := 9) Try.func25 rfl rfl (by simp) (fun a hF => ?_)
  refine seqR ?_
  refine at_do (d := 1) (s := vS (Instr.box 44 (.agg #[.slice A1 b1.length c1, .int .i64 b2]))) (v := .pointer (some ⟨w.heap.size, 0, none⟩)) (w' := w.alloc (.cells #[.slice A1 b1.length c1, .int .i64 b2] 44)) hF (by kernel_rfl) (by kernel_rfl) (by kernel_rfl) (fun a hF => ?_)
  have hS : Sep w0 B (w.alloc (.cells #[.slice A1 b1.length c1, .int .i64 b2] 44)) (blk w.heap.size 44 #[.slice A1 b1.length c1, .int .i64 b2] :: (fs)) := hS.box 44 #[.slice A1 b1.length c1, .int .i64 b2]
  generalize w.heap.size = g1 at hF hS
  generalize w.alloc (.cells #[.slice A1 b1.length c1, .int .i64 b2] 44) = w at hS ⊢
  refine at_do (d := 2) (s := vS (Instr.alloc 44 true (.tuple #[]))) (v := .pointer (some ⟨w.heap.size, 0, none⟩)) (w' := w.alloc (.cells #[.slice none 0 0, .int .i64 0] 44)) hF (by kernel_rfl) (by kernel_rfl) (by kernel_rfl) (fun a hF => ?_)
  have hS : Sep w0 B (w.alloc (.cells #[.slice none 0 0, .int .i64 0] 44)) (blk w.heap.size 44 #[.slice none 0 0, .int .i64 0] :: (blk g1 44 #[.slice A1 b1.length c1, .int .i64 b2] :: fs)) := hS.box 44 #[.slice none 0 0, .int .i64 0]
  generalize w.heap.size = g2 at hF hS
  generalize w.alloc (.cells #[.slice none 0 0, .int .i64 0] 44) = w at hS ⊢
  refine at_end [1, 2] [pl 1 (.pointer (some ⟨g1, 0, none⟩)), pl 2 (.pointer (some ⟨g2, 0, none⟩))] hF rfl (by kernel_rfl) (fun hF => ?_)
  refine then_n ?_
  refine seq_cut (fun a w => ∃ (z1 : List Int) (A4 : Option Addr) (c4 : Nat), Fr 9 [pl 2 (.pointer (some ⟨g2, 0, none⟩))] a ∧ Sep w0 B w (blk g2 44 #[.slice A4 z1.length c4, .int .i64 b2] :: own 3 (.slice A4 z1.length c4) (vI z1) :: fs) ∧ ((gameroomlaw_seeds_J1 b2) z1).bind some = some r) ?_ ?_
  · rintro a w ⟨z1, A4, c4, hF, hS, hm⟩
    unfold gameroomlaw_seeds_J1 at hm
    refine wp_ret ?_
    have hld0 := run_loadVarA (P := Try.prog) (t := 44) (cs := #[.slice A4 z1.length c4, .int .i64 b2]) (by kernel_rfl) (by kernel_rfl) ((hS.at_ 0 rfl).cellsAt 0 (by rfl))
    have hS := hS.pickN 2 [1] (by decide)
    have hm : some (z1, b2) = some r := hm
    obtain rfl := Option.some.inj hm
    exact retV (rs := [.cell 2 44]) (vs := [.agg #[.slice A4 z1.length c4, .int .i64 b2]]) hF rfl (rv_c (by kernel_rfl) hld0 <| rv_nil) rfl ⟨_, rfl, A4, c4, rfl, hS⟩
  · obtain ⟨r1, hr1, hm⟩ := call_b hm
    refine regMix5 [0, 1, 3, 4] [6] 3 #[true, true, false, true, true, false, false] [⟨false, [], vS (Instr.loadAt 22 (.pointer (some ⟨g1, 0, none⟩))), .slice A1 b1.length c1⟩, ⟨false, [], vS (Instr.loadAt 3 (.pointer (some ⟨g1, 1, none⟩))), .int .i64 b2⟩] [none, some (.slice A1 b1.length c1), none, some (.int .i64 b2)] [2, 4, 7] [pl 2 (.pointer (some ⟨g2, 0, none⟩)), pl 4 (.slice A1 b1.length c1), pl 7 (.int .i64 b2)] hF hS Fol (by kernel_rfl) (by kernel_rfl) (by kernel_rfl) (by kernel_rfl) ?_ (fun a w hF hS => ?_)
    · exact obs_cons (ob_load Agg22 (fun _ _ hS => (hS.at_ 1 rfl).cell rfl)) <| obs_cons (ob_load Agg3 (fun _ _ hS => (hS.at_ 1 rfl).cell rfl)) <| obs_nil
    refine any_step [2] (by kernel_rfl) rfl ?_
    refine (all_cons ?_ all_nil)
    · refine any_op (listed' := #[true, true, true, true, true, false, false]) (by kernel_rfl) (by kernel_rfl) ?_
      refine at_call (f := 40) (args := #[.slice A1 b1.length c1]) (d := 5) hF (by kernel_rfl) (by kernel_rfl) Try.func40 (by kernel_rfl) rfl (gameroomlaw_ints_w hr1 hS (fun _ hS => (hr_b1 _ (hS.dropN 2))) _hc_b1 rfl) (fun v a w hR hF => ?_)
      clear hS
      obtain ⟨A3, c3, rfl, hS⟩ := hR
      have hS : Sep w0 B w (own 3 (.slice A3 r1.length c3) (vI r1) :: blk g2 44 #[.slice none 0 0, .int .i64 0] :: blk g1 44 #[.slice A1 b1.length c1, .int .i64 b2] :: fs) := hS
      refine any_fin rfl (hS.pickN 3 [1, 2] (by decide)) ?_
      refine any_step [5] (by kernel_rfl) rfl ?_
      refine (all_cons ?_ all_nil)
      · refine any_op (listed' := #[true, true, true, true, true, true, false]) (by kernel_rfl) (by kernel_rfl) ?_
        refine at_runW 1 [] [] [2, 8] [pl 2 (.pointer (some ⟨g2, 0, none⟩)), pl 8 (.agg #[.slice A3 r1.length c3, .int .i64 b2])] hF hS (by kernel_rfl) (by kernel_rfl) ?_ (fun a hF => ?_)
        · exact obs_nil
        refine any_finI rfl (fun h => h) ?_
        refine any_step [6] (by kernel_rfl) rfl ?_
        refine (all_cons ?_ all_nil)
        · refine any_op (listed' := #[true, true, true, true, true, true, true]) (by kernel_rfl) (by kernel_rfl) ?_
          obtain ⟨w, hrun, hS⟩ := run_putA (P := Try.prog) (t := 44) (us := #[.slice A3 r1.length c3, .int .i64 b2]) (o := 0) (hS.at_ 1 rfl) (by kernel_rfl) (all_one (by kernel_rfl)) (Nat.le_of_ble_eq_true (by kernel_rfl))
          refine at_skip hF (by kernel_rfl) hrun ?_
          have hS : Sep w0 B w (own 3 (.slice A3 r1.length c3) (vI r1) :: blk g2 44 #[.slice A3 r1.length c3, .int .i64 b2] :: blk g1 44 #[.slice A1 b1.length c1, .int .i64 b2] :: fs) := hS
          refine any_finE rfl (by decide) ?_
          refine any_end (by kernel_rfl) ?_
          refine np_n ?_
          refine then_n ?_
          have hS := hS.pickN 3 [1, 0] (by decide)
          exact ⟨r1, A3, c3, hF.weak [2] (by kernel_rfl), hS, hm⟩

noncomputable def mancala_May_J4 (b1 : List Int) (left1 : Int) (z1 : Int) : Option (St (Int × Int) (Fl Unit Bool)) :=
  some (.next ((w64 (left1 - (geti b1 z1))), (w64 (z1 + 1))))

noncomputable def mancala_May_J5 (b1 : List Int) (left1 : Int) (z1 : Int) : Option (St (Int × Int) (Fl Unit Bool)) :=
  (mancala_May_J4 b1 left1 z1)

noncomputable def mancala_May_J3 (b1 : List Int) (left1 : Int) (z1 : Int) : Option (St (Int × Int) (Fl Unit Bool)) :=
  asrt (0 ≤ z1 ∧ z1 < (b1.length : Int)) <| if ((decide ((geti b1 z1) < 0)) || (decide (left1 < (geti b1 z1)))) then (some (.done (.ret false))) else ((mancala_May_J5 b1 left1 z1))

noncomputable def mancala_May_J2 : Option Bool :=
  some true

noncomputable def mancala_May_K1 : (Fl Unit Bool) → Option Bool :=
  fun (x : (Fl Unit Bool)) => match x with | .go _ => mancala_May_J2 | .ret x => some x

noncomputable def mancala_May_L1 (b1 : List Int) : (Int × Int) → Option (St (Int × Int) (Fl Unit Bool)) :=
  fun (x : (Int × Int)) => match x with | (left1, z1) => if (decide (z1 < (b1.length : Int))) then ((mancala_May_J3 b1 left1 z1)) else (some (.done (.go ())))

noncomputable def mancala_May_J1 (b1 : List Int) : Option Bool :=
  (loop (mancala_May_L1 b1) (1000, 0)).bind mancala_May_K1

noncomputable def mancala_May_m (b1 : List Int) (b2 : Int) : Option Bool :=
  if (((((decide ((b1.length : Int) < 4)) || (decide ((14 : Int) < (b1.length : Int)))) || ((bAnd (b1.length : Int) 1) == 1)) || (decide (b2 < 0))) || (decide ((1 : Int) < b2))) then (some false) else ((mancala_May_J1 b1))

set_option maxRecDepth 100000 in
set_option maxHeartbeats 4000000 in
theorem mancala_May_w {A1 : Option Addr} {c1 : Nat} {n1 : Nat} {b1 : List Int} {b2 : Int} {r : Bool} {w0 w : World} {B : Nat} {fs : List HP} (hm : mancala_May_m b1 b2 = some r) (hS : Sep w0 B w (fs)) (hr_b1 : RdF w0 B fs A1 (vI b1)) (_hc_b1 : b1.length ≤ c1) (_hn_b1 : n1 = b1.length) :
    Calls Try.prog 65 #[.agg #[.slice A1 n1 c1, .int .i64 b2]] w fun e w' => e = .returned (.bool r) ∧ Sep w0 B w' (fs) := by
  obtain ⟨i3, hi3, hz3, hs3, hb3⟩ := info_parts Info3
  obtain rfl := _hn_b1
  unfold mancala_May_m at hm
  replace hm := start_b hm
  refine enter (l := [.agg #[.slice A1 b1.length c1, .int .i64 b2]]) (n := 49) Try.func65 rfl rfl (by simp) (fun a hF => ?_)
  refine seqR ?_
  refine at_do (d := 1) (s := vS (Instr.box 44 (.agg #[.slice A1 b1.length c1, .int .i64 b2]))) (v := .pointer (some ⟨w.heap.size, 0, none⟩)) (w' := w.alloc (.cells #[.slice A1 b1.length c1, .int .i64 b2] 44)) hF (by kernel_rfl) (by kernel_rfl) (by kernel_rfl) (fun a hF => ?_)
  have hS : Sep w0 B (w.alloc (.cells #[.slice A1 b1.length c1, .int .i64 b2] 44)) (blk w.heap.size 44 #[.slice A1 b1.length c1, .int .i64 b2] :: (fs)) := hS.box 44 #[.slice A1 b1.length c1, .int .i64 b2]
  generalize w.heap.size = g1 at hF hS
  generalize w.alloc (.cells #[.slice A1 b1.length c1, .int .i64 b2] 44) = w at hS ⊢
  refine at_run 1 [] [] [1] [pl 1 (.pointer (some ⟨g1, 0, none⟩))] hF hS (by kernel_rfl) (by kernel_rfl) ?_ (fun a w hF hS => ?_)
  · exact obs_nil
  refine at_end [1] [pl 1 (.pointer (some ⟨g1, 0, none⟩))] hF rfl (by kernel_rfl) (fun hF => ?_)
  refine then_n ?_
  refine reg [⟨false, [], vS (Instr.loadAt 22 (.pointer (some ⟨g1, 0, none⟩))), .slice A1 b1.length c1⟩] [none, some (.slice A1 b1.length c1), none, none] [1, 3] [pl 1 (.pointer (some ⟨g1, 0, none⟩)), pl 3 (.int .i64 (b1.length : Int))] hF hS Fol (by kernel_rfl) (by kernel_rfl) (by kernel_rfl) ?_ (fun a w hF hS => ?_)
  · exact obs_cons (ob_load Agg22 (fun _ _ hS => (hS.at_ 0 rfl).cell rfl)) <| obs_nil
  refine seq_cut (fun a w => Fr 49 [pl 1 (.pointer (some ⟨g1, 0, none⟩))] a ∧ Sep w0 B w (blk g1 44 #[.slice A1 b1.length c1, .int .i64 b2] :: fs) ∧ ((mancala_May_J1 b1)).bind some = some r) ?_ ?_
  · rintro a w ⟨hF, hS, hm⟩
    unfold mancala_May_J1 at hm
    refine reg [] [] [1, 4] [pl 1 (.pointer (some ⟨g1, 0, none⟩)), pl 4 (.int .i64 1000)] hF hS Fol (by kernel_rfl) (by kernel_rfl) (by kernel_rfl) ?_ (fun a w hF hS => ?_)
    · exact obs_nil
    refine seq_cut (fun a w => Fr 49 [] a ∧ Sep w0 B w (fs) ∧ (mancala_May_J2).bind some = some r) ?_ ?_
    · rintro a w ⟨hF, hS, hm⟩
      unfold mancala_May_J2 at hm
      refine reg [] [] [2] [pl 2 (.bool true)] hF hS Fol (by kernel_rfl) (by kernel_rfl) (by kernel_rfl) ?_ (fun a w hF hS => ?_)
      · exact obs_nil
      refine wp_ret ?_
      have hm : some true = some r := hm
      obtain rfl := Option.some.inj hm
      exact retV (rs := [.tmp 2]) (vs := [.bool true]) hF rfl (rv_t (by kernel_rfl) <| rv_nil) rfl ⟨rfl, hS⟩
    · refine reg [⟨false, [], vS (Instr.loadAt 22 (.pointer (some ⟨g1, 0, none⟩))), .slice A1 b1.length c1⟩] [none, some (.slice A1 b1.length c1), none, none] [4, 32, 33, 34] [pl 4 (.int .i64 1000), pl 32 (.slice A1 b1.length c1), pl 33 (.int .i64 (b1.length : Int)), pl 34 (.int .i64 0)] hF hS Fol (by kernel_rfl) (by kernel_rfl) (by kernel_rfl) ?_ (fun a w hF hS => ?_)
      · exact obs_cons (ob_load Agg22 (fun _ _ hS => (hS.at_ 0 rfl).cell rfl)) <| obs_nil
      refine wp_block ?_
      have hS := hS.pickN 1 [] (by decide)
      refine wp_loop_model (S := (Int × Int)) (R := (Fl Unit Bool)) (mancala_May_L1 b1) (fun x => (mancala_May_K1 x).bind some) r (fun (x : (Int × Int)) a w => Fr 49 [pl 4 (.int .i64 x.1), pl 32 (.slice A1 b1.length c1), pl 33 (.int .i64 (b1.length : Int)), pl 34 (.int .i64 x.2)] a ∧ Sep w0 B w (fs)) (assoc_b hm) ⟨hF.weak [4, 32, 33, 34] (by kernel_rfl), hS⟩ ?_
      clear hF hS hm
      rintro nn1 ⟨left1, z1⟩ a w ⟨hF, hS⟩ hm
      generalize hφ1 : stK (mancala_May_L1 b1) nn1 (fun x => (mancala_May_K1 x).bind some) = φ1 at hm
      unfold mancala_May_L1 at hm
      dsimp only at hF hS hm
      refine reg [] [] [4, 32, 33, 34, 35] [pl 4 (.int .i64 left1), pl 32 (.slice A1 b1.length c1), pl 33 (.int .i64 (b1.length : Int)), pl 34 (.int .i64 z1), pl 35 (.bool (decide (z1 < (b1.length : Int))))] hF hS Fol (by kernel_rfl) (by kernel_rfl) (by kernel_rfl) ?_ (fun a w hF hS => ?_)
      · exact obs_nil
      refine seq_cut (fun a w => Fr 49 [pl 4 (.int .i64 left1), pl 32 (.slice A1 b1.length c1), pl 33 (.int .i64 (b1.length : Int)), pl 34 (.int .i64 z1)] a ∧ Sep w0 B w (fs) ∧ ((mancala_May_J3 b1 left1 z1)).bind φ1 = some r) ?_ ?_
      · rintro a w ⟨hF, hS, hm⟩
        unfold mancala_May_J3 at hm
        refine seq_cut (fun a w => Fr 49 [pl 4 (.int .i64 (w64 (left1 - (geti b1 z1)))), pl 32 (.slice A1 b1.length c1), pl 33 (.int .i64 (b1.length : Int)), pl 34 (.int .i64 z1)] a ∧ Sep w0 B w (fs) ∧ ((mancala_May_J4 b1 left1 z1)).bind φ1 = some r) ?_ ?_
        · rintro a w ⟨hF, hS, hm⟩
          unfold mancala_May_J4 at hm
          refine reg1 [] [] [4, 32, 33, 34] [pl 4 (.int .i64 (w64 (left1 - (geti b1 z1)))), pl 32 (.slice A1 b1.length c1), pl 33 (.int .i64 (b1.length : Int)), pl 34 (.int .i64 (w64 (z1 + 1)))] hF hS Fol (by kernel_rfl) (by kernel_rfl) (by kernel_rfl) ?_ (fun a w hF hS => ?_)
          · exact obs_nil
          refine then_n ?_
          rw [← hφ1] at hm
          exact ⟨((w64 (left1 - (geti b1 z1))), (w64 (z1 + 1))), ⟨hF.weak [4, 32, 33, 34] (by kernel_rfl), hS⟩, hm⟩
        · refine wp_block ?_
          obtain ⟨hp1, hm⟩ := asrt_b hm
          refine reg [⟨true, [], vS (Instr.indexAt 22 (.slice A1 b1.length c1) (.int .i64 z1)), .pointer (some (sAddr A1 z1))⟩, ⟨false, [], vS (Instr.loadAt 3 (.pointer (some (sAddr A1 z1)))), .int .i64 (geti b1 z1)⟩] [some (.pointer (some (sAddr A1 z1))), some (.int .i64 (geti b1 z1)), none] [4, 6, 32, 33, 34] [pl 4 (.int .i64 left1), pl 6 (.int .i64 (geti b1 z1)), pl 32 (.slice A1 b1.length c1), pl 33 (.int .i64 (b1.length : Int)), pl 34 (.int .i64 z1)] hF hS Fol (by kernel_rfl) (by kernel_rfl) (by kernel_rfl) ?_ (fun a w hF hS => ?_)
          · exact obs_cons (ob_ix1 (f := (Value.int .i64)) (m := b1) Und22 hi3 hs3 (hr_b1 _ (hS.dropN 0)) rfl (fun _ => hp1)) <| obs_cons (ob_get1 (n := b1.length) (m := b1) (Value.int .i64) (0 : Int) Agg3 (fun _ hS => ⟨_, (hr_b1 _ (hS.dropN 0))⟩) (fun _ hS => rfl) (fun _ => hp1)) <| obs_nil
          refine seq_cut (fun a w => Fr 49 [pl 4 (.int .i64 left1), pl 6 (.int .i64 (geti b1 z1)), pl 32 (.slice A1 b1.length c1), pl 33 (.int .i64 (b1.length : Int)), pl 34 (.int .i64 z1)] a ∧ Sep w0 B w (fs) ∧ ((mancala_May_J5 b1 left1 z1)).bind φ1 = some r) ?_ ?_
          · rintro a w ⟨hF, hS, hm⟩
            unfold mancala_May_J5 at hm
            refine reg1 [] [] [4, 32, 33, 34] [pl 4 (.int .i64 (w64 (left1 - (geti b1 z1)))), pl 32 (.slice A1 b1.length c1), pl 33 (.int .i64 (b1.length : Int)), pl 34 (.int .i64 z1)] hF hS Fol (by kernel_rfl) (by kernel_rfl) (by kernel_rfl) ?_ (fun a w hF hS => ?_)
            · exact obs_nil
            refine block_n ?_
            refine then_n ?_
            exact ⟨hF.weak [4, 32, 33, 34] (by kernel_rfl), hS, hm⟩
          · refine reg [] [] [4, 6, 32, 33, 34, 44] [pl 4 (.int .i64 left1), pl 6 (.int .i64 (geti b1 z1)), pl 32 (.slice A1 b1.length c1), pl 33 (.int .i64 (b1.length : Int)), pl 34 (.int .i64 z1), pl 44 (.bool ((decide ((geti b1 z1) < 0)) || (decide (left1 < (geti b1 z1)))))] hF hS Fol (by kernel_rfl) (by kernel_rfl) (by kernel_rfl) ?_ (fun a w hF hS => ?_)
            · exact obs_nil
            refine cond_ev (t := 44) (b := (decide ((geti b1 z1) < 0)) || (decide (left1 < (geti b1 z1)))) hF (by kernel_rfl) (fun hb => ?_) (fun hb => ?_)
            · replace hm := if_t hm hb
              refine reg [] [] [2] [pl 2 (.bool false)] hF hS Fol (by kernel_rfl) (by kernel_rfl) (by kernel_rfl) ?_ (fun a w hF hS => ?_)
              · exact obs_nil
              refine wp_ret ?_
              refine then_r (block_r (then_r (then_r (block_r (then_r ?_)))))
              rw [← hφ1] at hm
              replace hm := done_b hm
              unfold mancala_May_K1 at hm
              try dsimp only at hm
              have hm : some false = some r := hm
              obtain rfl := Option.some.inj hm
              exact retV (rs := [.tmp 2]) (vs := [.bool false]) hF rfl (rv_t (by kernel_rfl) <| rv_nil) rfl ⟨rfl, hS⟩
            · replace hm := if_f hm hb
              refine wp_skip ?_
              refine then_n ?_
              exact ⟨hF.weak [4, 6, 32, 33, 34] (by kernel_rfl), hS, hm⟩
      · refine cond_ev (t := 35) (b := decide (z1 < (b1.length : Int))) hF (by kernel_rfl) (fun hb => ?_) (fun hb => ?_)
        · replace hm := if_t hm hb
          refine wp_skip ?_
          refine then_n ?_
          exact ⟨hF.weak [4, 32, 33, 34] (by kernel_rfl), hS, hm⟩
        · replace hm := if_f hm hb
          refine wp_exit ?_
          refine then_e (then_e (block_e (then_n ?_)))
          rw [← hφ1] at hm
          replace hm := done_b hm
          unfold mancala_May_K1 at hm
          try dsimp only at hm
          have hm : (mancala_May_J2).bind some = some r := hm
          exact ⟨hF.weak [] (by kernel_rfl), hS, hm⟩
  · refine reg [⟨false, [(((decide ((b1.length : Int) < 4)) || (decide ((14 : Int) < (b1.length : Int)))) || ((bAnd (b1.length : Int) 1) == 1), false)], vS (Instr.loadAt 3 (.pointer (some ⟨g1, 1, none⟩))), .int .i64 b2⟩, ⟨false, [((((decide ((b1.length : Int) < 4)) || (decide ((14 : Int) < (b1.length : Int)))) || ((bAnd (b1.length : Int) 1) == 1)) || (decide (b2 < 0)), false)], vS (Instr.loadAt 3 (.pointer (some ⟨g1, 1, none⟩))), .int .i64 b2⟩] [none, none, none, none, none, none, none, none, none, none, none, none, none, some (.int .i64 b2), none, none, none, none, some (.int .i64 b2), none, none] [1, 30] [pl 1 (.pointer (some ⟨g1, 0, none⟩)), pl 30 (.bool (((((decide ((b1.length : Int) < 4)) || (decide ((14 : Int) < (b1.length : Int)))) || ((bAnd (b1.length : Int) 1) == 1)) || (decide (b2 < 0))) || (decide ((1 : Int) < b2))))] hF hS Fol (by kernel_rfl) (by kernel_rfl) (by kernel_rfl) ?_ (fun a w hF hS => ?_)
    · exact obs_cons (ob_load Agg3 (fun _ _ hS => (hS.at_ 0 rfl).cell rfl)) <| obs_cons (ob_load Agg3 (fun _ _ hS => (hS.at_ 0 rfl).cell rfl)) <| obs_nil
    refine cond_ev (t := 30) (b := ((((decide ((b1.length : Int) < 4)) || (decide ((14 : Int) < (b1.length : Int)))) || ((bAnd (b1.length : Int) 1) == 1)) || (decide (b2 < 0))) || (decide ((1 : Int) < b2))) hF (by kernel_rfl) (fun hb => ?_) (fun hb => ?_)
    · replace hm := if_t hm hb
      refine reg [] [] [2] [pl 2 (.bool false)] hF hS Fol (by kernel_rfl) (by kernel_rfl) (by kernel_rfl) ?_ (fun a w hF hS => ?_)
      · exact obs_nil
      refine wp_ret ?_
      refine then_r ?_
      have hS := hS.pickN 1 [] (by decide)
      have hm : some false = some r := hm
      obtain rfl := Option.some.inj hm
      exact retV (rs := [.tmp 2]) (vs := [.bool false]) hF rfl (rv_t (by kernel_rfl) <| rv_nil) rfl ⟨rfl, hS⟩
    · replace hm := if_f hm hb
      refine wp_skip ?_
      refine then_n ?_
      exact ⟨hF.weak [1] (by kernel_rfl), hS, hm⟩

noncomputable def slices_Clone_J1 (s1 : List Int) : Option (List Int) :=
  asrt ((0 : Int) + (s1.length : Int) ≤ bigN) <| some (([] : List Int) ++ s1)

noncomputable def slices_Clone_m (s1 : List Int) : Option (List Int) :=
  (slices_Clone_J1 s1)

set_option maxRecDepth 100000 in
set_option maxHeartbeats 4000000 in
theorem slices_Clone_w {A1 : Option Addr} {c1 : Nat} {n1 : Nat} {s1 : List Int} {r : (List Int)} {w0 w : World} {B : Nat} {fs : List HP} (hm : slices_Clone_m s1 = some r) (hS : Sep w0 B w (fs)) (hr_s1 : RdF w0 B fs A1 (vI s1)) (_hc_s1 : s1.length ≤ c1) (_hn_s1 : n1 = s1.length) :
    Calls Try.prog 113 #[.slice A1 n1 c1] w fun e w' => ∃ v, e = .returned v ∧ ∃ (A3 : Option Addr) (c3 : Nat), v = .slice A3 r.length c3 ∧ Sep w0 B w' (own 3 (.slice A3 r.length c3) (vI r) :: fs) := by
  obtain ⟨i3, hi3, hz3, hs3, hb3⟩ := info_parts Info3
  obtain rfl := _hn_s1
  unfold slices_Clone_m at hm
  replace hm := start_b hm
  refine enter (l := [.slice A1 s1.length c1]) (n := 8) Try.func113 rfl rfl (by simp) (fun a hF => ?_)
  refine reg [] [] [0] [pl 0 (.slice A1 s1.length c1)] hF hS Fol (by kernel_rfl) (by kernel_rfl) (by kernel_rfl) ?_ (fun a w hF hS => ?_)
  · exact obs_nil
  refine seq_cut (fun a w => Fr 8 [pl 0 (.slice A1 s1.length c1)] a ∧ Sep w0 B w (fs) ∧ ((slices_Clone_J1 s1)).bind some = some r) ?_ ?_
  · rintro a w ⟨hF, hS, hm⟩
    unfold slices_Clone_J1 at hm
    refine seqR ?_
    obtain ⟨hp1, hm⟩ := asrt_b hm
    refine at_do (d := 5) (s := vS (Instr.buildSlice 22 0 #[])) (v := .slice (some ⟨w.heap.size, 0, none⟩) 0 0) (w' := w.alloc (.cells #[] 3)) hF (by kernel_rfl) (by kernel_rfl) (by kernel_rfl) (fun a hF => ?_)
    have hS : Sep w0 B (w.alloc (.cells #[] 3)) (own 3 (.slice (some (⟨w.heap.size, 0, none⟩ : Addr)) 0 0) (vI ([] : List Int)) :: (fs)) := hS.lit 3 #[] 0 rfl (by omega)
    generalize (some (⟨w.heap.size, 0, none⟩ : Addr)) = g1 at hF hS
    generalize w.alloc (.cells #[] 3) = w at hS ⊢
    refine at_run 1 [] [] [5, 6] [pl 5 (.slice g1 0 0), pl 6 (.slice A1 s1.length c1)] hF hS (by kernel_rfl) (by kernel_rfl) ?_ (fun a w hF hS => ?_)
    · exact obs_nil
    obtain ⟨A2, c2, w, hrun, hS⟩ := run_app1 (P := Try.prog) (t := 22) (m := ([] : List Int)) (ys := s1) (A2 := A1) (m2 := s1.length) (c2 := c1) (Value.int .i64) (0 : Int) (hS.at_ 0 rfl) (hr_s1 _ (hS.dropN 1)) rfl 22 Und22 hi3 hz3 hs3 (by omega) rfl (fun _ => rfl) hp1
    have hS : Sep w0 B w (own 3 (.slice A2 ((([] : List Int) ++ s1).length) c2) (vI (([] : List Int) ++ s1)) :: fs) := hS
    refine at_do (d := 7) hF (by kernel_rfl) (by kernel_rfl) hrun (fun a hF => ?_)
    refine at_run 1 [] [] [2] [pl 2 (.slice A2 ((([] : List Int) ++ s1).length) c2)] hF hS (by kernel_rfl) (by kernel_rfl) ?_ (fun a w hF hS => ?_)
    · exact obs_nil
    refine at_end [2] [pl 2 (.slice A2 ((([] : List Int) ++ s1).length) c2)] hF rfl (by kernel_rfl) (fun hF => ?_)
    refine then_n ?_
    refine wp_ret ?_
    have hm : some (([] : List Int) ++ s1) = some r := hm
    obtain rfl := Option.some.inj hm
    exact retV (rs := [.tmp 2]) (vs := [.slice A2 ((([] : List Int) ++ s1).length) c2]) hF rfl (rv_t (by kernel_rfl) <| rv_nil) rfl ⟨_, rfl, A2, c2, rfl, hS⟩
  · refine reg [⟨true, [], vS (binOp .eql 22 (.slice A1 s1.length c1) (.slice none 0 0)), .bool A1.isNone⟩] [none, some (.bool A1.isNone)] [0, 4] [pl 0 (.slice A1 s1.length c1), pl 4 (.bool A1.isNone)] hF hS Fol (by kernel_rfl) (by kernel_rfl) (by kernel_rfl) ?_ (fun a w hF hS => ?_)
    · exact obs_cons (ob_isnil Und22 rfl) <| obs_nil
    refine cond_ev (t := 4) (b := A1.isNone) hF (by kernel_rfl) (fun hb => ?_) (fun hb => ?_)
    · have hA9 := Option.isNone_iff_eq_none.1 hb
      have hnil9 : s1 = [] := by have h9 := (hr_s1 _ (hS.dropN 0)); rw [hA9] at h9; exact h9.none_nil
      have hm : (some ([] : List Int)).bind some = some r := by rw [hnil9] at hm; simpa [asrt, bigN, slices_Clone_J1] using hm
      refine reg [] [] [2] [pl 2 (.slice none 0 0)] hF hS Fol (by kernel_rfl) (by kernel_rfl) (by kernel_rfl) ?_ (fun a w hF hS => ?_)
      · exact obs_nil
      refine wp_ret ?_
      refine then_r ?_
      have hS : Sep w0 B w (own 3 (.slice none 0 0) (vI ([] : List Int)) :: fs) := hS.nil 3
      have hl1 := (hS.at_ 0 rfl).len1
      have hS := (hS.at_ 0 rfl).reN hl1
      have hS : Sep w0 B w (own 3 (.slice none (([] : List Int).length) 0) (vI ([] : List Int)) :: fs) := hS
      have hm : some ([] : List Int) = some r := hm
      obtain rfl := Option.some.inj hm
      exact retV (rs := [.tmp 2]) (vs := [.slice none (([] : List Int).length) 0]) hF rfl (rv_t (by kernel_rfl) <| rv_nil) rfl ⟨_, rfl, none, 0, rfl, hS⟩
    · refine wp_skip ?_
      refine then_n ?_
      exact ⟨hF.weak [0] (by kernel_rfl), hS, hm⟩

noncomputable def slices_Grow_J2 (s1 : List Int) : Option (List Int) :=
  some s1

noncomputable def slices_Grow_J1 (n1 : Int) : Option (List Int) :=
  if (decide ((0 : Int) < (w64 (n1 - (w64 (0 - 0)))))) then (asrt ((0 : Int) ≤ (w64 (n1 - (w64 (0 - 0)))) ∧ (w64 (n1 - (w64 (0 - 0)))) ≤ bigN) <| asrt (0 ≤ (0 : Int) ∧ (0 : Int) ≤ (0 : Int) ∧ (0 : Int) ≤ (((List.replicate (Int.toNat (w64 (n1 - (w64 (0 - 0))))) (0 : Int)).length : Nat) : Int)) <| slices_Grow_J2 (cut (List.replicate (Int.toNat (w64 (n1 - (w64 (0 - 0))))) (0 : Int)) (0 : Int) (0 : Int))) else (slices_Grow_J2 ([] : List Int))

noncomputable def slices_Grow_m (n1 : Int) : Option (List Int) :=
  if (decide (n1 < 0)) then none else ((slices_Grow_J1 n1))

set_option maxRecDepth 100000 in
set_option maxHeartbeats 4000000 in
theorem slices_Grow_w {n1 : Int} {r : (List Int)} {w0 w : World} {B : Nat} {fs : List HP} (hm : slices_Grow_m n1 = some r) (hS : Sep w0 B w (fs)) :
    Calls Try.prog 133 #[.slice none 0 0, .int .i64 n1] w fun e w' => ∃ v, e = .returned v ∧ ∃ (A3 : Option Addr) (c3 : Nat), v = .slice A3 r.length c3 ∧ Sep w0 B w' (own 3 (.slice A3 r.length c3) (vI r) :: fs) := by
  obtain ⟨i3, hi3, hz3, hs3, hb3⟩ := info_parts Info3
  unfold slices_Grow_m at hm
  replace hm := start_b hm
  refine enter (l := [.slice none 0 0, .int .i64 n1]) (n := 27) Try.func133 rfl rfl (by simp) (fun a hF => ?_)
  refine reg [] [] [0, 1] [pl 0 (.slice none 0 0), pl 1 (.int .i64 n1)] hF hS Fol (by kernel_rfl) (by kernel_rfl) (by kernel_rfl) ?_ (fun a w hF hS => ?_)
  · exact obs_nil
  refine seq_cut (fun a w => Fr 27 [pl 0 (.slice none 0 0), pl 1 (.int .i64 n1)] a ∧ Sep w0 B w (fs) ∧ ((slices_Grow_J1 n1)).bind some = some r) ?_ ?_
  · rintro a w ⟨hF, hS, hm⟩
    unfold slices_Grow_J1 at hm
    refine seq_cut (fun a w => ∃ (s1 : List Int) (A2 : Option Addr) (c2 : Nat), Fr 27 [pl 0 (.slice A2 s1.length c2)] a ∧ Sep w0 B w (own 3 (.slice A2 s1.length c2) (vI s1) :: fs) ∧ (slices_Grow_J2 s1).bind some = some r) ?_ ?_
    · rintro a w ⟨s1, A2, c2, hF, hS, hm⟩
      unfold slices_Grow_J2 at hm
      refine reg [] [] [4] [pl 4 (.slice A2 s1.length c2)] hF hS Fol (by kernel_rfl) (by kernel_rfl) (by kernel_rfl) ?_ (fun a w hF hS => ?_)
      · exact obs_nil
      refine wp_ret ?_
      have hm : some s1 = some r := hm
      obtain rfl := Option.some.inj hm
      exact retV (rs := [.tmp 4]) (vs := [.slice A2 s1.length c2]) hF rfl (rv_t (by kernel_rfl) <| rv_nil) rfl ⟨_, rfl, A2, c2, rfl, hS⟩
    · refine reg [] [] [0, 1] [pl 0 (.slice none 0 0), pl 1 (.int .i64 (w64 (n1 - (w64 (0 - 0)))))] hF hS Fol (by kernel_rfl) (by kernel_rfl) (by kernel_rfl) ?_ (fun a w hF hS => ?_)
      · exact obs_nil
      refine reg [] [] [0, 1, 16] [pl 0 (.slice none 0 0), pl 1 (.int .i64 (w64 (n1 - (w64 (0 - 0))))), pl 16 (.bool (decide ((0 : Int) < (w64 (n1 - (w64 (0 - 0)))))))] hF hS Fol (by kernel_rfl) (by kernel_rfl) (by kernel_rfl) ?_ (fun a w hF hS => ?_)
      · exact obs_nil
      refine cond_ev (t := 16) (b := decide ((0 : Int) < (w64 (n1 - (w64 (0 - 0)))))) hF (by kernel_rfl) (fun hb => ?_) (fun hb => ?_)
      · replace hm := if_t hm hb
        refine oneR ?_
        obtain ⟨hp1, hm⟩ := asrt_b hm
        obtain ⟨hp2, hm⟩ := asrt_b hm
        refine at_run 5 [⟨true, [], vS (Instr.sliceAt 22 (.slice none 0 0) none (some (.int .i64 0)) none), .slice none 0 0⟩] [none, none, none, some (.slice none 0 0), none] [0, 20, 21] [pl 0 (.slice none 0 0), pl 20 (.slice none 0 0), pl 21 (.int .i64 (w64 (n1 - (w64 (0 - 0)))))] hF hS (by kernel_rfl) (by kernel_rfl) ?_ (fun a w hF hS => ?_)
        · exact obs_cons (ob_cut (k := .i64) (k' := .i64) (A := none) (l := ([] : List Int)) (c := 0) (lo := 0) (hi := 0) Und22 hi3 hs3 (.inr ⟨rfl, rfl⟩) (.inl rfl) (fun _ => by simp) (Nat.le_refl _)) <| obs_nil
        obtain ⟨A1, c1, w, hrun, hS⟩ := run_app01 (P := Try.prog) (t := 22) (tx := 3) (ty := 22) hS Und22 Try.underlying3 hi3 hz3 hs3 hb3 hp1
        have hS : Sep w0 B w (own 3 (.slice A1 ((List.replicate (Int.toNat (w64 (n1 - (w64 (0 - 0))))) (0 : Int)).length) c1) (vI (List.replicate (Int.toNat (w64 (n1 - (w64 (0 - 0))))) (0 : Int))) :: fs) := hS
        refine at_do (d := 22) hF (by kernel_rfl) (by kernel_rfl) hrun (fun a hF => ?_)
        refine at_run 4 [⟨true, [], vS (Instr.sliceAt 22 (.slice A1 ((List.replicate (Int.toNat (w64 (n1 - (w64 (0 - 0))))) (0 : Int)).length) c1) none (some (.int .i64 (0 : Int))) none), .slice (cutAddr A1 c1 (0 : Int)) ((cut (List.replicate (Int.toNat (w64 (n1 - (w64 (0 - 0))))) (0 : Int)) (0 : Int) (0 : Int)).length) (c1 - Int.toNat (0 : Int))⟩] [none, none, some (.slice (cutAddr A1 c1 (0 : Int)) ((cut (List.replicate (Int.toNat (w64 (n1 - (w64 (0 - 0))))) (0 : Int)) (0 : Int) (0 : Int)).length) (c1 - Int.toNat (0 : Int))), none] [0] [pl 0 (.slice (cutAddr A1 c1 (0 : Int)) ((cut (List.replicate (Int.toNat (w64 (n1 - (w64 (0 - 0))))) (0 : Int)) (0 : Int) (0 : Int)).length) (c1 - Int.toNat (0 : Int)))] hF hS (by kernel_rfl) (by kernel_rfl) ?_ (fun a w hF hS => ?_)
        · exact obs_cons (ob_cutn (l := (List.replicate (Int.toNat (w64 (n1 - (w64 (0 - 0))))) (0 : Int))) (k := .i64) (k' := .i64) Und22 hi3 hs3 rfl (.inr ⟨rfl, rfl⟩) (.inl rfl) (fun _ => hp2) ((hS.at_ 0 rfl).cap1)) <| obs_nil
        refine at_end [0] [pl 0 (.slice (cutAddr A1 c1 (0 : Int)) ((cut (List.replicate (Int.toNat (w64 (n1 - (w64 (0 - 0))))) (0 : Int)) (0 : Int) (0 : Int)).length) (c1 - Int.toNat (0 : Int)))] hF rfl (by kernel_rfl) (fun hF => ?_)
        refine then_n ?_
        have hS : Sep w0 B w (own 3 (.slice (cutAddr A1 c1 (0 : Int)) ((cut (List.replicate (Int.toNat (w64 (n1 - (w64 (0 - 0))))) (0 : Int)) (0 : Int) (0 : Int)).length) (c1 - Int.toNat (0 : Int))) (vI (cut (List.replicate (Int.toNat (w64 (n1 - (w64 (0 - 0))))) (0 : Int)) (0 : Int) (0 : Int))) :: fs) := (hS.at_ 0 rfl).prefixN rfl hp2
        exact ⟨(cut (List.replicate (Int.toNat (w64 (n1 - (w64 (0 - 0))))) (0 : Int)) (0 : Int) (0 : Int)), (cutAddr A1 c1 (0 : Int)), (c1 - Int.toNat (0 : Int)), hF.weak [0] (by kernel_rfl), hS, hm⟩
      · replace hm := if_f hm hb
        refine wp_skip ?_
        refine then_n ?_
        have hS : Sep w0 B w (own 3 (.slice none 0 0) (vI ([] : List Int)) :: fs) := hS.nil 3
        have hl1 := (hS.at_ 0 rfl).len1
        have hS := (hS.at_ 0 rfl).reN hl1
        have hS : Sep w0 B w (own 3 (.slice none (([] : List Int).length) 0) (vI ([] : List Int)) :: fs) := hS
        have hF := hF.cast (t := 0) (v := .slice none 0 0) (v' := .slice none (([] : List Int).length) 0) rfl rfl (congrArg (fun k => Value.slice none k 0) hl1)
        exact ⟨([] : List Int), none, 0, hF.weak [0] (by kernel_rfl), hS, hm⟩
  · refine reg [] [] [0, 1, 6] [pl 0 (.slice none 0 0), pl 1 (.int .i64 n1), pl 6 (.bool (decide (n1 < 0)))] hF hS Fol (by kernel_rfl) (by kernel_rfl) (by kernel_rfl) ?_ (fun a w hF hS => ?_)
    · exact obs_nil
    refine cond_ev (t := 6) (b := decide (n1 < 0)) hF (by kernel_rfl) (fun hb => ?_) (fun hb => ?_)
    · replace hm := if_t hm hb
      simp at hm
    · replace hm := if_f hm hb
      refine wp_skip ?_
      refine then_n ?_
      exact ⟨hF.weak [0, 1] (by kernel_rfl), hS, hm⟩

noncomputable def slices_Concat_J3 (slices1 : List (List Int)) (size1 : Int) (z1 : Int) : Option (St (Int × Int) Int) :=
  some (.next ((w64 (size1 + (((geti2 slices1 z1).length : Nat) : Int))), (w64 (z1 + 1))))

noncomputable def slices_Concat_J2 (slices1 : List (List Int)) (size1 : Int) (z1 : Int) : Option (St (Int × Int) Int) :=
  asrt (0 ≤ z1 ∧ z1 < (slices1.length : Int)) <| if (decide ((w64 (size1 + (((geti2 slices1 z1).length : Nat) : Int))) < 0)) then none else ((slices_Concat_J3 slices1 size1 z1))

noncomputable def slices_Concat_J6 (z2 : Int) (newslice3 : List Int) : Option (St (List Int × Int) (List Int)) :=
  some (.next (newslice3, (w64 (z2 + 1))))

noncomputable def slices_Concat_J5 (slices1 : List (List Int)) (newslice1 : List Int) (z2 : Int) : Option (St (List Int × Int) (List Int)) :=
  asrt (0 ≤ z2 ∧ z2 < (slices1.length : Int)) <| asrt ((newslice1.length : Int) + (((geti2 slices1 z2).length : Nat) : Int) ≤ bigN) <| (slices_Concat_J6 z2) (newslice1 ++ (geti2 slices1 z2))

noncomputable def slices_Concat_L2 (slices1 : List (List Int)) : (List Int × Int) → Option (St (List Int × Int) (List Int)) :=
  fun (x : (List Int × Int)) => match x with | (newslice1, z2) => if (decide (z2 < (slices1.length : Int))) then ((slices_Concat_J5 slices1 newslice1 z2)) else (some (.done newslice1))

noncomputable def slices_Concat_J4 (newslice2 : List Int) : Option (List Int) :=
  some newslice2

noncomputable def slices_Concat_K2 : (List Int) → Option (List Int) :=
  fun (x : (List Int)) => match x with | newslice2 => slices_Concat_J4 newslice2

noncomputable def slices_Concat_J1 (slices1 : List (List Int)) (size2 : Int) : Option (List Int) :=
  (slices_Grow_m size2).bind fun r1 => (loop (slices_Concat_L2 slices1) (r1, 0)).bind slices_Concat_K2

noncomputable def slices_Concat_K1 (slices1 : List (List Int)) : Int → Option (List Int) :=
  fun (x : Int) => match x with | size2 => (slices_Concat_J1 slices1) size2

noncomputable def slices_Concat_L1 (slices1 : List (List Int)) : (Int × Int) → Option (St (Int × Int) Int) :=
  fun (x : (Int × Int)) => match x with | (size1, z1) => if (decide (z1 < (slices1.length : Int))) then ((slices_Concat_J2 slices1 size1 z1)) else (some (.done size1))

noncomputable def slices_Concat_m (slices1 : List (List Int)) : Option (List Int) :=
  (loop (slices_Concat_L1 slices1) (0, 0)).bind (slices_Concat_K1 slices1)

set_option maxRecDepth 100000 in
set_option maxHeartbeats 4000000 in
theorem slices_Concat_w {A1 : Option Addr} {c1 : Nat} {n1 : Nat} {hd1 : List Hd} {slices1 : List (List Int)} {r : (List Int)} {w0 w : World} {B : Nat} {fs : List HP} (hm : slices_Concat_m slices1 = some r) (hS : Sep w0 B w (fs)) (hr_slices1 : RdRowsF w0 B fs A1 hd1 slices1) (_hc_slices1 : slices1.length ≤ c1) (_hn_slices1 : n1 = slices1.length) :
    Calls Try.prog 114 #[.slice A1 n1 c1] w fun e w' => ∃ v, e = .returned v ∧ ∃ (A7 : Option Addr) (c7 : Nat), v = .slice A7 r.length c7 ∧ Sep w0 B w' (own 3 (.slice A7 r.length c7) (vI r) :: fs) := by
  obtain ⟨i3, hi3, hz3, hs3, hb3⟩ := info_parts Info3
  obtain ⟨i22, hi22, hz22, hs22, hb22⟩ := info_parts Info22
  obtain rfl := _hn_slices1
  unfold slices_Concat_m at hm
  replace hm := start_b hm
  refine enter (l := [.slice A1 slices1.length c1]) (n := 36) Try.func114 rfl rfl (by simp) (fun a hF => ?_)
  refine reg [] [] [0] [pl 0 (.slice A1 slices1.length c1)] hF hS Fol (by kernel_rfl) (by kernel_rfl) (by kernel_rfl) ?_ (fun a w hF hS => ?_)
  · exact obs_nil
  refine reg [] [] [0, 3] [pl 0 (.slice A1 slices1.length c1), pl 3 (.int .i64 0)] hF hS Fol (by kernel_rfl) (by kernel_rfl) (by kernel_rfl) ?_ (fun a w hF hS => ?_)
  · exact obs_nil
  refine seq_cut (fun a w => ∃ (size2 : Int), Fr 36 [pl 0 (.slice A1 slices1.length c1), pl 3 (.int .i64 size2)] a ∧ Sep w0 B w (fs) ∧ ((slices_Concat_J1 slices1) size2).bind some = some r) ?_ ?_
  · rintro a w ⟨size2, hF, hS, hm⟩
    unfold slices_Concat_J1 at hm
    refine seqR ?_
    obtain ⟨r1, hr1, hm⟩ := call_b hm
    refine at_run 1 [] [] [0, 23] [pl 0 (.slice A1 slices1.length c1), pl 23 (.int .i64 size2)] hF hS (by kernel_rfl) (by kernel_rfl) ?_ (fun a w hF hS => ?_)
    · exact obs_nil
    refine at_call (f := 133) (args := #[.slice none 0 0, .int .i64 size2]) (d := 24) hF (by kernel_rfl) (by kernel_rfl) Try.func133 (by kernel_rfl) rfl (slices_Grow_w hr1 hS ) (fun v a w hR hF => ?_)
    clear hS
    obtain ⟨A2, c2, rfl, hS⟩ := hR
    have hS : Sep w0 B w (own 3 (.slice A2 r1.length c2) (vI r1) :: fs) := hS
    refine at_run 1 [] [] [0, 6] [pl 0 (.slice A1 slices1.length c1), pl 6 (.slice A2 r1.length c2)] hF hS (by kernel_rfl) (by kernel_rfl) ?_ (fun a w hF hS => ?_)
    · exact obs_nil
    refine at_end [0, 6] [pl 0 (.slice A1 slices1.length c1), pl 6 (.slice A2 r1.length c2)] hF rfl (by kernel_rfl) (fun hF => ?_)
    refine then_n ?_
    refine seq_cut (fun a w => ∃ (newslice2 : List Int) (A4 : Option Addr) (c4 : Nat), Fr 36 [pl 6 (.slice A4 newslice2.length c4)] a ∧ Sep w0 B w (own 3 (.slice A4 newslice2.length c4) (vI newslice2) :: fs) ∧ (slices_Concat_J4 newslice2).bind some = some r) ?_ ?_
    · rintro a w ⟨newslice2, A4, c4, hF, hS, hm⟩
      unfold slices_Concat_J4 at hm
      refine reg [] [] [2] [pl 2 (.slice A4 newslice2.length c4)] hF hS Fol (by kernel_rfl) (by kernel_rfl) (by kernel_rfl) ?_ (fun a w hF hS => ?_)
      · exact obs_nil
      refine wp_ret ?_
      have hm : some newslice2 = some r := hm
      obtain rfl := Option.some.inj hm
      exact retV (rs := [.tmp 2]) (vs := [.slice A4 newslice2.length c4]) hF rfl (rv_t (by kernel_rfl) <| rv_nil) rfl ⟨_, rfl, A4, c4, rfl, hS⟩
    · refine reg [] [] [6, 25, 26, 27] [pl 6 (.slice A2 r1.length c2), pl 25 (.slice A1 slices1.length c1), pl 26 (.int .i64 (slices1.length : Int)), pl 27 (.int .i64 0)] hF hS Fol (by kernel_rfl) (by kernel_rfl) (by kernel_rfl) ?_ (fun a w hF hS => ?_)
      · exact obs_nil
      refine wp_block ?_
      refine wp_loop_model (S := (List Int × Int)) (R := (List Int)) (slices_Concat_L2 slices1) (fun x => (slices_Concat_K2 x).bind some) r (fun (x : (List Int × Int)) a w => ∃ (A3 : Option Addr) (c3 : Nat), Fr 36 [pl 6 (.slice A3 x.1.length c3), pl 25 (.slice A1 slices1.length c1), pl 26 (.int .i64 (slices1.length : Int)), pl 27 (.int .i64 x.2)] a ∧ Sep w0 B w (own 3 (.slice A3 x.1.length c3) (vI x.1) :: fs)) (assoc_b hm) ⟨A2, c2, hF.weak [6, 25, 26, 27] (by kernel_rfl), hS⟩ ?_
      clear hF hS hm
      rintro nn2 ⟨newslice1, z2⟩ a w ⟨A3, c3, hF, hS⟩ hm
      generalize hφ2 : stK (slices_Concat_L2 slices1) nn2 (fun x => (slices_Concat_K2 x).bind some) = φ2 at hm
      unfold slices_Concat_L2 at hm
      dsimp only at hF hS hm
      refine reg [] [] [6, 25, 26, 27, 28] [pl 6 (.slice A3 newslice1.length c3), pl 25 (.slice A1 slices1.length c1), pl 26 (.int .i64 (slices1.length : Int)), pl 27 (.int .i64 z2), pl 28 (.bool (decide (z2 < (slices1.length : Int))))] hF hS Fol (by kernel_rfl) (by kernel_rfl) (by kernel_rfl) ?_ (fun a w hF hS => ?_)
      · exact obs_nil
      refine seq_cut (fun a w => Fr 36 [pl 6 (.slice A3 newslice1.length c3), pl 25 (.slice A1 slices1.length c1), pl 26 (.int .i64 (slices1.length : Int)), pl 27 (.int .i64 z2)] a ∧ Sep w0 B w (own 3 (.slice A3 newslice1.length c3) (vI newslice1) :: fs) ∧ ((slices_Concat_J5 slices1 newslice1 z2)).bind φ2 = some r) ?_ ?_
      · rintro a w ⟨hF, hS, hm⟩
        unfold slices_Concat_J5 at hm
        refine seq_cut (fun a w => ∃ (newslice3 : List Int) (A6 : Option Addr) (c6 : Nat), Fr 36 [pl 6 (.slice A6 newslice3.length c6), pl 25 (.slice A1 slices1.length c1), pl 26 (.int .i64 (slices1.length : Int)), pl 27 (.int .i64 z2)] a ∧ Sep w0 B w (own 3 (.slice A6 newslice3.length c6) (vI newslice3) :: fs) ∧ ((slices_Concat_J6 z2) newslice3).bind φ2 = some r) ?_ ?_
        · rintro a w ⟨newslice3, A6, c6, hF, hS, hm⟩
          unfold slices_Concat_J6 at hm
          refine reg1 [] [] [6, 25, 26, 27] [pl 6 (.slice A6 newslice3.length c6), pl 25 (.slice A1 slices1.length c1), pl 26 (.int .i64 (slices1.length : Int)), pl 27 (.int .i64 (w64 (z2 + 1)))] hF hS Fol (by kernel_rfl) (by kernel_rfl) (by kernel_rfl) ?_ (fun a w hF hS => ?_)
          · exact obs_nil
          refine then_n ?_
          rw [← hφ2] at hm
          exact ⟨(newslice3, (w64 (z2 + 1))), ⟨A6, c6, hF.weak [6, 25, 26, 27] (by kernel_rfl), hS⟩, hm⟩
        · refine wp_block ?_
          obtain ⟨hp2, hm⟩ := asrt_b hm
          refine reg [⟨true, [], vS (Instr.indexAt 148 (.slice A1 slices1.length c1) (.int .i64 z2)), .pointer (some (sAddr A1 z2))⟩, ⟨false, [], vS (Instr.loadAt 22 (.pointer (some (sAddr A1 z2)))), .slice (hdA hd1 z2) ((geti2 slices1 z2).length) (hdC hd1 z2)⟩] [some (.pointer (some (sAddr A1 z2))), some (.slice (hdA hd1 z2) ((geti2 slices1 z2).length) (hdC hd1 z2)), none] [6, 8, 25, 26, 27] [pl 6 (.slice A3 newslice1.length c3), pl 8 (.slice (hdA hd1 z2) ((geti2 slices1 z2).length) (hdC hd1 z2)), pl 25 (.slice A1 slices1.length c1), pl 26 (.int .i64 (slices1.length : Int)), pl 27 (.int .i64 z2)] hF hS Fol (by kernel_rfl) (by kernel_rfl) (by kernel_rfl) ?_ (fun a w hF hS => ?_)
          · exact obs_cons (ob_ixRn Und148 hi22 hs22 (hr_slices1 _ (hS.dropN 1)) rfl (fun _ => hp2)) <| obs_cons (ob_getR Agg22 (fun _ hS => ⟨_, (hr_slices1 _ (hS.dropN 1))⟩) (fun _ => hp2)) <| obs_nil
          refine oneR ?_
          obtain ⟨hp3, hm⟩ := asrt_b hm
          refine at_run 2 [] [] [25, 26, 27, 31, 32] [pl 25 (.slice A1 slices1.length c1), pl 26 (.int .i64 (slices1.length : Int)), pl 27 (.int .i64 z2), pl 31 (.slice A3 newslice1.length c3), pl 32 (.slice (hdA hd1 z2) ((geti2 slices1 z2).length) (hdC hd1 z2))] hF hS (by kernel_rfl) (by kernel_rfl) ?_ (fun a w hF hS => ?_)
          · exact obs_nil
          obtain ⟨A5, c5, w, hrun, hS⟩ := run_app1 (P := Try.prog) (t := 22) (m := newslice1) (ys := (geti2 slices1 z2)) (A2 := (hdA hd1 z2)) (m2 := (geti2 slices1 z2).length) (c2 := (hdC hd1 z2)) (Value.int .i64) (0 : Int) (hS.at_ 0 rfl) ((hr_slices1 _ (hS.dropN 1)).row _ hp2).1 rfl 22 Und22 hi3 hz3 hs3 (by omega) rfl (fun _ => rfl) hp3
          have hS : Sep w0 B w (own 3 (.slice A5 ((newslice1 ++ (geti2 slices1 z2)).length) c5) (vI (newslice1 ++ (geti2 slices1 z2))) :: fs) := hS
          refine at_do (d := 33) hF (by kernel_rfl) (by kernel_rfl) hrun (fun a hF => ?_)
          refine at_run 1 [] [] [6, 25, 26, 27] [pl 6 (.slice A5 ((newslice1 ++ (geti2 slices1 z2)).length) c5), pl 25 (.slice A1 slices1.length c1), pl 26 (.int .i64 (slices1.length : Int)), pl 27 (.int .i64 z2)] hF hS (by kernel_rfl) (by kernel_rfl) ?_ (fun a w hF hS => ?_)
          · exact obs_nil
          refine at_end [6, 25, 26, 27] [pl 6 (.slice A5 ((newslice1 ++ (geti2 slices1 z2)).length) c5), pl 25 (.slice A1 slices1.length c1), pl 26 (.int .i64 (slices1.length : Int)), pl 27 (.int .i64 z2)] hF rfl (by kernel_rfl) (fun hF => ?_)
          refine block_n ?_
          refine then_n ?_
          exact ⟨(newslice1 ++ (geti2 slices1 z2)), A5, c5, hF.weak [6, 25, 26, 27] (by kernel_rfl), hS, hm⟩
      · refine cond_ev (t := 28) (b := decide (z2 < (slices1.length : Int))) hF (by kernel_rfl) (fun hb => ?_) (fun hb => ?_)
        · replace hm := if_t hm hb
          refine wp_skip ?_
          refine then_n ?_
          exact ⟨hF.weak [6, 25, 26, 27] (by kernel_rfl), hS, hm⟩
        · replace hm := if_f hm hb
          refine wp_exit ?_
          refine then_e (then_e (block_e (then_n ?_)))
          rw [← hφ2] at hm
          replace hm := done_b hm
          unfold slices_Concat_K2 at hm
          try dsimp only at hm
          have hm : (slices_Concat_J4 newslice1).bind some = some r := hm
          exact ⟨newslice1, A3, c3, hF.weak [6] (by kernel_rfl), hS, hm⟩
  · refine reg [] [] [0, 3, 9, 10, 11] [pl 0 (.slice A1 slices1.length c1), pl 3 (.int .i64 0), pl 9 (.slice A1 slices1.length c1), pl 10 (.int .i64 (slices1.length : Int)), pl 11 (.int .i64 0)] hF hS Fol (by kernel_rfl) (by kernel_rfl) (by kernel_rfl) ?_ (fun a w hF hS => ?_)
    · exact obs_nil
    refine wp_block ?_
    refine wp_loop_model (S := (Int × Int)) (R := Int) (slices_Concat_L1 slices1) (fun x => ((slices_Concat_K1 slices1) x).bind some) r (fun (x : (Int × Int)) a w => Fr 36 [pl 0 (.slice A1 slices1.length c1), pl 3 (.int .i64 x.1), pl 9 (.slice A1 slices1.length c1), pl 10 (.int .i64 (slices1.length : Int)), pl 11 (.int .i64 x.2)] a ∧ Sep w0 B w (fs)) (assoc_b hm) ⟨hF.weak [0, 3, 9, 10, 11] (by kernel_rfl), hS⟩ ?_
    clear hF hS hm
    rintro nn1 ⟨size1, z1⟩ a w ⟨hF, hS⟩ hm
    generalize hφ1 : stK (slices_Concat_L1 slices1) nn1 (fun x => ((slices_Concat_K1 slices1) x).bind some) = φ1 at hm
    unfold slices_Concat_L1 at hm
    dsimp only at hF hS hm
    refine reg [] [] [0, 3, 9, 10, 11, 12] [pl 0 (.slice A1 slices1.length c1), pl 3 (.int .i64 size1), pl 9 (.slice A1 slices1.length c1), pl 10 (.int .i64 (slices1.length : Int)), pl 11 (.int .i64 z1), pl 12 (.bool (decide (z1 < (slices1.length : Int))))] hF hS Fol (by kernel_rfl) (by kernel_rfl) (by kernel_rfl) ?_ (fun a w hF hS => ?_)
    · exact obs_nil
    refine seq_cut (fun a w => Fr 36 [pl 0 (.slice A1 slices1.length c1), pl 3 (.int .i64 size1), pl 9 (.slice A1 slices1.length c1), pl 10 (.int .i64 (slices1.length : Int)), pl 11 (.int .i64 z1)] a ∧ Sep w0 B w (fs) ∧ ((slices_Concat_J2 slices1 size1 z1)).bind φ1 = some r) ?_ ?_
    · rintro a w ⟨hF, hS, hm⟩
      unfold slices_Concat_J2 at hm
      refine seq_cut (fun a w => Fr 36 [pl 0 (.slice A1 slices1.length c1), pl 3 (.int .i64 (w64 (size1 + (((geti2 slices1 z1).length : Nat) : Int)))), pl 9 (.slice A1 slices1.length c1), pl 10 (.int .i64 (slices1.length : Int)), pl 11 (.int .i64 z1)] a ∧ Sep w0 B w (fs) ∧ ((slices_Concat_J3 slices1 size1 z1)).bind φ1 = some r) ?_ ?_
      · rintro a w ⟨hF, hS, hm⟩
        unfold slices_Concat_J3 at hm
        refine reg1 [] [] [0, 3, 9, 10, 11] [pl 0 (.slice A1 slices1.length c1), pl 3 (.int .i64 (w64 (size1 + (((geti2 slices1 z1).length : Nat) : Int)))), pl 9 (.slice A1 slices1.length c1), pl 10 (.int .i64 (slices1.length : Int)), pl 11 (.int .i64 (w64 (z1 + 1)))] hF hS Fol (by kernel_rfl) (by kernel_rfl) (by kernel_rfl) ?_ (fun a w hF hS => ?_)
        · exact obs_nil
        refine then_n ?_
        rw [← hφ1] at hm
        exact ⟨((w64 (size1 + (((geti2 slices1 z1).length : Nat) : Int))), (w64 (z1 + 1))), ⟨hF.weak [0, 3, 9, 10, 11] (by kernel_rfl), hS⟩, hm⟩
      · refine wp_block ?_
        obtain ⟨hp1, hm⟩ := asrt_b hm
        refine reg [⟨true, [], vS (Instr.indexAt 148 (.slice A1 slices1.length c1) (.int .i64 z1)), .pointer (some (sAddr A1 z1))⟩, ⟨false, [], vS (Instr.loadAt 22 (.pointer (some (sAddr A1 z1)))), .slice (hdA hd1 z1) ((geti2 slices1 z1).length) (hdC hd1 z1)⟩] [some (.pointer (some (sAddr A1 z1))), some (.slice (hdA hd1 z1) ((geti2 slices1 z1).length) (hdC hd1 z1)), none] [0, 3, 5, 9, 10, 11] [pl 0 (.slice A1 slices1.length c1), pl 3 (.int .i64 size1), pl 5 (.slice (hdA hd1 z1) ((geti2 slices1 z1).length) (hdC hd1 z1)), pl 9 (.slice A1 slices1.length c1), pl 10 (.int .i64 (slices1.length : Int)), pl 11 (.int .i64 z1)] hF hS Fol (by kernel_rfl) (by kernel_rfl) (by kernel_rfl) ?_ (fun a w hF hS => ?_)
        · exact obs_cons (ob_ixRn Und148 hi22 hs22 (hr_slices1 _ (hS.dropN 0)) rfl (fun _ => hp1)) <| obs_cons (ob_getR Agg22 (fun _ hS => ⟨_, (hr_slices1 _ (hS.dropN 0))⟩) (fun _ => hp1)) <| obs_nil
        refine reg [] [] [0, 3, 9, 10, 11] [pl 0 (.slice A1 slices1.length c1), pl 3 (.int .i64 (w64 (size1 + (((geti2 slices1 z1).length : Nat) : Int)))), pl 9 (.slice A1 slices1.length c1), pl 10 (.int .i64 (slices1.length : Int)), pl 11 (.int .i64 z1)] hF hS Fol (by kernel_rfl) (by kernel_rfl) (by kernel_rfl) ?_ (fun a w hF hS => ?_)
        · exact obs_nil
        refine reg [] [] [0, 3, 9, 10, 11, 20] [pl 0 (.slice A1 slices1.length c1), pl 3 (.int .i64 (w64 (size1 + (((geti2 slices1 z1).length : Nat) : Int)))), pl 9 (.slice A1 slices1.length c1), pl 10 (.int .i64 (slices1.length : Int)), pl 11 (.int .i64 z1), pl 20 (.bool (decide ((w64 (size1 + (((geti2 slices1 z1).length : Nat) : Int))) < 0)))] hF hS Fol (by kernel_rfl) (by kernel_rfl) (by kernel_rfl) ?_ (fun a w hF hS => ?_)
        · exact obs_nil
        refine cond_ev (t := 20) (b := decide ((w64 (size1 + (((geti2 slices1 z1).length : Nat) : Int))) < 0)) hF (by kernel_rfl) (fun hb => ?_) (fun hb => ?_)
        · replace hm := if_t hm hb
          simp at hm
        · replace hm := if_f hm hb
          refine wp_skip ?_
          refine block_n ?_
          refine then_n ?_
          exact ⟨hF.weak [0, 3, 9, 10, 11] (by kernel_rfl), hS, hm⟩
    · refine cond_ev (t := 12) (b := decide (z1 < (slices1.length : Int))) hF (by kernel_rfl) (fun hb => ?_) (fun hb => ?_)
      · replace hm := if_t hm hb
        refine wp_skip ?_
        refine then_n ?_
        exact ⟨hF.weak [0, 3, 9, 10, 11] (by kernel_rfl), hS, hm⟩
      · replace hm := if_f hm hb
        refine wp_exit ?_
        refine then_e (then_e (block_e (then_n ?_)))
        rw [← hφ1] at hm
        replace hm := done_b hm
        unfold slices_Concat_K1 at hm
        try dsimp only at hm
        have hm : ((slices_Concat_J1 slices1) size1).bind some = some r := hm
        exact ⟨size1, hF.weak [0, 3] (by kernel_rfl), hS, hm⟩

noncomputable def mancala_from_J1 (b1 : List Int) (l1 : List Int) : Option (List Int × Int) :=
  some (l1, (w64 ((w64 (Int.tdiv (b1.length : Int) 2)) - 1)))

noncomputable def mancala_from_m (b1 : List Int) (b2 : Int) : Option (List Int × Int) :=
  (slices_Clone_m b1).bind fun r1 => if (b2 == 1) then (asrt (0 ≤ (w64 (Int.tdiv (b1.length : Int) 2)) ∧ (w64 (Int.tdiv (b1.length : Int) 2)) ≤ (r1.length : Int) ∧ (r1.length : Int) ≤ (r1.length : Int)) <| asrt (0 ≤ (0 : Int) ∧ (0 : Int) ≤ (w64 (Int.tdiv (b1.length : Int) 2)) ∧ (w64 (Int.tdiv (b1.length : Int) 2)) ≤ (r1.length : Int)) <| (slices_Concat_m ([(cut r1 (w64 (Int.tdiv (b1.length : Int) 2)) (r1.length : Int)), (cut r1 (0 : Int) (w64 (Int.tdiv (b1.length : Int) 2)))] : List (List Int))).bind fun r2 => (mancala_from_J1 b1) r2) else ((mancala_from_J1 b1) r1)

set_option maxRecDepth 100000 in
set_option maxHeartbeats 4000000 in
theorem mancala_from_w {A1 : Option Addr} {c1 : Nat} {n1 : Nat} {b1 : List Int} {b2 : Int} {r : (List Int × Int)} {w0 w : World} {B : Nat} {fs : List HP} (hm : mancala_from_m b1 b2 = some r) (hS : Sep w0 B w (fs)) (hr_b1 : RdF w0 B fs A1 (vI b1)) (_hc_b1 : b1.length ≤ c1) (_hn_b1 : n1 = b1.length) :
    Calls Try.prog 66 #[.agg #[.slice A1 n1 c1, .int .i64 b2]] w fun e w' => ∃ v, e = .returned v ∧ ∃ (A5 : Option Addr) (c5 : Nat), v = .agg #[.slice A5 r.1.length c5, .int .i64 r.2] ∧ Sep w0 B w' (own 3 (.slice A5 r.1.length c5) (vI r.1) :: fs) := by
  obtain ⟨i3, hi3, hz3, hs3, hb3⟩ := info_parts Info3
  obtain ⟨i22, hi22, hz22, hs22, hb22⟩ := info_parts Info22
  obtain rfl := _hn_b1
  unfold mancala_from_m at hm
  replace hm := start_b hm
  refine enter (l := [.agg #[.slice A1 b1.length c1, .int .i64 b2]]) (n := 27) Try.func66 rfl rfl (by simp) (fun a hF => ?_)
  refine seqR ?_
  refine at_do (d := 1) (s := vS (Instr.box 44 (.agg #[.slice A1 b1.length c1, .int .i64 b2]))) (v := .pointer (some ⟨w.heap.size, 0, none⟩)) (w' := w.alloc (.cells #[.slice A1 b1.length c1, .int .i64 b2] 44)) hF (by kernel_rfl) (by kernel_rfl) (by kernel_rfl) (fun a hF => ?_)
  have hS : Sep w0 B (w.alloc (.cells #[.slice A1 b1.length c1, .int .i64 b2] 44)) (blk w.heap.size 44 #[.slice A1 b1.length c1, .int .i64 b2] :: (fs)) := hS.box 44 #[.slice A1 b1.length c1, .int .i64 b2]
  generalize w.heap.size = g1 at hF hS
  generalize w.alloc (.cells #[.slice A1 b1.length c1, .int .i64 b2] 44) = w at hS ⊢
  refine at_do (d := 2) (s := vS (Instr.alloc 84 true (.tuple #[]))) (v := .pointer (some ⟨w.heap.size, 0, none⟩)) (w' := w.alloc (.cells #[.slice none 0 0, .int .i64 0] 84)) hF (by kernel_rfl) (by kernel_rfl) (by kernel_rfl) (fun a hF => ?_)
  have hS : Sep w0 B (w.alloc (.cells #[.slice none 0 0, .int .i64 0] 84)) (blk w.heap.size 84 #[.slice none 0 0, .int .i64 0] :: (blk g1 44 #[.slice A1 b1.length c1, .int .i64 b2] :: fs)) := hS.box 84 #[.slice none 0 0, .int .i64 0]
  generalize w.heap.size = g2 at hF hS
  generalize w.alloc (.cells #[.slice none 0 0, .int .i64 0] 84) = w at hS ⊢
  refine at_end [1, 2] [pl 1 (.pointer (some ⟨g1, 0, none⟩)), pl 2 (.pointer (some ⟨g2, 0, none⟩))] hF rfl (by kernel_rfl) (fun hF => ?_)
  refine then_n ?_
  refine reg [⟨false, [], vS (Instr.loadAt 22 (.pointer (some ⟨g1, 0, none⟩))), .slice A1 b1.length c1⟩] [none, some (.slice A1 b1.length c1), none, none, none] [1, 2, 3] [pl 1 (.pointer (some ⟨g1, 0, none⟩)), pl 2 (.pointer (some ⟨g2, 0, none⟩)), pl 3 (.int .i64 (w64 (Int.tdiv (b1.length : Int) 2)))] hF hS Fol (by kernel_rfl) (by kernel_rfl) (by kernel_rfl) ?_ (fun a w hF hS => ?_)
  · exact obs_cons (ob_load Agg22 (fun _ _ hS => (hS.at_ 1 rfl).cell rfl)) <| obs_nil
  refine seqR ?_
  obtain ⟨r1, hr1, hm⟩ := call_b hm
  refine at_run 2 [⟨false, [], vS (Instr.loadAt 22 (.pointer (some ⟨g1, 0, none⟩))), .slice A1 b1.length c1⟩] [none, some (.slice A1 b1.length c1)] [1, 2, 3, 10] [pl 1 (.pointer (some ⟨g1, 0, none⟩)), pl 2 (.pointer (some ⟨g2, 0, none⟩)), pl 3 (.int .i64 (w64 (Int.tdiv (b1.length : Int) 2))), pl 10 (.slice A1 b1.length c1)] hF hS (by kernel_rfl) (by kernel_rfl) ?_ (fun a w hF hS => ?_)
  · exact obs_cons (ob_load Agg22 (fun _ _ hS => (hS.at_ 1 rfl).cell rfl)) <| obs_nil
  refine at_call (f := 113) (args := #[.slice A1 b1.length c1]) (d := 11) hF (by kernel_rfl) (by kernel_rfl) Try.func113 (by kernel_rfl) rfl (slices_Clone_w hr1 hS (fun _ hS => (hr_b1 _ (hS.dropN 2))) _hc_b1 rfl) (fun v a w hR hF => ?_)
  clear hS
  obtain ⟨A2, c2, rfl, hS⟩ := hR
  have hS : Sep w0 B w (own 3 (.slice A2 r1.length c2) (vI r1) :: blk g2 84 #[.slice none 0 0, .int .i64 0] :: blk g1 44 #[.slice A1 b1.length c1, .int .i64 b2] :: fs) := hS
  refine at_run 1 [] [] [1, 2, 3, 4] [pl 1 (.pointer (some ⟨g1, 0, none⟩)), pl 2 (.pointer (some ⟨g2, 0, none⟩)), pl 3 (.int .i64 (w64 (Int.tdiv (b1.length : Int) 2))), pl 4 (.slice A2 r1.length c2)] hF hS (by kernel_rfl) (by kernel_rfl) ?_ (fun a w hF hS => ?_)
  · exact obs_nil
  refine at_end [1, 2, 3, 4] [pl 1 (.pointer (some ⟨g1, 0, none⟩)), pl 2 (.pointer (some ⟨g2, 0, none⟩)), pl 3 (.int .i64 (w64 (Int.tdiv (b1.length : Int) 2))), pl 4 (.slice A2 r1.length c2)] hF rfl (by kernel_rfl) (fun hF => ?_)
  refine then_n ?_
  refine seq_cut (fun a w => ∃ (l1 : List Int) (A4 : Option Addr) (c4 : Nat), Fr 27 [pl 2 (.pointer (some ⟨g2, 0, none⟩)), pl 3 (.int .i64 (w64 (Int.tdiv (b1.length : Int) 2))), pl 4 (.slice A4 l1.length c4)] a ∧ Sep w0 B w (blk g2 84 #[.slice none 0 0, .int .i64 0] :: own 3 (.slice A4 l1.length c4) (vI l1) :: fs) ∧ ((mancala_from_J1 b1) l1).bind some = some r) ?_ ?_
  · rintro a w ⟨l1, A4, c4, hF, hS, hm⟩
    unfold mancala_from_J1 at hm
    refine seqR ?_
    refine at_run 4 [] [] [2, 26] [pl 2 (.pointer (some ⟨g2, 0, none⟩)), pl 26 (.agg #[.slice A4 l1.length c4, .int .i64 (w64 ((w64 (Int.tdiv (b1.length : Int) 2)) - 1))])] hF hS (by kernel_rfl) (by kernel_rfl) ?_ (fun a w hF hS => ?_)
    · exact obs_nil
    obtain ⟨w, hrun, hS⟩ := run_putA (P := Try.prog) (t := 84) (us := #[.slice A4 l1.length c4, .int .i64 (w64 ((w64 (Int.tdiv (b1.length : Int) 2)) - 1))]) (o := 0) (hS.at_ 0 rfl) (by kernel_rfl) (all_one (by kernel_rfl)) (Nat.le_of_ble_eq_true (by kernel_rfl))
    refine at_skip hF (by kernel_rfl) hrun ?_
    have hS : Sep w0 B w (blk g2 84 #[.slice A4 l1.length c4, .int .i64 (w64 ((w64 (Int.tdiv (b1.length : Int) 2)) - 1))] :: own 3 (.slice A4 l1.length c4) (vI l1) :: fs) := hS
    refine at_end [2] [pl 2 (.pointer (some ⟨g2, 0, none⟩))] hF rfl (by kernel_rfl) (fun hF => ?_)
    refine then_n ?_
    refine wp_ret ?_
    have hld0 := run_loadVarA (P := Try.prog) (t := 84) (cs := #[.slice A4 l1.length c4, .int .i64 (w64 ((w64 (Int.tdiv (b1.length : Int) 2)) - 1))]) (by kernel_rfl) (by kernel_rfl) ((hS.at_ 0 rfl).cellsAt 0 (by rfl))
    have hS := hS.pickN 2 [1] (by decide)
    have hm : some (l1, (w64 ((w64 (Int.tdiv (b1.length : Int) 2)) - 1))) = some r := hm
    obtain rfl := Option.some.inj hm
    exact retV (rs := [.cell 2 84]) (vs := [.agg #[.slice A4 l1.length c4, .int .i64 (w64 ((w64 (Int.tdiv (b1.length : Int) 2)) - 1))]]) hF rfl (rv_c (by kernel_rfl) hld0 <| rv_nil) rfl ⟨_, rfl, A4, c4, rfl, hS⟩
  · refine reg [⟨false, [], vS (Instr.loadAt 3 (.pointer (some ⟨g1, 1, none⟩))), .int .i64 b2⟩] [none, some (.int .i64 b2), none] [2, 3, 4, 14] [pl 2 (.pointer (some ⟨g2, 0, none⟩)), pl 3 (.int .i64 (w64 (Int.tdiv (b1.length : Int) 2))), pl 4 (.slice A2 r1.length c2), pl 14 (.bool (b2 == 1))] hF hS Fol (by kernel_rfl) (by kernel_rfl) (by kernel_rfl) ?_ (fun a w hF hS => ?_)
    · exact obs_cons (ob_load Agg3 (fun _ _ hS => (hS.at_ 2 rfl).cell rfl)) <| obs_nil
    refine cond_ev (t := 14) (b := (b2 == 1)) hF (by kernel_rfl) (fun hb => ?_) (fun hb => ?_)
    · replace hm := if_t hm hb
      obtain ⟨hp1, hm⟩ := asrt_b hm
      obtain ⟨hp2, hm⟩ := asrt_b hm
      obtain ⟨r2, hr2, hm⟩ := call_b hm
      refine regMix4 [0, 1, 2, 3, 4, 5] [6, 7, 8] [⟨true, [], vS (Instr.sliceAt 22 (.slice A2 r1.length c2) (some (.int .i64 (w64 (Int.tdiv (b1.length : Int) 2)))) none none), .slice (cutAddr A2 c2 (w64 (Int.tdiv (b1.length : Int) 2))) ((cut r1 (w64 (Int.tdiv (b1.length : Int) 2)) (r1.length : Int)).length) (c2 - Int.toNat (w64 (Int.tdiv (b1.length : Int) 2)))⟩, ⟨true, [], vS (Instr.sliceAt 22 (.slice A2 r1.length c2) none (some (.int .i64 (w64 (Int.tdiv (b1.length : Int) 2)))) none), .slice (cutAddr A2 c2 (0 : Int)) ((cut r1 (0 : Int) (w64 (Int.tdiv (b1.length : Int) 2))).length) (c2 - Int.toNat (0 : Int))⟩] [none, none, some (.slice (cutAddr A2 c2 (w64 (Int.tdiv (b1.length : Int) 2))) ((cut r1 (w64 (Int.tdiv (b1.length : Int) 2)) (r1.length : Int)).length) (c2 - Int.toNat (w64 (Int.tdiv (b1.length : Int) 2)))), none, none, some (.slice (cutAddr A2 c2 (0 : Int)) ((cut r1 (0 : Int) (w64 (Int.tdiv (b1.length : Int) 2))).length) (c2 - Int.toNat (0 : Int)))] [2, 3, 17, 20] [pl 2 (.pointer (some ⟨g2, 0, none⟩)), pl 3 (.int .i64 (w64 (Int.tdiv (b1.length : Int) 2))), pl 17 (.slice (cutAddr A2 c2 (w64 (Int.tdiv (b1.length : Int) 2))) ((cut r1 (w64 (Int.tdiv (b1.length : Int) 2)) (r1.length : Int)).length) (c2 - Int.toNat (w64 (Int.tdiv (b1.length : Int) 2)))), pl 20 (.slice (cutAddr A2 c2 (0 : Int)) ((cut r1 (0 : Int) (w64 (Int.tdiv (b1.length : Int) 2))).length) (c2 - Int.toNat (0 : Int)))] hF hS Fol (by kernel_rfl) (by kernel_rfl) (by kernel_rfl) (by kernel_rfl) (by kernel_rfl) ?_ (fun a w hF hS => ?_)
      · exact obs_cons (ob_cutn (l := r1) (k := .i64) (k' := .i64) Und22 hi3 hs3 rfl (.inl rfl) (.inr ⟨rfl, rfl⟩) (fun _ => hp1) ((hS.at_ 0 rfl).cap1)) <| obs_cons (ob_cutn (l := r1) (k := .i64) (k' := .i64) Und22 hi3 hs3 rfl (.inr ⟨rfl, rfl⟩) (.inl rfl) (fun _ => hp2) ((hS.at_ 0 rfl).cap1)) <| obs_nil
      refine at_do (d := 21) (s := vS (Instr.buildSlice 148 2 #[(0, .slice (cutAddr A2 c2 (w64 (Int.tdiv (b1.length : Int) 2))) ((cut r1 (w64 (Int.tdiv (b1.length : Int) 2)) (r1.length : Int)).length) (c2 - Int.toNat (w64 (Int.tdiv (b1.length : Int) 2)))), (1, .slice (cutAddr A2 c2 (0 : Int)) ((cut r1 (0 : Int) (w64 (Int.tdiv (b1.length : Int) 2))).length) (c2 - Int.toNat (0 : Int)))])) (v := .slice (some ⟨w.heap.size, 0, none⟩) 2 2) (w' := w.alloc (.cells #[.slice (cutAddr A2 c2 (w64 (Int.tdiv (b1.length : Int) 2))) ((cut r1 (w64 (Int.tdiv (b1.length : Int) 2)) (r1.length : Int)).length) (c2 - Int.toNat (w64 (Int.tdiv (b1.length : Int) 2))), .slice (cutAddr A2 c2 (0 : Int)) ((cut r1 (0 : Int) (w64 (Int.tdiv (b1.length : Int) 2))).length) (c2 - Int.toNat (0 : Int))] 22)) hF (by kernel_rfl) (by kernel_rfl) (by kernel_rfl) (fun a hF => ?_)
      have hS : Sep w0 B (w.alloc (.cells #[.slice (cutAddr A2 c2 (w64 (Int.tdiv (b1.length : Int) 2))) ((cut r1 (w64 (Int.tdiv (b1.length : Int) 2)) (r1.length : Int)).length) (c2 - Int.toNat (w64 (Int.tdiv (b1.length : Int) 2))), .slice (cutAddr A2 c2 (0 : Int)) ((cut r1 (0 : Int) (w64 (Int.tdiv (b1.length : Int) 2))).length) (c2 - Int.toNat (0 : Int))] 22)) (own 22 (.slice (some (⟨w.heap.size, 0, none⟩ : Addr)) 2 2) [.slice (cutAddr A2 c2 (w64 (Int.tdiv (b1.length : Int) 2))) ((cut r1 (w64 (Int.tdiv (b1.length : Int) 2)) (r1.length : Int)).length) (c2 - Int.toNat (w64 (Int.tdiv (b1.length : Int) 2))), .slice (cutAddr A2 c2 (0 : Int)) ((cut r1 (0 : Int) (w64 (Int.tdiv (b1.length : Int) 2))).length) (c2 - Int.toNat (0 : Int))] :: (own 3 (.slice A2 r1.length c2) (vI r1) :: blk g2 84 #[.slice none 0 0, .int .i64 0] :: blk g1 44 #[.slice A1 b1.length c1, .int .i64 b2] :: fs)) := hS.lit 22 #[.slice (cutAddr A2 c2 (w64 (Int.tdiv (b1.length : Int) 2))) ((cut r1 (w64 (Int.tdiv (b1.length : Int) 2)) (r1.length : Int)).length) (c2 - Int.toNat (w64 (Int.tdiv (b1.length : Int) 2))), .slice (cutAddr A2 c2 (0 : Int)) ((cut r1 (0 : Int) (w64 (Int.tdiv (b1.length : Int) 2))).length) (c2 - Int.toNat (0 : Int))] 2 rfl (by omega)
      generalize (some (⟨w.heap.size, 0, none⟩ : Addr)) = g3 at hF hS
      generalize w.alloc (.cells #[.slice (cutAddr A2 c2 (w64 (Int.tdiv (b1.length : Int) 2))) ((cut r1 (w64 (Int.tdiv (b1.length : Int) 2)) (r1.length : Int)).length) (c2 - Int.toNat (w64 (Int.tdiv (b1.length : Int) 2))), .slice (cutAddr A2 c2 (0 : Int)) ((cut r1 (0 : Int) (w64 (Int.tdiv (b1.length : Int) 2))).length) (c2 - Int.toNat (0 : Int))] 22) = w at hS ⊢
      refine at_call (f := 114) (args := #[.slice g3 2 2]) (d := 22) hF (by kernel_rfl) (by kernel_rfl) Try.func114 (by kernel_rfl) rfl (slices_Concat_w hr2 hS (fun _ hS => (rdLit (hd := ([((cutAddr A2 c2 (w64 (Int.tdiv (b1.length : Int) 2))), (c2 - Int.toNat (w64 (Int.tdiv (b1.length : Int) 2)))), ((cutAddr A2 c2 (0 : Int)), (c2 - Int.toNat (0 : Int)))] : List Hd)) (m := ([(cut r1 (w64 (Int.tdiv (b1.length : Int) 2)) (r1.length : Int)), (cut r1 (0 : Int) (w64 (Int.tdiv (b1.length : Int) 2)))] : List (List Int))) hS 0 rfl ⟨⟨(Rd.cutF (hS.at_ 1 rfl).rd hp1 ((hS.at_ 1 rfl).cap1)), (cap_cut hp1 ((hS.at_ 1 rfl).cap1))⟩, ⟨(Rd.cutF (hS.at_ 1 rfl).rd hp2 ((hS.at_ 1 rfl).cap1)), (cap_cut hp2 ((hS.at_ 1 rfl).cap1))⟩, trivial⟩)) (Nat.le_refl _) rfl) (fun v a w hR hF => ?_)
      clear hS
      obtain ⟨A3, c3, rfl, hS⟩ := hR
      have hS : Sep w0 B w (own 3 (.slice A3 r2.length c3) (vI r2) :: own 22 (.slice g3 2 2) [.slice (cutAddr A2 c2 (w64 (Int.tdiv (b1.length : Int) 2))) ((cut r1 (w64 (Int.tdiv (b1.length : Int) 2)) (r1.length : Int)).length) (c2 - Int.toNat (w64 (Int.tdiv (b1.length : Int) 2))), .slice (cutAddr A2 c2 (0 : Int)) ((cut r1 (0 : Int) (w64 (Int.tdiv (b1.length : Int) 2))).length) (c2 - Int.toNat (0 : Int))] :: own 3 (.slice A2 r1.length c2) (vI r1) :: blk g2 84 #[.slice none 0 0, .int .i64 0] :: blk g1 44 #[.slice A1 b1.length c1, .int .i64 b2] :: fs) := hS
      refine at_run 1 [] [] [2, 3, 4] [pl 2 (.pointer (some ⟨g2, 0, none⟩)), pl 3 (.int .i64 (w64 (Int.tdiv (b1.length : Int) 2))), pl 4 (.slice A3 r2.length c3)] hF hS (by kernel_rfl) (by kernel_rfl) ?_ (fun a w hF hS => ?_)
      · exact obs_nil
      refine at_end [2, 3, 4] [pl 2 (.pointer (some ⟨g2, 0, none⟩)), pl 3 (.int .i64 (w64 (Int.tdiv (b1.length : Int) 2))), pl 4 (.slice A3 r2.length c3)] hF rfl (by kernel_rfl) (fun hF => ?_)
      refine np_n ?_
      refine then_n ?_
      have hS := hS.pickN 5 [3, 0] (by decide)
      exact ⟨r2, A3, c3, hF.weak [2, 3, 4] (by kernel_rfl), hS, hm⟩
    · replace hm := if_f hm hb
      refine wp_skip ?_
      refine then_n ?_
      have hS := hS.pickN 3 [1, 0] (by decide)
      exact ⟨r1, A2, c2, hF.weak [2, 3, 4] (by kernel_rfl), hS, hm⟩

noncomputable def mancala_game_own_m (g1 : List Int) (g2 : Int) : Option (Int × Int) :=
  asrt (0 ≤ (0 : Int) ∧ (0 : Int) ≤ g2 ∧ g2 ≤ (g1.length : Int)) <| some ((0 : Int), g2)

set_option maxRecDepth 100000 in
set_option maxHeartbeats 4000000 in
theorem mancala_game_own_w {A1 : Option Addr} {c1 : Nat} {n1 : Nat} {g1 : List Int} {g2 : Int} {r : (Int × Int)} {w0 w : World} {B : Nat} {fs : List HP} (hm : mancala_game_own_m g1 g2 = some r) (hS : Sep w0 B w (fs)) (hr_g1 : RdF w0 B fs A1 (vI g1)) (_hc_g1 : g1.length ≤ c1) (_hn_g1 : n1 = g1.length) :
    Calls Try.prog 68 #[.agg #[.slice A1 n1 c1, .int .i64 g2]] w fun e w' => ∃ v, e = .returned v ∧ v = .slice (cutAddr A1 c1 r.1) ((cut g1 r.1 r.2).length) (c1 - Int.toNat r.1) ∧ (0 ≤ r.1 ∧ r.1 ≤ r.2 ∧ r.2 ≤ (g1.length : Int)) ∧ Sep w0 B w' (fs) := by
  obtain ⟨i3, hi3, hz3, hs3, hb3⟩ := info_parts Info3
  obtain rfl := _hn_g1
  unfold mancala_game_own_m at hm
  replace hm := start_b hm
  refine enter (l := [.agg #[.slice A1 g1.length c1, .int .i64 g2]]) (n := 8) Try.func68 rfl rfl (by simp) (fun a hF => ?_)
  refine seqR ?_
  refine at_do (d := 1) (s := vS (Instr.box 84 (.agg #[.slice A1 g1.length c1, .int .i64 g2]))) (v := .pointer (some ⟨w.heap.size, 0, none⟩)) (w' := w.alloc (.cells #[.slice A1 g1.length c1, .int .i64 g2] 84)) hF (by kernel_rfl) (by kernel_rfl) (by kernel_rfl) (fun a hF => ?_)
  have hS : Sep w0 B (w.alloc (.cells #[.slice A1 g1.length c1, .int .i64 g2] 84)) (blk w.heap.size 84 #[.slice A1 g1.length c1, .int .i64 g2] :: (fs)) := hS.box 84 #[.slice A1 g1.length c1, .int .i64 g2]
  generalize w.heap.size = g3 at hF hS
  generalize w.alloc (.cells #[.slice A1 g1.length c1, .int .i64 g2] 84) = w at hS ⊢
  refine at_run 1 [] [] [1] [pl 1 (.pointer (some ⟨g3, 0, none⟩))] hF hS (by kernel_rfl) (by kernel_rfl) ?_ (fun a w hF hS => ?_)
  · exact obs_nil
  refine at_end [1] [pl 1 (.pointer (some ⟨g3, 0, none⟩))] hF rfl (by kernel_rfl) (fun hF => ?_)
  refine then_n ?_
  obtain ⟨hp1, hm⟩ := asrt_b hm
  refine reg [⟨false, [], vS (Instr.loadAt 22 (.pointer (some ⟨g3, 0, none⟩))), .slice A1 g1.length c1⟩, ⟨false, [], vS (Instr.loadAt 3 (.pointer (some ⟨g3, 1, none⟩))), .int .i64 g2⟩, ⟨true, [], vS (Instr.sliceAt 22 (.slice A1 g1.length c1) none (some (.int .i64 g2)) none), .slice (cutAddr A1 c1 (0 : Int)) ((cut g1 (0 : Int) g2).length) (c1 - Int.toNat (0 : Int))⟩] [none, some (.slice A1 g1.length c1), none, some (.int .i64 g2), some (.slice (cutAddr A1 c1 (0 : Int)) ((cut g1 (0 : Int) g2).length) (c1 - Int.toNat (0 : Int))), none] [2] [pl 2 (.slice (cutAddr A1 c1 (0 : Int)) ((cut g1 (0 : Int) g2).length) (c1 - Int.toNat (0 : Int)))] hF hS Fol (by kernel_rfl) (by kernel_rfl) (by kernel_rfl) ?_ (fun a w hF hS => ?_)
  · exact obs_cons (ob_load Agg22 (fun _ _ hS => (hS.at_ 0 rfl).cell rfl)) <| obs_cons (ob_load Agg3 (fun _ _ hS => (hS.at_ 0 rfl).cell rfl)) <| obs_cons (ob_cutn (l := g1) (k := .i64) (k' := .i64) Und22 hi3 hs3 rfl (.inr ⟨rfl, rfl⟩) (.inl rfl) (fun _ => hp1) _hc_g1) <| obs_nil
  refine wp_ret ?_
  have hS := hS.pickN 1 [] (by decide)
  have hm : some ((0 : Int), g2) = some r := hm
  obtain rfl := Option.some.inj hm
  exact retV (rs := [.tmp 2]) (vs := [.slice (cutAddr A1 c1 (0 : Int)) ((cut g1 (0 : Int) g2).length) (c1 - Int.toNat (0 : Int))]) hF rfl (rv_t (by kernel_rfl) <| rv_nil) rfl ⟨_, rfl, rfl, hp1, hS⟩

noncomputable def mancala_sum_J3 (l1 : List Int) (n2 : Int) (z1 : Int) : Option (St (Int × Int) Int) :=
  some (.next ((w64 (n2 + (geti l1 z1))), (w64 (z1 + 1))))

noncomputable def mancala_sum_J2 (l1 : List Int) (n2 : Int) (z1 : Int) : Option (St (Int × Int) Int) :=
  asrt (0 ≤ z1 ∧ z1 < (l1.length : Int)) <| (mancala_sum_J3 l1 n2 z1)

noncomputable def mancala_sum_J1 (n3 : Int) : Option Int :=
  some n3

noncomputable def mancala_sum_K1 : Int → Option Int :=
  fun (x : Int) => match x with | n3 => mancala_sum_J1 n3

noncomputable def mancala_sum_L1 (l1 : List Int) : (Int × Int) → Option (St (Int × Int) Int) :=
  fun (x : (Int × Int)) => match x with | (n2, z1) => if (decide (z1 < (l1.length : Int))) then ((mancala_sum_J2 l1 n2 z1)) else (some (.done n2))

noncomputable def mancala_sum_m (l1 : List Int) : Option Int :=
  (loop (mancala_sum_L1 l1) (0, 0)).bind mancala_sum_K1

set_option maxRecDepth 100000 in
set_option maxHeartbeats 4000000 in
theorem mancala_sum_w {A1 : Option Addr} {c1 : Nat} {n1 : Nat} {l1 : List Int} {r : Int} {w0 w : World} {B : Nat} {fs : List HP} (hm : mancala_sum_m l1 = some r) (hS : Sep w0 B w (fs)) (hr_l1 : RdF w0 B fs A1 (vI l1)) (_hc_l1 : l1.length ≤ c1) (_hn_l1 : n1 = l1.length) :
    Calls Try.prog 67 #[.slice A1 n1 c1] w fun e w' => e = .returned (.int .i64 r) ∧ Sep w0 B w' (fs) := by
  obtain ⟨i3, hi3, hz3, hs3, hb3⟩ := info_parts Info3
  obtain rfl := _hn_l1
  unfold mancala_sum_m at hm
  replace hm := start_b hm
  refine enter (l := [.slice A1 l1.length c1]) (n := 17) Try.func67 rfl rfl (by simp) (fun a hF => ?_)
  refine reg [] [] [0] [pl 0 (.slice A1 l1.length c1)] hF hS Fol (by kernel_rfl) (by kernel_rfl) (by kernel_rfl) ?_ (fun a w hF hS => ?_)
  · exact obs_nil
  refine reg [] [] [0, 3] [pl 0 (.slice A1 l1.length c1), pl 3 (.int .i64 0)] hF hS Fol (by kernel_rfl) (by kernel_rfl) (by kernel_rfl) ?_ (fun a w hF hS => ?_)
  · exact obs_nil
  refine seq_cut (fun a w => ∃ (n3 : Int), Fr 17 [pl 3 (.int .i64 n3)] a ∧ Sep w0 B w (fs) ∧ (mancala_sum_J1 n3).bind some = some r) ?_ ?_
  · rintro a w ⟨n3, hF, hS, hm⟩
    unfold mancala_sum_J1 at hm
    refine reg [] [] [2] [pl 2 (.int .i64 n3)] hF hS Fol (by kernel_rfl) (by kernel_rfl) (by kernel_rfl) ?_ (fun a w hF hS => ?_)
    · exact obs_nil
    refine wp_ret ?_
    have hm : some n3 = some r := hm
    obtain rfl := Option.some.inj hm
    exact retV (rs := [.tmp 2]) (vs := [.int .i64 n3]) hF rfl (rv_t (by kernel_rfl) <| rv_nil) rfl ⟨rfl, hS⟩
  · refine reg [] [] [3, 6, 7, 8] [pl 3 (.int .i64 0), pl 6 (.slice A1 l1.length c1), pl 7 (.int .i64 (l1.length : Int)), pl 8 (.int .i64 0)] hF hS Fol (by kernel_rfl) (by kernel_rfl) (by kernel_rfl) ?_ (fun a w hF hS => ?_)
    · exact obs_nil
    refine wp_block ?_
    refine wp_loop_model (S := (Int × Int)) (R := Int) (mancala_sum_L1 l1) (fun x => (mancala_sum_K1 x).bind some) r (fun (x : (Int × Int)) a w => Fr 17 [pl 3 (.int .i64 x.1), pl 6 (.slice A1 l1.length c1), pl 7 (.int .i64 (l1.length : Int)), pl 8 (.int .i64 x.2)] a ∧ Sep w0 B w (fs)) (assoc_b hm) ⟨hF.weak [3, 6, 7, 8] (by kernel_rfl), hS⟩ ?_
    clear hF hS hm
    rintro nn1 ⟨n2, z1⟩ a w ⟨hF, hS⟩ hm
    generalize hφ1 : stK (mancala_sum_L1 l1) nn1 (fun x => (mancala_sum_K1 x).bind some) = φ1 at hm
    unfold mancala_sum_L1 at hm
    dsimp only at hF hS hm
    refine reg [] [] [3, 6, 7, 8, 9] [pl 3 (.int .i64 n2), pl 6 (.slice A1 l1.length c1), pl 7 (.int .i64 (l1.length : Int)), pl 8 (.int .i64 z1), pl 9 (.bool (decide (z1 < (l1.length : Int))))] hF hS Fol (by kernel_rfl) (by kernel_rfl) (by kernel_rfl) ?_ (fun a w hF hS => ?_)
    · exact obs_nil
    refine seq_cut (fun a w => Fr 17 [pl 3 (.int .i64 n2), pl 6 (.slice A1 l1.length c1), pl 7 (.int .i64 (l1.length : Int)), pl 8 (.int .i64 z1)] a ∧ Sep w0 B w (fs) ∧ ((mancala_sum_J2 l1 n2 z1)).bind φ1 = some r) ?_ ?_
    · rintro a w ⟨hF, hS, hm⟩
      unfold mancala_sum_J2 at hm
      refine seq_cut (fun a w => Fr 17 [pl 3 (.int .i64 (w64 (n2 + (geti l1 z1)))), pl 6 (.slice A1 l1.length c1), pl 7 (.int .i64 (l1.length : Int)), pl 8 (.int .i64 z1)] a ∧ Sep w0 B w (fs) ∧ ((mancala_sum_J3 l1 n2 z1)).bind φ1 = some r) ?_ ?_
      · rintro a w ⟨hF, hS, hm⟩
        unfold mancala_sum_J3 at hm
        refine reg1 [] [] [3, 6, 7, 8] [pl 3 (.int .i64 (w64 (n2 + (geti l1 z1)))), pl 6 (.slice A1 l1.length c1), pl 7 (.int .i64 (l1.length : Int)), pl 8 (.int .i64 (w64 (z1 + 1)))] hF hS Fol (by kernel_rfl) (by kernel_rfl) (by kernel_rfl) ?_ (fun a w hF hS => ?_)
        · exact obs_nil
        refine then_n ?_
        rw [← hφ1] at hm
        exact ⟨((w64 (n2 + (geti l1 z1))), (w64 (z1 + 1))), ⟨hF.weak [3, 6, 7, 8] (by kernel_rfl), hS⟩, hm⟩
      · refine wp_block ?_
        obtain ⟨hp1, hm⟩ := asrt_b hm
        refine reg [⟨true, [], vS (Instr.indexAt 22 (.slice A1 l1.length c1) (.int .i64 z1)), .pointer (some (sAddr A1 z1))⟩, ⟨false, [], vS (Instr.loadAt 3 (.pointer (some (sAddr A1 z1)))), .int .i64 (geti l1 z1)⟩] [some (.pointer (some (sAddr A1 z1))), some (.int .i64 (geti l1 z1)), none] [3, 5, 6, 7, 8] [pl 3 (.int .i64 n2), pl 5 (.int .i64 (geti l1 z1)), pl 6 (.slice A1 l1.length c1), pl 7 (.int .i64 (l1.length : Int)), pl 8 (.int .i64 z1)] hF hS Fol (by kernel_rfl) (by kernel_rfl) (by kernel_rfl) ?_ (fun a w hF hS => ?_)
        · exact obs_cons (ob_ix1 (f := (Value.int .i64)) (m := l1) Und22 hi3 hs3 (hr_l1 _ (hS.dropN 0)) rfl (fun _ => hp1)) <| obs_cons (ob_get1 (n := l1.length) (m := l1) (Value.int .i64) (0 : Int) Agg3 (fun _ hS => ⟨_, (hr_l1 _ (hS.dropN 0))⟩) (fun _ hS => rfl) (fun _ => hp1)) <| obs_nil
        refine reg1 [] [] [3, 6, 7, 8] [pl 3 (.int .i64 (w64 (n2 + (geti l1 z1)))), pl 6 (.slice A1 l1.length c1), pl 7 (.int .i64 (l1.length : Int)), pl 8 (.int .i64 z1)] hF hS Fol (by kernel_rfl) (by kernel_rfl) (by kernel_rfl) ?_ (fun a w hF hS => ?_)
        · exact obs_nil
        refine block_n ?_
        refine then_n ?_
        exact ⟨hF.weak [3, 6, 7, 8] (by kernel_rfl), hS, hm⟩
    · refine cond_ev (t := 9) (b := decide (z1 < (l1.length : Int))) hF (by kernel_rfl) (fun hb => ?_) (fun hb => ?_)
      · replace hm := if_t hm hb
        refine wp_skip ?_
        refine then_n ?_
        exact ⟨hF.weak [3, 6, 7, 8] (by kernel_rfl), hS, hm⟩
      · replace hm := if_f hm hb
        refine wp_exit ?_
        refine then_e (then_e (block_e (then_n ?_)))
        rw [← hφ1] at hm
        replace hm := done_b hm
        unfold mancala_sum_K1 at hm
        try dsimp only at hm
        have hm : (mancala_sum_J1 n2).bind some = some r := hm
        exact ⟨n2, hF.weak [3] (by kernel_rfl), hS, hm⟩

noncomputable def mancala_game_other_m (g1 : List Int) (g2 : Int) : Option (Int × Int) :=
  asrt (0 ≤ (w64 (g2 + 1)) ∧ (w64 (g2 + 1)) ≤ (w64 ((w64 (2 * g2)) + 1)) ∧ (w64 ((w64 (2 * g2)) + 1)) ≤ (g1.length : Int)) <| some ((w64 (g2 + 1)), (w64 ((w64 (2 * g2)) + 1)))

set_option maxRecDepth 100000 in
set_option maxHeartbeats 4000000 in
theorem mancala_game_other_w {A1 : Option Addr} {c1 : Nat} {n1 : Nat} {g1 : List Int} {g2 : Int} {r : (Int × Int)} {w0 w : World} {B : Nat} {fs : List HP} (hm : mancala_game_other_m g1 g2 = some r) (hS : Sep w0 B w (fs)) (hr_g1 : RdF w0 B fs A1 (vI g1)) (_hc_g1 : g1.length ≤ c1) (_hn_g1 : n1 = g1.length) :
    Calls Try.prog 69 #[.agg #[.slice A1 n1 c1, .int .i64 g2]] w fun e w' => ∃ v, e = .returned v ∧ v = .slice (cutAddr A1 c1 r.1) ((cut g1 r.1 r.2).length) (c1 - Int.toNat r.1) ∧ (0 ≤ r.1 ∧ r.1 ≤ r.2 ∧ r.2 ≤ (g1.length : Int)) ∧ Sep w0 B w' (fs) := by
  obtain ⟨i3, hi3, hz3, hs3, hb3⟩ := info_parts Info3
  obtain rfl := _hn_g1
  unfold mancala_game_other_m at hm
  replace hm := start_b hm
  refine enter (l := [.agg #[.slice A1 g1.length c1, .int .i64 g2]]) (n := 13) Try.func69 rfl rfl (by simp) (fun a hF => ?_)
  refine seqR ?_
  refine at_do (d := 1) (s := vS (Instr.box 84 (.agg #[.slice A1 g1.length c1, .int .i64 g2]))) (v := .pointer (some ⟨w.heap.size, 0, none⟩)) (w' := w.alloc (.cells #[.slice A1 g1.length c1, .int .i64 g2] 84)) hF (by kernel_rfl) (by kernel_rfl) (by kernel_rfl) (fun a hF => ?_)
  have hS : Sep w0 B (w.alloc (.cells #[.slice A1 g1.length c1, .int .i64 g2] 84)) (blk w.heap.size 84 #[.slice A1 g1.length c1, .int .i64 g2] :: (fs)) := hS.box 84 #[.slice A1 g1.length c1, .int .i64 g2]
  generalize w.heap.size = g3 at hF hS
  generalize w.alloc (.cells #[.slice A1 g1.length c1, .int .i64 g2] 84) = w at hS ⊢
  refine at_run 1 [] [] [1] [pl 1 (.pointer (some ⟨g3, 0, none⟩))] hF hS (by kernel_rfl) (by kernel_rfl) ?_ (fun a w hF hS => ?_)
  · exact obs_nil
  refine at_end [1] [pl 1 (.pointer (some ⟨g3, 0, none⟩))] hF rfl (by kernel_rfl) (fun hF => ?_)
  refine then_n ?_
  obtain ⟨hp1, hm⟩ := asrt_b hm
  refine reg [⟨false, [], vS (Instr.loadAt 22 (.pointer (some ⟨g3, 0, none⟩))), .slice A1 g1.length c1⟩, ⟨false, [], vS (Instr.loadAt 3 (.pointer (some ⟨g3, 1, none⟩))), .int .i64 g2⟩, ⟨false, [], vS (Instr.loadAt 3 (.pointer (some ⟨g3, 1, none⟩))), .int .i64 g2⟩, ⟨true, [], vS (Instr.sliceAt 22 (.slice A1 g1.length c1) (some (.int .i64 (w64 (g2 + 1)))) (some (.int .i64 (w64 ((w64 (2 * g2)) + 1)))) none), .slice (cutAddr A1 c1 (w64 (g2 + 1))) ((cut g1 (w64 (g2 + 1)) (w64 ((w64 (2 * g2)) + 1))).length) (c1 - Int.toNat (w64 (g2 + 1)))⟩] [none, some (.slice A1 g1.length c1), none, some (.int .i64 g2), none, none, some (.int .i64 g2), none, none, some (.slice (cutAddr A1 c1 (w64 (g2 + 1))) ((cut g1 (w64 (g2 + 1)) (w64 ((w64 (2 * g2)) + 1))).length) (c1 - Int.toNat (w64 (g2 + 1)))), none] [2] [pl 2 (.slice (cutAddr A1 c1 (w64 (g2 + 1))) ((cut g1 (w64 (g2 + 1)) (w64 ((w64 (2 * g2)) + 1))).length) (c1 - Int.toNat (w64 (g2 + 1))))] hF hS Fol (by kernel_rfl) (by kernel_rfl) (by kernel_rfl) ?_ (fun a w hF hS => ?_)
  · exact obs_cons (ob_load Agg22 (fun _ _ hS => (hS.at_ 0 rfl).cell rfl)) <| obs_cons (ob_load Agg3 (fun _ _ hS => (hS.at_ 0 rfl).cell rfl)) <| obs_cons (ob_load Agg3 (fun _ _ hS => (hS.at_ 0 rfl).cell rfl)) <| obs_cons (ob_cutn (l := g1) (k := .i64) (k' := .i64) Und22 hi3 hs3 rfl (.inl rfl) (.inl rfl) (fun _ => hp1) _hc_g1) <| obs_nil
  refine wp_ret ?_
  have hS := hS.pickN 1 [] (by decide)
  have hm : some ((w64 (g2 + 1)), (w64 ((w64 (2 * g2)) + 1))) = some r := hm
  obtain rfl := Option.some.inj hm
  exact retV (rs := [.tmp 2]) (vs := [.slice (cutAddr A1 c1 (w64 (g2 + 1))) ((cut g1 (w64 (g2 + 1)) (w64 ((w64 (2 * g2)) + 1))).length) (c1 - Int.toNat (w64 (g2 + 1)))]) hF rfl (rv_t (by kernel_rfl) <| rv_nil) rfl ⟨_, rfl, rfl, hp1, hS⟩

noncomputable def mancala_game_over_J1 (z1 : Bool) : Option Bool :=
  some z1

noncomputable def mancala_game_over_m (g1 : List Int) (g2 : Int) : Option Bool :=
  (mancala_game_own_m g1 g2).bind fun r1 => (mancala_sum_m (cut g1 r1.1 r1.2)).bind fun r2 => if (r2 == 0) then (((if (!(r2 == 0)) then mancala_sum_m ([] : List Int) else some 0)).bind fun r3 => mancala_game_over_J1 ((r2 == 0) || (r3 == 0))) else ((mancala_game_other_m g1 g2).bind fun r4 => ((if (!(r2 == 0)) then mancala_sum_m (cut g1 r4.1 r4.2) else some 0)).bind fun r5 => mancala_game_over_J1 ((r2 == 0) || (r5 == 0)))

set_option maxRecDepth 100000 in
set_option maxHeartbeats 4000000 in
theorem mancala_game_over_w {A1 : Option Addr} {c1 : Nat} {n1 : Nat} {g1 : List Int} {g2 : Int} {r : Bool} {w0 w : World} {B : Nat} {fs : List HP} (hm : mancala_game_over_m g1 g2 = some r) (hS : Sep w0 B w (fs)) (hr_g1 : RdF w0 B fs A1 (vI g1)) (_hc_g1 : g1.length ≤ c1) (_hn_g1 : n1 = g1.length) :
    Calls Try.prog 115 #[.agg #[.slice A1 n1 c1, .int .i64 g2]] w fun e w' => e = .returned (.bool r) ∧ Sep w0 B w' (fs) := by
  obtain ⟨i3, hi3, hz3, hs3, hb3⟩ := info_parts Info3
  obtain rfl := _hn_g1
  unfold mancala_game_over_m at hm
  replace hm := start_b hm
  refine enter (l := [.agg #[.slice A1 g1.length c1, .int .i64 g2]]) (n := 13) Try.func115 rfl rfl (by simp) (fun a hF => ?_)
  refine seqR ?_
  refine at_do (d := 1) (s := vS (Instr.box 84 (.agg #[.slice A1 g1.length c1, .int .i64 g2]))) (v := .pointer (some ⟨w.heap.size, 0, none⟩)) (w' := w.alloc (.cells #[.slice A1 g1.length c1, .int .i64 g2] 84)) hF (by kernel_rfl) (by kernel_rfl) (by kernel_rfl) (fun a hF => ?_)
  have hS : Sep w0 B (w.alloc (.cells #[.slice A1 g1.length c1, .int .i64 g2] 84)) (blk w.heap.size 84 #[.slice A1 g1.length c1, .int .i64 g2] :: (fs)) := hS.box 84 #[.slice A1 g1.length c1, .int .i64 g2]
  generalize w.heap.size = g3 at hF hS
  generalize w.alloc (.cells #[.slice A1 g1.length c1, .int .i64 g2] 84) = w at hS ⊢
  refine at_run 1 [] [] [1] [pl 1 (.pointer (some ⟨g3, 0, none⟩))] hF hS (by kernel_rfl) (by kernel_rfl) ?_ (fun a w hF hS => ?_)
  · exact obs_nil
  refine at_end [1] [pl 1 (.pointer (some ⟨g3, 0, none⟩))] hF rfl (by kernel_rfl) (fun hF => ?_)
  refine then_n ?_
  refine seq_cut (fun a w => ∃ (z1 : Bool), Fr 13 [pl 2 (.bool z1)] a ∧ Sep w0 B w (fs) ∧ (mancala_game_over_J1 z1).bind some = some r) ?_ ?_
  · rintro a w ⟨z1, hF, hS, hm⟩
    unfold mancala_game_over_J1 at hm
    refine wp_ret ?_
    have hm : some z1 = some r := hm
    obtain rfl := Option.some.inj hm
    exact retV (rs := [.tmp 2]) (vs := [.bool z1]) hF rfl (rv_t (by kernel_rfl) <| rv_nil) rfl ⟨rfl, hS⟩
  · refine oneR ?_
    obtain ⟨r1, hr1, hm⟩ := call_b hm
    obtain ⟨r2, hr2, hm⟩ := call_b hm
    refine at_run 1 [⟨false, [], vS (Instr.loadAt 84 (.pointer (some ⟨g3, 0, none⟩))), .agg #[.slice A1 g1.length c1, .int .i64 g2]⟩] [some (.agg #[.slice A1 g1.length c1, .int .i64 g2])] [1, 3] [pl 1 (.pointer (some ⟨g3, 0, none⟩)), pl 3 (.agg #[.slice A1 g1.length c1, .int .i64 g2])] hF hS (by kernel_rfl) (by kernel_rfl) ?_ (fun a w hF hS => ?_)
    · exact obs_cons (ob_loadA (cs := #[.slice A1 g1.length c1, .int .i64 g2]) (by kernel_rfl) (by kernel_rfl) (fun _ _ hS => (hS.at_ 0 rfl).cellsAt 0 (by rfl))) <| obs_nil
    refine at_call (f := 68) (args := #[.agg #[.slice A1 g1.length c1, .int .i64 g2]]) (d := 4) hF (by kernel_rfl) (by kernel_rfl) Try.func68 (by kernel_rfl) rfl (mancala_game_own_w hr1 hS (fun _ hS => (hr_g1 _ (hS.dropN 1))) _hc_g1 rfl) (fun v a w hR hF => ?_)
    clear hS
    obtain ⟨rfl, hb1, hS⟩ := hR
    have hS : Sep w0 B w (blk g3 84 #[.slice A1 g1.length c1, .int .i64 g2] :: fs) := hS
    refine at_run 4 [⟨false, [], callFunc 67 #[.slice (cutAddr A1 c1 r1.1) ((cut g1 r1.1 r1.2).length) (c1 - Int.toNat r1.1)], .int .i64 r2⟩, ⟨false, [((r2 == 0), false)], vS (Instr.loadAt 84 (.pointer (some ⟨g3, 0, none⟩))), .agg #[.slice A1 g1.length c1, .int .i64 g2]⟩] [some (.int .i64 r2), none, none, some (.agg #[.slice A1 g1.length c1, .int .i64 g2])] [7, 8] [pl 7 (.bool (r2 == 0)), ⟨8, [(7, false)], .agg #[.slice A1 g1.length c1, .int .i64 g2]⟩] hF hS (by kernel_rfl) (by kernel_rfl) ?_ (fun a w hF hS => ?_)
    · exact obs_cons (ob_call Try.func67 (by kernel_rfl) rfl (fun _ _ hS => mancala_sum_w hr2 hS (fun _ hS => (Rd.cutF (hr_g1 _ (hS.dropN 1)) hb1 _hc_g1)) (cap_cut hb1 _hc_g1) rfl)) <| obs_cons (ob_loadA (cs := #[.slice A1 g1.length c1, .int .i64 g2]) (by kernel_rfl) (by kernel_rfl) (fun _ _ hS => (hS.at_ 0 rfl).cellsAt 0 (by rfl))) <| obs_nil
    rcases Bool.eq_false_or_eq_true (r2 == 0) with hg1 | hg1
    · replace hm := if_t hm hg1
      obtain ⟨r3, hr3, hm⟩ := call_b hm
      refine at_gskip (d := 9) (v := .slice none 0 0) (hs := [((r2 == 0), false)]) (ctx := [(7, false)]) hF (by kernel_rfl) (by kernel_rfl) (fun h => absurd (h ((r2 == 0), false) (by simp)) (by simp [hg1])) (fun a hF => ?_)
      refine at_run 4 [⟨false, [((r2 == 0), false)], callFunc 67 #[.slice none 0 0], .int .i64 r3⟩] [some (.int .i64 r3), none, none, none] [2] [pl 2 (.bool ((r2 == 0) || (r3 == 0)))] hF hS (by kernel_rfl) (by kernel_rfl) ?_ (fun a w hF hS => ?_)
      · exact obs_cons (Ob.vac (fun h => absurd (h ((r2 == 0), false) (by simp)) (by simp [hg1]))) <| obs_nil
      refine at_end [2] [pl 2 (.bool ((r2 == 0) || (r3 == 0)))] hF rfl (by kernel_rfl) (fun hF => ?_)
      refine then_n ?_
      have hS := hS.pickN 1 [] (by decide)
      exact ⟨((r2 == 0) || (r3 == 0)), hF.weak [2] (by kernel_rfl), hS, hm⟩
    · replace hm := if_f hm hg1
      obtain ⟨r4, hr4, hm⟩ := call_b hm
      obtain ⟨r5, hr5, hm⟩ := call_b hm
      refine at_gcall (hs := [((r2 == 0), false)]) (fun y hy => by simp only [List.mem_cons, List.not_mem_nil, or_false] at hy; subst hy; first | exact hg1) (f := 69) (args := #[.agg #[.slice A1 g1.length c1, .int .i64 g2]]) (d := 9) hF (by kernel_rfl) (by kernel_rfl) Try.func69 (by kernel_rfl) rfl (mancala_game_other_w hr4 hS (fun _ hS => (hr_g1 _ (hS.dropN 1))) _hc_g1 rfl) (fun v a w hR hF => ?_)
      clear hS
      obtain ⟨rfl, hb2, hS⟩ := hR
      have hS : Sep w0 B w (blk g3 84 #[.slice A1 g1.length c1, .int .i64 g2] :: fs) := hS
      refine at_run 4 [⟨false, [((r2 == 0), false)], callFunc 67 #[.slice (cutAddr A1 c1 r4.1) ((cut g1 r4.1 r4.2).length) (c1 - Int.toNat r4.1)], .int .i64 r5⟩] [some (.int .i64 r5), none, none, none] [2] [pl 2 (.bool ((r2 == 0) || (r5 == 0)))] hF hS (by kernel_rfl) (by kernel_rfl) ?_ (fun a w hF hS => ?_)
      · exact obs_cons (ob_call Try.func67 (by kernel_rfl) rfl (fun hy _ hS => mancala_sum_w (ite_some hr5 (by rw [show (r2 == 0) = false from hy ((r2 == 0), false) (by simp)]; try rfl)) hS (fun _ hS => (Rd.cutF (hr_g1 _ (hS.dropN 1)) hb2 _hc_g1)) (cap_cut hb2 _hc_g1) rfl)) <| obs_nil
      refine at_end [2] [pl 2 (.bool ((r2 == 0) || (r5 == 0)))] hF rfl (by kernel_rfl) (fun hF => ?_)
      refine then_n ?_
      have hS := hS.pickN 1 [] (by decide)
      exact ⟨((r2 == 0) || (r5 == 0)), hF.weak [2] (by kernel_rfl), hS, hm⟩

noncomputable def mancala_game_sow_2_J2 (g1 : List Int) (g2 : Int) (g5 : List Int) (hand1 : Int) (at1 : Int) : Option (St (List Int × Int × Int) (List Int × Int)) :=
  asrt ((w64 ((w64 (2 * g2)) + 1)) ≠ (0 : Int)) <| asrt (0 ≤ (Int.tmod (w64 (at1 + 1)) (w64 ((w64 (2 * g2)) + 1))) ∧ (Int.tmod (w64 (at1 + 1)) (w64 ((w64 (2 * g2)) + 1))) < (g1.length : Int)) <| asrt (0 ≤ (Int.tmod (w64 (at1 + 1)) (w64 ((w64 (2 * g2)) + 1))) ∧ (Int.tmod (w64 (at1 + 1)) (w64 ((w64 (2 * g2)) + 1))) < (g1.length : Int)) <| some (.next ((g5.set (Int.toNat (Int.tmod (w64 (at1 + 1)) (w64 ((w64 (2 * g2)) + 1)))) (w64 ((geti g5 (Int.tmod (w64 (at1 + 1)) (w64 ((w64 (2 * g2)) + 1)))) + 1))), (w64 (hand1 - 1)), (Int.tmod (w64 (at1 + 1)) (w64 ((w64 (2 * g2)) + 1)))))

noncomputable def mancala_game_sow_2_J4 (g2 : Int) (at2 : Int) (g10 : List Int) : Option (Bool × List Int) :=
  some ((at2 == g2), g10)

noncomputable def mancala_game_sow_2_J6 (g2 : Int) (at2 : Int) (g9 : List Int) : Option (Bool × List Int) :=
  (mancala_game_own_m g9 g2).bind fun r6 => (mancala_game_other_m (putL g9 (Int.toNat r6.1) (List.replicate ((cut g9 r6.1 r6.2).length) (0 : Int))) g2).bind fun r7 => (mancala_game_sow_2_J4 g2 at2) (putL (putL g9 (Int.toNat r6.1) (List.replicate ((cut g9 r6.1 r6.2).length) (0 : Int))) (Int.toNat r7.1) (List.replicate ((cut (putL g9 (Int.toNat r6.1) (List.replicate ((cut g9 r6.1 r6.2).length) (0 : Int))) r7.1 r7.2).length) (0 : Int)))

noncomputable def mancala_game_sow_2_J5 (g1 : List Int) (g2 : Int) (at2 : Int) (g8 : List Int) : Option (Bool × List Int) :=
  asrt (0 ≤ (w64 ((w64 (2 * g2)) + 1)) ∧ (w64 ((w64 (2 * g2)) + 1)) < (g1.length : Int)) <| (mancala_game_other_m g8 g2).bind fun r4 => (mancala_sum_m (cut g8 r4.1 r4.2)).bind fun r5 => asrt (0 ≤ (w64 ((w64 (2 * g2)) + 1)) ∧ (w64 ((w64 (2 * g2)) + 1)) < (g1.length : Int)) <| (mancala_game_sow_2_J6 g2 at2) (g8.set (Int.toNat (w64 ((w64 (2 * g2)) + 1))) (w64 ((geti g8 (w64 ((w64 (2 * g2)) + 1))) + r5)))

noncomputable def mancala_game_sow_2_J3 (g1 : List Int) (g2 : Int) (at2 : Int) (g7 : List Int) : Option (Bool × List Int) :=
  (mancala_game_over_m g7 g2).bind fun r1 => if r1 then (asrt (0 ≤ g2 ∧ g2 < (g1.length : Int)) <| (mancala_game_own_m g7 g2).bind fun r2 => (mancala_sum_m (cut g7 r2.1 r2.2)).bind fun r3 => asrt (0 ≤ g2 ∧ g2 < (g1.length : Int)) <| (mancala_game_sow_2_J5 g1 g2 at2) (g7.set (Int.toNat g2) (w64 ((geti g7 g2) + r3)))) else ((mancala_game_sow_2_J4 g2 at2) g7)

noncomputable def mancala_game_sow_2_J1 (g1 : List Int) (g2 : Int) (g6 : List Int) (at2 : Int) : Option (Bool × List Int) :=
  asrt ((decide (at2 < g2)) = true → 0 ≤ at2 ∧ at2 < (g1.length : Int)) <| asrt (((decide (at2 < g2)) && ((geti g6 at2) == 1)) = true → 0 ≤ (w64 ((w64 (2 * g2)) - at2)) ∧ (w64 ((w64 (2 * g2)) - at2)) < (g1.length : Int)) <| if (((decide (at2 < g2)) && ((geti g6 at2) == 1)) && (decide ((0 : Int) < (geti g6 (w64 ((w64 (2 * g2)) - at2)))))) then (asrt (0 ≤ g2 ∧ g2 < (g1.length : Int)) <| asrt (0 ≤ (w64 ((w64 (2 * g2)) - at2)) ∧ (w64 ((w64 (2 * g2)) - at2)) < (g1.length : Int)) <| asrt (0 ≤ g2 ∧ g2 < (g1.length : Int)) <| asrt (0 ≤ at2 ∧ at2 < (g1.length : Int)) <| asrt (0 ≤ (w64 ((w64 (2 * g2)) - at2)) ∧ (w64 ((w64 (2 * g2)) - at2)) < (g1.length : Int)) <| (mancala_game_sow_2_J3 g1 g2 at2) (((g6.set (Int.toNat g2) (w64 ((geti g6 g2) + (w64 (1 + (geti g6 (w64 ((w64 (2 * g2)) - at2)))))))).set (Int.toNat at2) 0).set (Int.toNat (w64 ((w64 (2 * g2)) - at2))) 0)) else ((mancala_game_sow_2_J3 g1 g2 at2) g6)

noncomputable def mancala_game_sow_2_K1 (g1 : List Int) (g2 : Int) : (List Int × Int) → Option (Bool × List Int) :=
  fun (x : (List Int × Int)) => match x with | (g6, at2) => (mancala_game_sow_2_J1 g1 g2) g6 at2

noncomputable def mancala_game_sow_2_L1 (g1 : List Int) (g2 : Int) : (List Int × Int × Int) → Option (St (List Int × Int × Int) (List Int × Int)) :=
  fun (x : (List Int × Int × Int)) => match x with | (g5, hand1, at1) => if (decide ((0 : Int) < hand1)) then ((mancala_game_sow_2_J2 g1 g2 g5 hand1 at1)) else (some (.done (g5, at1)))

noncomputable def mancala_game_sow_2_m (g1 : List Int) (g2 : Int) (pit1 : Int) : Option (Bool × List Int) :=
  asrt (0 ≤ pit1 ∧ pit1 < (g1.length : Int)) <| asrt (0 ≤ pit1 ∧ pit1 < (g1.length : Int)) <| (loop (mancala_game_sow_2_L1 g1 g2) ((g1.set (Int.toNat pit1) 0), (geti g1 pit1), pit1)).bind (mancala_game_sow_2_K1 g1 g2)

set_option maxRecDepth 100000 in
set_option maxHeartbeats 4000000 in
theorem mancala_game_sow_2_w {A1 : Option Addr} {c1 : Nat} {n1 : Nat} {g1 : List Int} {g2 : Int} {pit1 : Int} {r : (Bool × List Int)} {w0 w : World} {B : Nat} {fs : List HP} (hm : mancala_game_sow_2_m g1 g2 pit1 = some r) (hS : Sep w0 B w (own 3 (.slice A1 n1 c1) (vI g1) :: fs)) :
    Calls Try.prog 116 #[.agg #[.slice A1 n1 c1, .int .i64 g2], .int .i64 pit1] w fun e w' => ∃ v, e = .returned v ∧ v = .bool r.1 ∧ Sep w0 B w' (own 3 (.slice A1 n1 c1) (vI r.2) :: fs) := by
  obtain ⟨i3, hi3, hz3, hs3, hb3⟩ := info_parts Info3
  obtain rfl := (hS.at_ 0 rfl).len1
  unfold mancala_game_sow_2_m at hm
  replace hm := start_b hm
  refine enter (l := [.agg #[.slice A1 g1.length c1, .int .i64 g2], .int .i64 pit1]) (n := 117) Try.func116 rfl rfl (by simp) (fun a hF => ?_)
  refine seqR ?_
  refine at_do (d := 2) (s := vS (Instr.box 84 (.agg #[.slice A1 g1.length c1, .int .i64 g2]))) (v := .pointer (some ⟨w.heap.size, 0, none⟩)) (w' := w.alloc (.cells #[.slice A1 g1.length c1, .int .i64 g2] 84)) hF (by kernel_rfl) (by kernel_rfl) (by kernel_rfl) (fun a hF => ?_)
  have hS : Sep w0 B (w.alloc (.cells #[.slice A1 g1.length c1, .int .i64 g2] 84)) (blk w.heap.size 84 #[.slice A1 g1.length c1, .int .i64 g2] :: (own 3 (.slice A1 g1.length c1) (vI g1) :: fs)) := hS.box 84 #[.slice A1 g1.length c1, .int .i64 g2]
  generalize w.heap.size = g4 at hF hS
  generalize w.alloc (.cells #[.slice A1 g1.length c1, .int .i64 g2] 84) = w at hS ⊢
  refine at_run 1 [] [] [1, 2] [pl 1 (.int .i64 pit1), pl 2 (.pointer (some ⟨g4, 0, none⟩))] hF hS (by kernel_rfl) (by kernel_rfl) ?_ (fun a w hF hS => ?_)
  · exact obs_nil
  refine at_end [1, 2] [pl 1 (.int .i64 pit1), pl 2 (.pointer (some ⟨g4, 0, none⟩))] hF rfl (by kernel_rfl) (fun hF => ?_)
  refine then_n ?_
  obtain ⟨hp1, hm⟩ := asrt_b hm
  refine reg [⟨false, [], vS (Instr.loadAt 22 (.pointer (some ⟨g4, 0, none⟩))), .slice A1 g1.length c1⟩, ⟨true, [], vS (Instr.indexAt 22 (.slice A1 g1.length c1) (.int .i64 pit1)), .pointer (some (sAddr A1 pit1))⟩, ⟨false, [], vS (Instr.loadAt 3 (.pointer (some (sAddr A1 pit1)))), .int .i64 (geti g1 pit1)⟩] [none, some (.slice A1 g1.length c1), none, some (.pointer (some (sAddr A1 pit1))), some (.int .i64 (geti g1 pit1)), none] [1, 2, 5] [pl 1 (.int .i64 pit1), pl 2 (.pointer (some ⟨g4, 0, none⟩)), pl 5 (.int .i64 (geti g1 pit1))] hF hS Fol (by kernel_rfl) (by kernel_rfl) (by kernel_rfl) ?_ (fun a w hF hS => ?_)
  · exact obs_cons (ob_load Agg22 (fun _ _ hS => (hS.at_ 0 rfl).cell rfl)) <| obs_cons (ob_ix1 (f := (Value.int .i64)) (m := g1) Und22 hi3 hs3 (hS.at_ 1 rfl).rd rfl (fun _ => hp1)) <| obs_cons (ob_get1 (n := g1.length) (m := g1) (Value.int .i64) (0 : Int) Agg3 (fun _ hS => ⟨_, (hS.at_ 1 rfl).rd⟩) (fun _ hS => rfl) (fun _ => hp1)) <| obs_nil
  refine seqR ?_
  obtain ⟨hp2, hm⟩ := asrt_b hm
  refine at_run 4 [⟨false, [], vS (Instr.loadAt 22 (.pointer (some ⟨g4, 0, none⟩))), .slice A1 g1.length c1⟩, ⟨true, [], vS (Instr.indexAt 22 (.slice A1 g1.length c1) (.int .i64 pit1)), .pointer (some (sAddr A1 pit1))⟩] [none, some (.slice A1 g1.length c1), none, some (.pointer (some (sAddr A1 pit1)))] [1, 2, 5, 16] [pl 1 (.int .i64 pit1), pl 2 (.pointer (some ⟨g4, 0, none⟩)), pl 5 (.int .i64 (geti g1 pit1)), pl 16 (.pointer (some (sAddr A1 pit1)))] hF hS (by kernel_rfl) (by kernel_rfl) ?_ (fun a w hF hS => ?_)
  · exact obs_cons (ob_load Agg22 (fun _ _ hS => (hS.at_ 0 rfl).cell rfl)) <| obs_cons (ob_ix1 (f := (Value.int .i64)) (m := g1) Und22 hi3 hs3 (hS.at_ 1 rfl).rd rfl (fun _ => hp2)) <| obs_nil
  obtain ⟨w, hrun, hS⟩ := run_set1 (P := Try.prog) (t := 3) (x := 0) (Value.int .i64) (hS.at_ 1 rfl) hi3 hs3 rfl rfl hp2
  refine at_skip hF (by kernel_rfl) hrun ?_
  have hS : Sep w0 B w (blk g4 84 #[.slice A1 g1.length c1, .int .i64 g2] :: own 3 (.slice A1 g1.length c1) (vI (g1.set (Int.toNat pit1) 0)) :: fs) := hS
  refine at_end [1, 2, 5] [pl 1 (.int .i64 pit1), pl 2 (.pointer (some ⟨g4, 0, none⟩)), pl 5 (.int .i64 (geti g1 pit1))] hF rfl (by kernel_rfl) (fun hF => ?_)
  refine then_n ?_
  refine reg [] [] [2, 5, 6] [pl 2 (.pointer (some ⟨g4, 0, none⟩)), pl 5 (.int .i64 (geti g1 pit1)), pl 6 (.int .i64 pit1)] hF hS Fol (by kernel_rfl) (by kernel_rfl) (by kernel_rfl) ?_ (fun a w hF hS => ?_)
  · exact obs_nil
  refine seq_cut (fun a w => ∃ (g6 : List Int) (at2 : Int), Fr 117 [pl 2 (.pointer (some ⟨g4, 0, none⟩)), pl 6 (.int .i64 at2)] a ∧ Sep w0 B w (blk g4 84 #[.slice A1 g1.length c1, .int .i64 g2] :: own 3 (.slice A1 g1.length c1) (vI g6) :: fs) ∧ ((mancala_game_sow_2_J1 g1 g2) g6 at2).bind some = some r) ?_ ?_
  · rintro a w ⟨g6, at2, hF, hS, hm⟩
    unfold mancala_game_sow_2_J1 at hm
    refine seq_cut (fun a w => ∃ (g7 : List Int), Fr 117 [pl 2 (.pointer (some ⟨g4, 0, none⟩)), pl 6 (.int .i64 at2)] a ∧ Sep w0 B w (blk g4 84 #[.slice A1 g1.length c1, .int .i64 g2] :: own 3 (.slice A1 g1.length c1) (vI g7) :: fs) ∧ ((mancala_game_sow_2_J3 g1 g2 at2) g7).bind some = some r) ?_ ?_
    · rintro a w ⟨g7, hF, hS, hm⟩
      unfold mancala_game_sow_2_J3 at hm
      refine seq_cut (fun a w => ∃ (g10 : List Int), Fr 117 [pl 2 (.pointer (some ⟨g4, 0, none⟩)), pl 6 (.int .i64 at2)] a ∧ Sep w0 B w (blk g4 84 #[.slice A1 g1.length c1, .int .i64 g2] :: own 3 (.slice A1 g1.length c1) (vI g10) :: fs) ∧ ((mancala_game_sow_2_J4 g2 at2) g10).bind some = some r) ?_ ?_
      · rintro a w ⟨g10, hF, hS, hm⟩
        unfold mancala_game_sow_2_J4 at hm
        refine reg [⟨false, [], vS (Instr.loadAt 3 (.pointer (some ⟨g4, 1, none⟩))), .int .i64 g2⟩] [none, none, some (.int .i64 g2), none, none] [4] [pl 4 (.bool (at2 == g2))] hF hS Fol (by kernel_rfl) (by kernel_rfl) (by kernel_rfl) ?_ (fun a w hF hS => ?_)
        · exact obs_cons (ob_load Agg3 (fun _ _ hS => (hS.at_ 0 rfl).cell rfl)) <| obs_nil
        refine wp_ret ?_
        have hS := hS.pickN 2 [1] (by decide)
        have hm : some ((at2 == g2), g10) = some r := hm
        obtain rfl := Option.some.inj hm
        exact retV (rs := [.tmp 4]) (vs := [.bool (at2 == g2)]) hF rfl (rv_t (by kernel_rfl) <| rv_nil) rfl ⟨_, rfl, rfl, hS⟩
      · obtain ⟨r1, hr1, hm⟩ := call_b hm
        refine reg [⟨false, [], vS (Instr.loadAt 84 (.pointer (some ⟨g4, 0, none⟩))), .agg #[.slice A1 g1.length c1, .int .i64 g2]⟩, ⟨false, [], callFunc 115 #[.agg #[.slice A1 g1.length c1, .int .i64 g2]], .bool r1⟩] [some (.agg #[.slice A1 g1.length c1, .int .i64 g2]), some (.bool r1)] [2, 6, 84] [pl 2 (.pointer (some ⟨g4, 0, none⟩)), pl 6 (.int .i64 at2), pl 84 (.bool r1)] hF hS Fol (by kernel_rfl) (by kernel_rfl) (by kernel_rfl) ?_ (fun a w hF hS => ?_)
        · exact obs_cons (ob_loadA (cs := #[.slice A1 g1.length c1, .int .i64 g2]) (by kernel_rfl) (by kernel_rfl) (fun _ _ hS => (hS.at_ 0 rfl).cellsAt 0 (by rfl))) <| obs_cons (ob_call Try.func115 (by kernel_rfl) rfl (fun _ _ hS => mancala_game_over_w hr1 hS (fun _ hS => (hS.at_ 1 rfl).rd) ((hS.at_ 1 rfl).cap1) ((hS.at_ 1 rfl).len1))) <| obs_nil
        refine cond_ev (t := 84) (b := r1) hF (by kernel_rfl) (fun hb => ?_) (fun hb => ?_)
        · replace hm := if_t hm hb
          refine seq_cut (fun a w => ∃ (g8 : List Int), Fr 117 [pl 2 (.pointer (some ⟨g4, 0, none⟩)), pl 6 (.int .i64 at2)] a ∧ Sep w0 B w (blk g4 84 #[.slice A1 g1.length c1, .int .i64 g2] :: own 3 (.slice A1 g1.length c1) (vI g8) :: fs) ∧ ((mancala_game_sow_2_J5 g1 g2 at2) g8).bind some = some r) ?_ ?_
          · rintro a w ⟨g8, hF, hS, hm⟩
            unfold mancala_game_sow_2_J5 at hm
            refine seq_cut (fun a w => ∃ (g9 : List Int), Fr 117 [pl 2 (.pointer (some ⟨g4, 0, none⟩)), pl 6 (.int .i64 at2)] a ∧ Sep w0 B w (blk g4 84 #[.slice A1 g1.length c1, .int .i64 g2] :: own 3 (.slice A1 g1.length c1) (vI g9) :: fs) ∧ ((mancala_game_sow_2_J6 g2 at2) g9).bind some = some r) ?_ ?_
            · rintro a w ⟨g9, hF, hS, hm⟩
              unfold mancala_game_sow_2_J6 at hm
              refine seqR ?_
              obtain ⟨r6, hr6, hm⟩ := call_b hm
              refine at_run 1 [⟨false, [], vS (Instr.loadAt 84 (.pointer (some ⟨g4, 0, none⟩))), .agg #[.slice A1 g1.length c1, .int .i64 g2]⟩] [some (.agg #[.slice A1 g1.length c1, .int .i64 g2])] [2, 6, 109] [pl 2 (.pointer (some ⟨g4, 0, none⟩)), pl 6 (.int .i64 at2), pl 109 (.agg #[.slice A1 g1.length c1, .int .i64 g2])] hF hS (by kernel_rfl) (by kernel_rfl) ?_ (fun a w hF hS => ?_)
              · exact obs_cons (ob_loadA (cs := #[.slice A1 g1.length c1, .int .i64 g2]) (by kernel_rfl) (by kernel_rfl) (fun _ _ hS => (hS.at_ 0 rfl).cellsAt 0 (by rfl))) <| obs_nil
              refine at_call (f := 68) (args := #[.agg #[.slice A1 g1.length c1, .int .i64 g2]]) (d := 110) hF (by kernel_rfl) (by kernel_rfl) Try.func68 (by kernel_rfl) rfl (mancala_game_own_w hr6 hS (fun _ hS => (hS.at_ 1 rfl).rd) ((hS.at_ 1 rfl).cap1) ((hS.at_ 1 rfl).len1)) (fun v a w hR hF => ?_)
              clear hS
              obtain ⟨rfl, hb5, hS⟩ := hR
              have hS : Sep w0 B w (blk g4 84 #[.slice A1 g1.length c1, .int .i64 g2] :: own 3 (.slice A1 g1.length c1) (vI g9) :: fs) := hS
              obtain ⟨w, hrun, hS⟩ := run_clearC (P := Try.prog) (t := 22) (ty := 0) (dc := (c1 - Int.toNat r6.1)) (hS.at_ 1 rfl) Und22 hi3 hz3 hb5
              refine at_skipV hF (by kernel_rfl) hrun ?_
              have hS : Sep w0 B w (blk g4 84 #[.slice A1 g1.length c1, .int .i64 g2] :: own 3 (.slice A1 g1.length c1) (vI (putL g9 (Int.toNat r6.1) (List.replicate ((cut g9 r6.1 r6.2).length) (0 : Int)))) :: fs) := hS
              refine at_end [2, 6] [pl 2 (.pointer (some ⟨g4, 0, none⟩)), pl 6 (.int .i64 at2)] hF rfl (by kernel_rfl) (fun hF => ?_)
              refine then_n ?_
              refine oneR ?_
              obtain ⟨r7, hr7, hm⟩ := call_b hm
              refine at_run 1 [⟨false, [], vS (Instr.loadAt 84 (.pointer (some ⟨g4, 0, none⟩))), .agg #[.slice A1 g1.length c1, .int .i64 g2]⟩] [some (.agg #[.slice A1 g1.length c1, .int .i64 g2])] [2, 6, 111] [pl 2 (.pointer (some ⟨g4, 0, none⟩)), pl 6 (.int .i64 at2), pl 111 (.agg #[.slice A1 g1.length c1, .int .i64 g2])] hF hS (by kernel_rfl) (by kernel_rfl) ?_ (fun a w hF hS => ?_)
              · exact obs_cons (ob_loadA (cs := #[.slice A1 g1.length c1, .int .i64 g2]) (by kernel_rfl) (by kernel_rfl) (fun _ _ hS => (hS.at_ 0 rfl).cellsAt 0 (by rfl))) <| obs_nil
              refine at_call (f := 69) (args := #[.agg #[.slice A1 g1.length c1, .int .i64 g2]]) (d := 112) hF (by kernel_rfl) (by kernel_rfl) Try.func69 (by kernel_rfl) rfl (mancala_game_other_w hr7 hS (fun _ hS => (hS.at_ 1 rfl).rd) ((hS.at_ 1 rfl).cap1) ((hS.at_ 1 rfl).len1)) (fun v a w hR hF => ?_)
              clear hS
              obtain ⟨rfl, hb6, hS⟩ := hR
              have hS : Sep w0 B w (blk g4 84 #[.slice A1 g1.length c1, .int .i64 g2] :: own 3 (.slice A1 g1.length c1) (vI (putL g9 (Int.toNat r6.1) (List.replicate ((cut g9 r6.1 r6.2).length) (0 : Int)))) :: fs) := hS
              obtain ⟨w, hrun, hS⟩ := run_clearC (P := Try.prog) (t := 22) (ty := 0) (dc := (c1 - Int.toNat r7.1)) (hS.at_ 1 rfl) Und22 hi3 hz3 hb6
              refine at_skipV hF (by kernel_rfl) hrun ?_
              have hS : Sep w0 B w (blk g4 84 #[.slice A1 g1.length c1, .int .i64 g2] :: own 3 (.slice A1 g1.length c1) (vI (putL (putL g9 (Int.toNat r6.1) (List.replicate ((cut g9 r6.1 r6.2).length) (0 : Int))) (Int.toNat r7.1) (List.replicate ((cut (putL g9 (Int.toNat r6.1) (List.replicate ((cut g9 r6.1 r6.2).length) (0 : Int))) r7.1 r7.2).length) (0 : Int)))) :: fs) := hS
              refine at_end [2, 6] [pl 2 (.pointer (some ⟨g4, 0, none⟩)), pl 6 (.int .i64 at2)] hF rfl (by kernel_rfl) (fun hF => ?_)
              refine then_n ?_
              exact ⟨(putL (putL g9 (Int.toNat r6.1) (List.replicate ((cut g9 r6.1 r6.2).length) (0 : Int))) (Int.toNat r7.1) (List.replicate ((cut (putL g9 (Int.toNat r6.1) (List.replicate ((cut g9 r6.1 r6.2).length) (0 : Int))) r7.1 r7.2).length) (0 : Int))), hF.weak [2, 6] (by kernel_rfl), hS, hm⟩
            · obtain ⟨hp15, hm⟩ := asrt_b hm
              obtain ⟨r4, hr4, hm⟩ := call_b hm
              obtain ⟨r5, hr5, hm⟩ := call_b hm
              obtain ⟨hp16, hm⟩ := asrt_b hm
              refine regMix5 [0, 1, 2, 3, 4, 5, 6, 7, 8] [13] 5 #[true, true, true, true, true, true, true, true, true, false, false, false, false, false] [⟨false, [], vS (Instr.loadAt 22 (.pointer (some ⟨g4, 0, none⟩))), .slice A1 g1.length c1⟩, ⟨false, [], vS (Instr.loadAt 3 (.pointer (some ⟨g4, 1, none⟩))), .int .i64 g2⟩, ⟨true, [], vS (Instr.indexAt 22 (.slice A1 g1.length c1) (.int .i64 (w64 ((w64 (2 * g2)) + 1)))), .pointer (some (sAddr A1 (w64 ((w64 (2 * g2)) + 1))))⟩, ⟨false, [], vS (Instr.loadAt 3 (.pointer (some (sAddr A1 (w64 ((w64 (2 * g2)) + 1)))))), .int .i64 (geti g8 (w64 ((w64 (2 * g2)) + 1)))⟩, ⟨false, [], vS (Instr.loadAt 84 (.pointer (some ⟨g4, 0, none⟩))), .agg #[.slice A1 g1.length c1, .int .i64 g2]⟩] [none, some (.slice A1 g1.length c1), none, some (.int .i64 g2), none, none, some (.pointer (some (sAddr A1 (w64 ((w64 (2 * g2)) + 1))))), some (.int .i64 (geti g8 (w64 ((w64 (2 * g2)) + 1)))), some (.agg #[.slice A1 g1.length c1, .int .i64 g2])] [2, 6, 97, 101, 103, 104] [pl 2 (.pointer (some ⟨g4, 0, none⟩)), pl 6 (.int .i64 at2), pl 97 (.slice A1 g1.length c1), pl 101 (.int .i64 (w64 ((w64 (2 * g2)) + 1))), pl 103 (.int .i64 (geti g8 (w64 ((w64 (2 * g2)) + 1)))), pl 104 (.agg #[.slice A1 g1.length c1, .int .i64 g2])] hF hS Fol (by kernel_rfl) (by kernel_rfl) (by kernel_rfl) (by kernel_rfl) ?_ (fun a w hF hS => ?_)
              · exact obs_cons (ob_load Agg22 (fun _ _ hS => (hS.at_ 0 rfl).cell rfl)) <| obs_cons (ob_load Agg3 (fun _ _ hS => (hS.at_ 0 rfl).cell rfl)) <| obs_cons (ob_ix1 (f := (Value.int .i64)) (m := g8) Und22 hi3 hs3 (hS.at_ 1 rfl).rd ((hS.at_ 1 rfl).len1) (fun _ => hp15)) <| obs_cons (ob_get1 (n := g1.length) (m := g8) (Value.int .i64) (0 : Int) Agg3 (fun _ hS => ⟨_, (hS.at_ 1 rfl).rd⟩) (fun _ hS => ((hS.at_ 1 rfl).len1)) (fun _ => hp15)) <| obs_cons (ob_loadA (cs := #[.slice A1 g1.length c1, .int .i64 g2]) (by kernel_rfl) (by kernel_rfl) (fun _ _ hS => (hS.at_ 0 rfl).cellsAt 0 (by rfl))) <| obs_nil
              refine any_step [9] (by kernel_rfl) rfl ?_
              refine (all_cons ?_ all_nil)
              · refine any_op (listed' := #[true, true, true, true, true, true, true, true, true, true, false, false, false, false]) (by kernel_rfl) (by kernel_rfl) ?_
                refine at_call (f := 69) (args := #[.agg #[.slice A1 g1.length c1, .int .i64 g2]]) (d := 105) hF (by kernel_rfl) (by kernel_rfl) Try.func69 (by kernel_rfl) rfl (mancala_game_other_w hr4 hS (fun _ hS => (hS.at_ 1 rfl).rd) ((hS.at_ 1 rfl).cap1) ((hS.at_ 1 rfl).len1)) (fun v a w hR hF => ?_)
                clear hS
                obtain ⟨rfl, hb4, hS⟩ := hR
                have hS : Sep w0 B w (blk g4 84 #[.slice A1 g1.length c1, .int .i64 g2] :: own 3 (.slice A1 g1.length c1) (vI g8) :: fs) := hS
                refine any_fin rfl hS ?_
                refine any_step [10] (by kernel_rfl) rfl ?_
                refine (all_cons ?_ all_nil)
                · refine any_op (listed' := #[true, true, true, true, true, true, true, true, true, true, true, false, false, false]) (by kernel_rfl) (by kernel_rfl) ?_
                  refine at_run 1 [⟨false, [], callFunc 67 #[.slice (cutAddr A1 c1 r4.1) ((cut g8 r4.1 r4.2).length) (c1 - Int.toNat r4.1)], .int .i64 r5⟩] [some (.int .i64 r5)] [2, 6, 97, 101, 103, 106] [pl 2 (.pointer (some ⟨g4, 0, none⟩)), pl 6 (.int .i64 at2), pl 97 (.slice A1 g1.length c1), pl 101 (.int .i64 (w64 ((w64 (2 * g2)) + 1))), pl 103 (.int .i64 (geti g8 (w64 ((w64 (2 * g2)) + 1)))), pl 106 (.int .i64 r5)] hF hS (by kernel_rfl) (by kernel_rfl) ?_ (fun a w hF hS => ?_)
                  · exact obs_cons (ob_call Try.func67 (by kernel_rfl) rfl (fun _ _ hS => mancala_sum_w hr5 hS (fun _ hS => (Rd.cutF (hS.at_ 1 rfl).rd hb4 ((hS.at_ 1 rfl).cap1))) (cap_cut hb4 ((hS.at_ 1 rfl).cap1)) rfl)) <| obs_nil
                  refine any_fin rfl hS ?_
                  refine any_step [11] (by kernel_rfl) rfl ?_
                  refine (all_cons ?_ all_nil)
                  · refine any_op (listed' := #[true, true, true, true, true, true, true, true, true, true, true, true, false, false]) (by kernel_rfl) (by kernel_rfl) ?_
                    refine at_runW 1 [] [] [2, 6, 97, 101, 107] [pl 2 (.pointer (some ⟨g4, 0, none⟩)), pl 6 (.int .i64 at2), pl 97 (.slice A1 g1.length c1), pl 101 (.int .i64 (w64 ((w64 (2 * g2)) + 1))), pl 107 (.int .i64 (w64 ((geti g8 (w64 ((w64 (2 * g2)) + 1))) + r5)))] hF hS (by kernel_rfl) (by kernel_rfl) ?_ (fun a hF => ?_)
                    · exact obs_nil
                    refine any_finI rfl (fun h => h) ?_
                    refine any_step [12] (by kernel_rfl) rfl ?_
                    refine (all_cons ?_ all_nil)
                    · refine any_op (listed' := #[true, true, true, true, true, true, true, true, true, true, true, true, true, false]) (by kernel_rfl) (by kernel_rfl) ?_
                      refine at_runW 1 [⟨true, [], vS (Instr.indexAt 22 (.slice A1 g1.length c1) (.int .i64 (w64 ((w64 (2 * g2)) + 1)))), .pointer (some (sAddr A1 (w64 ((w64 (2 * g2)) + 1))))⟩] [some (.pointer (some (sAddr A1 (w64 ((w64 (2 * g2)) + 1)))))] [2, 6, 107, 108] [pl 2 (.pointer (some ⟨g4, 0, none⟩)), pl 6 (.int .i64 at2), pl 107 (.int .i64 (w64 ((geti g8 (w64 ((w64 (2 * g2)) + 1))) + r5))), pl 108 (.pointer (some (sAddr A1 (w64 ((w64 (2 * g2)) + 1)))))] hF hS (by kernel_rfl) (by kernel_rfl) ?_ (fun a hF => ?_)
                      · exact obs_cons (ob_ix1 (f := (Value.int .i64)) (m := g8) Und22 hi3 hs3 (hS.at_ 1 rfl).rd ((hS.at_ 1 rfl).len1) (fun _ => hp16)) <| obs_nil
                      refine any_finI rfl (fun h => h) ?_
                      refine any_step [13] (by kernel_rfl) rfl ?_
                      refine (all_cons ?_ all_nil)
                      · refine any_op (listed' := #[true, true, true, true, true, true, true, true, true, true, true, true, true, true]) (by kernel_rfl) (by kernel_rfl) ?_
                        obtain ⟨w, hrun, hS⟩ := run_set1 (P := Try.prog) (t := 3) (x := (w64 ((geti g8 (w64 ((w64 (2 * g2)) + 1))) + r5))) (Value.int .i64) (hS.at_ 1 rfl) hi3 hs3 rfl rfl hp16
                        refine at_skip hF (by kernel_rfl) hrun ?_
                        have hS : Sep w0 B w (blk g4 84 #[.slice A1 g1.length c1, .int .i64 g2] :: own 3 (.slice A1 g1.length c1) (vI (g8.set (Int.toNat (w64 ((w64 (2 * g2)) + 1))) (w64 ((geti g8 (w64 ((w64 (2 * g2)) + 1))) + r5)))) :: fs) := hS
                        refine any_finE rfl (by decide) ?_
                        refine any_end (by kernel_rfl) ?_
                        refine np_n ?_
                        refine then_n ?_
                        exact ⟨(g8.set (Int.toNat (w64 ((w64 (2 * g2)) + 1))) (w64 ((geti g8 (w64 ((w64 (2 * g2)) + 1))) + r5))), hF.weak [2, 6] (by kernel_rfl), hS, hm⟩
          · obtain ⟨hp13, hm⟩ := asrt_b hm
            obtain ⟨r2, hr2, hm⟩ := call_b hm
            obtain ⟨r3, hr3, hm⟩ := call_b hm
            obtain ⟨hp14, hm⟩ := asrt_b hm
            refine regMix5 [0, 1, 2, 3, 4, 5, 6] [11] 5 #[true, true, true, true, true, true, true, false, false, false, false, false] [⟨false, [], vS (Instr.loadAt 22 (.pointer (some ⟨g4, 0, none⟩))), .slice A1 g1.length c1⟩, ⟨false, [], vS (Instr.loadAt 3 (.pointer (some ⟨g4, 1, none⟩))), .int .i64 g2⟩, ⟨true, [], vS (Instr.indexAt 22 (.slice A1 g1.length c1) (.int .i64 g2)), .pointer (some (sAddr A1 g2))⟩, ⟨false, [], vS (Instr.loadAt 3 (.pointer (some (sAddr A1 g2)))), .int .i64 (geti g7 g2)⟩, ⟨false, [], vS (Instr.loadAt 84 (.pointer (some ⟨g4, 0, none⟩))), .agg #[.slice A1 g1.length c1, .int .i64 g2]⟩] [none, some (.slice A1 g1.length c1), none, some (.int .i64 g2), some (.pointer (some (sAddr A1 g2))), some (.int .i64 (geti g7 g2)), some (.agg #[.slice A1 g1.length c1, .int .i64 g2])] [2, 6, 86, 88, 90, 91] [pl 2 (.pointer (some ⟨g4, 0, none⟩)), pl 6 (.int .i64 at2), pl 86 (.slice A1 g1.length c1), pl 88 (.int .i64 g2), pl 90 (.int .i64 (geti g7 g2)), pl 91 (.agg #[.slice A1 g1.length c1, .int .i64 g2])] hF hS Fol (by kernel_rfl) (by kernel_rfl) (by kernel_rfl) (by kernel_rfl) ?_ (fun a w hF hS => ?_)
            · exact obs_cons (ob_load Agg22 (fun _ _ hS => (hS.at_ 0 rfl).cell rfl)) <| obs_cons (ob_load Agg3 (fun _ _ hS => (hS.at_ 0 rfl).cell rfl)) <| obs_cons (ob_ix1 (f := (Value.int .i64)) (m := g7) Und22 hi3 hs3 (hS.at_ 1 rfl).rd ((hS.at_ 1 rfl).len1) (fun _ => hp13)) <| obs_cons (ob_get1 (n := g1.length) (m := g7) (Value.int .i64) (0 : Int) Agg3 (fun _ hS => ⟨_, (hS.at_ 1 rfl).rd⟩) (fun _ hS => ((hS.at_ 1 rfl).len1)) (fun _ => hp13)) <| obs_cons (ob_loadA (cs := #[.slice A1 g1.length c1, .int .i64 g2]) (by kernel_rfl) (by kernel_rfl) (fun _ _ hS => (hS.at_ 0 rfl).cellsAt 0 (by rfl))) <| obs_nil
            refine any_step [7] (by kernel_rfl) rfl ?_
            refine (all_cons ?_ all_nil)
            · refine any_op (listed' := #[true, true, true, true, true, true, true, true, false, false, false, false]) (by kernel_rfl) (by kernel_rfl) ?_
              refine at_call (f := 68) (args := #[.agg #[.slice A1 g1.length c1, .int .i64 g2]]) (d := 92) hF (by kernel_rfl) (by kernel_rfl) Try.func68 (by kernel_rfl) rfl (mancala_game_own_w hr2 hS (fun _ hS => (hS.at_ 1 rfl).rd) ((hS.at_ 1 rfl).cap1) ((hS.at_ 1 rfl).len1)) (fun v a w hR hF => ?_)
              clear hS
              obtain ⟨rfl, hb2, hS⟩ := hR
              have hS : Sep w0 B w (blk g4 84 #[.slice A1 g1.length c1, .int .i64 g2] :: own 3 (.slice A1 g1.length c1) (vI g7) :: fs) := hS
              refine any_fin rfl hS ?_
              refine any_step [8] (by kernel_rfl) rfl ?_
              refine (all_cons ?_ all_nil)
              · refine any_op (listed' := #[true, true, true, true, true, true, true, true, true, false, false, false]) (by kernel_rfl) (by kernel_rfl) ?_
                refine at_run 1 [⟨false, [], callFunc 67 #[.slice (cutAddr A1 c1 r2.1) ((cut g7 r2.1 r2.2).length) (c1 - Int.toNat r2.1)], .int .i64 r3⟩] [some (.int .i64 r3)] [2, 6, 86, 88, 90, 93] [pl 2 (.pointer (some ⟨g4, 0, none⟩)), pl 6 (.int .i64 at2), pl 86 (.slice A1 g1.length c1), pl 88 (.int .i64 g2), pl 90 (.int .i64 (geti g7 g2)), pl 93 (.int .i64 r3)] hF hS (by kernel_rfl) (by kernel_rfl) ?_ (fun a w hF hS => ?_)
                · exact obs_cons (ob_call Try.func67 (by kernel_rfl) rfl (fun _ _ hS => mancala_sum_w hr3 hS (fun _ hS => (Rd.cutF (hS.at_ 1 rfl).rd hb2 ((hS.at_ 1 rfl).cap1))) (cap_cut hb2 ((hS.at_ 1 rfl).cap1)) rfl)) <| obs_nil
                refine any_fin rfl hS ?_
                refine any_step [9] (by kernel_rfl) rfl ?_
                refine (all_cons ?_ all_nil)
                · refine any_op (listed' := #[true, true, true, true, true, true, true, true, true, true, false, false]) (by kernel_rfl) (by kernel_rfl) ?_
                  refine at_runW 1 [] [] [2, 6, 86, 88, 94] [pl 2 (.pointer (some ⟨g4, 0, none⟩)), pl 6 (.int .i64 at2), pl 86 (.slice A1 g1.length c1), pl 88 (.int .i64 g2), pl 94 (.int .i64 (w64 ((geti g7 g2) + r3)))] hF hS (by kernel_rfl) (by kernel_rfl) ?_ (fun a hF => ?_)
                  · exact obs_nil
                  refine any_finI rfl (fun h => h) ?_
                  refine any_step [10] (by kernel_rfl) rfl ?_
                  refine (all_cons ?_ all_nil)
                  · refine any_op (listed' := #[true, true, true, true, true, true, true, true, true, true, true, false]) (by kernel_rfl) (by kernel_rfl) ?_
                    refine at_runW 1 [⟨true, [], vS (Instr.indexAt 22 (.slice A1 g1.length c1) (.int .i64 g2)), .pointer (some (sAddr A1 g2))⟩] [some (.pointer (some (sAddr A1 g2)))] [2, 6, 94, 95] [pl 2 (.pointer (some ⟨g4, 0, none⟩)), pl 6 (.int .i64 at2), pl 94 (.int .i64 (w64 ((geti g7 g2) + r3))), pl 95 (.pointer (some (sAddr A1 g2)))] hF hS (by kernel_rfl) (by kernel_rfl) ?_ (fun a hF => ?_)
                    · exact obs_cons (ob_ix1 (f := (Value.int .i64)) (m := g7) Und22 hi3 hs3 (hS.at_ 1 rfl).rd ((hS.at_ 1 rfl).len1) (fun _ => hp14)) <| obs_nil
                    refine any_finI rfl (fun h => h) ?_
                    refine any_step [11] (by kernel_rfl) rfl ?_
                    refine (all_cons ?_ all_nil)
                    · refine any_op (listed' := #[true, true, true, true, true, true, true, true, true, true, true, true]) (by kernel_rfl) (by kernel_rfl) ?_
                      obtain ⟨w, hrun, hS⟩ := run_set1 (P := Try.prog) (t := 3) (x := (w64 ((geti g7 g2) + r3))) (Value.int .i64) (hS.at_ 1 rfl) hi3 hs3 rfl rfl hp14
                      refine at_skip hF (by kernel_rfl) hrun ?_
                      have hS : Sep w0 B w (blk g4 84 #[.slice A1 g1.length c1, .int .i64 g2] :: own 3 (.slice A1 g1.length c1) (vI (g7.set (Int.toNat g2) (w64 ((geti g7 g2) + r3)))) :: fs) := hS
                      refine any_finE rfl (by decide) ?_
                      refine any_end (by kernel_rfl) ?_
                      refine np_n ?_
                      refine then_n ?_
                      exact ⟨(g7.set (Int.toNat g2) (w64 ((geti g7 g2) + r3))), hF.weak [2, 6] (by kernel_rfl), hS, hm⟩
        · replace hm := if_f hm hb
          refine wp_skip ?_
          refine then_n ?_
          exact ⟨g7, hF.weak [2, 6] (by kernel_rfl), hS, hm⟩
    · refine reg [⟨false, [], vS (Instr.loadAt 3 (.pointer (some ⟨g4, 1, none⟩))), .int .i64 g2⟩] [none, some (.int .i64 g2), none, none, none, none] [2, 6, 7] [pl 2 (.pointer (some ⟨g4, 0, none⟩)), pl 6 (.int .i64 at2), pl 7 (.int .i64 (w64 ((w64 (2 * g2)) - at2)))] hF hS Fol (by kernel_rfl) (by kernel_rfl) (by kernel_rfl) ?_ (fun a w hF hS => ?_)
      · exact obs_cons (ob_load Agg3 (fun _ _ hS => (hS.at_ 0 rfl).cell rfl)) <| obs_nil
      obtain ⟨hp6, hm⟩ := asrt_b hm
      obtain ⟨hp7, hm⟩ := asrt_b hm
      refine reg [⟨false, [], vS (Instr.loadAt 3 (.pointer (some ⟨g4, 1, none⟩))), .int .i64 g2⟩, ⟨false, [(decide (at2 < g2), true)], vS (Instr.loadAt 22 (.pointer (some ⟨g4, 0, none⟩))), .slice A1 g1.length c1⟩, ⟨true, [(decide (at2 < g2), true)], vS (Instr.indexAt 22 (.slice A1 g1.length c1) (.int .i64 at2)), .pointer (some (sAddr A1 at2))⟩, ⟨false, [(decide (at2 < g2), true)], vS (Instr.loadAt 3 (.pointer (some (sAddr A1 at2)))), .int .i64 (geti g6 at2)⟩, ⟨false, [((decide (at2 < g2)) && ((geti g6 at2) == 1), true)], vS (Instr.loadAt 22 (.pointer (some ⟨g4, 0, none⟩))), .slice A1 g1.length c1⟩, ⟨true, [((decide (at2 < g2)) && ((geti g6 at2) == 1), true)], vS (Instr.indexAt 22 (.slice A1 g1.length c1) (.int .i64 (w64 ((w64 (2 * g2)) - at2)))), .pointer (some (sAddr A1 (w64 ((w64 (2 * g2)) - at2))))⟩, ⟨false, [((decide (at2 < g2)) && ((geti g6 at2) == 1), true)], vS (Instr.loadAt 3 (.pointer (some (sAddr A1 (w64 ((w64 (2 * g2)) - at2)))))), .int .i64 (geti g6 (w64 ((w64 (2 * g2)) - at2)))⟩] [none, none, some (.int .i64 g2), none, none, none, some (.slice A1 g1.length c1), none, some (.pointer (some (sAddr A1 at2))), some (.int .i64 (geti g6 at2)), none, none, none, none, some (.slice A1 g1.length c1), none, some (.pointer (some (sAddr A1 (w64 ((w64 (2 * g2)) - at2))))), some (.int .i64 (geti g6 (w64 ((w64 (2 * g2)) - at2)))), none, none] [2, 6, 7, 60] [pl 2 (.pointer (some ⟨g4, 0, none⟩)), pl 6 (.int .i64 at2), pl 7 (.int .i64 (w64 ((w64 (2 * g2)) - at2))), pl 60 (.bool (((decide (at2 < g2)) && ((geti g6 at2) == 1)) && (decide ((0 : Int) < (geti g6 (w64 ((w64 (2 * g2)) - at2)))))))] hF hS Fol (by kernel_rfl) (by kernel_rfl) (by kernel_rfl) ?_ (fun a w hF hS => ?_)
      · exact obs_cons (ob_load Agg3 (fun _ _ hS => (hS.at_ 0 rfl).cell rfl)) <| obs_cons (ob_load Agg22 (fun _ _ hS => (hS.at_ 0 rfl).cell rfl)) <| obs_cons (ob_ix1 (f := (Value.int .i64)) (m := g6) Und22 hi3 hs3 (hS.at_ 1 rfl).rd ((hS.at_ 1 rfl).len1) (fun hy => hp6 (hy (decide (at2 < g2), true) (by simp)))) <| obs_cons (ob_get1 (n := g1.length) (m := g6) (Value.int .i64) (0 : Int) Agg3 (fun _ hS => ⟨_, (hS.at_ 1 rfl).rd⟩) (fun _ hS => ((hS.at_ 1 rfl).len1)) (fun hy => hp6 (hy (decide (at2 < g2), true) (by simp)))) <| obs_cons (ob_load Agg22 (fun _ _ hS => (hS.at_ 0 rfl).cell rfl)) <| obs_cons (ob_ix1 (f := (Value.int .i64)) (m := g6) Und22 hi3 hs3 (hS.at_ 1 rfl).rd ((hS.at_ 1 rfl).len1) (fun hy => hp7 (hy ((decide (at2 < g2)) && ((geti g6 at2) == 1), true) (by simp)))) <| obs_cons (ob_get1 (n := g1.length) (m := g6) (Value.int .i64) (0 : Int) Agg3 (fun _ hS => ⟨_, (hS.at_ 1 rfl).rd⟩) (fun _ hS => ((hS.at_ 1 rfl).len1)) (fun hy => hp7 (hy ((decide (at2 < g2)) && ((geti g6 at2) == 1), true) (by simp)))) <| obs_nil
      refine cond_ev (t := 60) (b := ((decide (at2 < g2)) && ((geti g6 at2) == 1)) && (decide ((0 : Int) < (geti g6 (w64 ((w64 (2 * g2)) - at2)))))) hF (by kernel_rfl) (fun hb => ?_) (fun hb => ?_)
      · replace hm := if_t hm hb
        refine wp_seq ?_
        obtain ⟨hp8, hm⟩ := asrt_b hm
        obtain ⟨hp9, hm⟩ := asrt_b hm
        obtain ⟨hp10, hm⟩ := asrt_b hm
        refine regMix4 [0, 1, 2, 3, 4, 5, 6, 7, 8, 9, 10, 11, 12, 13] [14] [⟨false, [], vS (Instr.loadAt 22 (.pointer (some ⟨g4, 0, none⟩))), .slice A1 g1.length c1⟩, ⟨false, [], vS (Instr.loadAt 3 (.pointer (some ⟨g4, 1, none⟩))), .int .i64 g2⟩, ⟨true, [], vS (Instr.indexAt 22 (.slice A1 g1.length c1) (.int .i64 g2)), .pointer (some (sAddr A1 g2))⟩, ⟨false, [], vS (Instr.loadAt 3 (.pointer (some (sAddr A1 g2)))), .int .i64 (geti g6 g2)⟩, ⟨false, [], vS (Instr.loadAt 22 (.pointer (some ⟨g4, 0, none⟩))), .slice A1 g1.length c1⟩, ⟨true, [], vS (Instr.indexAt 22 (.slice A1 g1.length c1) (.int .i64 (w64 ((w64 (2 * g2)) - at2)))), .pointer (some (sAddr A1 (w64 ((w64 (2 * g2)) - at2))))⟩, ⟨false, [], vS (Instr.loadAt 3 (.pointer (some (sAddr A1 (w64 ((w64 (2 * g2)) - at2)))))), .int .i64 (geti g6 (w64 ((w64 (2 * g2)) - at2)))⟩, ⟨true, [], vS (Instr.indexAt 22 (.slice A1 g1.length c1) (.int .i64 g2)), .pointer (some (sAddr A1 g2))⟩] [none, some (.slice A1 g1.length c1), none, some (.int .i64 g2), some (.pointer (some (sAddr A1 g2))), some (.int .i64 (geti g6 g2)), none, some (.slice A1 g1.length c1), none, some (.pointer (some (sAddr A1 (w64 ((w64 (2 * g2)) - at2))))), some (.int .i64 (geti g6 (w64 ((w64 (2 * g2)) - at2)))), none, none, some (.pointer (some (sAddr A1 g2)))] [2, 6, 7, 73, 74] [pl 2 (.pointer (some ⟨g4, 0, none⟩)), pl 6 (.int .i64 at2), pl 7 (.int .i64 (w64 ((w64 (2 * g2)) - at2))), pl 73 (.int .i64 (w64 ((geti g6 g2) + (w64 (1 + (geti g6 (w64 ((w64 (2 * g2)) - at2)))))))), pl 74 (.pointer (some (sAddr A1 g2)))] hF hS Fol (by kernel_rfl) (by kernel_rfl) (by kernel_rfl) (by kernel_rfl) (by kernel_rfl) ?_ (fun a w hF hS => ?_)
        · exact obs_cons (ob_load Agg22 (fun _ _ hS => (hS.at_ 0 rfl).cell rfl)) <| obs_cons (ob_load Agg3 (fun _ _ hS => (hS.at_ 0 rfl).cell rfl)) <| obs_cons (ob_ix1 (f := (Value.int .i64)) (m := g6) Und22 hi3 hs3 (hS.at_ 1 rfl).rd ((hS.at_ 1 rfl).len1) (fun _ => hp8)) <| obs_cons (ob_get1 (n := g1.length) (m := g6) (Value.int .i64) (0 : Int) Agg3 (fun _ hS => ⟨_, (hS.at_ 1 rfl).rd⟩) (fun _ hS => ((hS.at_ 1 rfl).len1)) (fun _ => hp8)) <| obs_cons (ob_load Agg22 (fun _ _ hS => (hS.at_ 0 rfl).cell rfl)) <| obs_cons (ob_ix1 (f := (Value.int .i64)) (m := g6) Und22 hi3 hs3 (hS.at_ 1 rfl).rd ((hS.at_ 1 rfl).len1) (fun _ => hp9)) <| obs_cons (ob_get1 (n := g1.length) (m := g6) (Value.int .i64) (0 : Int) Agg3 (fun _ hS => ⟨_, (hS.at_ 1 rfl).rd⟩) (fun _ hS => ((hS.at_ 1 rfl).len1)) (fun _ => hp9)) <| obs_cons (ob_ix1 (f := (Value.int .i64)) (m := g6) Und22 hi3 hs3 (hS.at_ 1 rfl).rd ((hS.at_ 1 rfl).len1) (fun _ => hp10)) <| obs_nil
        obtain ⟨w, hrun, hS⟩ := run_set1 (P := Try.prog) (t := 3) (x := (w64 ((geti g6 g2) + (w64 (1 + (geti g6 (w64 ((w64 (2 * g2)) - at2)))))))) (Value.int .i64) (hS.at_ 1 rfl) hi3 hs3 rfl rfl hp10
        refine at_skip hF (by kernel_rfl) hrun ?_
        have hS : Sep w0 B w (blk g4 84 #[.slice A1 g1.length c1, .int .i64 g2] :: own 3 (.slice A1 g1.length c1) (vI (g6.set (Int.toNat g2) (w64 ((geti g6 g2) + (w64 (1 + (geti g6 (w64 ((w64 (2 * g2)) - at2))))))))) :: fs) := hS
        refine at_end [2, 6, 7] [pl 2 (.pointer (some ⟨g4, 0, none⟩)), pl 6 (.int .i64 at2), pl 7 (.int .i64 (w64 ((w64 (2 * g2)) - at2)))] hF rfl (by kernel_rfl) (fun hF => ?_)
        refine np_n ?_
        refine then_n ?_
        obtain ⟨hp11, hm⟩ := asrt_b hm
        obtain ⟨hp12, hm⟩ := asrt_b hm
        refine regMix5 [0, 1, 2, 3, 5, 6] [7, 9] 4 #[true, true, true, true, false, true, true, false, false, false] [⟨false, [], vS (Instr.loadAt 22 (.pointer (some ⟨g4, 0, none⟩))), .slice A1 g1.length c1⟩, ⟨true, [], vS (Instr.indexAt 22 (.slice A1 g1.length c1) (.int .i64 at2)), .pointer (some (sAddr A1 at2))⟩] [none, some (.slice A1 g1.length c1), none, none, none, some (.pointer (some (sAddr A1 at2)))] [2, 6, 78, 80, 81] [pl 2 (.pointer (some ⟨g4, 0, none⟩)), pl 6 (.int .i64 at2), pl 78 (.pointer (some ⟨g4, 0, none⟩)), pl 80 (.int .i64 (w64 ((w64 (2 * g2)) - at2))), pl 81 (.pointer (some (sAddr A1 at2)))] hF hS Fol (by kernel_rfl) (by kernel_rfl) (by kernel_rfl) (by kernel_rfl) ?_ (fun a w hF hS => ?_)
        · exact obs_cons (ob_load Agg22 (fun _ _ hS => (hS.at_ 0 rfl).cell rfl)) <| obs_cons (ob_ix1 (f := (Value.int .i64)) (m := (g6.set (Int.toNat g2) (w64 ((geti g6 g2) + (w64 (1 + (geti g6 (w64 ((w64 (2 * g2)) - at2))))))))) Und22 hi3 hs3 (hS.at_ 1 rfl).rd ((hS.at_ 1 rfl).len1) (fun _ => hp11)) <| obs_nil
        refine any_step [4, 7] (by kernel_rfl) rfl ?_
        refine (all_cons ?_ (all_cons ?_ all_nil))
        · refine any_op (listed' := #[true, true, true, true, true, true, true, false, false, false]) (by kernel_rfl) (by kernel_rfl) ?_
          refine at_runW 1 [⟨false, [], vS (Instr.loadAt 22 (.pointer (some ⟨g4, 0, none⟩))), .slice A1 g1.length c1⟩] [some (.slice A1 g1.length c1)] [2, 6, 79, 80, 81] [pl 2 (.pointer (some ⟨g4, 0, none⟩)), pl 6 (.int .i64 at2), pl 79 (.slice A1 g1.length c1), pl 80 (.int .i64 (w64 ((w64 (2 * g2)) - at2))), pl 81 (.pointer (some (sAddr A1 at2)))] hF hS (by kernel_rfl) (by kernel_rfl) ?_ (fun a hF => ?_)
          · exact obs_cons (ob_load Agg22 (fun _ _ hS => (hS.at_ 0 rfl).cell rfl)) <| obs_nil
          refine any_finI rfl (fun h => h) ?_
          refine any_step [7] (by kernel_rfl) rfl ?_
          refine (all_cons ?_ all_nil)
          · refine any_op (listed' := #[true, true, true, true, true, true, true, true, false, false]) (by kernel_rfl) (by kernel_rfl) ?_
            obtain ⟨w, hrun, hS⟩ := run_set1 (P := Try.prog) (t := 3) (x := 0) (Value.int .i64) (hS.at_ 1 rfl) hi3 hs3 rfl rfl hp11
            refine at_skip hF (by kernel_rfl) hrun ?_
            have hS : Sep w0 B w (blk g4 84 #[.slice A1 g1.length c1, .int .i64 g2] :: own 3 (.slice A1 g1.length c1) (vI ((g6.set (Int.toNat g2) (w64 ((geti g6 g2) + (w64 (1 + (geti g6 (w64 ((w64 (2 * g2)) - at2)))))))).set (Int.toNat at2) 0)) :: fs) := hS
            refine any_finE rfl (by decide) ?_
            refine any_step [8] (by kernel_rfl) rfl ?_
            refine (all_cons ?_ all_nil)
            · refine any_op (listed' := #[true, true, true, true, true, true, true, true, true, false]) (by kernel_rfl) (by kernel_rfl) ?_
              refine at_runW 1 [⟨true, [], vS (Instr.indexAt 22 (.slice A1 g1.length c1) (.int .i64 (w64 ((w64 (2 * g2)) - at2)))), .pointer (some (sAddr A1 (w64 ((w64 (2 * g2)) - at2))))⟩] [some (.pointer (some (sAddr A1 (w64 ((w64 (2 * g2)) - at2)))))] [2, 6, 82] [pl 2 (.pointer (some ⟨g4, 0, none⟩)), pl 6 (.int .i64 at2), pl 82 (.pointer (some (sAddr A1 (w64 ((w64 (2 * g2)) - at2)))))] hF hS (by kernel_rfl) (by kernel_rfl) ?_ (fun a hF => ?_)
              · exact obs_cons (ob_ix1 (f := (Value.int .i64)) (m := ((g6.set (Int.toNat g2) (w64 ((geti g6 g2) + (w64 (1 + (geti g6 (w64 ((w64 (2 * g2)) - at2)))))))).set (Int.toNat at2) 0)) Und22 hi3 hs3 (hS.at_ 1 rfl).rd ((hS.at_ 1 rfl).len1) (fun _ => hp12)) <| obs_nil
              refine any_finI rfl (fun h => h) ?_
              refine any_step [9] (by kernel_rfl) rfl ?_
              refine (all_cons ?_ all_nil)
              · refine any_op (listed' := #[true, true, true, true, true, true, true, true, true, true]) (by kernel_rfl) (by kernel_rfl) ?_
                obtain ⟨w, hrun, hS⟩ := run_set1 (P := Try.prog) (t := 3) (x := 0) (Value.int .i64) (hS.at_ 1 rfl) hi3 hs3 rfl rfl hp12
                refine at_skip hF (by kernel_rfl) hrun ?_
                have hS : Sep w0 B w (blk g4 84 #[.slice A1 g1.length c1, .int .i64 g2] :: own 3 (.slice A1 g1.length c1) (vI (((g6.set (Int.toNat g2) (w64 ((geti g6 g2) + (w64 (1 + (geti g6 (w64 ((w64 (2 * g2)) - at2)))))))).set (Int.toNat at2) 0).set (Int.toNat (w64 ((w64 (2 * g2)) - at2))) 0)) :: fs) := hS
                refine any_finE rfl (by decide) ?_
                refine any_end (by kernel_rfl) ?_
                refine np_n ?_
                refine then_n ?_
                exact ⟨(((g6.set (Int.toNat g2) (w64 ((geti g6 g2) + (w64 (1 + (geti g6 (w64 ((w64 (2 * g2)) - at2)))))))).set (Int.toNat at2) 0).set (Int.toNat (w64 ((w64 (2 * g2)) - at2))) 0), hF.weak [2, 6] (by kernel_rfl), hS, hm⟩
        · refine any_op (listed' := #[true, true, true, true, false, true, true, true, false, false]) (by kernel_rfl) (by kernel_rfl) ?_
          obtain ⟨w, hrun, hS⟩ := run_set1 (P := Try.prog) (t := 3) (x := 0) (Value.int .i64) (hS.at_ 1 rfl) hi3 hs3 rfl rfl hp11
          refine at_skip hF (by kernel_rfl) hrun ?_
          have hS : Sep w0 B w (blk g4 84 #[.slice A1 g1.length c1, .int .i64 g2] :: own 3 (.slice A1 g1.length c1) (vI ((g6.set (Int.toNat g2) (w64 ((geti g6 g2) + (w64 (1 + (geti g6 (w64 ((w64 (2 * g2)) - at2)))))))).set (Int.toNat at2) 0)) :: fs) := hS
          refine any_finE rfl (by decide) ?_
          refine any_step [4] (by kernel_rfl) rfl ?_
          refine (all_cons ?_ all_nil)
          · refine any_op (listed' := #[true, true, true, true, true, true, true, true, false, false]) (by kernel_rfl) (by kernel_rfl) ?_
            refine at_runW 1 [⟨false, [], vS (Instr.loadAt 22 (.pointer (some ⟨g4, 0, none⟩))), .slice A1 g1.length c1⟩] [some (.slice A1 g1.length c1)] [2, 6, 79, 80] [pl 2 (.pointer (some ⟨g4, 0, none⟩)), pl 6 (.int .i64 at2), pl 79 (.slice A1 g1.length c1), pl 80 (.int .i64 (w64 ((w64 (2 * g2)) - at2)))] hF hS (by kernel_rfl) (by kernel_rfl) ?_ (fun a hF => ?_)
            · exact obs_cons (ob_load Agg22 (fun _ _ hS => (hS.at_ 0 rfl).cell rfl)) <| obs_nil
            refine any_finI rfl (fun h => h) ?_
            refine any_step [8] (by kernel_rfl) rfl ?_
            refine (all_cons ?_ all_nil)
            · refine any_op (listed' := #[true, true, true, true, true, true, true, true, true, false]) (by kernel_rfl) (by kernel_rfl) ?_
              refine at_runW 1 [⟨true, [], vS (Instr.indexAt 22 (.slice A1 g1.length c1) (.int .i64 (w64 ((w64 (2 * g2)) - at2)))), .pointer (some (sAddr A1 (w64 ((w64 (2 * g2)) - at2))))⟩] [some (.pointer (some (sAddr A1 (w64 ((w64 (2 * g2)) - at2)))))] [2, 6, 82] [pl 2 (.pointer (some ⟨g4, 0, none⟩)), pl 6 (.int .i64 at2), pl 82 (.pointer (some (sAddr A1 (w64 ((w64 (2 * g2)) - at2)))))] hF hS (by kernel_rfl) (by kernel_rfl) ?_ (fun a hF => ?_)
              · exact obs_cons (ob_ix1 (f := (Value.int .i64)) (m := ((g6.set (Int.toNat g2) (w64 ((geti g6 g2) + (w64 (1 + (geti g6 (w64 ((w64 (2 * g2)) - at2)))))))).set (Int.toNat at2) 0)) Und22 hi3 hs3 (hS.at_ 1 rfl).rd ((hS.at_ 1 rfl).len1) (fun _ => hp12)) <| obs_nil
              refine any_finI rfl (fun h => h) ?_
              refine any_step [9] (by kernel_rfl) rfl ?_
              refine (all_cons ?_ all_nil)
              · refine any_op (listed' := #[true, true, true, true, true, true, true, true, true, true]) (by kernel_rfl) (by kernel_rfl) ?_
                obtain ⟨w, hrun, hS⟩ := run_set1 (P := Try.prog) (t := 3) (x := 0) (Value.int .i64) (hS.at_ 1 rfl) hi3 hs3 rfl rfl hp12
                refine at_skip hF (by kernel_rfl) hrun ?_
                have hS : Sep w0 B w (blk g4 84 #[.slice A1 g1.length c1, .int .i64 g2] :: own 3 (.slice A1 g1.length c1) (vI (((g6.set (Int.toNat g2) (w64 ((geti g6 g2) + (w64 (1 + (geti g6 (w64 ((w64 (2 * g2)) - at2)))))))).set (Int.toNat at2) 0).set (Int.toNat (w64 ((w64 (2 * g2)) - at2))) 0)) :: fs) := hS
                refine any_finE rfl (by decide) ?_
                refine any_end (by kernel_rfl) ?_
                refine np_n ?_
                refine then_n ?_
                exact ⟨(((g6.set (Int.toNat g2) (w64 ((geti g6 g2) + (w64 (1 + (geti g6 (w64 ((w64 (2 * g2)) - at2)))))))).set (Int.toNat at2) 0).set (Int.toNat (w64 ((w64 (2 * g2)) - at2))) 0), hF.weak [2, 6] (by kernel_rfl), hS, hm⟩
      · replace hm := if_f hm hb
        refine wp_skip ?_
        refine then_n ?_
        exact ⟨g6, hF.weak [2, 6] (by kernel_rfl), hS, hm⟩
  · refine wp_block ?_
    refine wp_loop_model (S := (List Int × Int × Int)) (R := (List Int × Int)) (mancala_game_sow_2_L1 g1 g2) (fun x => ((mancala_game_sow_2_K1 g1 g2) x).bind some) r (fun (x : (List Int × Int × Int)) a w => Fr 117 [pl 2 (.pointer (some ⟨g4, 0, none⟩)), pl 5 (.int .i64 x.2.1), pl 6 (.int .i64 x.2.2)] a ∧ Sep w0 B w (blk g4 84 #[.slice A1 g1.length c1, .int .i64 g2] :: own 3 (.slice A1 g1.length c1) (vI x.1) :: fs)) (assoc_b hm) ⟨hF.weak [2, 5, 6] (by kernel_rfl), hS⟩ ?_
    clear hF hS hm
    rintro nn1 ⟨g5, hand1, at1⟩ a w ⟨hF, hS⟩ hm
    generalize hφ1 : stK (mancala_game_sow_2_L1 g1 g2) nn1 (fun x => ((mancala_game_sow_2_K1 g1 g2) x).bind some) = φ1 at hm
    unfold mancala_game_sow_2_L1 at hm
    dsimp only at hF hS hm
    refine seq_cut (fun a w => Fr 117 [pl 2 (.pointer (some ⟨g4, 0, none⟩)), pl 5 (.int .i64 hand1), pl 6 (.int .i64 at1)] a ∧ Sep w0 B w (blk g4 84 #[.slice A1 g1.length c1, .int .i64 g2] :: own 3 (.slice A1 g1.length c1) (vI g5) :: fs) ∧ ((mancala_game_sow_2_J2 g1 g2 g5 hand1 at1)).bind φ1 = some r) ?_ ?_
    · rintro a w ⟨hF, hS, hm⟩
      unfold mancala_game_sow_2_J2 at hm
      refine wp_block ?_
      obtain ⟨hp3, hm⟩ := asrt_b hm
      refine reg [⟨false, [], vS (Instr.loadAt 3 (.pointer (some ⟨g4, 1, none⟩))), .int .i64 g2⟩, ⟨true, [], vS (Op.intDiv .rem .i64 (w64 (at1 + 1)) (w64 ((w64 (2 * g2)) + 1))), .int .i64 (Int.tmod (w64 (at1 + 1)) (w64 ((w64 (2 * g2)) + 1)))⟩] [none, none, none, some (.int .i64 g2), none, none, some (.int .i64 (Int.tmod (w64 (at1 + 1)) (w64 ((w64 (2 * g2)) + 1)))), none] [2, 5, 6] [pl 2 (.pointer (some ⟨g4, 0, none⟩)), pl 5 (.int .i64 hand1), pl 6 (.int .i64 (Int.tmod (w64 (at1 + 1)) (w64 ((w64 (2 * g2)) + 1))))] hF hS Fol (by kernel_rfl) (by kernel_rfl) (by kernel_rfl) ?_ (fun a w hF hS => ?_)
      · exact obs_cons (ob_load Agg3 (fun _ _ hS => (hS.at_ 0 rfl).cell rfl)) <| obs_cons (ob_rem rfl (fun _ => hp3)) <| obs_nil
      refine seqR ?_
      obtain ⟨hp4, hm⟩ := asrt_b hm
      obtain ⟨hp5, hm⟩ := asrt_b hm
      refine at_run 7 [⟨false, [], vS (Instr.loadAt 22 (.pointer (some ⟨g4, 0, none⟩))), .slice A1 g1.length c1⟩, ⟨true, [], vS (Instr.indexAt 22 (.slice A1 g1.length c1) (.int .i64 (Int.tmod (w64 (at1 + 1)) (w64 ((w64 (2 * g2)) + 1))))), .pointer (some (sAddr A1 (Int.tmod (w64 (at1 + 1)) (w64 ((w64 (2 * g2)) + 1)))))⟩, ⟨false, [], vS (Instr.loadAt 3 (.pointer (some (sAddr A1 (Int.tmod (w64 (at1 + 1)) (w64 ((w64 (2 * g2)) + 1))))))), .int .i64 (geti g5 (Int.tmod (w64 (at1 + 1)) (w64 ((w64 (2 * g2)) + 1))))⟩, ⟨true, [], vS (Instr.indexAt 22 (.slice A1 g1.length c1) (.int .i64 (Int.tmod (w64 (at1 + 1)) (w64 ((w64 (2 * g2)) + 1))))), .pointer (some (sAddr A1 (Int.tmod (w64 (at1 + 1)) (w64 ((w64 (2 * g2)) + 1)))))⟩] [none, some (.slice A1 g1.length c1), none, some (.pointer (some (sAddr A1 (Int.tmod (w64 (at1 + 1)) (w64 ((w64 (2 * g2)) + 1)))))), some (.int .i64 (geti g5 (Int.tmod (w64 (at1 + 1)) (w64 ((w64 (2 * g2)) + 1))))), none, some (.pointer (some (sAddr A1 (Int.tmod (w64 (at1 + 1)) (w64 ((w64 (2 * g2)) + 1))))))] [2, 5, 6, 32, 33] [pl 2 (.pointer (some ⟨g4, 0, none⟩)), pl 5 (.int .i64 hand1), pl 6 (.int .i64 (Int.tmod (w64 (at1 + 1)) (w64 ((w64 (2 * g2)) + 1)))), pl 32 (.int .i64 (w64 ((geti g5 (Int.tmod (w64 (at1 + 1)) (w64 ((w64 (2 * g2)) + 1)))) + 1))), pl 33 (.pointer (some (sAddr A1 (Int.tmod (w64 (at1 + 1)) (w64 ((w64 (2 * g2)) + 1))))))] hF hS (by kernel_rfl) (by kernel_rfl) ?_ (fun a w hF hS => ?_)
      · exact obs_cons (ob_load Agg22 (fun _ _ hS => (hS.at_ 0 rfl).cell rfl)) <| obs_cons (ob_ix1 (f := (Value.int .i64)) (m := g5) Und22 hi3 hs3 (hS.at_ 1 rfl).rd ((hS.at_ 1 rfl).len1) (fun _ => hp4)) <| obs_cons (ob_get1 (n := g1.length) (m := g5) (Value.int .i64) (0 : Int) Agg3 (fun _ hS => ⟨_, (hS.at_ 1 rfl).rd⟩) (fun _ hS => ((hS.at_ 1 rfl).len1)) (fun _ => hp4)) <| obs_cons (ob_ix1 (f := (Value.int .i64)) (m := g5) Und22 hi3 hs3 (hS.at_ 1 rfl).rd ((hS.at_ 1 rfl).len1) (fun _ => hp5)) <| obs_nil
      obtain ⟨w, hrun, hS⟩ := run_set1 (P := Try.prog) (t := 3) (x := (w64 ((geti g5 (Int.tmod (w64 (at1 + 1)) (w64 ((w64 (2 * g2)) + 1)))) + 1))) (Value.int .i64) (hS.at_ 1 rfl) hi3 hs3 rfl rfl hp5
      refine at_skip hF (by kernel_rfl) hrun ?_
      have hS : Sep w0 B w (blk g4 84 #[.slice A1 g1.length c1, .int .i64 g2] :: own 3 (.slice A1 g1.length c1) (vI (g5.set (Int.toNat (Int.tmod (w64 (at1 + 1)) (w64 ((w64 (2 * g2)) + 1)))) (w64 ((geti g5 (Int.tmod (w64 (at1 + 1)) (w64 ((w64 (2 * g2)) + 1)))) + 1)))) :: fs) := hS
      refine at_end [2, 5, 6] [pl 2 (.pointer (some ⟨g4, 0, none⟩)), pl 5 (.int .i64 hand1), pl 6 (.int .i64 (Int.tmod (w64 (at1 + 1)) (w64 ((w64 (2 * g2)) + 1))))] hF rfl (by kernel_rfl) (fun hF => ?_)
      refine then_n ?_
      refine reg1 [] [] [2, 5, 6] [pl 2 (.pointer (some ⟨g4, 0, none⟩)), pl 5 (.int .i64 (w64 (hand1 - 1))), pl 6 (.int .i64 (Int.tmod (w64 (at1 + 1)) (w64 ((w64 (2 * g2)) + 1))))] hF hS Fol (by kernel_rfl) (by kernel_rfl) (by kernel_rfl) ?_ (fun a w hF hS => ?_)
      · exact obs_nil
      refine block_n ?_
      refine then_n ?_
      rw [← hφ1] at hm
      exact ⟨((g5.set (Int.toNat (Int.tmod (w64 (at1 + 1)) (w64 ((w64 (2 * g2)) + 1)))) (w64 ((geti g5 (Int.tmod (w64 (at1 + 1)) (w64 ((w64 (2 * g2)) + 1)))) + 1))), (w64 (hand1 - 1)), (Int.tmod (w64 (at1 + 1)) (w64 ((w64 (2 * g2)) + 1)))), ⟨hF.weak [2, 5, 6] (by kernel_rfl), hS⟩, hm⟩
    · refine reg [] [] [2, 5, 6, 19] [pl 2 (.pointer (some ⟨g4, 0, none⟩)), pl 5 (.int .i64 hand1), pl 6 (.int .i64 at1), pl 19 (.bool (decide ((0 : Int) < hand1)))] hF hS Fol (by kernel_rfl) (by kernel_rfl) (by kernel_rfl) ?_ (fun a w hF hS => ?_)
      · exact obs_nil
      refine cond_ev (t := 19) (b := decide ((0 : Int) < hand1)) hF (by kernel_rfl) (fun hb => ?_) (fun hb => ?_)
      · replace hm := if_t hm hb
        refine wp_skip ?_
        refine then_n ?_
        exact ⟨hF.weak [2, 5, 6] (by kernel_rfl), hS, hm⟩
      · replace hm := if_f hm hb
        refine wp_exit ?_
        refine then_e (then_e (block_e (then_n ?_)))
        rw [← hφ1] at hm
        replace hm := done_b hm
        unfold mancala_game_sow_2_K1 at hm
        try dsimp only at hm
        have hm : ((mancala_game_sow_2_J1 g1 g2) g5 at1).bind some = some r := hm
        exact ⟨g5, at1, hF.weak [2, 6] (by kernel_rfl), hS, hm⟩

noncomputable def mancala_game_value_J4 (z1 : Int) (best3 : Int) (who3 : Int) : Option (St (Int × Int × Int) (Int × Int)) :=
  some (.next (best3, who3, (w64 (z1 + 1))))

noncomputable def mancala_game_value_J7 (best1 : Int) (who1 : Int) (z1 : Int) (n2 : Int) : Option (St (Int × Int × Int) (Int × Int)) :=
  if ((decide (who1 < 0)) || (decide (best1 < n2))) then ((mancala_game_value_J4 z1) n2 z1) else ((mancala_game_value_J4 z1) best1 who1)

noncomputable def mancala_game_value_J8 (best1 : Int) (who1 : Int) (z1 : Int) (n3 : Int) : Option (St (Int × Int × Int) (Int × Int)) :=
  (mancala_game_value_J7 best1 who1 z1) (w64 (0 - n3))

noncomputable def mancala_game_value_J6 (rec_mancala_game_value : List Int → Int → Option (Int × Int)) (g2 : Int) (best1 : Int) (who1 : Int) (z1 : Int) (next1 : List Int) : Option (St (Int × Int × Int) (Int × Int)) :=
  (mancala_game_sow_2_m next1 g2 z1).bind fun r6 => if r6.1 then ((rec_mancala_game_value r6.2 g2).bind fun r7 => (mancala_game_value_J7 best1 who1 z1) r7.1) else (asrt (0 ≤ (w64 (g2 + 1)) ∧ (w64 (g2 + 1)) ≤ (next1.length : Int) ∧ (next1.length : Int) ≤ (next1.length : Int)) <| asrt (0 ≤ (0 : Int) ∧ (0 : Int) ≤ (w64 (g2 + 1)) ∧ (w64 (g2 + 1)) ≤ (next1.length : Int)) <| (slices_Concat_m ([(cut r6.2 (w64 (g2 + 1)) (next1.length : Int)), (cut r6.2 (0 : Int) (w64 (g2 + 1)))] : List (List Int))).bind fun r8 => (rec_mancala_game_value r8 g2).bind fun r9 => (mancala_game_value_J8 best1 who1 z1) r9.1)

noncomputable def mancala_game_value_J5 (rec_mancala_game_value : List Int → Int → Option (Int × Int)) (g1 : List Int) (g2 : Int) (best1 : Int) (who1 : Int) (z1 : Int) : Option (St (Int × Int × Int) (Int × Int)) :=
  (slices_Clone_m g1).bind fun r5 => (mancala_game_value_J6 rec_mancala_game_value g2 best1 who1 z1) r5

noncomputable def mancala_game_value_J3 (rec_mancala_game_value : List Int → Int → Option (Int × Int)) (g1 : List Int) (g2 : Int) (r4 : (Int × Int)) (best1 : Int) (who1 : Int) (z1 : Int) : Option (St (Int × Int × Int) (Int × Int)) :=
  asrt (0 ≤ z1 ∧ z1 < (((cut g1 r4.1 r4.2).length : Nat) : Int)) <| if ((geti (cut g1 r4.1 r4.2) z1) == 0) then ((mancala_game_value_J4 z1) best1 who1) else ((mancala_game_value_J5 rec_mancala_game_value g1 g2 best1 who1 z1))

noncomputable def mancala_game_value_J2 (best2 : Int) (who2 : Int) : Option (Int × Int) :=
  some (best2, who2)

noncomputable def mancala_game_value_K1 : (Int × Int) → Option (Int × Int) :=
  fun (x : (Int × Int)) => match x with | (best2, who2) => mancala_game_value_J2 best2 who2

noncomputable def mancala_game_value_L1 (rec_mancala_game_value : List Int → Int → Option (Int × Int)) (g1 : List Int) (g2 : Int) (r4 : (Int × Int)) : (Int × Int × Int) → Option (St (Int × Int × Int) (Int × Int)) :=
  fun (x : (Int × Int × Int)) => match x with | (best1, who1, z1) => if (decide (z1 < (((cut g1 r4.1 r4.2).length : Nat) : Int))) then ((mancala_game_value_J3 rec_mancala_game_value g1 g2 r4 best1 who1 z1)) else (some (.done (best1, who1)))

noncomputable def mancala_game_value_J1 (rec_mancala_game_value : List Int → Int → Option (Int × Int)) (g1 : List Int) (g2 : Int) : Option (Int × Int) :=
  (mancala_game_own_m g1 g2).bind fun r4 => (loop (mancala_game_value_L1 rec_mancala_game_value g1 g2 r4) (0, (-1), 0)).bind mancala_game_value_K1

noncomputable def mancala_game_value_B (rec_mancala_game_value : List Int → Int → Option (Int × Int)) (g1 : List Int) (g2 : Int) : Option (Int × Int) :=
  (mancala_game_over_m g1 g2).bind fun r1 => if r1 then (asrt (0 ≤ (0 : Int) ∧ (0 : Int) ≤ (w64 (g2 + 1)) ∧ (w64 (g2 + 1)) ≤ (g1.length : Int)) <| (mancala_sum_m (cut g1 (0 : Int) (w64 (g2 + 1)))).bind fun r2 => asrt (0 ≤ (w64 (g2 + 1)) ∧ (w64 (g2 + 1)) ≤ (g1.length : Int) ∧ (g1.length : Int) ≤ (g1.length : Int)) <| (mancala_sum_m (cut g1 (w64 (g2 + 1)) (g1.length : Int))).bind fun r3 => some ((w64 (r2 - r3)), (-1))) else ((mancala_game_value_J1 rec_mancala_game_value g1 g2))

noncomputable def mancala_game_value_mF : Nat → List Int → Int → Option (Int × Int)
  | 0 => fun _ _ => none
  | n + 1 => fun g1 g2 => mancala_game_value_B (mancala_game_value_mF n) g1 g2

noncomputable def mancala_game_value_m (g1 : List Int) (g2 : Int) : Option (Int × Int) :=
  recM fun n => mancala_game_value_mF n g1 g2

set_option maxRecDepth 100000 in
set_option maxHeartbeats 4000000 in
theorem mancala_game_value_wB {rec_mancala_game_value : List Int → Int → Option (Int × Int)} (ih_mancala_game_value : ∀ {A1 : Option Addr} {c1 : Nat} {n1 : Nat} {g1 : List Int} {g2 : Int} {r : (Int × Int)} {w0 w : World} {B : Nat} {fs : List HP} (_ : rec_mancala_game_value g1 g2 = some r) (_ : Sep w0 B w (fs)) (hr_g1 : RdF w0 B fs A1 (vI g1)) (_hc_g1 : g1.length ≤ c1) (_hn_g1 : n1 = g1.length), Calls Try.prog 70 #[.agg #[.slice A1 n1 c1, .int .i64 g2]] w fun e w' => e = .returned (.tuple #[.int .i64 r.1, .int .i64 r.2]) ∧ Sep w0 B w' (fs)) {A1 : Option Addr} {c1 : Nat} {n1 : Nat} {g1 : List Int} {g2 : Int} {r : (Int × Int)} {w0 w : World} {B : Nat} {fs : List HP} (hm : mancala_game_value_B rec_mancala_game_value g1 g2 = some r) (hS : Sep w0 B w (fs)) (hr_g1 : RdF w0 B fs A1 (vI g1)) (_hc_g1 : g1.length ≤ c1) (_hn_g1 : n1 = g1.length) :
    Calls Try.prog 70 #[.agg #[.slice A1 n1 c1, .int .i64 g2]] w fun e w' => e = .returned (.tuple #[.int .i64 r.1, .int .i64 r.2]) ∧ Sep w0 B w' (fs) := by
  obtain ⟨i3, hi3, hz3, hs3, hb3⟩ := info_parts Info3
  obtain ⟨i22, hi22, hz22, hs22, hb22⟩ := info_parts Info22
  obtain rfl := _hn_g1
  unfold mancala_game_value_B at hm
  replace hm := start_b hm
  refine enter (l := [.agg #[.slice A1 g1.length c1, .int .i64 g2]]) (n := 86) Try.func70 rfl rfl (by simp) (fun a hF => ?_)
  refine seqR ?_
  refine at_do (d := 1) (s := vS (Instr.box 84 (.agg #[.slice A1 g1.length c1, .int .i64 g2]))) (v := .pointer (some ⟨w.heap.size, 0, none⟩)) (w' := w.alloc (.cells #[.slice A1 g1.length c1, .int .i64 g2] 84)) hF (by kernel_rfl) (by kernel_rfl) (by kernel_rfl) (fun a hF => ?_)
  have hS : Sep w0 B (w.alloc (.cells #[.slice A1 g1.length c1, .int .i64 g2] 84)) (blk w.heap.size 84 #[.slice A1 g1.length c1, .int .i64 g2] :: (fs)) := hS.box 84 #[.slice A1 g1.length c1, .int .i64 g2]
  generalize w.heap.size = g3 at hF hS
  generalize w.alloc (.cells #[.slice A1 g1.length c1, .int .i64 g2] 84) = w at hS ⊢
  refine at_run 2 [] [] [1] [pl 1 (.pointer (some ⟨g3, 0, none⟩))] hF hS (by kernel_rfl) (by kernel_rfl) ?_ (fun a w hF hS => ?_)
  · exact obs_nil
  refine at_end [1] [pl 1 (.pointer (some ⟨g3, 0, none⟩))] hF rfl (by kernel_rfl) (fun hF => ?_)
  refine then_n ?_
  refine seq_cut (fun a w => Fr 86 [pl 1 (.pointer (some ⟨g3, 0, none⟩))] a ∧ Sep w0 B w (blk g3 84 #[.slice A1 g1.length c1, .int .i64 g2] :: fs) ∧ ((mancala_game_value_J1 rec_mancala_game_value g1 g2)).bind some = some r) ?_ ?_
  · rintro a w ⟨hF, hS, hm⟩
    unfold mancala_game_value_J1 at hm
    refine reg [] [] [1, 4, 5] [pl 1 (.pointer (some ⟨g3, 0, none⟩)), pl 4 (.int .i64 0), pl 5 (.int .i64 (-1))] hF hS Fol (by kernel_rfl) (by kernel_rfl) (by kernel_rfl) ?_ (fun a w hF hS => ?_)
    · exact obs_nil
    refine seq_cut (fun a w => ∃ (best2 : Int) (who2 : Int), Fr 86 [pl 4 (.int .i64 best2), pl 5 (.int .i64 who2)] a ∧ Sep w0 B w (fs) ∧ (mancala_game_value_J2 best2 who2).bind some = some r) ?_ ?_
    · rintro a w ⟨best2, who2, hF, hS, hm⟩
      unfold mancala_game_value_J2 at hm
      refine reg [] [] [2, 3] [pl 2 (.int .i64 best2), pl 3 (.int .i64 who2)] hF hS Fol (by kernel_rfl) (by kernel_rfl) (by kernel_rfl) ?_ (fun a w hF hS => ?_)
      · exact obs_nil
      refine wp_ret ?_
      have hm : some (best2, who2) = some r := hm
      obtain rfl := Option.some.inj hm
      exact retV (rs := [.tmp 2, .tmp 3]) (vs := [.int .i64 best2, .int .i64 who2]) hF rfl (rv_t (by kernel_rfl) <| rv_t (by kernel_rfl) <| rv_nil) rfl ⟨rfl, hS⟩
    · refine seqR ?_
      obtain ⟨r4, hr4, hm⟩ := call_b hm
      refine at_run 1 [⟨false, [], vS (Instr.loadAt 84 (.pointer (some ⟨g3, 0, none⟩))), .agg #[.slice A1 g1.length c1, .int .i64 g2]⟩] [some (.agg #[.slice A1 g1.length c1, .int .i64 g2])] [1, 4, 5, 28] [pl 1 (.pointer (some ⟨g3, 0, none⟩)), pl 4 (.int .i64 0), pl 5 (.int .i64 (-1)), pl 28 (.agg #[.slice A1 g1.length c1, .int .i64 g2])] hF hS (by kernel_rfl) (by kernel_rfl) ?_ (fun a w hF hS => ?_)
      · exact obs_cons (ob_loadA (cs := #[.slice A1 g1.length c1, .int .i64 g2]) (by kernel_rfl) (by kernel_rfl) (fun _ _ hS => (hS.at_ 0 rfl).cellsAt 0 (by rfl))) <| obs_nil
      refine at_call (f := 68) (args := #[.agg #[.slice A1 g1.length c1, .int .i64 g2]]) (d := 29) hF (by kernel_rfl) (by kernel_rfl) Try.func68 (by kernel_rfl) rfl (mancala_game_own_w hr4 hS (fun _ hS => (hr_g1 _ (hS.dropN 1))) _hc_g1 rfl) (fun v a w hR hF => ?_)
      clear hS
      obtain ⟨rfl, hb1, hS⟩ := hR
      have hS : Sep w0 B w (blk g3 84 #[.slice A1 g1.length c1, .int .i64 g2] :: fs) := hS
      refine at_run 2 [] [] [1, 4, 5, 29, 30, 31] [pl 1 (.pointer (some ⟨g3, 0, none⟩)), pl 4 (.int .i64 0), pl 5 (.int .i64 (-1)), pl 29 (.slice (cutAddr A1 c1 r4.1) ((cut g1 r4.1 r4.2).length) (c1 - Int.toNat r4.1)), pl 30 (.int .i64 (((cut g1 r4.1 r4.2).length : Nat) : Int)), pl 31 (.int .i64 0)] hF hS (by kernel_rfl) (by kernel_rfl) ?_ (fun a w hF hS => ?_)
      · exact obs_nil
      refine at_end [1, 4, 5, 29, 30, 31] [pl 1 (.pointer (some ⟨g3, 0, none⟩)), pl 4 (.int .i64 0), pl 5 (.int .i64 (-1)), pl 29 (.slice (cutAddr A1 c1 r4.1) ((cut g1 r4.1 r4.2).length) (c1 - Int.toNat r4.1)), pl 30 (.int .i64 (((cut g1 r4.1 r4.2).length : Nat) : Int)), pl 31 (.int .i64 0)] hF rfl (by kernel_rfl) (fun hF => ?_)
      refine then_n ?_
      refine wp_block ?_
      refine wp_loop_model (S := (Int × Int × Int)) (R := (Int × Int)) (mancala_game_value_L1 rec_mancala_game_value g1 g2 r4) (fun x => (mancala_game_value_K1 x).bind some) r (fun (x : (Int × Int × Int)) a w => Fr 86 [pl 1 (.pointer (some ⟨g3, 0, none⟩)), pl 4 (.int .i64 x.1), pl 5 (.int .i64 x.2.1), pl 29 (.slice (cutAddr A1 c1 r4.1) ((cut g1 r4.1 r4.2).length) (c1 - Int.toNat r4.1)), pl 30 (.int .i64 (((cut g1 r4.1 r4.2).length : Nat) : Int)), pl 31 (.int .i64 x.2.2)] a ∧ Sep w0 B w (blk g3 84 #[.slice A1 g1.length c1, .int .i64 g2] :: fs)) (assoc_b hm) ⟨hF.weak [1, 4, 5, 29, 30, 31] (by kernel_rfl), hS⟩ ?_
      clear hF hS hm
      rintro nn1 ⟨best1, who1, z1⟩ a w ⟨hF, hS⟩ hm
      generalize hφ1 : stK (mancala_game_value_L1 rec_mancala_game_value g1 g2 r4) nn1 (fun x => (mancala_game_value_K1 x).bind some) = φ1 at hm
      unfold mancala_game_value_L1 at hm
      dsimp only at hF hS hm
      refine reg [] [] [1, 4, 5, 29, 30, 31, 32] [pl 1 (.pointer (some ⟨g3, 0, none⟩)), pl 4 (.int .i64 best1), pl 5 (.int .i64 who1), pl 29 (.slice (cutAddr A1 c1 r4.1) ((cut g1 r4.1 r4.2).length) (c1 - Int.toNat r4.1)), pl 30 (.int .i64 (((cut g1 r4.1 r4.2).length : Nat) : Int)), pl 31 (.int .i64 z1), pl 32 (.bool (decide (z1 < (((cut g1 r4.1 r4.2).length : Nat) : Int))))] hF hS Fol (by kernel_rfl) (by kernel_rfl) (by kernel_rfl) ?_ (fun a w hF hS => ?_)
      · exact obs_nil
      refine seq_cut (fun a w => Fr 86 [pl 1 (.pointer (some ⟨g3, 0, none⟩)), pl 4 (.int .i64 best1), pl 5 (.int .i64 who1), pl 29 (.slice (cutAddr A1 c1 r4.1) ((cut g1 r4.1 r4.2).length) (c1 - Int.toNat r4.1)), pl 30 (.int .i64 (((cut g1 r4.1 r4.2).length : Nat) : Int)), pl 31 (.int .i64 z1)] a ∧ Sep w0 B w (blk g3 84 #[.slice A1 g1.length c1, .int .i64 g2] :: fs) ∧ ((mancala_game_value_J3 rec_mancala_game_value g1 g2 r4 best1 who1 z1)).bind φ1 = some r) ?_ ?_
      · rintro a w ⟨hF, hS, hm⟩
        unfold mancala_game_value_J3 at hm
        refine seq_cut (fun a w => ∃ (best3 : Int) (who3 : Int), Fr 86 [pl 1 (.pointer (some ⟨g3, 0, none⟩)), pl 4 (.int .i64 best3), pl 5 (.int .i64 who3), pl 29 (.slice (cutAddr A1 c1 r4.1) ((cut g1 r4.1 r4.2).length) (c1 - Int.toNat r4.1)), pl 30 (.int .i64 (((cut g1 r4.1 r4.2).length : Nat) : Int)), pl 31 (.int .i64 z1)] a ∧ Sep w0 B w (blk g3 84 #[.slice A1 g1.length c1, .int .i64 g2] :: fs) ∧ ((mancala_game_value_J4 z1) best3 who3).bind φ1 = some r) ?_ ?_
        · rintro a w ⟨best3, who3, hF, hS, hm⟩
          unfold mancala_game_value_J4 at hm
          refine reg1 [] [] [1, 4, 5, 29, 30, 31] [pl 1 (.pointer (some ⟨g3, 0, none⟩)), pl 4 (.int .i64 best3), pl 5 (.int .i64 who3), pl 29 (.slice (cutAddr A1 c1 r4.1) ((cut g1 r4.1 r4.2).length) (c1 - Int.toNat r4.1)), pl 30 (.int .i64 (((cut g1 r4.1 r4.2).length : Nat) : Int)), pl 31 (.int .i64 (w64 (z1 + 1)))] hF hS Fol (by kernel_rfl) (by kernel_rfl) (by kernel_rfl) ?_ (fun a w hF hS => ?_)
          · exact obs_nil
          refine then_n ?_
          rw [← hφ1] at hm
          exact ⟨(best3, who3, (w64 (z1 + 1))), ⟨hF.weak [1, 4, 5, 29, 30, 31] (by kernel_rfl), hS⟩, hm⟩
        · refine wp_block ?_
          obtain ⟨hp3, hm⟩ := asrt_b hm
          refine reg [⟨true, [], vS (Instr.indexAt 22 (.slice (cutAddr A1 c1 r4.1) ((cut g1 r4.1 r4.2).length) (c1 - Int.toNat r4.1)) (.int .i64 z1)), .pointer (some (sAddr (cutAddr A1 c1 r4.1) z1))⟩, ⟨false, [], vS (Instr.loadAt 3 (.pointer (some (sAddr (cutAddr A1 c1 r4.1) z1)))), .int .i64 (geti (cut g1 r4.1 r4.2) z1)⟩] [none, some (.pointer (some (sAddr (cutAddr A1 c1 r4.1) z1))), some (.int .i64 (geti (cut g1 r4.1 r4.2) z1)), none, none] [1, 4, 5, 6, 7, 29, 30, 31] [pl 1 (.pointer (some ⟨g3, 0, none⟩)), pl 4 (.int .i64 best1), pl 5 (.int .i64 who1), pl 6 (.int .i64 z1), pl 7 (.int .i64 (geti (cut g1 r4.1 r4.2) z1)), pl 29 (.slice (cutAddr A1 c1 r4.1) ((cut g1 r4.1 r4.2).length) (c1 - Int.toNat r4.1)), pl 30 (.int .i64 (((cut g1 r4.1 r4.2).length : Nat) : Int)), pl 31 (.int .i64 z1)] hF hS Fol (by kernel_rfl) (by kernel_rfl) (by kernel_rfl) ?_ (fun a w hF hS => ?_)
          · exact obs_cons (ob_ix1 (f := (Value.int .i64)) (m := (cut g1 r4.1 r4.2)) Und22 hi3 hs3 (Rd.cutF (hr_g1 _ (hS.dropN 1)) hb1 _hc_g1) rfl (fun _ => hp3)) <| obs_cons (ob_get1 (n := (cut g1 r4.1 r4.2).length) (m := (cut g1 r4.1 r4.2)) (Value.int .i64) (0 : Int) Agg3 (fun _ hS => ⟨_, (Rd.cutF (hr_g1 _ (hS.dropN 1)) hb1 _hc_g1)⟩) (fun _ hS => rfl) (fun _ => hp3)) <| obs_nil
          refine seq_cut (fun a w => Fr 86 [pl 1 (.pointer (some ⟨g3, 0, none⟩)), pl 4 (.int .i64 best1), pl 5 (.int .i64 who1), pl 6 (.int .i64 z1), pl 29 (.slice (cutAddr A1 c1 r4.1) ((cut g1 r4.1 r4.2).length) (c1 - Int.toNat r4.1)), pl 30 (.int .i64 (((cut g1 r4.1 r4.2).length : Nat) : Int)), pl 31 (.int .i64 z1)] a ∧ Sep w0 B w (blk g3 84 #[.slice A1 g1.length c1, .int .i64 g2] :: fs) ∧ ((mancala_game_value_J5 rec_mancala_game_value g1 g2 best1 who1 z1)).bind φ1 = some r) ?_ ?_
          · rintro a w ⟨hF, hS, hm⟩
            unfold mancala_game_value_J5 at hm
            refine seq_cut (fun a w => ∃ (next1 : List Int) (g5 : Nat) (A4 : Option Addr) (c4 : Nat), Fr 86 [pl 1 (.pointer (some ⟨g3, 0, none⟩)), pl 4 (.int .i64 best1), pl 5 (.int .i64 who1), pl 6 (.int .i64 z1), pl 8 (.pointer (some ⟨g5, 0, none⟩)), pl 29 (.slice (cutAddr A1 c1 r4.1) ((cut g1 r4.1 r4.2).length) (c1 - Int.toNat r4.1)), pl 30 (.int .i64 (((cut g1 r4.1 r4.2).length : Nat) : Int)), pl 31 (.int .i64 z1)] a ∧ Sep w0 B w (blk g3 84 #[.slice A1 g1.length c1, .int .i64 g2] :: blk g5 84 #[.slice A4 next1.length c4, .int .i64 g2] :: own 3 (.slice A4 next1.length c4) (vI next1) :: fs) ∧ ((mancala_game_value_J6 rec_mancala_game_value g2 best1 who1 z1) next1).bind φ1 = some r) ?_ ?_
            · rintro a w ⟨next1, g5, A4, c4, hF, hS, hm⟩
              unfold mancala_game_value_J6 at hm
              refine reg [] [] [1, 4, 5, 6, 8, 29, 30, 31] [pl 1 (.pointer (some ⟨g3, 0, none⟩)), pl 4 (.int .i64 best1), pl 5 (.int .i64 who1), pl 6 (.int .i64 z1), pl 8 (.pointer (some ⟨g5, 0, none⟩)), pl 29 (.slice (cutAddr A1 c1 r4.1) ((cut g1 r4.1 r4.2).length) (c1 - Int.toNat r4.1)), pl 30 (.int .i64 (((cut g1 r4.1 r4.2).length : Nat) : Int)), pl 31 (.int .i64 z1)] hF hS Fol (by kernel_rfl) (by kernel_rfl) (by kernel_rfl) ?_ (fun a w hF hS => ?_)
              · exact obs_nil
              refine seq_cut (fun a w => ∃ (n2 : Int), Fr 86 [pl 1 (.pointer (some ⟨g3, 0, none⟩)), pl 4 (.int .i64 best1), pl 5 (.int .i64 who1), pl 6 (.int .i64 z1), pl 9 (.int .i64 n2), pl 29 (.slice (cutAddr A1 c1 r4.1) ((cut g1 r4.1 r4.2).length) (c1 - Int.toNat r4.1)), pl 30 (.int .i64 (((cut g1 r4.1 r4.2).length : Nat) : Int)), pl 31 (.int .i64 z1)] a ∧ Sep w0 B w (blk g3 84 #[.slice A1 g1.length c1, .int .i64 g2] :: fs) ∧ ((mancala_game_value_J7 best1 who1 z1) n2).bind φ1 = some r) ?_ ?_
              · rintro a w ⟨n2, hF, hS, hm⟩
                unfold mancala_game_value_J7 at hm
                refine reg [] [] [1, 4, 5, 6, 9, 29, 30, 31, 80] [pl 1 (.pointer (some ⟨g3, 0, none⟩)), pl 4 (.int .i64 best1), pl 5 (.int .i64 who1), pl 6 (.int .i64 z1), pl 9 (.int .i64 n2), pl 29 (.slice (cutAddr A1 c1 r4.1) ((cut g1 r4.1 r4.2).length) (c1 - Int.toNat r4.1)), pl 30 (.int .i64 (((cut g1 r4.1 r4.2).length : Nat) : Int)), pl 31 (.int .i64 z1), pl 80 (.bool ((decide (who1 < 0)) || (decide (best1 < n2))))] hF hS Fol (by kernel_rfl) (by kernel_rfl) (by kernel_rfl) ?_ (fun a w hF hS => ?_)
                · exact obs_nil
                refine cond_ev (t := 80) (b := (decide (who1 < 0)) || (decide (best1 < n2))) hF (by kernel_rfl) (fun hb => ?_) (fun hb => ?_)
                · replace hm := if_t hm hb
                  refine reg1 [] [] [1, 4, 5, 29, 30, 31] [pl 1 (.pointer (some ⟨g3, 0, none⟩)), pl 4 (.int .i64 n2), pl 5 (.int .i64 z1), pl 29 (.slice (cutAddr A1 c1 r4.1) ((cut g1 r4.1 r4.2).length) (c1 - Int.toNat r4.1)), pl 30 (.int .i64 (((cut g1 r4.1 r4.2).length : Nat) : Int)), pl 31 (.int .i64 z1)] hF hS Fol (by kernel_rfl) (by kernel_rfl) (by kernel_rfl) ?_ (fun a w hF hS => ?_)
                  · exact obs_nil
                  refine block_n ?_
                  refine then_n ?_
                  exact ⟨n2, z1, hF.weak [1, 4, 5, 29, 30, 31] (by kernel_rfl), hS, hm⟩
                · replace hm := if_f hm hb
                  refine wp_skip ?_
                  refine block_n ?_
                  refine then_n ?_
                  exact ⟨best1, who1, hF.weak [1, 4, 5, 29, 30, 31] (by kernel_rfl), hS, hm⟩
              · refine seqR ?_
                obtain ⟨r6, hr6, hm⟩ := call_b hm
                refine at_run 2 [⟨false, [], vS (Instr.loadAt 84 (.pointer (some ⟨g5, 0, none⟩))), .agg #[.slice A4 next1.length c4, .int .i64 g2]⟩] [some (.agg #[.slice A4 next1.length c4, .int .i64 g2]), none] [1, 4, 5, 6, 8, 29, 30, 31, 44, 45] [pl 1 (.pointer (some ⟨g3, 0, none⟩)), pl 4 (.int .i64 best1), pl 5 (.int .i64 who1), pl 6 (.int .i64 z1), pl 8 (.pointer (some ⟨g5, 0, none⟩)), pl 29 (.slice (cutAddr A1 c1 r4.1) ((cut g1 r4.1 r4.2).length) (c1 - Int.toNat r4.1)), pl 30 (.int .i64 (((cut g1 r4.1 r4.2).length : Nat) : Int)), pl 31 (.int .i64 z1), pl 44 (.agg #[.slice A4 next1.length c4, .int .i64 g2]), pl 45 (.int .i64 z1)] hF hS (by kernel_rfl) (by kernel_rfl) ?_ (fun a w hF hS => ?_)
                · exact obs_cons (ob_loadA (cs := #[.slice A4 next1.length c4, .int .i64 g2]) (by kernel_rfl) (by kernel_rfl) (fun _ _ hS => (hS.at_ 1 rfl).cellsAt 0 (by rfl))) <| obs_nil
                have hS : Sep w0 B w (own 3 (.slice A4 next1.length c4) (vI next1) :: blk g3 84 #[.slice A1 g1.length c1, .int .i64 g2] :: blk g5 84 #[.slice A4 next1.length c4, .int .i64 g2] :: fs) := hS.pickN 3 [2, 0, 1] (by decide)
                refine at_call (f := 116) (args := #[.agg #[.slice A4 next1.length c4, .int .i64 g2], .int .i64 z1]) (d := 46) hF (by kernel_rfl) (by kernel_rfl) Try.func116 (by kernel_rfl) rfl (mancala_game_sow_2_w hr6 hS ) (fun v a w hR hF => ?_)
                clear hS
                obtain ⟨rfl, hS⟩ := hR
                have hS : Sep w0 B w (own 3 (.slice A4 next1.length c4) (vI r6.2) :: blk g3 84 #[.slice A1 g1.length c1, .int .i64 g2] :: blk g5 84 #[.slice A4 next1.length c4, .int .i64 g2] :: fs) := hS
                refine at_end [1, 4, 5, 6, 8, 29, 30, 31, 46] [pl 1 (.pointer (some ⟨g3, 0, none⟩)), pl 4 (.int .i64 best1), pl 5 (.int .i64 who1), pl 6 (.int .i64 z1), pl 8 (.pointer (some ⟨g5, 0, none⟩)), pl 29 (.slice (cutAddr A1 c1 r4.1) ((cut g1 r4.1 r4.2).length) (c1 - Int.toNat r4.1)), pl 30 (.int .i64 (((cut g1 r4.1 r4.2).length : Nat) : Int)), pl 31 (.int .i64 z1), pl 46 (.bool r6.1)] hF rfl (by kernel_rfl) (fun hF => ?_)
                refine then_n ?_
                refine cond_ev (t := 46) (b := r6.1) hF (by kernel_rfl) (fun hb => ?_) (fun hb => ?_)
                · replace hm := if_t hm hb
                  obtain ⟨r7, hr7, hm⟩ := call_b hm
                  refine reg1 [⟨false, [], vS (Instr.loadAt 84 (.pointer (some ⟨g5, 0, none⟩))), .agg #[.slice A4 next1.length c4, .int .i64 g2]⟩, ⟨false, [], callFunc 70 #[.agg #[.slice A4 next1.length c4, .int .i64 g2]], .tuple #[.int .i64 r7.1, .int .i64 r7.2]⟩] [some (.agg #[.slice A4 next1.length c4, .int .i64 g2]), some (.tuple #[.int .i64 r7.1, .int .i64 r7.2]), none, none, none, none] [1, 4, 5, 6, 9, 29, 30, 31] [pl 1 (.pointer (some ⟨g3, 0, none⟩)), pl 4 (.int .i64 best1), pl 5 (.int .i64 who1), pl 6 (.int .i64 z1), pl 9 (.int .i64 r7.1), pl 29 (.slice (cutAddr A1 c1 r4.1) ((cut g1 r4.1 r4.2).length) (c1 - Int.toNat r4.1)), pl 30 (.int .i64 (((cut g1 r4.1 r4.2).length : Nat) : Int)), pl 31 (.int .i64 z1)] hF hS Fol (by kernel_rfl) (by kernel_rfl) (by kernel_rfl) ?_ (fun a w hF hS => ?_)
                  · exact obs_cons (ob_loadA (cs := #[.slice A4 next1.length c4, .int .i64 g2]) (by kernel_rfl) (by kernel_rfl) (fun _ _ hS => (hS.at_ 2 rfl).cellsAt 0 (by rfl))) <| obs_cons (ob_call Try.func70 (by kernel_rfl) rfl (fun _ _ hS => ih_mancala_game_value hr7 hS (fun _ hS => (hS.at_ 0 rfl).rd) ((hS.at_ 0 rfl).cap1) ((hS.at_ 0 rfl).len1))) <| obs_nil
                  refine then_n ?_
                  have hS := hS.pickN 3 [1] (by decide)
                  exact ⟨r7.1, hF.weak [1, 4, 5, 6, 9, 29, 30, 31] (by kernel_rfl), hS, hm⟩
                · replace hm := if_f hm hb
                  refine reg [⟨false, [], vS (Instr.loadAt 3 (.pointer (some ⟨g3, 1, none⟩))), .int .i64 g2⟩] [none, some (.int .i64 g2), none, none] [1, 4, 5, 6, 8, 10, 29, 30, 31] [pl 1 (.pointer (some ⟨g3, 0, none⟩)), pl 4 (.int .i64 best1), pl 5 (.int .i64 who1), pl 6 (.int .i64 z1), pl 8 (.pointer (some ⟨g5, 0, none⟩)), pl 10 (.int .i64 (w64 (g2 + 1))), pl 29 (.slice (cutAddr A1 c1 r4.1) ((cut g1 r4.1 r4.2).length) (c1 - Int.toNat r4.1)), pl 30 (.int .i64 (((cut g1 r4.1 r4.2).length : Nat) : Int)), pl 31 (.int .i64 z1)] hF hS Fol (by kernel_rfl) (by kernel_rfl) (by kernel_rfl) ?_ (fun a w hF hS => ?_)
                  · exact obs_cons (ob_load Agg3 (fun _ _ hS => (hS.at_ 1 rfl).cell rfl)) <| obs_nil
                  refine seq_cut (fun a w => ∃ (n3 : Int), Fr 86 [pl 1 (.pointer (some ⟨g3, 0, none⟩)), pl 4 (.int .i64 best1), pl 5 (.int .i64 who1), pl 6 (.int .i64 z1), pl 9 (.int .i64 n3), pl 29 (.slice (cutAddr A1 c1 r4.1) ((cut g1 r4.1 r4.2).length) (c1 - Int.toNat r4.1)), pl 30 (.int .i64 (((cut g1 r4.1 r4.2).length : Nat) : Int)), pl 31 (.int .i64 z1)] a ∧ Sep w0 B w (blk g3 84 #[.slice A1 g1.length c1, .int .i64 g2] :: fs) ∧ ((mancala_game_value_J8 best1 who1 z1) n3).bind φ1 = some r) ?_ ?_
                  · rintro a w ⟨n3, hF, hS, hm⟩
                    unfold mancala_game_value_J8 at hm
                    refine reg1 [] [] [1, 4, 5, 6, 9, 29, 30, 31] [pl 1 (.pointer (some ⟨g3, 0, none⟩)), pl 4 (.int .i64 best1), pl 5 (.int .i64 who1), pl 6 (.int .i64 z1), pl 9 (.int .i64 (w64 (0 - n3))), pl 29 (.slice (cutAddr A1 c1 r4.1) ((cut g1 r4.1 r4.2).length) (c1 - Int.toNat r4.1)), pl 30 (.int .i64 (((cut g1 r4.1 r4.2).length : Nat) : Int)), pl 31 (.int .i64 z1)] hF hS Fol (by kernel_rfl) (by kernel_rfl) (by kernel_rfl) ?_ (fun a w hF hS => ?_)
                    · exact obs_nil
                    refine then_n ?_
                    exact ⟨(w64 (0 - n3)), hF.weak [1, 4, 5, 6, 9, 29, 30, 31] (by kernel_rfl), hS, hm⟩
                  · obtain ⟨hp4, hm⟩ := asrt_b hm
                    obtain ⟨hp5, hm⟩ := asrt_b hm
                    obtain ⟨r8, hr8, hm⟩ := call_b hm
                    obtain ⟨r9, hr9, hm⟩ := call_b hm
                    have hb2 := cutb (n := next1.length) ((hS.at_ 0 rfl).len1) hp4
                    have hb3 := cutb (n := next1.length) ((hS.at_ 0 rfl).len1) hp5
                    refine regMix5 [0, 1, 2, 3, 4, 5, 6, 7, 10, 11] [] 8 #[true, true, true, true, true, true, true, true, false, false, true, true, false, false, false, false, false, false] [⟨false, [], vS (Instr.loadAt 22 (.pointer (some ⟨g5, 0, none⟩))), .slice A4 next1.length c4⟩, ⟨true, [], vS (Instr.sliceAt 22 (.slice A4 next1.length c4) (some (.int .i64 (w64 (g2 + 1)))) none none), .slice (cutAddr A4 c4 (w64 (g2 + 1))) ((cut r6.2 (w64 (g2 + 1)) (next1.length : Int)).length) (c4 - Int.toNat (w64 (g2 + 1)))⟩, ⟨false, [], vS (Instr.loadAt 22 (.pointer (some ⟨g5, 0, none⟩))), .slice A4 next1.length c4⟩, ⟨true, [], vS (Instr.sliceAt 22 (.slice A4 next1.length c4) none (some (.int .i64 (w64 (g2 + 1)))) none), .slice (cutAddr A4 c4 (0 : Int)) ((cut r6.2 (0 : Int) (w64 (g2 + 1))).length) (c4 - Int.toNat (0 : Int))⟩, ⟨false, [], vS (Instr.loadAt 3 (.pointer (some ⟨g3, 1, none⟩))), .int .i64 g2⟩] [none, some (.slice A4 next1.length c4), none, some (.slice (cutAddr A4 c4 (w64 (g2 + 1))) ((cut r6.2 (w64 (g2 + 1)) (next1.length : Int)).length) (c4 - Int.toNat (w64 (g2 + 1)))), none, some (.slice A4 next1.length c4), none, some (.slice (cutAddr A4 c4 (0 : Int)) ((cut r6.2 (0 : Int) (w64 (g2 + 1))).length) (c4 - Int.toNat (0 : Int))), none, some (.int .i64 g2)] [1, 4, 5, 6, 29, 30, 31, 59, 63, 67] [pl 1 (.pointer (some ⟨g3, 0, none⟩)), pl 4 (.int .i64 best1), pl 5 (.int .i64 who1), pl 6 (.int .i64 z1), pl 29 (.slice (cutAddr A1 c1 r4.1) ((cut g1 r4.1 r4.2).length) (c1 - Int.toNat r4.1)), pl 30 (.int .i64 (((cut g1 r4.1 r4.2).length : Nat) : Int)), pl 31 (.int .i64 z1), pl 59 (.slice (cutAddr A4 c4 (w64 (g2 + 1))) ((cut r6.2 (w64 (g2 + 1)) (next1.length : Int)).length) (c4 - Int.toNat (w64 (g2 + 1)))), pl 63 (.slice (cutAddr A4 c4 (0 : Int)) ((cut r6.2 (0 : Int) (w64 (g2 + 1))).length) (c4 - Int.toNat (0 : Int))), pl 67 (.int .i64 g2)] hF hS Fol (by kernel_rfl) (by kernel_rfl) (by kernel_rfl) (by kernel_rfl) ?_ (fun a w hF hS => ?_)
                    · exact obs_cons (ob_load Agg22 (fun _ _ hS => (hS.at_ 2 rfl).cell rfl)) <| obs_cons (ob_cutn (l := r6.2) (k := .i64) (k' := .i64) Und22 hi3 hs3 ((hS.at_ 0 rfl).len1) (.inl rfl) (.inr ⟨rfl, rfl⟩) (fun _ => hb2) ((hS.at_ 0 rfl).cap1)) <| obs_cons (ob_load Agg22 (fun _ _ hS => (hS.at_ 2 rfl).cell rfl)) <| obs_cons (ob_cutn (l := r6.2) (k := .i64) (k' := .i64) Und22 hi3 hs3 ((hS.at_ 0 rfl).len1) (.inr ⟨rfl, rfl⟩) (.inl rfl) (fun _ => hb3) ((hS.at_ 0 rfl).cap1)) <| obs_cons (ob_load Agg3 (fun _ _ hS => (hS.at_ 1 rfl).cell rfl)) <| obs_nil
                    refine any_step [8] (by kernel_rfl) rfl ?_
                    refine (all_cons ?_ all_nil)
                    · refine any_op (listed' := #[true, true, true, true, true, true, true, true, true, false, true, true, false, false, false, false, false, false]) (by kernel_rfl) (by kernel_rfl) ?_
                      refine at_do (d := 64) (s := vS (Instr.buildSlice 148 2 #[(0, .slice (cutAddr A4 c4 (w64 (g2 + 1))) ((cut r6.2 (w64 (g2 + 1)) (next1.length : Int)).length) (c4 - Int.toNat (w64 (g2 + 1)))), (1, .slice (cutAddr A4 c4 (0 : Int)) ((cut r6.2 (0 : Int) (w64 (g2 + 1))).length) (c4 - Int.toNat (0 : Int)))])) (v := .slice (some ⟨w.heap.size, 0, none⟩) 2 2) (w' := w.alloc (.cells #[.slice (cutAddr A4 c4 (w64 (g2 + 1))) ((cut r6.2 (w64 (g2 + 1)) (next1.length : Int)).length) (c4 - Int.toNat (w64 (g2 + 1))), .slice (cutAddr A4 c4 (0 : Int)) ((cut r6.2 (0 : Int) (w64 (g2 + 1))).length) (c4 - Int.toNat (0 : Int))] 22)) hF (by kernel_rfl) (by kernel_rfl) (by kernel_rfl) (fun a hF => ?_)
                      have hS : Sep w0 B (w.alloc (.cells #[.slice (cutAddr A4 c4 (w64 (g2 + 1))) ((cut r6.2 (w64 (g2 + 1)) (next1.length : Int)).length) (c4 - Int.toNat (w64 (g2 + 1))), .slice (cutAddr A4 c4 (0 : Int)) ((cut r6.2 (0 : Int) (w64 (g2 + 1))).length) (c4 - Int.toNat (0 : Int))] 22)) (own 22 (.slice (some (⟨w.heap.size, 0, none⟩ : Addr)) 2 2) [.slice (cutAddr A4 c4 (w64 (g2 + 1))) ((cut r6.2 (w64 (g2 + 1)) (next1.length : Int)).length) (c4 - Int.toNat (w64 (g2 + 1))), .slice (cutAddr A4 c4 (0 : Int)) ((cut r6.2 (0 : Int) (w64 (g2 + 1))).length) (c4 - Int.toNat (0 : Int))] :: (own 3 (.slice A4 next1.length c4) (vI r6.2) :: blk g3 84 #[.slice A1 g1.length c1, .int .i64 g2] :: blk g5 84 #[.slice A4 next1.length c4, .int .i64 g2] :: fs)) := hS.lit 22 #[.slice (cutAddr A4 c4 (w64 (g2 + 1))) ((cut r6.2 (w64 (g2 + 1)) (next1.length : Int)).length) (c4 - Int.toNat (w64 (g2 + 1))), .slice (cutAddr A4 c4 (0 : Int)) ((cut r6.2 (0 : Int) (w64 (g2 + 1))).length) (c4 - Int.toNat (0 : Int))] 2 rfl (by omega)
                      generalize (some (⟨w.heap.size, 0, none⟩ : Addr)) = g6 at hF hS
                      generalize w.alloc (.cells #[.slice (cutAddr A4 c4 (w64 (g2 + 1))) ((cut r6.2 (w64 (g2 + 1)) (next1.length : Int)).length) (c4 - Int.toNat (w64 (g2 + 1))), .slice (cutAddr A4 c4 (0 : Int)) ((cut r6.2 (0 : Int) (w64 (g2 + 1))).length) (c4 - Int.toNat (0 : Int))] 22) = w at hS ⊢
                      refine any_fin rfl (hS.pickN 4 [1, 2, 3] (by decide)) ?_
                      refine any_step [9] (by kernel_rfl) rfl ?_
                      refine (all_cons ?_ all_nil)
                      · refine any_op (listed' := #[true, true, true, true, true, true, true, true, true, true, true, true, false, false, false, false, false, false]) (by kernel_rfl) (by kernel_rfl) ?_
                        refine at_call (f := 114) (args := #[.slice g6 2 2]) (d := 65) hF (by kernel_rfl) (by kernel_rfl) Try.func114 (by kernel_rfl) rfl (slices_Concat_w hr8 hS (fun _ hS => (rdLit (hd := ([((cutAddr A4 c4 (w64 (g2 + 1))), (c4 - Int.toNat (w64 (g2 + 1)))), ((cutAddr A4 c4 (0 : Int)), (c4 - Int.toNat (0 : Int)))] : List Hd)) (m := ([(cut r6.2 (w64 (g2 + 1)) (next1.length : Int)), (cut r6.2 (0 : Int) (w64 (g2 + 1)))] : List (List Int))) hS 0 rfl ⟨⟨(Rd.cutF (hS.at_ 1 rfl).rd hb2 ((hS.at_ 1 rfl).cap1)), (cap_cut hb2 ((hS.at_ 1 rfl).cap1))⟩, ⟨(Rd.cutF (hS.at_ 1 rfl).rd hb3 ((hS.at_ 1 rfl).cap1)), (cap_cut hb3 ((hS.at_ 1 rfl).cap1))⟩, trivial⟩)) (Nat.le_refl _) rfl) (fun v a w hR hF => ?_)
                        clear hS
                        obtain ⟨A7, c7, rfl, hS⟩ := hR
                        have hS : Sep w0 B w (own 3 (.slice A7 r8.length c7) (vI r8) :: own 22 (.slice g6 2 2) [.slice (cutAddr A4 c4 (w64 (g2 + 1))) ((cut r6.2 (w64 (g2 + 1)) (next1.length : Int)).length) (c4 - Int.toNat (w64 (g2 + 1))), .slice (cutAddr A4 c4 (0 : Int)) ((cut r6.2 (0 : Int) (w64 (g2 + 1))).length) (c4 - Int.toNat (0 : Int))] :: own 3 (.slice A4 next1.length c4) (vI r6.2) :: blk g3 84 #[.slice A1 g1.length c1, .int .i64 g2] :: blk g5 84 #[.slice A4 next1.length c4, .int .i64 g2] :: fs) := hS
                        refine any_fin rfl (hS.pickN 5 [2, 3, 4] (by decide)) ?_
                        refine any_step [12] (by kernel_rfl) rfl ?_
                        refine (all_cons ?_ all_nil)
                        · refine any_op (listed' := #[true, true, true, true, true, true, true, true, true, true, true, true, true, false, false, false, false, false]) (by kernel_rfl) (by kernel_rfl) ?_
                          refine at_runW 1 [] [] [1, 4, 5, 6, 29, 30, 31, 68] [pl 1 (.pointer (some ⟨g3, 0, none⟩)), pl 4 (.int .i64 best1), pl 5 (.int .i64 who1), pl 6 (.int .i64 z1), pl 29 (.slice (cutAddr A1 c1 r4.1) ((cut g1 r4.1 r4.2).length) (c1 - Int.toNat r4.1)), pl 30 (.int .i64 (((cut g1 r4.1 r4.2).length : Nat) : Int)), pl 31 (.int .i64 z1), pl 68 (.agg #[.slice A7 r8.length c7, .int .i64 g2])] hF hS (by kernel_rfl) (by kernel_rfl) ?_ (fun a hF => ?_)
                          · exact obs_nil
                          refine any_finI rfl (fun h => h) ?_
                          refine any_step [13] (by kernel_rfl) rfl ?_
                          refine (all_cons ?_ all_nil)
                          · refine any_op (listed' := #[true, true, true, true, true, true, true, true, true, true, true, true, true, true, false, false, false, false]) (by kernel_rfl) (by kernel_rfl) ?_
                            refine at_run 1 [⟨false, [], callFunc 70 #[.agg #[.slice A7 r8.length c7, .int .i64 g2]], .tuple #[.int .i64 r9.1, .int .i64 r9.2]⟩] [some (.tuple #[.int .i64 r9.1, .int .i64 r9.2])] [1, 4, 5, 6, 29, 30, 31, 69] [pl 1 (.pointer (some ⟨g3, 0, none⟩)), pl 4 (.int .i64 best1), pl 5 (.int .i64 who1), pl 6 (.int .i64 z1), pl 29 (.slice (cutAddr A1 c1 r4.1) ((cut g1 r4.1 r4.2).length) (c1 - Int.toNat r4.1)), pl 30 (.int .i64 (((cut g1 r4.1 r4.2).length : Nat) : Int)), pl 31 (.int .i64 z1), pl 69 (.tuple #[.int .i64 r9.1, .int .i64 r9.2])] hF hS (by kernel_rfl) (by kernel_rfl) ?_ (fun a w hF hS => ?_)
                            · exact obs_cons (ob_call Try.func70 (by kernel_rfl) rfl (fun _ _ hS => ih_mancala_game_value hr9 hS (fun _ hS => (hS.at_ 0 rfl).rd) ((hS.at_ 0 rfl).cap1) rfl)) <| obs_nil
                            refine any_fin rfl (hS.pickN 5 [2, 3, 4] (by decide)) ?_
                            refine any_step [14] (by kernel_rfl) rfl ?_
                            refine (all_cons ?_ all_nil)
                            · refine any_op (listed' := #[true, true, true, true, true, true, true, true, true, true, true, true, true, true, true, false, false, false]) (by kernel_rfl) (by kernel_rfl) ?_
                              refine at_runW 1 [] [] [1, 4, 5, 6, 29, 30, 31, 55] [pl 1 (.pointer (some ⟨g3, 0, none⟩)), pl 4 (.int .i64 best1), pl 5 (.int .i64 who1), pl 6 (.int .i64 z1), pl 29 (.slice (cutAddr A1 c1 r4.1) ((cut g1 r4.1 r4.2).length) (c1 - Int.toNat r4.1)), pl 30 (.int .i64 (((cut g1 r4.1 r4.2).length : Nat) : Int)), pl 31 (.int .i64 z1), pl 55 (.tuple #[.int .i64 r9.1, .int .i64 r9.2])] hF hS (by kernel_rfl) (by kernel_rfl) ?_ (fun a hF => ?_)
                              · exact obs_nil
                              refine any_finI rfl (fun h => h) ?_
                              refine any_step [15, 16] (by kernel_rfl) rfl ?_
                              refine (all_cons ?_ (all_cons ?_ all_nil))
                              · refine any_op (listed' := #[true, true, true, true, true, true, true, true, true, true, true, true, true, true, true, true, false, false]) (by kernel_rfl) (by kernel_rfl) ?_
                                refine at_runW 1 [] [] [1, 4, 5, 6, 29, 30, 31, 55, 70] [pl 1 (.pointer (some ⟨g3, 0, none⟩)), pl 4 (.int .i64 best1), pl 5 (.int .i64 who1), pl 6 (.int .i64 z1), pl 29 (.slice (cutAddr A1 c1 r4.1) ((cut g1 r4.1 r4.2).length) (c1 - Int.toNat r4.1)), pl 30 (.int .i64 (((cut g1 r4.1 r4.2).length : Nat) : Int)), pl 31 (.int .i64 z1), pl 55 (.tuple #[.int .i64 r9.1, .int .i64 r9.2]), pl 70 (.int .i64 r9.1)] hF hS (by kernel_rfl) (by kernel_rfl) ?_ (fun a hF => ?_)
                                · exact obs_nil
                                refine any_finI rfl (fun h => h) ?_
                                refine any_step [16, 17] (by kernel_rfl) rfl ?_
                                refine (all_cons ?_ (all_cons ?_ all_nil))
                                · refine any_op (listed' := #[true, true, true, true, true, true, true, true, true, true, true, true, true, true, true, true, true, false]) (by kernel_rfl) (by kernel_rfl) ?_
                                  refine at_runW 1 [] [] [1, 4, 5, 6, 29, 30, 31, 70] [pl 1 (.pointer (some ⟨g3, 0, none⟩)), pl 4 (.int .i64 best1), pl 5 (.int .i64 who1), pl 6 (.int .i64 z1), pl 29 (.slice (cutAddr A1 c1 r4.1) ((cut g1 r4.1 r4.2).length) (c1 - Int.toNat r4.1)), pl 30 (.int .i64 (((cut g1 r4.1 r4.2).length : Nat) : Int)), pl 31 (.int .i64 z1), pl 70 (.int .i64 r9.1)] hF hS (by kernel_rfl) (by kernel_rfl) ?_ (fun a hF => ?_)
                                  · exact obs_nil
                                  refine any_finI rfl (fun h => h) ?_
                                  refine any_step [17] (by kernel_rfl) rfl ?_
                                  refine (all_cons ?_ all_nil)
                                  · refine any_op (listed' := #[true, true, true, true, true, true, true, true, true, true, true, true, true, true, true, true, true, true]) (by kernel_rfl) (by kernel_rfl) ?_
                                    refine at_runW 1 [] [] [1, 4, 5, 6, 9, 29, 30, 31] [pl 1 (.pointer (some ⟨g3, 0, none⟩)), pl 4 (.int .i64 best1), pl 5 (.int .i64 who1), pl 6 (.int .i64 z1), pl 9 (.int .i64 r9.1), pl 29 (.slice (cutAddr A1 c1 r4.1) ((cut g1 r4.1 r4.2).length) (c1 - Int.toNat r4.1)), pl 30 (.int .i64 (((cut g1 r4.1 r4.2).length : Nat) : Int)), pl 31 (.int .i64 z1)] hF hS (by kernel_rfl) (by kernel_rfl) ?_ (fun a hF => ?_)
                                    · exact obs_nil
                                    refine any_finI rfl (fun h => h) ?_
                                    refine any_end (by kernel_rfl) ?_
                                    refine np_n ?_
                                    refine then_n ?_
                                    have hS := hS.pickN 5 [3] (by decide)
                                    exact ⟨r9.1, hF.weak [1, 4, 5, 6, 9, 29, 30, 31] (by kernel_rfl), hS, hm⟩
                                · refine any_op (listed' := #[true, true, true, true, true, true, true, true, true, true, true, true, true, true, true, true, false, true]) (by kernel_rfl) (by kernel_rfl) ?_
                                  refine at_runW 1 [] [] [1, 4, 5, 6, 9, 29, 30, 31, 55] [pl 1 (.pointer (some ⟨g3, 0, none⟩)), pl 4 (.int .i64 best1), pl 5 (.int .i64 who1), pl 6 (.int .i64 z1), pl 9 (.int .i64 r9.1), pl 29 (.slice (cutAddr A1 c1 r4.1) ((cut g1 r4.1 r4.2).length) (c1 - Int.toNat r4.1)), pl 30 (.int .i64 (((cut g1 r4.1 r4.2).length : Nat) : Int)), pl 31 (.int .i64 z1), pl 55 (.tuple #[.int .i64 r9.1, .int .i64 r9.2])] hF hS (by kernel_rfl) (by kernel_rfl) ?_ (fun a hF => ?_)
                                  · exact obs_nil
                                  refine any_finI rfl (fun h => h) ?_
                                  refine any_step [16] (by kernel_rfl) rfl ?_
                                  refine (all_cons ?_ all_nil)
                                  · refine any_op (listed' := #[true, true, true, true, true, true, true, true, true, true, true, true, true, true, true, true, true, true]) (by kernel_rfl) (by kernel_rfl) ?_
                                    refine at_runW 1 [] [] [1, 4, 5, 6, 9, 29, 30, 31] [pl 1 (.pointer (some ⟨g3, 0, none⟩)), pl 4 (.int .i64 best1), pl 5 (.int .i64 who1), pl 6 (.int .i64 z1), pl 9 (.int .i64 r9.1), pl 29 (.slice (cutAddr A1 c1 r4.1) ((cut g1 r4.1 r4.2).length) (c1 - Int.toNat r4.1)), pl 30 (.int .i64 (((cut g1 r4.1 r4.2).length : Nat) : Int)), pl 31 (.int .i64 z1)] hF hS (by kernel_rfl) (by kernel_rfl) ?_ (fun a hF => ?_)
                                    · exact obs_nil
                                    refine any_finI rfl (fun h => h) ?_
                                    refine any_end (by kernel_rfl) ?_
                                    refine np_n ?_
                                    refine then_n ?_
                                    have hS := hS.pickN 5 [3] (by decide)
                                    exact ⟨r9.1, hF.weak [1, 4, 5, 6, 9, 29, 30, 31] (by kernel_rfl), hS, hm⟩
                              · refine any_op (listed' := #[true, true, true, true, true, true, true, true, true, true, true, true, true, true, true, false, true, false]) (by kernel_rfl) (by kernel_rfl) ?_
                                refine at_runW 1 [] [] [1, 4, 5, 6, 29, 30, 31, 55] [pl 1 (.pointer (some ⟨g3, 0, none⟩)), pl 4 (.int .i64 best1), pl 5 (.int .i64 who1), pl 6 (.int .i64 z1), pl 29 (.slice (cutAddr A1 c1 r4.1) ((cut g1 r4.1 r4.2).length) (c1 - Int.toNat r4.1)), pl 30 (.int .i64 (((cut g1 r4.1 r4.2).length : Nat) : Int)), pl 31 (.int .i64 z1), pl 55 (.tuple #[.int .i64 r9.1, .int .i64 r9.2])] hF hS (by kernel_rfl) (by kernel_rfl) ?_ (fun a hF => ?_)
                                · exact obs_nil
                                refine any_finI rfl (fun h => h) ?_
                                refine any_step [15] (by kernel_rfl) rfl ?_
                                refine (all_cons ?_ all_nil)
                                · refine any_op (listed' := #[true, true, true, true, true, true, true, true, true, true, true, true, true, true, true, true, true, false]) (by kernel_rfl) (by kernel_rfl) ?_
                                  refine at_runW 1 [] [] [1, 4, 5, 6, 29, 30, 31, 70] [pl 1 (.pointer (some ⟨g3, 0, none⟩)), pl 4 (.int .i64 best1), pl 5 (.int .i64 who1), pl 6 (.int .i64 z1), pl 29 (.slice (cutAddr A1 c1 r4.1) ((cut g1 r4.1 r4.2).length) (c1 - Int.toNat r4.1)), pl 30 (.int .i64 (((cut g1 r4.1 r4.2).length : Nat) : Int)), pl 31 (.int .i64 z1), pl 70 (.int .i64 r9.1)] hF hS (by kernel_rfl) (by kernel_rfl) ?_ (fun a hF => ?_)
                                  · exact obs_nil
                                  refine any_finI rfl (fun h => h) ?_
                                  refine any_step [17] (by kernel_rfl) rfl ?_
                                  refine (all_cons ?_ all_nil)
                                  · refine any_op (listed' := #[true, true, true, true, true, true, true, true, true, true, true, true, true, true, true, true, true, true]) (by kernel_rfl) (by kernel_rfl) ?_
                                    refine at_runW 1 [] [] [1, 4, 5, 6, 9, 29, 30, 31] [pl 1 (.pointer (some ⟨g3, 0, none⟩)), pl 4 (.int .i64 best1), pl 5 (.int .i64 who1), pl 6 (.int .i64 z1), pl 9 (.int .i64 r9.1), pl 29 (.slice (cutAddr A1 c1 r4.1) ((cut g1 r4.1 r4.2).length) (c1 - Int.toNat r4.1)), pl 30 (.int .i64 (((cut g1 r4.1 r4.2).length : Nat) : Int)), pl 31 (.int .i64 z1)] hF hS (by kernel_rfl) (by kernel_rfl) ?_ (fun a hF => ?_)
                                    · exact obs_nil
                                    refine any_finI rfl (fun h => h) ?_
                                    refine any_end (by kernel_rfl) ?_
                                    refine np_n ?_
                                    refine then_n ?_
                                    have hS := hS.pickN 5 [3] (by decide)
                                    exact ⟨r9.1, hF.weak [1, 4, 5, 6, 9, 29, 30, 31] (by kernel_rfl), hS, hm⟩
            · obtain ⟨r5, hr5, hm⟩ := call_b hm
              refine regMix5 [0, 1, 3, 4] [] 4 #[true, true, false, true, true, false, false, false] [⟨false, [], vS (Instr.loadAt 22 (.pointer (some ⟨g3, 0, none⟩))), .slice A1 g1.length c1⟩, ⟨false, [], vS (Instr.loadAt 3 (.pointer (some ⟨g3, 1, none⟩))), .int .i64 g2⟩] [none, some (.slice A1 g1.length c1), none, some (.int .i64 g2)] [1, 4, 5, 6, 29, 30, 31, 39, 42] [pl 1 (.pointer (some ⟨g3, 0, none⟩)), pl 4 (.int .i64 best1), pl 5 (.int .i64 who1), pl 6 (.int .i64 z1), pl 29 (.slice (cutAddr A1 c1 r4.1) ((cut g1 r4.1 r4.2).length) (c1 - Int.toNat r4.1)), pl 30 (.int .i64 (((cut g1 r4.1 r4.2).length : Nat) : Int)), pl 31 (.int .i64 z1), pl 39 (.slice A1 g1.length c1), pl 42 (.int .i64 g2)] hF hS Fol (by kernel_rfl) (by kernel_rfl) (by kernel_rfl) (by kernel_rfl) ?_ (fun a w hF hS => ?_)
              · exact obs_cons (ob_load Agg22 (fun _ _ hS => (hS.at_ 0 rfl).cell rfl)) <| obs_cons (ob_load Agg3 (fun _ _ hS => (hS.at_ 0 rfl).cell rfl)) <| obs_nil
              refine any_step [2, 6] (by kernel_rfl) rfl ?_
              refine (all_cons ?_ (all_cons ?_ all_nil))
              · refine any_op (listed' := #[true, true, true, true, true, false, false, false]) (by kernel_rfl) (by kernel_rfl) ?_
                refine at_call (f := 113) (args := #[.slice A1 g1.length c1]) (d := 40) hF (by kernel_rfl) (by kernel_rfl) Try.func113 (by kernel_rfl) rfl (slices_Clone_w hr5 hS (fun _ hS => (hr_g1 _ (hS.dropN 1))) _hc_g1 rfl) (fun v a w hR hF => ?_)
                clear hS
                obtain ⟨A3, c3, rfl, hS⟩ := hR
                have hS : Sep w0 B w (own 3 (.slice A3 r5.length c3) (vI r5) :: blk g3 84 #[.slice A1 g1.length c1, .int .i64 g2] :: fs) := hS
                refine any_fin rfl (hS.pickN 2 [1] (by decide)) ?_
                refine any_step [5, 6] (by kernel_rfl) rfl ?_
                refine (all_cons ?_ (all_cons ?_ all_nil))
                · refine any_op (listed' := #[true, true, true, true, true, true, false, false]) (by kernel_rfl) (by kernel_rfl) ?_
                  refine at_runW 1 [] [] [1, 4, 5, 6, 29, 30, 31, 43] [pl 1 (.pointer (some ⟨g3, 0, none⟩)), pl 4 (.int .i64 best1), pl 5 (.int .i64 who1), pl 6 (.int .i64 z1), pl 29 (.slice (cutAddr A1 c1 r4.1) ((cut g1 r4.1 r4.2).length) (c1 - Int.toNat r4.1)), pl 30 (.int .i64 (((cut g1 r4.1 r4.2).length : Nat) : Int)), pl 31 (.int .i64 z1), pl 43 (.agg #[.slice A3 r5.length c3, .int .i64 g2])] hF hS (by kernel_rfl) (by kernel_rfl) ?_ (fun a hF => ?_)
                  · exact obs_nil
                  refine any_finI rfl (fun h => h) ?_
                  refine any_step [6] (by kernel_rfl) rfl ?_
                  refine (all_cons ?_ all_nil)
                  · refine any_op (listed' := #[true, true, true, true, true, true, true, false]) (by kernel_rfl) (by kernel_rfl) ?_
                    refine at_do (d := 8) (s := vS (Instr.alloc 84 true (.tuple #[]))) (v := .pointer (some ⟨w.heap.size, 0, none⟩)) (w' := w.alloc (.cells #[.slice none 0 0, .int .i64 0] 84)) hF (by kernel_rfl) (by kernel_rfl) (by kernel_rfl) (fun a hF => ?_)
                    have hS : Sep w0 B (w.alloc (.cells #[.slice none 0 0, .int .i64 0] 84)) (blk w.heap.size 84 #[.slice none 0 0, .int .i64 0] :: (own 3 (.slice A3 r5.length c3) (vI r5) :: blk g3 84 #[.slice A1 g1.length c1, .int .i64 g2] :: fs)) := hS.box 84 #[.slice none 0 0, .int .i64 0]
                    generalize w.heap.size = g4 at hF hS
                    generalize w.alloc (.cells #[.slice none 0 0, .int .i64 0] 84) = w at hS ⊢
                    refine any_fin rfl (hS.pickN 3 [2] (by decide)) ?_
                    refine any_step [7] (by kernel_rfl) rfl ?_
                    refine (all_cons ?_ all_nil)
                    · refine any_op (listed' := #[true, true, true, true, true, true, true, true]) (by kernel_rfl) (by kernel_rfl) ?_
                      obtain ⟨w, hrun, hS⟩ := run_putA (P := Try.prog) (t := 84) (us := #[.slice A3 r5.length c3, .int .i64 g2]) (o := 0) (hS.at_ 0 rfl) (by kernel_rfl) (all_one (by kernel_rfl)) (Nat.le_of_ble_eq_true (by kernel_rfl))
                      refine at_skip hF (by kernel_rfl) hrun ?_
                      have hS : Sep w0 B w (blk g4 84 #[.slice A3 r5.length c3, .int .i64 g2] :: own 3 (.slice A3 r5.length c3) (vI r5) :: blk g3 84 #[.slice A1 g1.length c1, .int .i64 g2] :: fs) := hS
                      refine any_fin rfl (hS.pickN 3 [2] (by decide)) ?_
                      refine any_end (by kernel_rfl) ?_
                      refine np_n ?_
                      refine then_n ?_
                      have hS := hS.pickN 3 [2, 0, 1] (by decide)
                      exact ⟨r5, g4, A3, c3, hF.weak [1, 4, 5, 6, 8, 29, 30, 31] (by kernel_rfl), hS, hm⟩
                · refine any_op (listed' := #[true, true, true, true, true, false, true, false]) (by kernel_rfl) (by kernel_rfl) ?_
                  refine at_do (d := 8) (s := vS (Instr.alloc 84 true (.tuple #[]))) (v := .pointer (some ⟨w.heap.size, 0, none⟩)) (w' := w.alloc (.cells #[.slice none 0 0, .int .i64 0] 84)) hF (by kernel_rfl) (by kernel_rfl) (by kernel_rfl) (fun a hF => ?_)
                  have hS : Sep w0 B (w.alloc (.cells #[.slice none 0 0, .int .i64 0] 84)) (blk w.heap.size 84 #[.slice none 0 0, .int .i64 0] :: (own 3 (.slice A3 r5.length c3) (vI r5) :: blk g3 84 #[.slice A1 g1.length c1, .int .i64 g2] :: fs)) := hS.box 84 #[.slice none 0 0, .int .i64 0]
                  generalize w.heap.size = g4 at hF hS
                  generalize w.alloc (.cells #[.slice none 0 0, .int .i64 0] 84) = w at hS ⊢
                  refine any_fin rfl (hS.pickN 3 [2] (by decide)) ?_
                  refine any_step [5] (by kernel_rfl) rfl ?_
                  refine (all_cons ?_ all_nil)
                  · refine any_op (listed' := #[true, true, true, true, true, true, true, false]) (by kernel_rfl) (by kernel_rfl) ?_
                    refine at_runW 1 [] [] [1, 4, 5, 6, 8, 29, 30, 31, 43] [pl 1 (.pointer (some ⟨g3, 0, none⟩)), pl 4 (.int .i64 best1), pl 5 (.int .i64 who1), pl 6 (.int .i64 z1), pl 8 (.pointer (some ⟨g4, 0, none⟩)), pl 29 (.slice (cutAddr A1 c1 r4.1) ((cut g1 r4.1 r4.2).length) (c1 - Int.toNat r4.1)), pl 30 (.int .i64 (((cut g1 r4.1 r4.2).length : Nat) : Int)), pl 31 (.int .i64 z1), pl 43 (.agg #[.slice A3 r5.length c3, .int .i64 g2])] hF hS (by kernel_rfl) (by kernel_rfl) ?_ (fun a hF => ?_)
                    · exact obs_nil
                    refine any_finI rfl (fun h => h) ?_
                    refine any_step [7] (by kernel_rfl) rfl ?_
                    refine (all_cons ?_ all_nil)
                    · refine any_op (listed' := #[true, true, true, true, true, true, true, true]) (by kernel_rfl) (by kernel_rfl) ?_
                      obtain ⟨w, hrun, hS⟩ := run_putA (P := Try.prog) (t := 84) (us := #[.slice A3 r5.length c3, .int .i64 g2]) (o := 0) (hS.at_ 0 rfl) (by kernel_rfl) (all_one (by kernel_rfl)) (Nat.le_of_ble_eq_true (by kernel_rfl))
                      refine at_skip hF (by kernel_rfl) hrun ?_
                      have hS : Sep w0 B w (blk g4 84 #[.slice A3 r5.length c3, .int .i64 g2] :: own 3 (.slice A3 r5.length c3) (vI r5) :: blk g3 84 #[.slice A1 g1.length c1, .int .i64 g2] :: fs) := hS
                      refine any_fin rfl (hS.pickN 3 [2] (by decide)) ?_
                      refine any_end (by kernel_rfl) ?_
                      refine np_n ?_
                      refine then_n ?_
                      have hS := hS.pickN 3 [2, 0, 1] (by decide)
                      exact ⟨r5, g4, A3, c3, hF.weak [1, 4, 5, 6, 8, 29, 30, 31] (by kernel_rfl), hS, hm⟩
              · refine any_op (listed' := #[true, true, false, true, true, false, true, false]) (by kernel_rfl) (by kernel_rfl) ?_
                refine at_do (d := 8) (s := vS (Instr.alloc 84 true (.tuple #[]))) (v := .pointer (some ⟨w.heap.size, 0, none⟩)) (w' := w.alloc (.cells #[.slice none 0 0, .int .i64 0] 84)) hF (by kernel_rfl) (by kernel_rfl) (by kernel_rfl) (fun a hF => ?_)
                have hS : Sep w0 B (w.alloc (.cells #[.slice none 0 0, .int .i64 0] 84)) (blk w.heap.size 84 #[.slice none 0 0, .int .i64 0] :: (blk g3 84 #[.slice A1 g1.length c1, .int .i64 g2] :: fs)) := hS.box 84 #[.slice none 0 0, .int .i64 0]
                generalize w.heap.size = g4 at hF hS
                generalize w.alloc (.cells #[.slice none 0 0, .int .i64 0] 84) = w at hS ⊢
                refine any_fin rfl (hS.pickN 2 [1] (by decide)) ?_
                refine any_step [2] (by kernel_rfl) rfl ?_
                refine (all_cons ?_ all_nil)
                · refine any_op (listed' := #[true, true, true, true, true, false, true, false]) (by kernel_rfl) (by kernel_rfl) ?_
                  refine at_call (f := 113) (args := #[.slice A1 g1.length c1]) (d := 40) hF (by kernel_rfl) (by kernel_rfl) Try.func113 (by kernel_rfl) rfl (slices_Clone_w hr5 hS (fun _ hS => (hr_g1 _ (hS.dropN 2))) _hc_g1 rfl) (fun v a w hR hF => ?_)
                  clear hS
                  obtain ⟨A5, c5, rfl, hS⟩ := hR
                  have hS : Sep w0 B w (own 3 (.slice A5 r5.length c5) (vI r5) :: blk g4 84 #[.slice none 0 0, .int .i64 0] :: blk g3 84 #[.slice A1 g1.length c1, .int .i64 g2] :: fs) := hS
                  refine any_fin rfl (hS.pickN 3 [2] (by decide)) ?_
                  refine any_step [5] (by kernel_rfl) rfl ?_
                  refine (all_cons ?_ all_nil)
                  · refine any_op (listed' := #[true, true, true, true, true, true, true, false]) (by kernel_rfl) (by kernel_rfl) ?_
                    refine at_runW 1 [] [] [1, 4, 5, 6, 8, 29, 30, 31, 43] [pl 1 (.pointer (some ⟨g3, 0, none⟩)), pl 4 (.int .i64 best1), pl 5 (.int .i64 who1), pl 6 (.int .i64 z1), pl 8 (.pointer (some ⟨g4, 0, none⟩)), pl 29 (.slice (cutAddr A1 c1 r4.1) ((cut g1 r4.1 r4.2).length) (c1 - Int.toNat r4.1)), pl 30 (.int .i64 (((cut g1 r4.1 r4.2).length : Nat) : Int)), pl 31 (.int .i64 z1), pl 43 (.agg #[.slice A5 r5.length c5, .int .i64 g2])] hF hS (by kernel_rfl) (by kernel_rfl) ?_ (fun a hF => ?_)
                    · exact obs_nil
                    refine any_finI rfl (fun h => h) ?_
                    refine any_step [7] (by kernel_rfl) rfl ?_
                    refine (all_cons ?_ all_nil)
                    · refine any_op (listed' := #[true, true, true, true, true, true, true, true]) (by kernel_rfl) (by kernel_rfl) ?_
                      obtain ⟨w, hrun, hS⟩ := run_putA (P := Try.prog) (t := 84) (us := #[.slice A5 r5.length c5, .int .i64 g2]) (o := 0) (hS.at_ 1 rfl) (by kernel_rfl) (all_one (by kernel_rfl)) (Nat.le_of_ble_eq_true (by kernel_rfl))
                      refine at_skip hF (by kernel_rfl) hrun ?_
                      have hS : Sep w0 B w (own 3 (.slice A5 r5.length c5) (vI r5) :: blk g4 84 #[.slice A5 r5.length c5, .int .i64 g2] :: blk g3 84 #[.slice A1 g1.length c1, .int .i64 g2] :: fs) := hS
                      refine any_fin rfl (hS.pickN 3 [2] (by decide)) ?_
                      refine any_end (by kernel_rfl) ?_
                      refine np_n ?_
                      refine then_n ?_
                      have hS := hS.pickN 3 [2, 1, 0] (by decide)
                      exact ⟨r5, g4, A5, c5, hF.weak [1, 4, 5, 6, 8, 29, 30, 31] (by kernel_rfl), hS, hm⟩
          · refine reg [] [] [1, 4, 5, 6, 29, 30, 31, 37] [pl 1 (.pointer (some ⟨g3, 0, none⟩)), pl 4 (.int .i64 best1), pl 5 (.int .i64 who1), pl 6 (.int .i64 z1), pl 29 (.slice (cutAddr A1 c1 r4.1) ((cut g1 r4.1 r4.2).length) (c1 - Int.toNat r4.1)), pl 30 (.int .i64 (((cut g1 r4.1 r4.2).length : Nat) : Int)), pl 31 (.int .i64 z1), pl 37 (.bool ((geti (cut g1 r4.1 r4.2) z1) == 0))] hF hS Fol (by kernel_rfl) (by kernel_rfl) (by kernel_rfl) ?_ (fun a w hF hS => ?_)
            · exact obs_nil
            refine cond_ev (t := 37) (b := ((geti (cut g1 r4.1 r4.2) z1) == 0)) hF (by kernel_rfl) (fun hb => ?_) (fun hb => ?_)
            · replace hm := if_t hm hb
              refine wp_exit ?_
              refine then_e (block_e (then_n ?_))
              exact ⟨best1, who1, hF.weak [1, 4, 5, 29, 30, 31] (by kernel_rfl), hS, hm⟩
            · replace hm := if_f hm hb
              refine wp_skip ?_
              refine then_n ?_
              exact ⟨hF.weak [1, 4, 5, 6, 29, 30, 31] (by kernel_rfl), hS, hm⟩
      · refine cond_ev (t := 32) (b := decide (z1 < (((cut g1 r4.1 r4.2).length : Nat) : Int))) hF (by kernel_rfl) (fun hb => ?_) (fun hb => ?_)
        · replace hm := if_t hm hb
          refine wp_skip ?_
          refine then_n ?_
          exact ⟨hF.weak [1, 4, 5, 29, 30, 31] (by kernel_rfl), hS, hm⟩
        · replace hm := if_f hm hb
          refine wp_exit ?_
          refine then_e (then_e (block_e (then_n ?_)))
          have hS := hS.pickN 1 [] (by decide)
          rw [← hφ1] at hm
          replace hm := done_b hm
          unfold mancala_game_value_K1 at hm
          try dsimp only at hm
          have hm : (mancala_game_value_J2 best1 who1).bind some = some r := hm
          exact ⟨best1, who1, hF.weak [4, 5] (by kernel_rfl), hS, hm⟩
  · obtain ⟨r1, hr1, hm⟩ := call_b hm
    refine reg [⟨false, [], vS (Instr.loadAt 84 (.pointer (some ⟨g3, 0, none⟩))), .agg #[.slice A1 g1.length c1, .int .i64 g2]⟩, ⟨false, [], callFunc 115 #[.agg #[.slice A1 g1.length c1, .int .i64 g2]], .bool r1⟩] [some (.agg #[.slice A1 g1.length c1, .int .i64 g2]), some (.bool r1)] [1, 12] [pl 1 (.pointer (some ⟨g3, 0, none⟩)), pl 12 (.bool r1)] hF hS Fol (by kernel_rfl) (by kernel_rfl) (by kernel_rfl) ?_ (fun a w hF hS => ?_)
    · exact obs_cons (ob_loadA (cs := #[.slice A1 g1.length c1, .int .i64 g2]) (by kernel_rfl) (by kernel_rfl) (fun _ _ hS => (hS.at_ 0 rfl).cellsAt 0 (by rfl))) <| obs_cons (ob_call Try.func115 (by kernel_rfl) rfl (fun _ _ hS => mancala_game_over_w hr1 hS (fun _ hS => (hr_g1 _ (hS.dropN 1))) _hc_g1 rfl)) <| obs_nil
    refine cond_ev (t := 12) (b := r1) hF (by kernel_rfl) (fun hb => ?_) (fun hb => ?_)
    · replace hm := if_t hm hb
      obtain ⟨hp1, hm⟩ := asrt_b hm
      obtain ⟨r2, hr2, hm⟩ := call_b hm
      obtain ⟨hp2, hm⟩ := asrt_b hm
      obtain ⟨r3, hr3, hm⟩ := call_b hm
      refine reg [⟨false, [], vS (Instr.loadAt 22 (.pointer (some ⟨g3, 0, none⟩))), .slice A1 g1.length c1⟩, ⟨false, [], vS (Instr.loadAt 3 (.pointer (some ⟨g3, 1, none⟩))), .int .i64 g2⟩, ⟨true, [], vS (Instr.sliceAt 22 (.slice A1 g1.length c1) none (some (.int .i64 (w64 (g2 + 1)))) none), .slice (cutAddr A1 c1 (0 : Int)) ((cut g1 (0 : Int) (w64 (g2 + 1))).length) (c1 - Int.toNat (0 : Int))⟩, ⟨false, [], callFunc 67 #[.slice (cutAddr A1 c1 (0 : Int)) ((cut g1 (0 : Int) (w64 (g2 + 1))).length) (c1 - Int.toNat (0 : Int))], .int .i64 r2⟩, ⟨false, [], vS (Instr.loadAt 22 (.pointer (some ⟨g3, 0, none⟩))), .slice A1 g1.length c1⟩, ⟨false, [], vS (Instr.loadAt 3 (.pointer (some ⟨g3, 1, none⟩))), .int .i64 g2⟩, ⟨true, [], vS (Instr.sliceAt 22 (.slice A1 g1.length c1) (some (.int .i64 (w64 (g2 + 1)))) none none), .slice (cutAddr A1 c1 (w64 (g2 + 1))) ((cut g1 (w64 (g2 + 1)) (g1.length : Int)).length) (c1 - Int.toNat (w64 (g2 + 1)))⟩, ⟨false, [], callFunc 67 #[.slice (cutAddr A1 c1 (w64 (g2 + 1))) ((cut g1 (w64 (g2 + 1)) (g1.length : Int)).length) (c1 - Int.toNat (w64 (g2 + 1)))], .int .i64 r3⟩] [none, some (.slice A1 g1.length c1), none, some (.int .i64 g2), none, some (.slice (cutAddr A1 c1 (0 : Int)) ((cut g1 (0 : Int) (w64 (g2 + 1))).length) (c1 - Int.toNat (0 : Int))), some (.int .i64 r2), none, some (.slice A1 g1.length c1), none, some (.int .i64 g2), none, some (.slice (cutAddr A1 c1 (w64 (g2 + 1))) ((cut g1 (w64 (g2 + 1)) (g1.length : Int)).length) (c1 - Int.toNat (w64 (g2 + 1)))), some (.int .i64 r3), none, none, none] [2, 3] [pl 2 (.int .i64 (w64 (r2 - r3))), pl 3 (.int .i64 (-1))] hF hS Fol (by kernel_rfl) (by kernel_rfl) (by kernel_rfl) ?_ (fun a w hF hS => ?_)
      · exact obs_cons (ob_load Agg22 (fun _ _ hS => (hS.at_ 0 rfl).cell rfl)) <| obs_cons (ob_load Agg3 (fun _ _ hS => (hS.at_ 0 rfl).cell rfl)) <| obs_cons (ob_cutn (l := g1) (k := .i64) (k' := .i64) Und22 hi3 hs3 rfl (.inr ⟨rfl, rfl⟩) (.inl rfl) (fun _ => hp1) _hc_g1) <| obs_cons (ob_call Try.func67 (by kernel_rfl) rfl (fun _ _ hS => mancala_sum_w hr2 hS (fun _ hS => (Rd.cutF (hr_g1 _ (hS.dropN 1)) hp1 _hc_g1)) (cap_cut hp1 _hc_g1) rfl)) <| obs_cons (ob_load Agg22 (fun _ _ hS => (hS.at_ 0 rfl).cell rfl)) <| obs_cons (ob_load Agg3 (fun _ _ hS => (hS.at_ 0 rfl).cell rfl)) <| obs_cons (ob_cutn (l := g1) (k := .i64) (k' := .i64) Und22 hi3 hs3 rfl (.inl rfl) (.inr ⟨rfl, rfl⟩) (fun _ => hp2) _hc_g1) <| obs_cons (ob_call Try.func67 (by kernel_rfl) rfl (fun _ _ hS => mancala_sum_w hr3 hS (fun _ hS => (Rd.cutF (hr_g1 _ (hS.dropN 1)) hp2 _hc_g1)) (cap_cut hp2 _hc_g1) rfl)) <| obs_nil
      refine wp_ret ?_
      refine then_r ?_
      have hS := hS.pickN 1 [] (by decide)
      have hm : some ((w64 (r2 - r3)), (-1)) = some r := hm
      obtain rfl := Option.some.inj hm
      exact retV (rs := [.tmp 2, .tmp 3]) (vs := [.int .i64 (w64 (r2 - r3)), .int .i64 (-1)]) hF rfl (rv_t (by kernel_rfl) <| rv_t (by kernel_rfl) <| rv_nil) rfl ⟨rfl, hS⟩
    · replace hm := if_f hm hb
      refine wp_skip ?_
      refine then_n ?_
      exact ⟨hF.weak [1] (by kernel_rfl), hS, hm⟩

theorem mancala_game_value_w {A1 : Option Addr} {c1 : Nat} {n1 : Nat} {g1 : List Int} {g2 : Int} {r : (Int × Int)} {w0 w : World} {B : Nat} {fs : List HP} (hm : mancala_game_value_m g1 g2 = some r) (hS : Sep w0 B w (fs)) (hr_g1 : RdF w0 B fs A1 (vI g1)) (_hc_g1 : g1.length ≤ c1) (_hn_g1 : n1 = g1.length) :
    Calls Try.prog 70 #[.agg #[.slice A1 n1 c1, .int .i64 g2]] w fun e w' => e = .returned (.tuple #[.int .i64 r.1, .int .i64 r.2]) ∧ Sep w0 B w' (fs) := by
  have key : ∀ (n : Nat) {A1 : Option Addr} {c1 : Nat} {n1 : Nat} {g1 : List Int} {g2 : Int} {r : (Int × Int)} {w0 w : World} {B : Nat} {fs : List HP} (_ : mancala_game_value_mF n g1 g2 = some r) (_ : Sep w0 B w (fs)) (hr_g1 : RdF w0 B fs A1 (vI g1)) (_hc_g1 : g1.length ≤ c1) (_hn_g1 : n1 = g1.length), Calls Try.prog 70 #[.agg #[.slice A1 n1 c1, .int .i64 g2]] w fun e w' => e = .returned (.tuple #[.int .i64 r.1, .int .i64 r.2]) ∧ Sep w0 B w' (fs) := by
    intro n
    induction n with
    | zero => intros; rename_i hm0 _ _ _ _; cases hm0
    | succ n ih => intros; rename_i hm0 hS0 h0 h1 h2; exact mancala_game_value_wB (rec_mancala_game_value := mancala_game_value_mF n) (fun hm hS h0 h1 h2 => ih hm hS h0 h1 h2) hm0 hS0 h0 h1 h2
  obtain ⟨n, hn⟩ := recM_some hm
  exact key n hn hS hr_g1 _hc_g1 _hn_g1

theorem mancala_game_value_J6_le_mancala_game_value {rec_mancala_game_value1 rec_mancala_game_value2 : List Int → Int → Option (Int × Int)} (h_rec_mancala_game_value : ∀ a0 a1, Le (rec_mancala_game_value1 a0 a1) (rec_mancala_game_value2 a0 a1)) (g2 : Int) (best1 : Int) (who1 : Int) (z1 : Int) (next1 : List Int) : Le (mancala_game_value_J6 rec_mancala_game_value1 g2 best1 who1 z1 next1) (mancala_game_value_J6 rec_mancala_game_value2 g2 best1 who1 z1 next1) := by
  unfold mancala_game_value_J6
  repeat' (first | with_reducible exact Le.refl _ | with_reducible exact h_rec_mancala_game_value _ _ | refine Le.asrt ?_ | refine Le.ite ?_ ?_ | refine Le.bind ?_ (fun _ => ?_) | refine Le.loop2 (fun _ => ?_) | refine Le.elim2 (fun _ => ?_) (fun _ => ?_))

theorem mancala_game_value_J5_le_mancala_game_value {rec_mancala_game_value1 rec_mancala_game_value2 : List Int → Int → Option (Int × Int)} (h_rec_mancala_game_value : ∀ a0 a1, Le (rec_mancala_game_value1 a0 a1) (rec_mancala_game_value2 a0 a1)) (g1 : List Int) (g2 : Int) (best1 : Int) (who1 : Int) (z1 : Int) : Le (mancala_game_value_J5 rec_mancala_game_value1 g1 g2 best1 who1 z1) (mancala_game_value_J5 rec_mancala_game_value2 g1 g2 best1 who1 z1) := by
  unfold mancala_game_value_J5
  repeat' (first | with_reducible exact Le.refl _ | with_reducible exact h_rec_mancala_game_value _ _ | with_reducible exact mancala_game_value_J6_le_mancala_game_value h_rec_mancala_game_value _ _ _ _ _ | refine Le.asrt ?_ | refine Le.ite ?_ ?_ | refine Le.bind ?_ (fun _ => ?_) | refine Le.loop2 (fun _ => ?_) | refine Le.elim2 (fun _ => ?_) (fun _ => ?_))

theorem mancala_game_value_J3_le_mancala_game_value {rec_mancala_game_value1 rec_mancala_game_value2 : List Int → Int → Option (Int × Int)} (h_rec_mancala_game_value : ∀ a0 a1, Le (rec_mancala_game_value1 a0 a1) (rec_mancala_game_value2 a0 a1)) (g1 : List Int) (g2 : Int) (r4 : (Int × Int)) (best1 : Int) (who1 : Int) (z1 : Int) : Le (mancala_game_value_J3 rec_mancala_game_value1 g1 g2 r4 best1 who1 z1) (mancala_game_value_J3 rec_mancala_game_value2 g1 g2 r4 best1 who1 z1) := by
  unfold mancala_game_value_J3
  repeat' (first | with_reducible exact Le.refl _ | with_reducible exact h_rec_mancala_game_value _ _ | with_reducible exact mancala_game_value_J5_le_mancala_game_value h_rec_mancala_game_value _ _ _ _ _ | refine Le.asrt ?_ | refine Le.ite ?_ ?_ | refine Le.bind ?_ (fun _ => ?_) | refine Le.loop2 (fun _ => ?_) | refine Le.elim2 (fun _ => ?_) (fun _ => ?_))

theorem mancala_game_value_L1_le_mancala_game_value {rec_mancala_game_value1 rec_mancala_game_value2 : List Int → Int → Option (Int × Int)} (h_rec_mancala_game_value : ∀ a0 a1, Le (rec_mancala_game_value1 a0 a1) (rec_mancala_game_value2 a0 a1)) (g1 : List Int) (g2 : Int) (r4 : (Int × Int)) (x : (Int × Int × Int)) : Le (mancala_game_value_L1 rec_mancala_game_value1 g1 g2 r4 x) (mancala_game_value_L1 rec_mancala_game_value2 g1 g2 r4 x) := by
  rcases x with ⟨best1, who1, z1⟩
  all_goals
    unfold mancala_game_value_L1
    try dsimp only
    repeat' (first | with_reducible exact Le.refl _ | with_reducible exact h_rec_mancala_game_value _ _ | with_reducible exact mancala_game_value_J3_le_mancala_game_value h_rec_mancala_game_value _ _ _ _ _ _ | refine Le.asrt ?_ | refine Le.ite ?_ ?_ | refine Le.bind ?_ (fun _ => ?_) | refine Le.loop2 (fun _ => ?_) | refine Le.elim2 (fun _ => ?_) (fun _ => ?_))

theorem mancala_game_value_J1_le_mancala_game_value {rec_mancala_game_value1 rec_mancala_game_value2 : List Int → Int → Option (Int × Int)} (h_rec_mancala_game_value : ∀ a0 a1, Le (rec_mancala_game_value1 a0 a1) (rec_mancala_game_value2 a0 a1)) (g1 : List Int) (g2 : Int) : Le (mancala_game_value_J1 rec_mancala_game_value1 g1 g2) (mancala_game_value_J1 rec_mancala_game_value2 g1 g2) := by
  unfold mancala_game_value_J1
  repeat' (first | with_reducible exact Le.refl _ | with_reducible exact h_rec_mancala_game_value _ _ | with_reducible exact mancala_game_value_L1_le_mancala_game_value h_rec_mancala_game_value _ _ _ _ | refine Le.asrt ?_ | refine Le.ite ?_ ?_ | refine Le.bind ?_ (fun _ => ?_) | refine Le.loop2 (fun _ => ?_) | refine Le.elim2 (fun _ => ?_) (fun _ => ?_))

theorem mancala_game_value_B_le {rec_mancala_game_value1 rec_mancala_game_value2 : List Int → Int → Option (Int × Int)} (h_rec_mancala_game_value : ∀ a0 a1, Le (rec_mancala_game_value1 a0 a1) (rec_mancala_game_value2 a0 a1)) (g1 : List Int) (g2 : Int) : Le (mancala_game_value_B rec_mancala_game_value1 g1 g2) (mancala_game_value_B rec_mancala_game_value2 g1 g2) := by
  unfold mancala_game_value_B
  repeat' (first | with_reducible exact Le.refl _ | with_reducible exact h_rec_mancala_game_value _ _ | with_reducible exact mancala_game_value_J1_le_mancala_game_value h_rec_mancala_game_value _ _ | refine Le.asrt ?_ | refine Le.ite ?_ ?_ | refine Le.bind ?_ (fun _ => ?_) | refine Le.loop2 (fun _ => ?_) | refine Le.elim2 (fun _ => ?_) (fun _ => ?_))

theorem mancala_game_value_mF_le : ∀ (n : Nat) (g1 : List Int) (g2 : Int), Le (mancala_game_value_mF n g1 g2) (mancala_game_value_mF (n + 1) g1 g2)
  | 0, _, _ => fun _ h => by cases h
  | n + 1, _, _ => mancala_game_value_B_le (fun a0 a1 => mancala_game_value_mF_le n a0 a1) _ _

theorem mancala_game_value_m_of (N : Nat) (g1 : List Int) (g2 : Int) {r : (Int × Int)} (h : mancala_game_value_mF N g1 g2 = some r) : mancala_game_value_m g1 g2 = some r :=
  recM_mono (fun n => mancala_game_value_mF_le n _ _) h

noncomputable def mancala_Value_J4 (r7 : (Int × Int)) (n2 : Int) : Option (Int × Int × Int) :=
  some (n2, r7.2, 0)

noncomputable def mancala_Value_J2 (b2 : Int) (r2 : (List Int × Int)) : Option (Int × Int × Int) :=
  (mancala_game_value_m r2.1 r2.2).bind fun r7 => if (b2 == 1) then ((mancala_Value_J4 r7) (w64 (0 - r7.1))) else ((mancala_Value_J4 r7) r7.1)

noncomputable def mancala_Value_J3 (b2 : Int) (r2 : (List Int × Int)) (z1 : Bool) : Option (Int × Int × Int) :=
  if z1 then (some (0, 0, 2)) else ((mancala_Value_J2 b2 r2))

noncomputable def mancala_Value_J1 (b1 : List Int) (b2 : Int) : Option (Int × Int × Int) :=
  (mancala_from_m b1 b2).bind fun r2 => (mancala_game_own_m r2.1 r2.2).bind fun r3 => (mancala_sum_m (cut r2.1 r3.1 r3.2)).bind fun r4 => (mancala_game_other_m r2.1 r2.2).bind fun r5 => (mancala_sum_m (cut r2.1 r5.1 r5.2)).bind fun r6 => (mancala_Value_J3 b2 r2) (decide ((4 : Int) < (w64 (r4 + r6))))

noncomputable def mancala_Value_m (b1 : List Int) (b2 : Int) : Option (Int × Int × Int) :=
  (mancala_May_m b1 b2).bind fun r1 => if (!r1) then (some (0, 0, 12)) else ((mancala_Value_J1 b1 b2))

set_option maxRecDepth 100000 in
set_option maxHeartbeats 4000000 in
theorem mancala_Value_w {A1 : Option Addr} {c1 : Nat} {n1 : Nat} {b1 : List Int} {b2 : Int} {r : (Int × Int × Int)} {w0 w : World} {B : Nat} {fs : List HP} (hm : mancala_Value_m b1 b2 = some r) (hS : Sep w0 B w (fs)) (hr_b1 : RdF w0 B fs A1 (vI b1)) (_hc_b1 : b1.length ≤ c1) (_hn_b1 : n1 = b1.length) :
    Calls Try.prog 24 #[.agg #[.slice A1 n1 c1, .int .i64 b2]] w fun e w' => e = .returned (.tuple #[.int .i64 r.1, .int .i64 r.2.1, .int .i64 r.2.2]) ∧ Sep w0 B w' (fs) := by
  obtain ⟨i3, hi3, hz3, hs3, hb3⟩ := info_parts Info3
  obtain rfl := _hn_b1
  unfold mancala_Value_m at hm
  replace hm := start_b hm
  refine enter (l := [.agg #[.slice A1 b1.length c1, .int .i64 b2]]) (n := 33) Try.func24 rfl rfl (by simp) (fun a hF => ?_)
  refine seqR ?_
  refine at_do (d := 1) (s := vS (Instr.box 44 (.agg #[.slice A1 b1.length c1, .int .i64 b2]))) (v := .pointer (some ⟨w.heap.size, 0, none⟩)) (w' := w.alloc (.cells #[.slice A1 b1.length c1, .int .i64 b2] 44)) hF (by kernel_rfl) (by kernel_rfl) (by kernel_rfl) (fun a hF => ?_)
  have hS : Sep w0 B (w.alloc (.cells #[.slice A1 b1.length c1, .int .i64 b2] 44)) (blk w.heap.size 44 #[.slice A1 b1.length c1, .int .i64 b2] :: (fs)) := hS.box 44 #[.slice A1 b1.length c1, .int .i64 b2]
  generalize w.heap.size = g1 at hF hS
  generalize w.alloc (.cells #[.slice A1 b1.length c1, .int .i64 b2] 44) = w at hS ⊢
  refine at_run 3 [] [] [1] [pl 1 (.pointer (some ⟨g1, 0, none⟩))] hF hS (by kernel_rfl) (by kernel_rfl) ?_ (fun a w hF hS => ?_)
  · exact obs_nil
  refine at_end [1] [pl 1 (.pointer (some ⟨g1, 0, none⟩))] hF rfl (by kernel_rfl) (fun hF => ?_)
  refine then_n ?_
  refine seq_cut (fun a w => Fr 33 [pl 1 (.pointer (some ⟨g1, 0, none⟩))] a ∧ Sep w0 B w (blk g1 44 #[.slice A1 b1.length c1, .int .i64 b2] :: fs) ∧ ((mancala_Value_J1 b1 b2)).bind some = some r) ?_ ?_
  · rintro a w ⟨hF, hS, hm⟩
    unfold mancala_Value_J1 at hm
    refine seqR ?_
    obtain ⟨r2, hr2, hm⟩ := call_b hm
    refine at_run 1 [⟨false, [], vS (Instr.loadAt 44 (.pointer (some ⟨g1, 0, none⟩))), .agg #[.slice A1 b1.length c1, .int .i64 b2]⟩] [some (.agg #[.slice A1 b1.length c1, .int .i64 b2])] [1, 11] [pl 1 (.pointer (some ⟨g1, 0, none⟩)), pl 11 (.agg #[.slice A1 b1.length c1, .int .i64 b2])] hF hS (by kernel_rfl) (by kernel_rfl) ?_ (fun a w hF hS => ?_)
    · exact obs_cons (ob_loadA (cs := #[.slice A1 b1.length c1, .int .i64 b2]) (by kernel_rfl) (by kernel_rfl) (fun _ _ hS => (hS.at_ 0 rfl).cellsAt 0 (by rfl))) <| obs_nil
    refine at_call (f := 66) (args := #[.agg #[.slice A1 b1.length c1, .int .i64 b2]]) (d := 12) hF (by kernel_rfl) (by kernel_rfl) Try.func66 (by kernel_rfl) rfl (mancala_from_w hr2 hS (fun _ hS => (hr_b1 _ (hS.dropN 1))) _hc_b1 rfl) (fun v a w hR hF => ?_)
    clear hS
    obtain ⟨A2, c2, rfl, hS⟩ := hR
    have hS : Sep w0 B w (own 3 (.slice A2 r2.1.length c2) (vI r2.1) :: blk g1 44 #[.slice A1 b1.length c1, .int .i64 b2] :: fs) := hS
    refine at_do (d := 5) (s := vS (Instr.alloc 84 true (.tuple #[]))) (v := .pointer (some ⟨w.heap.size, 0, none⟩)) (w' := w.alloc (.cells #[.slice none 0 0, .int .i64 0] 84)) hF (by kernel_rfl) (by kernel_rfl) (by kernel_rfl) (fun a hF => ?_)
    have hS : Sep w0 B (w.alloc (.cells #[.slice none 0 0, .int .i64 0] 84)) (blk w.heap.size 84 #[.slice none 0 0, .int .i64 0] :: (own 3 (.slice A2 r2.1.length c2) (vI r2.1) :: blk g1 44 #[.slice A1 b1.length c1, .int .i64 b2] :: fs)) := hS.box 84 #[.slice none 0 0, .int .i64 0]
    generalize w.heap.size = g2 at hF hS
    generalize w.alloc (.cells #[.slice none 0 0, .int .i64 0] 84) = w at hS ⊢
    obtain ⟨w, hrun, hS⟩ := run_putA (P := Try.prog) (t := 84) (us := #[.slice A2 r2.1.length c2, .int .i64 r2.2]) (o := 0) (hS.at_ 0 rfl) (by kernel_rfl) (all_one (by kernel_rfl)) (Nat.le_of_ble_eq_true (by kernel_rfl))
    refine at_skip hF (by kernel_rfl) hrun ?_
    have hS : Sep w0 B w (blk g2 84 #[.slice A2 r2.1.length c2, .int .i64 r2.2] :: own 3 (.slice A2 r2.1.length c2) (vI r2.1) :: blk g1 44 #[.slice A1 b1.length c1, .int .i64 b2] :: fs) := hS
    refine at_end [1, 5] [pl 1 (.pointer (some ⟨g1, 0, none⟩)), pl 5 (.pointer (some ⟨g2, 0, none⟩))] hF rfl (by kernel_rfl) (fun hF => ?_)
    refine then_n ?_
    refine seq_cut (fun a w => Fr 33 [pl 1 (.pointer (some ⟨g1, 0, none⟩)), pl 5 (.pointer (some ⟨g2, 0, none⟩))] a ∧ Sep w0 B w (blk g1 44 #[.slice A1 b1.length c1, .int .i64 b2] :: blk g2 84 #[.slice A2 r2.1.length c2, .int .i64 r2.2] :: own 3 (.slice A2 r2.1.length c2) (vI r2.1) :: fs) ∧ ((mancala_Value_J2 b2 r2)).bind some = some r) ?_ ?_
    · rintro a w ⟨hF, hS, hm⟩
      unfold mancala_Value_J2 at hm
      obtain ⟨r7, hr7, hm⟩ := call_b hm
      refine reg [⟨false, [], vS (Instr.loadAt 84 (.pointer (some ⟨g2, 0, none⟩))), .agg #[.slice A2 r2.1.length c2, .int .i64 r2.2]⟩, ⟨false, [], callFunc 70 #[.agg #[.slice A2 r2.1.length c2, .int .i64 r2.2]], .tuple #[.int .i64 r7.1, .int .i64 r7.2]⟩] [some (.agg #[.slice A2 r2.1.length c2, .int .i64 r2.2]), some (.tuple #[.int .i64 r7.1, .int .i64 r7.2]), none, none, none, none, none] [1, 6, 7] [pl 1 (.pointer (some ⟨g1, 0, none⟩)), pl 6 (.int .i64 r7.1), pl 7 (.int .i64 r7.2)] hF hS Fol (by kernel_rfl) (by kernel_rfl) (by kernel_rfl) ?_ (fun a w hF hS => ?_)
      · exact obs_cons (ob_loadA (cs := #[.slice A2 r2.1.length c2, .int .i64 r2.2]) (by kernel_rfl) (by kernel_rfl) (fun _ _ hS => (hS.at_ 1 rfl).cellsAt 0 (by rfl))) <| obs_cons (ob_call Try.func70 (by kernel_rfl) rfl (fun _ _ hS => mancala_game_value_w hr7 hS (fun _ hS => (hS.at_ 2 rfl).rd) ((hS.at_ 2 rfl).cap1) rfl)) <| obs_nil
      refine seq_cut (fun a w => ∃ (n2 : Int), Fr 33 [pl 6 (.int .i64 n2), pl 7 (.int .i64 r7.2)] a ∧ Sep w0 B w (fs) ∧ ((mancala_Value_J4 r7) n2).bind some = some r) ?_ ?_
      · rintro a w ⟨n2, hF, hS, hm⟩
        unfold mancala_Value_J4 at hm
        refine reg [] [] [2, 3, 4] [pl 2 (.int .i64 n2), pl 3 (.int .i64 r7.2), pl 4 (.int .i64 0)] hF hS Fol (by kernel_rfl) (by kernel_rfl) (by kernel_rfl) ?_ (fun a w hF hS => ?_)
        · exact obs_nil
        refine wp_ret ?_
        have hm : some (n2, r7.2, 0) = some r := hm
        obtain rfl := Option.some.inj hm
        exact retV (rs := [.tmp 2, .tmp 3, .tmp 4]) (vs := [.int .i64 n2, .int .i64 r7.2, .int .i64 0]) hF rfl (rv_t (by kernel_rfl) <| rv_t (by kernel_rfl) <| rv_t (by kernel_rfl) <| rv_nil) rfl ⟨rfl, hS⟩
      · refine reg [⟨false, [], vS (Instr.loadAt 3 (.pointer (some ⟨g1, 1, none⟩))), .int .i64 b2⟩] [none, some (.int .i64 b2), none] [6, 7, 28] [pl 6 (.int .i64 r7.1), pl 7 (.int .i64 r7.2), pl 28 (.bool (b2 == 1))] hF hS Fol (by kernel_rfl) (by kernel_rfl) (by kernel_rfl) ?_ (fun a w hF hS => ?_)
        · exact obs_cons (ob_load Agg3 (fun _ _ hS => (hS.at_ 0 rfl).cell rfl)) <| obs_nil
        refine cond_ev (t := 28) (b := (b2 == 1)) hF (by kernel_rfl) (fun hb => ?_) (fun hb => ?_)
        · replace hm := if_t hm hb
          refine reg1 [] [] [6, 7] [pl 6 (.int .i64 (w64 (0 - r7.1))), pl 7 (.int .i64 r7.2)] hF hS Fol (by kernel_rfl) (by kernel_rfl) (by kernel_rfl) ?_ (fun a w hF hS => ?_)
          · exact obs_nil
          refine then_n ?_
          have hS := hS.pickN 3 [] (by decide)
          exact ⟨(w64 (0 - r7.1)), hF.weak [6, 7] (by kernel_rfl), hS, hm⟩
        · replace hm := if_f hm hb
          refine wp_skip ?_
          refine then_n ?_
          have hS := hS.pickN 3 [] (by decide)
          exact ⟨r7.1, hF.weak [6, 7] (by kernel_rfl), hS, hm⟩
    · refine seq_cut (fun a w => ∃ (z1 : Bool), Fr 33 [pl 1 (.pointer (some ⟨g1, 0, none⟩)), pl 5 (.pointer (some ⟨g2, 0, none⟩)), pl 20 (.bool z1)] a ∧ Sep w0 B w (blk g1 44 #[.slice A1 b1.length c1, .int .i64 b2] :: blk g2 84 #[.slice A2 r2.1.length c2, .int .i64 r2.2] :: own 3 (.slice A2 r2.1.length c2) (vI r2.1) :: fs) ∧ ((mancala_Value_J3 b2 r2) z1).bind some = some r) ?_ ?_
      · rintro a w ⟨z1, hF, hS, hm⟩
        unfold mancala_Value_J3 at hm
        refine cond_ev (t := 20) (b := z1) hF (by kernel_rfl) (fun hb => ?_) (fun hb => ?_)
        · replace hm := if_t hm hb
          refine reg [] [] [2, 3, 4] [pl 2 (.int .i64 0), pl 3 (.int .i64 0), pl 4 (.int .i64 2)] hF hS Fol (by kernel_rfl) (by kernel_rfl) (by kernel_rfl) ?_ (fun a w hF hS => ?_)
          · exact obs_nil
          refine wp_ret ?_
          refine then_r ?_
          have hS := hS.pickN 3 [] (by decide)
          have hm : some (0, 0, 2) = some r := hm
          obtain rfl := Option.some.inj hm
          exact retV (rs := [.tmp 2, .tmp 3, .tmp 4]) (vs := [.int .i64 0, .int .i64 0, .int .i64 2]) hF rfl (rv_t (by kernel_rfl) <| rv_t (by kernel_rfl) <| rv_t (by kernel_rfl) <| rv_nil) rfl ⟨rfl, hS⟩
        · replace hm := if_f hm hb
          refine wp_skip ?_
          refine then_n ?_
          exact ⟨hF.weak [1, 5] (by kernel_rfl), hS, hm⟩
      · obtain ⟨r3, hr3, hm⟩ := call_b hm
        obtain ⟨r4, hr4, hm⟩ := call_b hm
        obtain ⟨r5, hr5, hm⟩ := call_b hm
        obtain ⟨r6, hr6, hm⟩ := call_b hm
        refine regMix5 [0, 3] [] 6 #[true, false, false, true, false, false, false, false] [⟨false, [], vS (Instr.loadAt 84 (.pointer (some ⟨g2, 0, none⟩))), .agg #[.slice A2 r2.1.length c2, .int .i64 r2.2]⟩, ⟨false, [], vS (Instr.loadAt 84 (.pointer (some ⟨g2, 0, none⟩))), .agg #[.slice A2 r2.1.length c2, .int .i64 r2.2]⟩] [some (.agg #[.slice A2 r2.1.length c2, .int .i64 r2.2]), some (.agg #[.slice A2 r2.1.length c2, .int .i64 r2.2])] [1, 5, 13, 16] [pl 1 (.pointer (some ⟨g1, 0, none⟩)), pl 5 (.pointer (some ⟨g2, 0, none⟩)), pl 13 (.agg #[.slice A2 r2.1.length c2, .int .i64 r2.2]), pl 16 (.agg #[.slice A2 r2.1.length c2, .int .i64 r2.2])] hF hS Fol (by kernel_rfl) (by kernel_rfl) (by kernel_rfl) (by kernel_rfl) ?_ (fun a w hF hS => ?_)
        · exact obs_cons (ob_loadA (cs := #[.slice A2 r2.1.length c2, .int .i64 r2.2]) (by kernel_rfl) (by kernel_rfl) (fun _ _ hS => (hS.at_ 0 rfl).cellsAt 0 (by rfl))) <| obs_cons (ob_loadA (cs := #[.slice A2 r2.1.length c2, .int .i64 r2.2]) (by kernel_rfl) (by kernel_rfl) (fun _ _ hS => (hS.at_ 0 rfl).cellsAt 0 (by rfl))) <| obs_nil
        refine any_step [1] (by kernel_rfl) rfl ?_
        refine (all_cons ?_ all_nil)
        · refine any_op (listed' := #[true, true, false, true, false, false, false, false]) (by kernel_rfl) (by kernel_rfl) ?_
          refine at_call (f := 68) (args := #[.agg #[.slice A2 r2.1.length c2, .int .i64 r2.2]]) (d := 14) hF (by kernel_rfl) (by kernel_rfl) Try.func68 (by kernel_rfl) rfl (mancala_game_own_w hr3 hS (fun _ hS => (hS.at_ 1 rfl).rd) ((hS.at_ 1 rfl).cap1) rfl) (fun v a w hR hF => ?_)
          clear hS
          obtain ⟨rfl, hb3, hS⟩ := hR
          have hS : Sep w0 B w (blk g2 84 #[.slice A2 r2.1.length c2, .int .i64 r2.2] :: own 3 (.slice A2 r2.1.length c2) (vI r2.1) :: blk g1 44 #[.slice A1 b1.length c1, .int .i64 b2] :: fs) := hS
          refine any_fin rfl hS ?_
          refine any_step [2] (by kernel_rfl) rfl ?_
          refine (all_cons ?_ all_nil)
          · refine any_op (listed' := #[true, true, true, true, false, false, false, false]) (by kernel_rfl) (by kernel_rfl) ?_
            refine at_run 1 [⟨false, [], callFunc 67 #[.slice (cutAddr A2 c2 r3.1) ((cut r2.1 r3.1 r3.2).length) (c2 - Int.toNat r3.1)], .int .i64 r4⟩] [some (.int .i64 r4)] [1, 5, 15, 16] [pl 1 (.pointer (some ⟨g1, 0, none⟩)), pl 5 (.pointer (some ⟨g2, 0, none⟩)), pl 15 (.int .i64 r4), pl 16 (.agg #[.slice A2 r2.1.length c2, .int .i64 r2.2])] hF hS (by kernel_rfl) (by kernel_rfl) ?_ (fun a w hF hS => ?_)
            · exact obs_cons (ob_call Try.func67 (by kernel_rfl) rfl (fun _ _ hS => mancala_sum_w hr4 hS (fun _ hS => (Rd.cutF (hS.at_ 1 rfl).rd hb3 ((hS.at_ 1 rfl).cap1))) (cap_cut hb3 ((hS.at_ 1 rfl).cap1)) rfl)) <| obs_nil
            refine any_fin rfl hS ?_
            refine any_step [4] (by kernel_rfl) rfl ?_
            refine (all_cons ?_ all_nil)
            · refine any_op (listed' := #[true, true, true, true, true, false, false, false]) (by kernel_rfl) (by kernel_rfl) ?_
              refine at_call (f := 69) (args := #[.agg #[.slice A2 r2.1.length c2, .int .i64 r2.2]]) (d := 17) hF (by kernel_rfl) (by kernel_rfl) Try.func69 (by kernel_rfl) rfl (mancala_game_other_w hr5 hS (fun _ hS => (hS.at_ 1 rfl).rd) ((hS.at_ 1 rfl).cap1) rfl) (fun v a w hR hF => ?_)
              clear hS
              obtain ⟨rfl, hb4, hS⟩ := hR
              have hS : Sep w0 B w (blk g2 84 #[.slice A2 r2.1.length c2, .int .i64 r2.2] :: own 3 (.slice A2 r2.1.length c2) (vI r2.1) :: blk g1 44 #[.slice A1 b1.length c1, .int .i64 b2] :: fs) := hS
              refine any_fin rfl hS ?_
              refine any_step [5] (by kernel_rfl) rfl ?_
              refine (all_cons ?_ all_nil)
              · refine any_op (listed' := #[true, true, true, true, true, true, false, false]) (by kernel_rfl) (by kernel_rfl) ?_
                refine at_run 1 [⟨false, [], callFunc 67 #[.slice (cutAddr A2 c2 r5.1) ((cut r2.1 r5.1 r5.2).length) (c2 - Int.toNat r5.1)], .int .i64 r6⟩] [some (.int .i64 r6)] [1, 5, 15, 18] [pl 1 (.pointer (some ⟨g1, 0, none⟩)), pl 5 (.pointer (some ⟨g2, 0, none⟩)), pl 15 (.int .i64 r4), pl 18 (.int .i64 r6)] hF hS (by kernel_rfl) (by kernel_rfl) ?_ (fun a w hF hS => ?_)
                · exact obs_cons (ob_call Try.func67 (by kernel_rfl) rfl (fun _ _ hS => mancala_sum_w hr6 hS (fun _ hS => (Rd.cutF (hS.at_ 1 rfl).rd hb4 ((hS.at_ 1 rfl).cap1))) (cap_cut hb4 ((hS.at_ 1 rfl).cap1)) rfl)) <| obs_nil
                refine any_fin rfl hS ?_
                refine any_step [6] (by kernel_rfl) rfl ?_
                refine (all_cons ?_ all_nil)
                · refine any_op (listed' := #[true, true, true, true, true, true, true, false]) (by kernel_rfl) (by kernel_rfl) ?_
                  refine at_runW 1 [] [] [1, 5, 19] [pl 1 (.pointer (some ⟨g1, 0, none⟩)), pl 5 (.pointer (some ⟨g2, 0, none⟩)), pl 19 (.int .i64 (w64 (r4 + r6)))] hF hS (by kernel_rfl) (by kernel_rfl) ?_ (fun a hF => ?_)
                  · exact obs_nil
                  refine any_finI rfl (fun h => h) ?_
                  refine any_step [7] (by kernel_rfl) rfl ?_
                  refine (all_cons ?_ all_nil)
                  · refine any_op (listed' := #[true, true, true, true, true, true, true, true]) (by kernel_rfl) (by kernel_rfl) ?_
                    refine at_runW 1 [] [] [1, 5, 20] [pl 1 (.pointer (some ⟨g1, 0, none⟩)), pl 5 (.pointer (some ⟨g2, 0, none⟩)), pl 20 (.bool (decide ((4 : Int) < (w64 (r4 + r6)))))] hF hS (by kernel_rfl) (by kernel_rfl) ?_ (fun a hF => ?_)
                    · exact obs_nil
                    refine any_finI rfl (fun h => h) ?_
                    refine any_end (by kernel_rfl) ?_
                    refine np_n ?_
                    refine then_n ?_
                    have hS := hS.pickN 3 [2, 0, 1] (by decide)
                    exact ⟨(decide ((4 : Int) < (w64 (r4 + r6)))), hF.weak [1, 5, 20] (by kernel_rfl), hS, hm⟩
  · obtain ⟨r1, hr1, hm⟩ := call_b hm
    refine reg [⟨false, [], vS (Instr.loadAt 44 (.pointer (some ⟨g1, 0, none⟩))), .agg #[.slice A1 b1.length c1, .int .i64 b2]⟩, ⟨false, [], callFunc 65 #[.agg #[.slice A1 b1.length c1, .int .i64 b2]], .bool r1⟩] [some (.agg #[.slice A1 b1.length c1, .int .i64 b2]), some (.bool r1), none] [1, 10] [pl 1 (.pointer (some ⟨g1, 0, none⟩)), pl 10 (.bool (!r1))] hF hS Fol (by kernel_rfl) (by kernel_rfl) (by kernel_rfl) ?_ (fun a w hF hS => ?_)
    · exact obs_cons (ob_loadA (cs := #[.slice A1 b1.length c1, .int .i64 b2]) (by kernel_rfl) (by kernel_rfl) (fun _ _ hS => (hS.at_ 0 rfl).cellsAt 0 (by rfl))) <| obs_cons (ob_call Try.func65 (by kernel_rfl) rfl (fun _ _ hS => mancala_May_w hr1 hS (fun _ hS => (hr_b1 _ (hS.dropN 1))) _hc_b1 rfl)) <| obs_nil
    refine cond_ev (t := 10) (b := !r1) hF (by kernel_rfl) (fun hb => ?_) (fun hb => ?_)
    · replace hm := if_t hm hb
      refine reg [] [] [2, 3, 4] [pl 2 (.int .i64 0), pl 3 (.int .i64 0), pl 4 (.int .i64 12)] hF hS Fol (by kernel_rfl) (by kernel_rfl) (by kernel_rfl) ?_ (fun a w hF hS => ?_)
      · exact obs_nil
      refine wp_ret ?_
      refine then_r ?_
      have hS := hS.pickN 1 [] (by decide)
      have hm : some (0, 0, 12) = some r := hm
      obtain rfl := Option.some.inj hm
      exact retV (rs := [.tmp 2, .tmp 3, .tmp 4]) (vs := [.int .i64 0, .int .i64 0, .int .i64 12]) hF rfl (rv_t (by kernel_rfl) <| rv_t (by kernel_rfl) <| rv_t (by kernel_rfl) <| rv_nil) rfl ⟨rfl, hS⟩
    · replace hm := if_f hm hb
      refine wp_skip ?_
      refine then_n ?_
      exact ⟨hF.weak [1] (by kernel_rfl), hS, hm⟩

noncomputable def gameroomref_within_m (n1 : Int) (low1 : Int) (high1 : Int) : Option Bool :=
  some ((decide (low1 ≤ n1)) && (decide (n1 ≤ high1)))

set_option maxRecDepth 100000 in
set_option maxHeartbeats 4000000 in
theorem gameroomref_within_w {n1 : Int} {low1 : Int} {high1 : Int} {r : Bool} {w0 w : World} {B : Nat} {fs : List HP} (hm : gameroomref_within_m n1 low1 high1 = some r) (hS : Sep w0 B w (fs)) :
    Calls Try.prog 64 #[.int .i64 n1, .int .i64 low1, .int .i64 high1] w fun e w' => e = .returned (.bool r) ∧ Sep w0 B w' (fs) := by
  unfold gameroomref_within_m at hm
  replace hm := start_b hm
  refine enter (l := [.int .i64 n1, .int .i64 low1, .int .i64 high1]) (n := 15) Try.func64 rfl rfl (by simp) (fun a hF => ?_)
  refine reg [] [] [0, 1, 2] [pl 0 (.int .i64 n1), pl 1 (.int .i64 low1), pl 2 (.int .i64 high1)] hF hS Fol (by kernel_rfl) (by kernel_rfl) (by kernel_rfl) ?_ (fun a w hF hS => ?_)
  · exact obs_nil
  refine reg [] [] [6] [pl 6 (.bool ((decide (low1 ≤ n1)) && (decide (n1 ≤ high1))))] hF hS Fol (by kernel_rfl) (by kernel_rfl) (by kernel_rfl) ?_ (fun a w hF hS => ?_)
  · exact obs_nil
  refine wp_ret ?_
  have hm : some ((decide (low1 ≤ n1)) && (decide (n1 ≤ high1))) = some r := hm
  obtain rfl := Option.some.inj hm
  exact retV (rs := [.tmp 6]) (vs := [.bool ((decide (low1 ≤ n1)) && (decide (n1 ≤ high1)))]) hF rfl (rv_t (by kernel_rfl) <| rv_nil) rfl ⟨rfl, hS⟩

noncomputable def gameroomref_MancalaMay_J4 (b1 : List Int) (sum1 : Int) (i1 : Int) : Option (St (Int × Int) (Fl Int Bool)) :=
  some (.next ((w64 (sum1 + (geti b1 i1))), (w64 (i1 + 1))))

noncomputable def gameroomref_MancalaMay_J5 (b1 : List Int) (sum1 : Int) (i1 : Int) : Option (St (Int × Int) (Fl Int Bool)) :=
  asrt (0 ≤ i1 ∧ i1 < (b1.length : Int)) <| (gameroomref_MancalaMay_J4 b1 sum1 i1)

noncomputable def gameroomref_MancalaMay_J3 (b1 : List Int) (sum1 : Int) (i1 : Int) : Option (St (Int × Int) (Fl Int Bool)) :=
  asrt (0 ≤ i1 ∧ i1 < (b1.length : Int)) <| (gameroomref_within_m (geti b1 i1) 0 1000).bind fun r3 => if (!r3) then (some (.done (.ret false))) else ((gameroomref_MancalaMay_J5 b1 sum1 i1))

noncomputable def gameroomref_MancalaMay_J2 (sum2 : Int) : Option Bool :=
  some (decide (sum2 ≤ 1000))

noncomputable def gameroomref_MancalaMay_K1 : (Fl Int Bool) → Option Bool :=
  fun (x : (Fl Int Bool)) => match x with | .go sum2 => gameroomref_MancalaMay_J2 sum2 | .ret x => some x

noncomputable def gameroomref_MancalaMay_L1 (b1 : List Int) : (Int × Int) → Option (St (Int × Int) (Fl Int Bool)) :=
  fun (x : (Int × Int)) => match x with | (sum1, i1) => if (decide (i1 < (b1.length : Int))) then ((gameroomref_MancalaMay_J3 b1 sum1 i1)) else (some (.done (.go sum1)))

noncomputable def gameroomref_MancalaMay_J1 (b1 : List Int) : Option Bool :=
  (loop (gameroomref_MancalaMay_L1 b1) (0, 0)).bind gameroomref_MancalaMay_K1

noncomputable def gameroomref_MancalaMay_m (b1 : List Int) (b2 : Int) : Option Bool :=
  (gameroomref_within_m (b1.length : Int) 4 14).bind fun r1 => ((if (!((!r1) || ((Int.tmod (b1.length : Int) 2) == 1))) then gameroomref_within_m b2 0 1 else some false)).bind fun r2 => if (((!r1) || ((Int.tmod (b1.length : Int) 2) == 1)) || (!r2)) then (some false) else ((gameroomref_MancalaMay_J1 b1))

set_option maxRecDepth 100000 in
set_option maxHeartbeats 4000000 in
theorem gameroomref_MancalaMay_w {A1 : Option Addr} {c1 : Nat} {n1 : Nat} {b1 : List Int} {b2 : Int} {r : Bool} {w0 w : World} {B : Nat} {fs : List HP} (hm : gameroomref_MancalaMay_m b1 b2 = some r) (hS : Sep w0 B w (fs)) (hr_b1 : RdF w0 B fs A1 (vI b1)) (_hc_b1 : b1.length ≤ c1) (_hn_b1 : n1 = b1.length) :
    Calls Try.prog 26 #[.agg #[.slice A1 n1 c1, .int .i64 b2]] w fun e w' => e = .returned (.bool r) ∧ Sep w0 B w' (fs) := by
  obtain ⟨i3, hi3, hz3, hs3, hb3⟩ := info_parts Info3
  obtain rfl := _hn_b1
  unfold gameroomref_MancalaMay_m at hm
  replace hm := start_b hm
  refine enter (l := [.agg #[.slice A1 b1.length c1, .int .i64 b2]]) (n := 44) Try.func26 rfl rfl (by simp) (fun a hF => ?_)
  refine seqR ?_
  refine at_do (d := 1) (s := vS (Instr.box 44 (.agg #[.slice A1 b1.length c1, .int .i64 b2]))) (v := .pointer (some ⟨w.heap.size, 0, none⟩)) (w' := w.alloc (.cells #[.slice A1 b1.length c1, .int .i64 b2] 44)) hF (by kernel_rfl) (by kernel_rfl) (by kernel_rfl) (fun a hF => ?_)
  have hS : Sep w0 B (w.alloc (.cells #[.slice A1 b1.length c1, .int .i64 b2] 44)) (blk w.heap.size 44 #[.slice A1 b1.length c1, .int .i64 b2] :: (fs)) := hS.box 44 #[.slice A1 b1.length c1, .int .i64 b2]
  generalize w.heap.size = g1 at hF hS
  generalize w.alloc (.cells #[.slice A1 b1.length c1, .int .i64 b2] 44) = w at hS ⊢
  refine at_run 1 [] [] [1] [pl 1 (.pointer (some ⟨g1, 0, none⟩))] hF hS (by kernel_rfl) (by kernel_rfl) ?_ (fun a w hF hS => ?_)
  · exact obs_nil
  refine at_end [1] [pl 1 (.pointer (some ⟨g1, 0, none⟩))] hF rfl (by kernel_rfl) (fun hF => ?_)
  refine then_n ?_
  refine reg [⟨false, [], vS (Instr.loadAt 22 (.pointer (some ⟨g1, 0, none⟩))), .slice A1 b1.length c1⟩] [none, some (.slice A1 b1.length c1), none, none] [1, 3] [pl 1 (.pointer (some ⟨g1, 0, none⟩)), pl 3 (.int .i64 (b1.length : Int))] hF hS Fol (by kernel_rfl) (by kernel_rfl) (by kernel_rfl) ?_ (fun a w hF hS => ?_)
  · exact obs_cons (ob_load Agg22 (fun _ _ hS => (hS.at_ 0 rfl).cell rfl)) <| obs_nil
  refine seq_cut (fun a w => Fr 44 [pl 1 (.pointer (some ⟨g1, 0, none⟩)), pl 3 (.int .i64 (b1.length : Int))] a ∧ Sep w0 B w (blk g1 44 #[.slice A1 b1.length c1, .int .i64 b2] :: fs) ∧ ((gameroomref_MancalaMay_J1 b1)).bind some = some r) ?_ ?_
  · rintro a w ⟨hF, hS, hm⟩
    unfold gameroomref_MancalaMay_J1 at hm
    refine reg [] [] [1, 3, 4] [pl 1 (.pointer (some ⟨g1, 0, none⟩)), pl 3 (.int .i64 (b1.length : Int)), pl 4 (.int .i64 0)] hF hS Fol (by kernel_rfl) (by kernel_rfl) (by kernel_rfl) ?_ (fun a w hF hS => ?_)
    · exact obs_nil
    refine seq_cut (fun a w => ∃ (sum2 : Int), Fr 44 [pl 4 (.int .i64 sum2)] a ∧ Sep w0 B w (fs) ∧ (gameroomref_MancalaMay_J2 sum2).bind some = some r) ?_ ?_
    · rintro a w ⟨sum2, hF, hS, hm⟩
      unfold gameroomref_MancalaMay_J2 at hm
      refine reg [] [] [2] [pl 2 (.bool (decide (sum2 ≤ 1000)))] hF hS Fol (by kernel_rfl) (by kernel_rfl) (by kernel_rfl) ?_ (fun a w hF hS => ?_)
      · exact obs_nil
      refine wp_ret ?_
      have hm : some (decide (sum2 ≤ 1000)) = some r := hm
      obtain rfl := Option.some.inj hm
      exact retV (rs := [.tmp 2]) (vs := [.bool (decide (sum2 ≤ 1000))]) hF rfl (rv_t (by kernel_rfl) <| rv_nil) rfl ⟨rfl, hS⟩
    · refine reg [] [] [1, 3, 4, 5] [pl 1 (.pointer (some ⟨g1, 0, none⟩)), pl 3 (.int .i64 (b1.length : Int)), pl 4 (.int .i64 0), pl 5 (.int .i64 0)] hF hS Fol (by kernel_rfl) (by kernel_rfl) (by kernel_rfl) ?_ (fun a w hF hS => ?_)
      · exact obs_nil
      refine wp_block ?_
      refine wp_loop_model (S := (Int × Int)) (R := (Fl Int Bool)) (gameroomref_MancalaMay_L1 b1) (fun x => (gameroomref_MancalaMay_K1 x).bind some) r (fun (x : (Int × Int)) a w => Fr 44 [pl 1 (.pointer (some ⟨g1, 0, none⟩)), pl 3 (.int .i64 (b1.length : Int)), pl 4 (.int .i64 x.1), pl 5 (.int .i64 x.2)] a ∧ Sep w0 B w (blk g1 44 #[.slice A1 b1.length c1, .int .i64 b2] :: fs)) (assoc_b hm) ⟨hF.weak [1, 3, 4, 5] (by kernel_rfl), hS⟩ ?_
      clear hF hS hm
      rintro nn1 ⟨sum1, i1⟩ a w ⟨hF, hS⟩ hm
      generalize hφ1 : stK (gameroomref_MancalaMay_L1 b1) nn1 (fun x => (gameroomref_MancalaMay_K1 x).bind some) = φ1 at hm
      unfold gameroomref_MancalaMay_L1 at hm
      dsimp only at hF hS hm
      refine seq_cut (fun a w => Fr 44 [pl 1 (.pointer (some ⟨g1, 0, none⟩)), pl 3 (.int .i64 (b1.length : Int)), pl 4 (.int .i64 sum1), pl 5 (.int .i64 i1)] a ∧ Sep w0 B w (blk g1 44 #[.slice A1 b1.length c1, .int .i64 b2] :: fs) ∧ ((gameroomref_MancalaMay_J3 b1 sum1 i1)).bind φ1 = some r) ?_ ?_
      · rintro a w ⟨hF, hS, hm⟩
        unfold gameroomref_MancalaMay_J3 at hm
        refine seq_cut (fun a w => Fr 44 [pl 1 (.pointer (some ⟨g1, 0, none⟩)), pl 3 (.int .i64 (b1.length : Int)), pl 4 (.int .i64 (w64 (sum1 + (geti b1 i1)))), pl 5 (.int .i64 i1)] a ∧ Sep w0 B w (blk g1 44 #[.slice A1 b1.length c1, .int .i64 b2] :: fs) ∧ ((gameroomref_MancalaMay_J4 b1 sum1 i1)).bind φ1 = some r) ?_ ?_
        · rintro a w ⟨hF, hS, hm⟩
          unfold gameroomref_MancalaMay_J4 at hm
          refine reg1 [] [] [1, 3, 4, 5] [pl 1 (.pointer (some ⟨g1, 0, none⟩)), pl 3 (.int .i64 (b1.length : Int)), pl 4 (.int .i64 (w64 (sum1 + (geti b1 i1)))), pl 5 (.int .i64 (w64 (i1 + 1)))] hF hS Fol (by kernel_rfl) (by kernel_rfl) (by kernel_rfl) ?_ (fun a w hF hS => ?_)
          · exact obs_nil
          refine then_n ?_
          rw [← hφ1] at hm
          exact ⟨((w64 (sum1 + (geti b1 i1))), (w64 (i1 + 1))), ⟨hF.weak [1, 3, 4, 5] (by kernel_rfl), hS⟩, hm⟩
        · refine wp_block ?_
          refine seq_cut (fun a w => Fr 44 [pl 1 (.pointer (some ⟨g1, 0, none⟩)), pl 3 (.int .i64 (b1.length : Int)), pl 4 (.int .i64 sum1), pl 5 (.int .i64 i1)] a ∧ Sep w0 B w (blk g1 44 #[.slice A1 b1.length c1, .int .i64 b2] :: fs) ∧ ((gameroomref_MancalaMay_J5 b1 sum1 i1)).bind φ1 = some r) ?_ ?_
          · rintro a w ⟨hF, hS, hm⟩
            unfold gameroomref_MancalaMay_J5 at hm
            obtain ⟨hp2, hm⟩ := asrt_b hm
            refine reg1 [⟨false, [], vS (Instr.loadAt 22 (.pointer (some ⟨g1, 0, none⟩))), .slice A1 b1.length c1⟩, ⟨true, [], vS (Instr.indexAt 22 (.slice A1 b1.length c1) (.int .i64 i1)), .pointer (some (sAddr A1 i1))⟩, ⟨false, [], vS (Instr.loadAt 3 (.pointer (some (sAddr A1 i1)))), .int .i64 (geti b1 i1)⟩] [none, none, some (.slice A1 b1.length c1), none, some (.pointer (some (sAddr A1 i1))), some (.int .i64 (geti b1 i1)), none, none] [1, 3, 4, 5] [pl 1 (.pointer (some ⟨g1, 0, none⟩)), pl 3 (.int .i64 (b1.length : Int)), pl 4 (.int .i64 (w64 (sum1 + (geti b1 i1)))), pl 5 (.int .i64 i1)] hF hS Fol (by kernel_rfl) (by kernel_rfl) (by kernel_rfl) ?_ (fun a w hF hS => ?_)
            · exact obs_cons (ob_load Agg22 (fun _ _ hS => (hS.at_ 0 rfl).cell rfl)) <| obs_cons (ob_ix1 (f := (Value.int .i64)) (m := b1) Und22 hi3 hs3 (hr_b1 _ (hS.dropN 1)) rfl (fun _ => hp2)) <| obs_cons (ob_get1 (n := b1.length) (m := b1) (Value.int .i64) (0 : Int) Agg3 (fun _ hS => ⟨_, (hr_b1 _ (hS.dropN 1))⟩) (fun _ hS => rfl) (fun _ => hp2)) <| obs_nil
            refine block_n ?_
            refine then_n ?_
            exact ⟨hF.weak [1, 3, 4, 5] (by kernel_rfl), hS, hm⟩
          · obtain ⟨hp1, hm⟩ := asrt_b hm
            obtain ⟨r3, hr3, hm⟩ := call_b hm
            refine reg [⟨false, [], vS (Instr.loadAt 22 (.pointer (some ⟨g1, 0, none⟩))), .slice A1 b1.length c1⟩, ⟨true, [], vS (Instr.indexAt 22 (.slice A1 b1.length c1) (.int .i64 i1)), .pointer (some (sAddr A1 i1))⟩, ⟨false, [], vS (Instr.loadAt 3 (.pointer (some (sAddr A1 i1)))), .int .i64 (geti b1 i1)⟩, ⟨false, [], callFunc 64 #[.int .i64 (geti b1 i1), .int .i64 0, .int .i64 1000], .bool r3⟩] [none, some (.slice A1 b1.length c1), none, some (.pointer (some (sAddr A1 i1))), some (.int .i64 (geti b1 i1)), some (.bool r3), none] [1, 3, 4, 5, 34] [pl 1 (.pointer (some ⟨g1, 0, none⟩)), pl 3 (.int .i64 (b1.length : Int)), pl 4 (.int .i64 sum1), pl 5 (.int .i64 i1), pl 34 (.bool (!r3))] hF hS Fol (by kernel_rfl) (by kernel_rfl) (by kernel_rfl) ?_ (fun a w hF hS => ?_)
            · exact obs_cons (ob_load Agg22 (fun _ _ hS => (hS.at_ 0 rfl).cell rfl)) <| obs_cons (ob_ix1 (f := (Value.int .i64)) (m := b1) Und22 hi3 hs3 (hr_b1 _ (hS.dropN 1)) rfl (fun _ => hp1)) <| obs_cons (ob_get1 (n := b1.length) (m := b1) (Value.int .i64) (0 : Int) Agg3 (fun _ hS => ⟨_, (hr_b1 _ (hS.dropN 1))⟩) (fun _ hS => rfl) (fun _ => hp1)) <| obs_cons (ob_call Try.func64 (by kernel_rfl) rfl (fun _ _ hS => gameroomref_within_w hr3 hS )) <| obs_nil
            refine cond_ev (t := 34) (b := !r3) hF (by kernel_rfl) (fun hb => ?_) (fun hb => ?_)
            · replace hm := if_t hm hb
              refine reg [] [] [2] [pl 2 (.bool false)] hF hS Fol (by kernel_rfl) (by kernel_rfl) (by kernel_rfl) ?_ (fun a w hF hS => ?_)
              · exact obs_nil
              refine wp_ret ?_
              refine then_r (block_r (then_r (then_r (block_r (then_r ?_)))))
              rw [← hφ1] at hm
              replace hm := done_b hm
              unfold gameroomref_MancalaMay_K1 at hm
              try dsimp only at hm
              have hS := hS.pickN 1 [] (by decide)
              have hm : some false = some r := hm
              obtain rfl := Option.some.inj hm
              exact retV (rs := [.tmp 2]) (vs := [.bool false]) hF rfl (rv_t (by kernel_rfl) <| rv_nil) rfl ⟨rfl, hS⟩
            · replace hm := if_f hm hb
              refine wp_skip ?_
              refine then_n ?_
              exact ⟨hF.weak [1, 3, 4, 5] (by kernel_rfl), hS, hm⟩
      · refine reg [] [] [1, 3, 4, 5, 25] [pl 1 (.pointer (some ⟨g1, 0, none⟩)), pl 3 (.int .i64 (b1.length : Int)), pl 4 (.int .i64 sum1), pl 5 (.int .i64 i1), pl 25 (.bool (decide (i1 < (b1.length : Int))))] hF hS Fol (by kernel_rfl) (by kernel_rfl) (by kernel_rfl) ?_ (fun a w hF hS => ?_)
        · exact obs_nil
        refine cond_ev (t := 25) (b := decide (i1 < (b1.length : Int))) hF (by kernel_rfl) (fun hb => ?_) (fun hb => ?_)
        · replace hm := if_t hm hb
          refine wp_skip ?_
          refine then_n ?_
          exact ⟨hF.weak [1, 3, 4, 5] (by kernel_rfl), hS, hm⟩
        · replace hm := if_f hm hb
          refine wp_exit ?_
          refine then_e (then_e (block_e (then_n ?_)))
          have hS := hS.pickN 1 [] (by decide)
          rw [← hφ1] at hm
          replace hm := done_b hm
          unfold gameroomref_MancalaMay_K1 at hm
          try dsimp only at hm
          have hm : (gameroomref_MancalaMay_J2 sum1).bind some = some r := hm
          exact ⟨sum1, hF.weak [4] (by kernel_rfl), hS, hm⟩
  · obtain ⟨r1, hr1, hm⟩ := call_b hm
    obtain ⟨r2, hr2, hm⟩ := call_b hm
    refine reg [⟨false, [], callFunc 64 #[.int .i64 (b1.length : Int), .int .i64 4, .int .i64 14], .bool r1⟩, ⟨false, [((!r1) || ((Int.tmod (b1.length : Int) 2) == 1), false)], vS (Instr.loadAt 3 (.pointer (some ⟨g1, 1, none⟩))), .int .i64 b2⟩, ⟨false, [((!r1) || ((Int.tmod (b1.length : Int) 2) == 1), false)], callFunc 64 #[.int .i64 b2, .int .i64 0, .int .i64 1], .bool r2⟩] [none, some (.bool r1), none, none, none, none, none, none, none, none, some (.int .i64 b2), some (.bool r2), none, none] [1, 3, 22] [pl 1 (.pointer (some ⟨g1, 0, none⟩)), pl 3 (.int .i64 (b1.length : Int)), pl 22 (.bool (((!r1) || ((Int.tmod (b1.length : Int) 2) == 1)) || (!r2)))] hF hS Fol (by kernel_rfl) (by kernel_rfl) (by kernel_rfl) ?_ (fun a w hF hS => ?_)
    · exact obs_cons (ob_call Try.func64 (by kernel_rfl) rfl (fun _ _ hS => gameroomref_within_w hr1 hS )) <| obs_cons (ob_load Agg3 (fun _ _ hS => (hS.at_ 0 rfl).cell rfl)) <| obs_cons (ob_call Try.func64 (by kernel_rfl) rfl (fun hy _ hS => gameroomref_within_w (ite_some hr2 (by rw [show ((!r1) || ((Int.tmod (b1.length : Int) 2) == 1)) = false from hy ((!r1) || ((Int.tmod (b1.length : Int) 2) == 1), false) (by simp)]; try rfl)) hS )) <| obs_nil
    refine cond_ev (t := 22) (b := ((!r1) || ((Int.tmod (b1.length : Int) 2) == 1)) || (!r2)) hF (by kernel_rfl) (fun hb => ?_) (fun hb => ?_)
    · replace hm := if_t hm hb
      refine reg [] [] [2] [pl 2 (.bool false)] hF hS Fol (by kernel_rfl) (by kernel_rfl) (by kernel_rfl) ?_ (fun a w hF hS => ?_)
      · exact obs_nil
      refine wp_ret ?_
      refine then_r ?_
      have hS := hS.pickN 1 [] (by decide)
      have hm : some false = some r := hm
      obtain rfl := Option.some.inj hm
      exact retV (rs := [.tmp 2]) (vs := [.bool false]) hF rfl (rv_t (by kernel_rfl) <| rv_nil) rfl ⟨rfl, hS⟩
    · replace hm := if_f hm hb
      refine wp_skip ?_
      refine then_n ?_
      exact ⟨hF.weak [1, 3] (by kernel_rfl), hS, hm⟩
end Go.Proofs.Ytogecbgngnjhgaa
