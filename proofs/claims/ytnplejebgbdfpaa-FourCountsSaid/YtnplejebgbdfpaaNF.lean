/-
  Models and walks, printed by our own program (wip/gen).
-/
import Derived.Test.YtnplejebgbdfpaaFB
import Derived.Test.YtnplejebgbdfpaaNFb
namespace Go.Proofs.Ytnplejebgbdfpaa
open Go Go.GL Go.RowKit

noncomputable def gameroomref_GridOf_m (g1 : Int) (g2 : Int) (g3 : List Int) : Option (Int × Int × List Int) :=
  (gameroomref_Ints_m g3).bind fun r1 => some (g1, g2, r1)

set_option maxRecDepth 100000 in
set_option maxHeartbeats 4000000 in
theorem gameroomref_GridOf_w {g1 : Int} {g2 : Int} {A1 : Option Addr} {c1 : Nat} {n1 : Nat} {g3 : List Int} {r : (Int × Int × List Int)} {w0 w : World} {B : Nat} {fs : List HP} (hm : gameroomref_GridOf_m g1 g2 g3 = some r) (hS : Sep w0 B w (fs)) (hr_g3 : RdF w0 B fs A1 (vI g3)) (_hc_g3 : g3.length ≤ c1) (_hn_g3 : n1 = g3.length) :
    Calls Try.prog 72 #[.agg #[.int .i64 g1, .int .i64 g2, .slice A1 n1 c1]] w fun e w' => ∃ v, e = .returned v ∧ ∃ (A3 : Option Addr) (c3 : Nat), v = .agg #[.int .i64 r.1, .int .i64 r.2.1, .slice A3 r.2.2.length c3] ∧ Sep w0 B w' (own 3 (.slice A3 r.2.2.length c3) (vI r.2.2) :: fs) := by
  obtain ⟨i3, hi3, hz3, hs3, hb3⟩ := info_parts Info3
  obtain ⟨i22, hi22, hz22, hs22, hb22⟩ := info_parts Info22
  obtain rfl := _hn_g3
  unfold gameroomref_GridOf_m at hm
  replace hm := start_b hm
  refine enter (l := [.agg #[.int .i64 g1, .int .i64 g2, .slice A1 g3.length c1]]) (n := 8) Try.func72 rfl rfl (by simp) (fun a hF => ?_)
  refine seqR ?_
  refine at_do (d := 1) (s := vS (Instr.box 55 (.agg #[.int .i64 g1, .int .i64 g2, .slice A1 g3.length c1]))) (v := .pointer (some ⟨w.heap.size, 0, none⟩)) (w' := w.alloc (.cells #[.int .i64 g1, .int .i64 g2, .slice A1 g3.length c1] 55)) hF (by kernel_rfl) (by kernel_rfl) (by kernel_rfl) (fun a hF => ?_)
  have hS : Sep w0 B (w.alloc (.cells #[.int .i64 g1, .int .i64 g2, .slice A1 g3.length c1] 55)) (blk w.heap.size 55 #[.int .i64 g1, .int .i64 g2, .slice A1 g3.length c1] :: (fs)) := hS.box 55 #[.int .i64 g1, .int .i64 g2, .slice A1 g3.length c1]
  generalize w.heap.size = g4 at hF hS
  generalize w.alloc (.cells #[.int .i64 g1, .int .i64 g2, .slice A1 g3.length c1] 55) = w at hS ⊢
  refine at_do (d := 2) (s := vS (Instr.alloc 55 true (.tuple #[]))) (v := .pointer (some ⟨w.heap.size, 0, none⟩)) (w' := w.alloc (.cells #[.int .i64 0, .int .i64 0, .slice none 0 0] 55)) hF (by kernel_rfl) (by kernel_rfl) (by kernel_rfl) (fun a hF => ?_)
  have hS : Sep w0 B (w.alloc (.cells #[.int .i64 0, .int .i64 0, .slice none 0 0] 55)) (blk w.heap.size 55 #[.int .i64 0, .int .i64 0, .slice none 0 0] :: (blk g4 55 #[.int .i64 g1, .int .i64 g2, .slice A1 g3.length c1] :: fs)) := hS.box 55 #[.int .i64 0, .int .i64 0, .slice none 0 0]
  generalize w.heap.size = g5 at hF hS
  generalize w.alloc (.cells #[.int .i64 0, .int .i64 0, .slice none 0 0] 55) = w at hS ⊢
  refine at_end [1, 2] [pl 1 (.pointer (some ⟨g4, 0, none⟩)), pl 2 (.pointer (some ⟨g5, 0, none⟩))] hF rfl (by kernel_rfl) (fun hF => ?_)
  refine then_n ?_
  refine seqR ?_
  obtain ⟨r1, hr1, hm⟩ := call_b hm
  refine at_run 2 [⟨false, [], vS (Instr.loadAt 22 (.pointer (some ⟨g4, 2, none⟩))), .slice A1 g3.length c1⟩] [none, some (.slice A1 g3.length c1)] [1, 2, 4] [pl 1 (.pointer (some ⟨g4, 0, none⟩)), pl 2 (.pointer (some ⟨g5, 0, none⟩)), pl 4 (.slice A1 g3.length c1)] hF hS (by kernel_rfl) (by kernel_rfl) ?_ (fun a w hF hS => ?_)
  · exact obs_cons (ob_load Agg22 (fun _ _ hS => (hS.at_ 1 rfl).cell rfl)) <| obs_nil
  refine at_call (f := 86) (args := #[.slice A1 g3.length c1]) (d := 5) hF (by kernel_rfl) (by kernel_rfl) Try.func86 (by kernel_rfl) rfl (gameroomref_Ints_w hr1 hS (fun _ hS => (hr_g3 _ (hS.dropN 2))) _hc_g3 rfl) (fun v a w hR hF => ?_)
  clear hS
  obtain ⟨A2, c2, rfl, hS⟩ := hR
  have hS : Sep w0 B w (own 3 (.slice A2 r1.length c2) (vI r1) :: blk g5 55 #[.int .i64 0, .int .i64 0, .slice none 0 0] :: blk g4 55 #[.int .i64 g1, .int .i64 g2, .slice A1 g3.length c1] :: fs) := hS
  refine at_run 1 [] [] [1, 2, 5, 6] [pl 1 (.pointer (some ⟨g4, 0, none⟩)), pl 2 (.pointer (some ⟨g5, 0, none⟩)), pl 5 (.slice A2 r1.length c2), pl 6 (.pointer (some ⟨g4, 2, none⟩))] hF hS (by kernel_rfl) (by kernel_rfl) ?_ (fun a w hF hS => ?_)
  · exact obs_nil
  obtain ⟨w, hrun, hS⟩ := run_put (P := Try.prog) (t := 22) (u := .slice A2 r1.length c2) (i := 2) (hS.at_ 2 rfl) hi22 hs22 rfl (Nat.lt_of_lt_of_eq (Nat.lt_of_succ_le (Nat.le_of_ble_eq_true (by kernel_rfl))) rfl)
  refine at_skip hF (by kernel_rfl) hrun ?_
  have hS : Sep w0 B w (own 3 (.slice A2 r1.length c2) (vI r1) :: blk g5 55 #[.int .i64 0, .int .i64 0, .slice none 0 0] :: blk g4 55 #[.int .i64 g1, .int .i64 g2, .slice A2 r1.length c2] :: fs) := hS
  refine at_end [1, 2] [pl 1 (.pointer (some ⟨g4, 0, none⟩)), pl 2 (.pointer (some ⟨g5, 0, none⟩))] hF rfl (by kernel_rfl) (fun hF => ?_)
  refine then_n ?_
  refine seqR ?_
  refine at_run 1 [⟨false, [], vS (Instr.loadAt 55 (.pointer (some ⟨g4, 0, none⟩))), .agg #[.int .i64 g1, .int .i64 g2, .slice A2 r1.length c2]⟩] [some (.agg #[.int .i64 g1, .int .i64 g2, .slice A2 r1.length c2])] [2, 7] [pl 2 (.pointer (some ⟨g5, 0, none⟩)), pl 7 (.agg #[.int .i64 g1, .int .i64 g2, .slice A2 r1.length c2])] hF hS (by kernel_rfl) (by kernel_rfl) ?_ (fun a w hF hS => ?_)
  · exact obs_cons (ob_loadA (cs := #[.int .i64 g1, .int .i64 g2, .slice A2 r1.length c2]) (by kernel_rfl) (by kernel_rfl) (fun _ _ hS => (hS.at_ 2 rfl).cellsAt 0 (by rfl))) <| obs_nil
  obtain ⟨w, hrun, hS⟩ := run_putA (P := Try.prog) (t := 55) (us := #[.int .i64 g1, .int .i64 g2, .slice A2 r1.length c2]) (o := 0) (hS.at_ 1 rfl) (by kernel_rfl) (all_one (by kernel_rfl)) (Nat.le_of_ble_eq_true (by kernel_rfl))
  refine at_skip hF (by kernel_rfl) hrun ?_
  have hS : Sep w0 B w (own 3 (.slice A2 r1.length c2) (vI r1) :: blk g5 55 #[.int .i64 g1, .int .i64 g2, .slice A2 r1.length c2] :: blk g4 55 #[.int .i64 g1, .int .i64 g2, .slice A2 r1.length c2] :: fs) := hS
  refine at_end [2] [pl 2 (.pointer (some ⟨g5, 0, none⟩))] hF rfl (by kernel_rfl) (fun hF => ?_)
  refine then_n ?_
  refine wp_ret ?_
  have hld0 := run_loadVarA (P := Try.prog) (t := 55) (cs := #[.int .i64 g1, .int .i64 g2, .slice A2 r1.length c2]) (by kernel_rfl) (by kernel_rfl) ((hS.at_ 1 rfl).cellsAt 0 (by rfl))
  have hS := hS.pickN 3 [0] (by decide)
  have hm : some (g1, g2, r1) = some r := hm
  obtain rfl := Option.some.inj hm
  exact retV (rs := [.cell 2 55]) (vs := [.agg #[.int .i64 g1, .int .i64 g2, .slice A2 r1.length c2]]) hF rfl (rv_c (by kernel_rfl) hld0 <| rv_nil) rfl ⟨_, rfl, A2, c2, rfl, hS⟩

noncomputable def gameroomref_GridMover_J3 (i1 : Int) (n5 : Int) : Option (St (Int × Int) Int) :=
  some (.next (n5, (w64 (i1 + 1))))

noncomputable def gameroomref_GridMover_J4 (g3 : List Int) (i1 : Int) (n4 : Int) : Option (St (Int × Int) Int) :=
  asrt (0 ≤ i1 ∧ i1 < (g3.length : Int)) <| if ((geti g3 i1) == 2) then ((gameroomref_GridMover_J3 i1) (w64 (n4 - 1))) else ((gameroomref_GridMover_J3 i1) n4)

noncomputable def gameroomref_GridMover_J2 (g3 : List Int) (n2 : Int) (i1 : Int) : Option (St (Int × Int) Int) :=
  asrt (0 ≤ i1 ∧ i1 < (g3.length : Int)) <| if ((geti g3 i1) == 1) then ((gameroomref_GridMover_J4 g3 i1) (w64 (n2 + 1))) else ((gameroomref_GridMover_J4 g3 i1) n2)

noncomputable def gameroomref_GridMover_J6 : Option Int :=
  some 0

noncomputable def gameroomref_GridMover_J5 (n3 : Int) : Option Int :=
  if (n3 == 1) then (some 2) else (gameroomref_GridMover_J6)

noncomputable def gameroomref_GridMover_J1 (n3 : Int) : Option Int :=
  if (n3 == 0) then (some 1) else ((gameroomref_GridMover_J5 n3))

noncomputable def gameroomref_GridMover_K1 : Int → Option Int :=
  fun (x : Int) => match x with | n3 => gameroomref_GridMover_J1 n3

noncomputable def gameroomref_GridMover_L1 (g3 : List Int) : (Int × Int) → Option (St (Int × Int) Int) :=
  fun (x : (Int × Int)) => match x with | (n2, i1) => if (decide (i1 < (g3.length : Int))) then ((gameroomref_GridMover_J2 g3 n2 i1)) else (some (.done n2))

noncomputable def gameroomref_GridMover_m (g1 : Int) (g2 : Int) (g3 : List Int) : Option Int :=
  (loop (gameroomref_GridMover_L1 g3) (0, 0)).bind gameroomref_GridMover_K1

set_option maxRecDepth 100000 in
set_option maxHeartbeats 4000000 in
theorem gameroomref_GridMover_w {g1 : Int} {g2 : Int} {A1 : Option Addr} {c1 : Nat} {n1 : Nat} {g3 : List Int} {r : Int} {w0 w : World} {B : Nat} {fs : List HP} (hm : gameroomref_GridMover_m g1 g2 g3 = some r) (hS : Sep w0 B w (fs)) (hr_g3 : RdF w0 B fs A1 (vI g3)) (_hc_g3 : g3.length ≤ c1) (_hn_g3 : n1 = g3.length) :
    Calls Try.prog 73 #[.agg #[.int .i64 g1, .int .i64 g2, .slice A1 n1 c1]] w fun e w' => e = .returned (.int .i64 r) ∧ Sep w0 B w' (fs) := by
  obtain ⟨i3, hi3, hz3, hs3, hb3⟩ := info_parts Info3
  obtain rfl := _hn_g3
  unfold gameroomref_GridMover_m at hm
  replace hm := start_b hm
  refine enter (l := [.agg #[.int .i64 g1, .int .i64 g2, .slice A1 g3.length c1]]) (n := 32) Try.func73 rfl rfl (by simp) (fun a hF => ?_)
  refine seqR ?_
  refine at_do (d := 1) (s := vS (Instr.box 55 (.agg #[.int .i64 g1, .int .i64 g2, .slice A1 g3.length c1]))) (v := .pointer (some ⟨w.heap.size, 0, none⟩)) (w' := w.alloc (.cells #[.int .i64 g1, .int .i64 g2, .slice A1 g3.length c1] 55)) hF (by kernel_rfl) (by kernel_rfl) (by kernel_rfl) (fun a hF => ?_)
  have hS : Sep w0 B (w.alloc (.cells #[.int .i64 g1, .int .i64 g2, .slice A1 g3.length c1] 55)) (blk w.heap.size 55 #[.int .i64 g1, .int .i64 g2, .slice A1 g3.length c1] :: (fs)) := hS.box 55 #[.int .i64 g1, .int .i64 g2, .slice A1 g3.length c1]
  generalize w.heap.size = g4 at hF hS
  generalize w.alloc (.cells #[.int .i64 g1, .int .i64 g2, .slice A1 g3.length c1] 55) = w at hS ⊢
  refine at_run 1 [] [] [1] [pl 1 (.pointer (some ⟨g4, 0, none⟩))] hF hS (by kernel_rfl) (by kernel_rfl) ?_ (fun a w hF hS => ?_)
  · exact obs_nil
  refine at_end [1] [pl 1 (.pointer (some ⟨g4, 0, none⟩))] hF rfl (by kernel_rfl) (fun hF => ?_)
  refine then_n ?_
  refine reg [] [] [1, 3] [pl 1 (.pointer (some ⟨g4, 0, none⟩)), pl 3 (.int .i64 0)] hF hS Fol (by kernel_rfl) (by kernel_rfl) (by kernel_rfl) ?_ (fun a w hF hS => ?_)
  · exact obs_nil
  refine seq_cut (fun a w => ∃ (n3 : Int), Fr 32 [pl 3 (.int .i64 n3)] a ∧ Sep w0 B w (fs) ∧ (gameroomref_GridMover_J1 n3).bind some = some r) ?_ ?_
  · rintro a w ⟨n3, hF, hS, hm⟩
    unfold gameroomref_GridMover_J1 at hm
    refine seq_cut (fun a w => Fr 32 [pl 3 (.int .i64 n3)] a ∧ Sep w0 B w (fs) ∧ ((gameroomref_GridMover_J5 n3)).bind some = some r) ?_ ?_
    · rintro a w ⟨hF, hS, hm⟩
      unfold gameroomref_GridMover_J5 at hm
      refine seq_cut (fun a w => Fr 32 [] a ∧ Sep w0 B w (fs) ∧ (gameroomref_GridMover_J6).bind some = some r) ?_ ?_
      · rintro a w ⟨hF, hS, hm⟩
        unfold gameroomref_GridMover_J6 at hm
        refine reg [] [] [2] [pl 2 (.int .i64 0)] hF hS Fol (by kernel_rfl) (by kernel_rfl) (by kernel_rfl) ?_ (fun a w hF hS => ?_)
        · exact obs_nil
        refine wp_ret ?_
        have hm : some 0 = some r := hm
        obtain rfl := Option.some.inj hm
        exact retV (rs := [.tmp 2]) (vs := [.int .i64 0]) hF rfl (rv_t (by kernel_rfl) <| rv_nil) rfl ⟨rfl, hS⟩
      · refine reg [] [] [31] [pl 31 (.bool (n3 == 1))] hF hS Fol (by kernel_rfl) (by kernel_rfl) (by kernel_rfl) ?_ (fun a w hF hS => ?_)
        · exact obs_nil
        refine cond_ev (t := 31) (b := (n3 == 1)) hF (by kernel_rfl) (fun hb => ?_) (fun hb => ?_)
        · replace hm := if_t hm hb
          refine reg [] [] [2] [pl 2 (.int .i64 2)] hF hS Fol (by kernel_rfl) (by kernel_rfl) (by kernel_rfl) ?_ (fun a w hF hS => ?_)
          · exact obs_nil
          refine wp_ret ?_
          refine then_r ?_
          have hm : some 2 = some r := hm
          obtain rfl := Option.some.inj hm
          exact retV (rs := [.tmp 2]) (vs := [.int .i64 2]) hF rfl (rv_t (by kernel_rfl) <| rv_nil) rfl ⟨rfl, hS⟩
        · replace hm := if_f hm hb
          refine wp_skip ?_
          refine then_n ?_
          exact ⟨hF.weak [] (by kernel_rfl), hS, hm⟩
    · refine reg [] [] [3, 29] [pl 3 (.int .i64 n3), pl 29 (.bool (n3 == 0))] hF hS Fol (by kernel_rfl) (by kernel_rfl) (by kernel_rfl) ?_ (fun a w hF hS => ?_)
      · exact obs_nil
      refine cond_ev (t := 29) (b := (n3 == 0)) hF (by kernel_rfl) (fun hb => ?_) (fun hb => ?_)
      · replace hm := if_t hm hb
        refine reg [] [] [2] [pl 2 (.int .i64 1)] hF hS Fol (by kernel_rfl) (by kernel_rfl) (by kernel_rfl) ?_ (fun a w hF hS => ?_)
        · exact obs_nil
        refine wp_ret ?_
        refine then_r ?_
        have hm : some 1 = some r := hm
        obtain rfl := Option.some.inj hm
        exact retV (rs := [.tmp 2]) (vs := [.int .i64 1]) hF rfl (rv_t (by kernel_rfl) <| rv_nil) rfl ⟨rfl, hS⟩
      · replace hm := if_f hm hb
        refine wp_skip ?_
        refine then_n ?_
        exact ⟨hF.weak [3] (by kernel_rfl), hS, hm⟩
  · refine reg [] [] [1, 3, 4] [pl 1 (.pointer (some ⟨g4, 0, none⟩)), pl 3 (.int .i64 0), pl 4 (.int .i64 0)] hF hS Fol (by kernel_rfl) (by kernel_rfl) (by kernel_rfl) ?_ (fun a w hF hS => ?_)
    · exact obs_nil
    refine wp_block ?_
    refine wp_loop_model (S := (Int × Int)) (R := Int) (gameroomref_GridMover_L1 g3) (fun x => (gameroomref_GridMover_K1 x).bind some) r (fun (x : (Int × Int)) a w => Fr 32 [pl 1 (.pointer (some ⟨g4, 0, none⟩)), pl 3 (.int .i64 x.1), pl 4 (.int .i64 x.2)] a ∧ Sep w0 B w (blk g4 55 #[.int .i64 g1, .int .i64 g2, .slice A1 g3.length c1] :: fs)) (assoc_b hm) ⟨hF.weak [1, 3, 4] (by kernel_rfl), hS⟩ ?_
    clear hF hS hm
    rintro nn1 ⟨n2, i1⟩ a w ⟨hF, hS⟩ hm
    generalize hφ1 : stK (gameroomref_GridMover_L1 g3) nn1 (fun x => (gameroomref_GridMover_K1 x).bind some) = φ1 at hm
    unfold gameroomref_GridMover_L1 at hm
    dsimp only at hF hS hm
    refine seq_cut (fun a w => Fr 32 [pl 1 (.pointer (some ⟨g4, 0, none⟩)), pl 3 (.int .i64 n2), pl 4 (.int .i64 i1)] a ∧ Sep w0 B w (blk g4 55 #[.int .i64 g1, .int .i64 g2, .slice A1 g3.length c1] :: fs) ∧ ((gameroomref_GridMover_J2 g3 n2 i1)).bind φ1 = some r) ?_ ?_
    · rintro a w ⟨hF, hS, hm⟩
      unfold gameroomref_GridMover_J2 at hm
      refine seq_cut (fun a w => ∃ (n5 : Int), Fr 32 [pl 1 (.pointer (some ⟨g4, 0, none⟩)), pl 3 (.int .i64 n5), pl 4 (.int .i64 i1)] a ∧ Sep w0 B w (blk g4 55 #[.int .i64 g1, .int .i64 g2, .slice A1 g3.length c1] :: fs) ∧ ((gameroomref_GridMover_J3 i1) n5).bind φ1 = some r) ?_ ?_
      · rintro a w ⟨n5, hF, hS, hm⟩
        unfold gameroomref_GridMover_J3 at hm
        refine reg1 [] [] [1, 3, 4] [pl 1 (.pointer (some ⟨g4, 0, none⟩)), pl 3 (.int .i64 n5), pl 4 (.int .i64 (w64 (i1 + 1)))] hF hS Fol (by kernel_rfl) (by kernel_rfl) (by kernel_rfl) ?_ (fun a w hF hS => ?_)
        · exact obs_nil
        refine then_n ?_
        rw [← hφ1] at hm
        exact ⟨(n5, (w64 (i1 + 1))), ⟨hF.weak [1, 3, 4] (by kernel_rfl), hS⟩, hm⟩
      · refine wp_block ?_
        refine seq_cut (fun a w => ∃ (n4 : Int), Fr 32 [pl 1 (.pointer (some ⟨g4, 0, none⟩)), pl 3 (.int .i64 n4), pl 4 (.int .i64 i1)] a ∧ Sep w0 B w (blk g4 55 #[.int .i64 g1, .int .i64 g2, .slice A1 g3.length c1] :: fs) ∧ ((gameroomref_GridMover_J4 g3 i1) n4).bind φ1 = some r) ?_ ?_
        · rintro a w ⟨n4, hF, hS, hm⟩
          unfold gameroomref_GridMover_J4 at hm
          obtain ⟨hp2, hm⟩ := asrt_b hm
          refine reg [⟨false, [], vS (Instr.loadAt 22 (.pointer (some ⟨g4, 2, none⟩))), .slice A1 g3.length c1⟩, ⟨true, [], vS (Instr.indexAt 22 (.slice A1 g3.length c1) (.int .i64 i1)), .pointer (some (sAddr A1 i1))⟩, ⟨false, [], vS (Instr.loadAt 3 (.pointer (some (sAddr A1 i1)))), .int .i64 (geti g3 i1)⟩] [none, some (.slice A1 g3.length c1), none, some (.pointer (some (sAddr A1 i1))), some (.int .i64 (geti g3 i1)), none] [1, 3, 4, 25] [pl 1 (.pointer (some ⟨g4, 0, none⟩)), pl 3 (.int .i64 n4), pl 4 (.int .i64 i1), pl 25 (.bool ((geti g3 i1) == 2))] hF hS Fol (by kernel_rfl) (by kernel_rfl) (by kernel_rfl) ?_ (fun a w hF hS => ?_)
          · exact obs_cons (ob_load Agg22 (fun _ _ hS => (hS.at_ 0 rfl).cell rfl)) <| obs_cons (ob_ix1 (f := (Value.int .i64)) (m := g3) Und22 hi3 hs3 (hr_g3 _ (hS.dropN 1)) rfl (fun _ => hp2)) <| obs_cons (ob_get1 (n := g3.length) (m := g3) (Value.int .i64) (0 : Int) Agg3 (fun _ hS => ⟨_, (hr_g3 _ (hS.dropN 1))⟩) (fun _ hS => rfl) (fun _ => hp2)) <| obs_nil
          refine cond_ev (t := 25) (b := ((geti g3 i1) == 2)) hF (by kernel_rfl) (fun hb => ?_) (fun hb => ?_)
          · replace hm := if_t hm hb
            refine reg1 [] [] [1, 3, 4] [pl 1 (.pointer (some ⟨g4, 0, none⟩)), pl 3 (.int .i64 (w64 (n4 - 1))), pl 4 (.int .i64 i1)] hF hS Fol (by kernel_rfl) (by kernel_rfl) (by kernel_rfl) ?_ (fun a w hF hS => ?_)
            · exact obs_nil
            refine block_n ?_
            refine then_n ?_
            exact ⟨(w64 (n4 - 1)), hF.weak [1, 3, 4] (by kernel_rfl), hS, hm⟩
          · replace hm := if_f hm hb
            refine wp_skip ?_
            refine block_n ?_
            refine then_n ?_
            exact ⟨n4, hF.weak [1, 3, 4] (by kernel_rfl), hS, hm⟩
        · obtain ⟨hp1, hm⟩ := asrt_b hm
          refine reg [⟨false, [], vS (Instr.loadAt 22 (.pointer (some ⟨g4, 2, none⟩))), .slice A1 g3.length c1⟩, ⟨true, [], vS (Instr.indexAt 22 (.slice A1 g3.length c1) (.int .i64 i1)), .pointer (some (sAddr A1 i1))⟩, ⟨false, [], vS (Instr.loadAt 3 (.pointer (some (sAddr A1 i1)))), .int .i64 (geti g3 i1)⟩] [none, some (.slice A1 g3.length c1), none, some (.pointer (some (sAddr A1 i1))), some (.int .i64 (geti g3 i1)), none] [1, 3, 4, 17] [pl 1 (.pointer (some ⟨g4, 0, none⟩)), pl 3 (.int .i64 n2), pl 4 (.int .i64 i1), pl 17 (.bool ((geti g3 i1) == 1))] hF hS Fol (by kernel_rfl) (by kernel_rfl) (by kernel_rfl) ?_ (fun a w hF hS => ?_)
          · exact obs_cons (ob_load Agg22 (fun _ _ hS => (hS.at_ 0 rfl).cell rfl)) <| obs_cons (ob_ix1 (f := (Value.int .i64)) (m := g3) Und22 hi3 hs3 (hr_g3 _ (hS.dropN 1)) rfl (fun _ => hp1)) <| obs_cons (ob_get1 (n := g3.length) (m := g3) (Value.int .i64) (0 : Int) Agg3 (fun _ hS => ⟨_, (hr_g3 _ (hS.dropN 1))⟩) (fun _ hS => rfl) (fun _ => hp1)) <| obs_nil
          refine cond_ev (t := 17) (b := ((geti g3 i1) == 1)) hF (by kernel_rfl) (fun hb => ?_) (fun hb => ?_)
          · replace hm := if_t hm hb
            refine reg1 [] [] [1, 3, 4] [pl 1 (.pointer (some ⟨g4, 0, none⟩)), pl 3 (.int .i64 (w64 (n2 + 1))), pl 4 (.int .i64 i1)] hF hS Fol (by kernel_rfl) (by kernel_rfl) (by kernel_rfl) ?_ (fun a w hF hS => ?_)
            · exact obs_nil
            refine then_n ?_
            exact ⟨(w64 (n2 + 1)), hF.weak [1, 3, 4] (by kernel_rfl), hS, hm⟩
          · replace hm := if_f hm hb
            refine wp_skip ?_
            refine then_n ?_
            exact ⟨n2, hF.weak [1, 3, 4] (by kernel_rfl), hS, hm⟩
    · refine reg [⟨false, [], vS (Instr.loadAt 22 (.pointer (some ⟨g4, 2, none⟩))), .slice A1 g3.length c1⟩] [none, none, some (.slice A1 g3.length c1), none, none] [1, 3, 4, 9] [pl 1 (.pointer (some ⟨g4, 0, none⟩)), pl 3 (.int .i64 n2), pl 4 (.int .i64 i1), pl 9 (.bool (decide (i1 < (g3.length : Int))))] hF hS Fol (by kernel_rfl) (by kernel_rfl) (by kernel_rfl) ?_ (fun a w hF hS => ?_)
      · exact obs_cons (ob_load Agg22 (fun _ _ hS => (hS.at_ 0 rfl).cell rfl)) <| obs_nil
      refine cond_ev (t := 9) (b := decide (i1 < (g3.length : Int))) hF (by kernel_rfl) (fun hb => ?_) (fun hb => ?_)
      · replace hm := if_t hm hb
        refine wp_skip ?_
        refine then_n ?_
        exact ⟨hF.weak [1, 3, 4] (by kernel_rfl), hS, hm⟩
      · replace hm := if_f hm hb
        refine wp_exit ?_
        refine then_e (then_e (block_e (then_n ?_)))
        have hS := hS.pickN 1 [] (by decide)
        rw [← hφ1] at hm
        replace hm := done_b hm
        unfold gameroomref_GridMover_K1 at hm
        try dsimp only at hm
        have hm : (gameroomref_GridMover_J1 n2).bind some = some r := hm
        exact ⟨n2, hF.weak [3] (by kernel_rfl), hS, hm⟩

noncomputable def gameroomref_CountDrops_J5 (c3 : Int) (sum3 : Int) : Option (St (Int × Int) Int) :=
  some (.next (sum3, (w64 (c3 + 1))))

noncomputable def gameroomref_CountDrops_J6 (rec_gameroomref_CountDrops : Int → Int → List Int → Int → Int → Option Int) (k1 : Int) (plies1 : Int) (sum1 : Int) (c3 : Int) (r3 : (Int × Int × List Int)) (x1 : List Int) : Option (St (Int × Int) Int) :=
  (rec_gameroomref_CountDrops r3.1 r3.2.1 x1 k1 (w64 (plies1 - 1))).bind fun r5 => (gameroomref_CountDrops_J5 c3) (w64 (sum1 + r5))

noncomputable def gameroomref_CountDrops_J4 (rec_gameroomref_CountDrops : Int → Int → List Int → Int → Int → Option Int) (g1 : Int) (g2 : Int) (g3 : List Int) (k1 : Int) (plies1 : Int) (sum1 : Int) (c3 : Int) : Option (St (Int × Int) Int) :=
  (gameroomref_fallTo_m g1 g2 g3 c3).bind fun r2 => if (decide ((0 : Int) ≤ r2)) then ((gameroomref_GridOf_m g1 g2 g3).bind fun r3 => (gameroomref_GridMover_m g1 g2 g3).bind fun r4 => asrt (0 ≤ r2 ∧ r2 < (r3.2.2.length : Int)) <| (gameroomref_CountDrops_J6 rec_gameroomref_CountDrops k1 plies1 sum1 c3 r3) (r3.2.2.set (Int.toNat r2) r4)) else ((gameroomref_CountDrops_J5 c3) sum1)

noncomputable def gameroomref_CountDrops_J3 (sum2 : Int) : Option Int :=
  some sum2

noncomputable def gameroomref_CountDrops_K1 : Int → Option Int :=
  fun (x : Int) => match x with | sum2 => gameroomref_CountDrops_J3 sum2

noncomputable def gameroomref_CountDrops_L1 (rec_gameroomref_CountDrops : Int → Int → List Int → Int → Int → Option Int) (g1 : Int) (g2 : Int) (g3 : List Int) (k1 : Int) (plies1 : Int) : (Int × Int) → Option (St (Int × Int) Int) :=
  fun (x : (Int × Int)) => match x with | (sum1, c3) => if (decide (c3 < g1)) then ((gameroomref_CountDrops_J4 rec_gameroomref_CountDrops g1 g2 g3 k1 plies1 sum1 c3)) else (some (.done sum1))

noncomputable def gameroomref_CountDrops_J2 (rec_gameroomref_CountDrops : Int → Int → List Int → Int → Int → Option Int) (g1 : Int) (g2 : Int) (g3 : List Int) (k1 : Int) (plies1 : Int) : Option Int :=
  (loop (gameroomref_CountDrops_L1 rec_gameroomref_CountDrops g1 g2 g3 k1 plies1) (0, 0)).bind gameroomref_CountDrops_K1

noncomputable def gameroomref_CountDrops_J1 (rec_gameroomref_CountDrops : Int → Int → List Int → Int → Int → Option Int) (g1 : Int) (g2 : Int) (g3 : List Int) (k1 : Int) (plies1 : Int) : Option Int :=
  (gameroomref_WonOf_m g1 g2 g3 k1).bind fun r1 => if (decide ((0 : Int) < r1.1)) then (some 0) else ((gameroomref_CountDrops_J2 rec_gameroomref_CountDrops g1 g2 g3 k1 plies1))

noncomputable def gameroomref_CountDrops_B (rec_gameroomref_CountDrops : Int → Int → List Int → Int → Int → Option Int) (g1 : Int) (g2 : Int) (g3 : List Int) (k1 : Int) (plies1 : Int) : Option Int :=
  if (plies1 == 0) then (some 1) else ((gameroomref_CountDrops_J1 rec_gameroomref_CountDrops g1 g2 g3 k1 plies1))

noncomputable def gameroomref_CountDrops_mF : Nat → Int → Int → List Int → Int → Int → Option Int
  | 0 => fun _ _ _ _ _ => none
  | n + 1 => fun g1 g2 g3 k1 plies1 => gameroomref_CountDrops_B (gameroomref_CountDrops_mF n) g1 g2 g3 k1 plies1

noncomputable def gameroomref_CountDrops_m (g1 : Int) (g2 : Int) (g3 : List Int) (k1 : Int) (plies1 : Int) : Option Int :=
  recM fun n => gameroomref_CountDrops_mF n g1 g2 g3 k1 plies1

set_option maxRecDepth 100000 in
set_option maxHeartbeats 4000000 in
theorem gameroomref_CountDrops_wB {rec_gameroomref_CountDrops : Int → Int → List Int → Int → Int → Option Int} (ih_gameroomref_CountDrops : ∀ {g1 : Int} {g2 : Int} {A1 : Option Addr} {c1 : Nat} {n1 : Nat} {g3 : List Int} {k1 : Int} {plies1 : Int} {r : Int} {w0 w : World} {B : Nat} {fs : List HP} (_ : rec_gameroomref_CountDrops g1 g2 g3 k1 plies1 = some r) (_ : Sep w0 B w (fs)) (hr_g3 : RdF w0 B fs A1 (vI g3)) (_hc_g3 : g3.length ≤ c1) (_hn_g3 : n1 = g3.length), Calls Try.prog 31 #[.agg #[.int .i64 g1, .int .i64 g2, .slice A1 n1 c1], .int .i64 k1, .int .i64 plies1] w fun e w' => e = .returned (.int .i64 r) ∧ Sep w0 B w' (fs)) {g1 : Int} {g2 : Int} {A1 : Option Addr} {c1 : Nat} {n1 : Nat} {g3 : List Int} {k1 : Int} {plies1 : Int} {r : Int} {w0 w : World} {B : Nat} {fs : List HP} (hm : gameroomref_CountDrops_B rec_gameroomref_CountDrops g1 g2 g3 k1 plies1 = some r) (hS : Sep w0 B w (fs)) (hr_g3 : RdF w0 B fs A1 (vI g3)) (_hc_g3 : g3.length ≤ c1) (_hn_g3 : n1 = g3.length) :
    Calls Try.prog 31 #[.agg #[.int .i64 g1, .int .i64 g2, .slice A1 n1 c1], .int .i64 k1, .int .i64 plies1] w fun e w' => e = .returned (.int .i64 r) ∧ Sep w0 B w' (fs) := by
  obtain ⟨i3, hi3, hz3, hs3, hb3⟩ := info_parts Info3
  obtain rfl := _hn_g3
  unfold gameroomref_CountDrops_B at hm
  replace hm := start_b hm
  refine enter (l := [.agg #[.int .i64 g1, .int .i64 g2, .slice A1 g3.length c1], .int .i64 k1, .int .i64 plies1]) (n := 50) Try.func31 rfl rfl (by simp) (fun a hF => ?_)
  refine seqR ?_
  refine at_do (d := 3) (s := vS (Instr.box 55 (.agg #[.int .i64 g1, .int .i64 g2, .slice A1 g3.length c1]))) (v := .pointer (some ⟨w.heap.size, 0, none⟩)) (w' := w.alloc (.cells #[.int .i64 g1, .int .i64 g2, .slice A1 g3.length c1] 55)) hF (by kernel_rfl) (by kernel_rfl) (by kernel_rfl) (fun a hF => ?_)
  have hS : Sep w0 B (w.alloc (.cells #[.int .i64 g1, .int .i64 g2, .slice A1 g3.length c1] 55)) (blk w.heap.size 55 #[.int .i64 g1, .int .i64 g2, .slice A1 g3.length c1] :: (fs)) := hS.box 55 #[.int .i64 g1, .int .i64 g2, .slice A1 g3.length c1]
  generalize w.heap.size = g4 at hF hS
  generalize w.alloc (.cells #[.int .i64 g1, .int .i64 g2, .slice A1 g3.length c1] 55) = w at hS ⊢
  refine at_run 1 [] [] [1, 2, 3] [pl 1 (.int .i64 k1), pl 2 (.int .i64 plies1), pl 3 (.pointer (some ⟨g4, 0, none⟩))] hF hS (by kernel_rfl) (by kernel_rfl) ?_ (fun a w hF hS => ?_)
  · exact obs_nil
  refine at_end [1, 2, 3] [pl 1 (.int .i64 k1), pl 2 (.int .i64 plies1), pl 3 (.pointer (some ⟨g4, 0, none⟩))] hF rfl (by kernel_rfl) (fun hF => ?_)
  refine then_n ?_
  refine seq_cut (fun a w => Fr 50 [pl 1 (.int .i64 k1), pl 2 (.int .i64 plies1), pl 3 (.pointer (some ⟨g4, 0, none⟩))] a ∧ Sep w0 B w (blk g4 55 #[.int .i64 g1, .int .i64 g2, .slice A1 g3.length c1] :: fs) ∧ ((gameroomref_CountDrops_J1 rec_gameroomref_CountDrops g1 g2 g3 k1 plies1)).bind some = some r) ?_ ?_
  · rintro a w ⟨hF, hS, hm⟩
    unfold gameroomref_CountDrops_J1 at hm
    refine seqR ?_
    obtain ⟨r1, hr1, hm⟩ := call_b hm
    refine at_run 2 [⟨false, [], vS (Instr.loadAt 55 (.pointer (some ⟨g4, 0, none⟩))), .agg #[.int .i64 g1, .int .i64 g2, .slice A1 g3.length c1]⟩] [some (.agg #[.int .i64 g1, .int .i64 g2, .slice A1 g3.length c1]), none] [1, 2, 3, 16, 17] [pl 1 (.int .i64 k1), pl 2 (.int .i64 plies1), pl 3 (.pointer (some ⟨g4, 0, none⟩)), pl 16 (.agg #[.int .i64 g1, .int .i64 g2, .slice A1 g3.length c1]), pl 17 (.int .i64 k1)] hF hS (by kernel_rfl) (by kernel_rfl) ?_ (fun a w hF hS => ?_)
    · exact obs_cons (ob_loadA (cs := #[.int .i64 g1, .int .i64 g2, .slice A1 g3.length c1]) (by kernel_rfl) (by kernel_rfl) (fun _ _ hS => (hS.at_ 0 rfl).cellsAt 0 (by rfl))) <| obs_nil
    refine at_call (f := 70) (args := #[.agg #[.int .i64 g1, .int .i64 g2, .slice A1 g3.length c1], .int .i64 k1]) (d := 18) hF (by kernel_rfl) (by kernel_rfl) Try.func70 (by kernel_rfl) rfl (gameroomref_WonOf_w hr1 hS (fun _ hS => (hr_g3 _ (hS.dropN 1))) _hc_g3 rfl) (fun v a w hR hF => ?_)
    clear hS
    obtain ⟨A2, c2, rfl, hS⟩ := hR
    have hS : Sep w0 B w (own 3 (.slice A2 r1.2.length c2) (vI r1.2) :: blk g4 55 #[.int .i64 g1, .int .i64 g2, .slice A1 g3.length c1] :: fs) := hS
    refine at_run 5 [] [] [1, 2, 3, 7] [pl 1 (.int .i64 k1), pl 2 (.int .i64 plies1), pl 3 (.pointer (some ⟨g4, 0, none⟩)), pl 7 (.int .i64 r1.1)] hF hS (by kernel_rfl) (by kernel_rfl) ?_ (fun a w hF hS => ?_)
    · exact obs_nil
    refine at_end [1, 2, 3, 7] [pl 1 (.int .i64 k1), pl 2 (.int .i64 plies1), pl 3 (.pointer (some ⟨g4, 0, none⟩)), pl 7 (.int .i64 r1.1)] hF rfl (by kernel_rfl) (fun hF => ?_)
    refine then_n ?_
    refine seq_cut (fun a w => Fr 50 [pl 1 (.int .i64 k1), pl 2 (.int .i64 plies1), pl 3 (.pointer (some ⟨g4, 0, none⟩))] a ∧ Sep w0 B w (blk g4 55 #[.int .i64 g1, .int .i64 g2, .slice A1 g3.length c1] :: fs) ∧ ((gameroomref_CountDrops_J2 rec_gameroomref_CountDrops g1 g2 g3 k1 plies1)).bind some = some r) ?_ ?_
    · rintro a w ⟨hF, hS, hm⟩
      unfold gameroomref_CountDrops_J2 at hm
      refine reg [] [] [1, 2, 3, 9] [pl 1 (.int .i64 k1), pl 2 (.int .i64 plies1), pl 3 (.pointer (some ⟨g4, 0, none⟩)), pl 9 (.int .i64 0)] hF hS Fol (by kernel_rfl) (by kernel_rfl) (by kernel_rfl) ?_ (fun a w hF hS => ?_)
      · exact obs_nil
      refine seq_cut (fun a w => ∃ (sum2 : Int), Fr 50 [pl 9 (.int .i64 sum2)] a ∧ Sep w0 B w (fs) ∧ (gameroomref_CountDrops_J3 sum2).bind some = some r) ?_ ?_
      · rintro a w ⟨sum2, hF, hS, hm⟩
        unfold gameroomref_CountDrops_J3 at hm
        refine reg [] [] [6] [pl 6 (.int .i64 sum2)] hF hS Fol (by kernel_rfl) (by kernel_rfl) (by kernel_rfl) ?_ (fun a w hF hS => ?_)
        · exact obs_nil
        refine wp_ret ?_
        have hm : some sum2 = some r := hm
        obtain rfl := Option.some.inj hm
        exact retV (rs := [.tmp 6]) (vs := [.int .i64 sum2]) hF rfl (rv_t (by kernel_rfl) <| rv_nil) rfl ⟨rfl, hS⟩
      · refine reg [] [] [1, 2, 3, 9, 10] [pl 1 (.int .i64 k1), pl 2 (.int .i64 plies1), pl 3 (.pointer (some ⟨g4, 0, none⟩)), pl 9 (.int .i64 0), pl 10 (.int .i64 0)] hF hS Fol (by kernel_rfl) (by kernel_rfl) (by kernel_rfl) ?_ (fun a w hF hS => ?_)
        · exact obs_nil
        refine wp_block ?_
        refine wp_loop_model (S := (Int × Int)) (R := Int) (gameroomref_CountDrops_L1 rec_gameroomref_CountDrops g1 g2 g3 k1 plies1) (fun x => (gameroomref_CountDrops_K1 x).bind some) r (fun (x : (Int × Int)) a w => Fr 50 [pl 1 (.int .i64 k1), pl 2 (.int .i64 plies1), pl 3 (.pointer (some ⟨g4, 0, none⟩)), pl 9 (.int .i64 x.1), pl 10 (.int .i64 x.2)] a ∧ Sep w0 B w (blk g4 55 #[.int .i64 g1, .int .i64 g2, .slice A1 g3.length c1] :: fs)) (assoc_b hm) ⟨hF.weak [1, 2, 3, 9, 10] (by kernel_rfl), hS⟩ ?_
        clear hF hS hm
        rintro nn1 ⟨sum1, c3⟩ a w ⟨hF, hS⟩ hm
        generalize hφ1 : stK (gameroomref_CountDrops_L1 rec_gameroomref_CountDrops g1 g2 g3 k1 plies1) nn1 (fun x => (gameroomref_CountDrops_K1 x).bind some) = φ1 at hm
        unfold gameroomref_CountDrops_L1 at hm
        dsimp only at hF hS hm
        refine seq_cut (fun a w => Fr 50 [pl 1 (.int .i64 k1), pl 2 (.int .i64 plies1), pl 3 (.pointer (some ⟨g4, 0, none⟩)), pl 9 (.int .i64 sum1), pl 10 (.int .i64 c3)] a ∧ Sep w0 B w (blk g4 55 #[.int .i64 g1, .int .i64 g2, .slice A1 g3.length c1] :: fs) ∧ ((gameroomref_CountDrops_J4 rec_gameroomref_CountDrops g1 g2 g3 k1 plies1 sum1 c3)).bind φ1 = some r) ?_ ?_
        · rintro a w ⟨hF, hS, hm⟩
          unfold gameroomref_CountDrops_J4 at hm
          refine seq_cut (fun a w => ∃ (sum3 : Int), Fr 50 [pl 1 (.int .i64 k1), pl 2 (.int .i64 plies1), pl 3 (.pointer (some ⟨g4, 0, none⟩)), pl 9 (.int .i64 sum3), pl 10 (.int .i64 c3)] a ∧ Sep w0 B w (blk g4 55 #[.int .i64 g1, .int .i64 g2, .slice A1 g3.length c1] :: fs) ∧ ((gameroomref_CountDrops_J5 c3) sum3).bind φ1 = some r) ?_ ?_
          · rintro a w ⟨sum3, hF, hS, hm⟩
            unfold gameroomref_CountDrops_J5 at hm
            refine reg1 [] [] [1, 2, 3, 9, 10] [pl 1 (.int .i64 k1), pl 2 (.int .i64 plies1), pl 3 (.pointer (some ⟨g4, 0, none⟩)), pl 9 (.int .i64 sum3), pl 10 (.int .i64 (w64 (c3 + 1)))] hF hS Fol (by kernel_rfl) (by kernel_rfl) (by kernel_rfl) ?_ (fun a w hF hS => ?_)
            · exact obs_nil
            refine then_n ?_
            rw [← hφ1] at hm
            exact ⟨(sum3, (w64 (c3 + 1))), ⟨hF.weak [1, 2, 3, 9, 10] (by kernel_rfl), hS⟩, hm⟩
          · refine wp_block ?_
            obtain ⟨r2, hr2, hm⟩ := call_b hm
            refine reg [⟨false, [], vS (Instr.loadAt 55 (.pointer (some ⟨g4, 0, none⟩))), .agg #[.int .i64 g1, .int .i64 g2, .slice A1 g3.length c1]⟩, ⟨false, [], callFunc 71 #[.agg #[.int .i64 g1, .int .i64 g2, .slice A1 g3.length c1], .int .i64 c3], .int .i64 r2⟩] [some (.agg #[.int .i64 g1, .int .i64 g2, .slice A1 g3.length c1]), none, some (.int .i64 r2), none] [1, 2, 3, 9, 10, 11] [pl 1 (.int .i64 k1), pl 2 (.int .i64 plies1), pl 3 (.pointer (some ⟨g4, 0, none⟩)), pl 9 (.int .i64 sum1), pl 10 (.int .i64 c3), pl 11 (.int .i64 r2)] hF hS Fol (by kernel_rfl) (by kernel_rfl) (by kernel_rfl) ?_ (fun a w hF hS => ?_)
            · exact obs_cons (ob_loadA (cs := #[.int .i64 g1, .int .i64 g2, .slice A1 g3.length c1]) (by kernel_rfl) (by kernel_rfl) (fun _ _ hS => (hS.at_ 0 rfl).cellsAt 0 (by rfl))) <| obs_cons (ob_call Try.func71 (by kernel_rfl) rfl (fun _ _ hS => gameroomref_fallTo_w hr2 hS (fun _ hS => (hr_g3 _ (hS.dropN 1))) _hc_g3 rfl)) <| obs_nil
            refine reg [] [] [1, 2, 3, 9, 10, 11, 33] [pl 1 (.int .i64 k1), pl 2 (.int .i64 plies1), pl 3 (.pointer (some ⟨g4, 0, none⟩)), pl 9 (.int .i64 sum1), pl 10 (.int .i64 c3), pl 11 (.int .i64 r2), pl 33 (.bool (decide ((0 : Int) ≤ r2)))] hF hS Fol (by kernel_rfl) (by kernel_rfl) (by kernel_rfl) ?_ (fun a w hF hS => ?_)
            · exact obs_nil
            refine cond_ev (t := 33) (b := decide ((0 : Int) ≤ r2)) hF (by kernel_rfl) (fun hb => ?_) (fun hb => ?_)
            · replace hm := if_t hm hb
              refine seqR ?_
              obtain ⟨r3, hr3, hm⟩ := call_b hm
              refine at_run 1 [⟨false, [], vS (Instr.loadAt 55 (.pointer (some ⟨g4, 0, none⟩))), .agg #[.int .i64 g1, .int .i64 g2, .slice A1 g3.length c1]⟩] [some (.agg #[.int .i64 g1, .int .i64 g2, .slice A1 g3.length c1])] [1, 2, 3, 9, 10, 11, 34] [pl 1 (.int .i64 k1), pl 2 (.int .i64 plies1), pl 3 (.pointer (some ⟨g4, 0, none⟩)), pl 9 (.int .i64 sum1), pl 10 (.int .i64 c3), pl 11 (.int .i64 r2), pl 34 (.agg #[.int .i64 g1, .int .i64 g2, .slice A1 g3.length c1])] hF hS (by kernel_rfl) (by kernel_rfl) ?_ (fun a w hF hS => ?_)
              · exact obs_cons (ob_loadA (cs := #[.int .i64 g1, .int .i64 g2, .slice A1 g3.length c1]) (by kernel_rfl) (by kernel_rfl) (fun _ _ hS => (hS.at_ 0 rfl).cellsAt 0 (by rfl))) <| obs_nil
              refine at_call (f := 72) (args := #[.agg #[.int .i64 g1, .int .i64 g2, .slice A1 g3.length c1]]) (d := 35) hF (by kernel_rfl) (by kernel_rfl) Try.func72 (by kernel_rfl) rfl (gameroomref_GridOf_w hr3 hS (fun _ hS => (hr_g3 _ (hS.dropN 1))) _hc_g3 rfl) (fun v a w hR hF => ?_)
              clear hS
              obtain ⟨A3, c4, rfl, hS⟩ := hR
              have hS : Sep w0 B w (own 3 (.slice A3 r3.2.2.length c4) (vI r3.2.2) :: blk g4 55 #[.int .i64 g1, .int .i64 g2, .slice A1 g3.length c1] :: fs) := hS
              refine at_do (d := 12) (s := vS (Instr.alloc 55 true (.tuple #[]))) (v := .pointer (some ⟨w.heap.size, 0, none⟩)) (w' := w.alloc (.cells #[.int .i64 0, .int .i64 0, .slice none 0 0] 55)) hF (by kernel_rfl) (by kernel_rfl) (by kernel_rfl) (fun a hF => ?_)
              have hS : Sep w0 B (w.alloc (.cells #[.int .i64 0, .int .i64 0, .slice none 0 0] 55)) (blk w.heap.size 55 #[.int .i64 0, .int .i64 0, .slice none 0 0] :: (own 3 (.slice A3 r3.2.2.length c4) (vI r3.2.2) :: blk g4 55 #[.int .i64 g1, .int .i64 g2, .slice A1 g3.length c1] :: fs)) := hS.box 55 #[.int .i64 0, .int .i64 0, .slice none 0 0]
              generalize w.heap.size = g5 at hF hS
              generalize w.alloc (.cells #[.int .i64 0, .int .i64 0, .slice none 0 0] 55) = w at hS ⊢
              obtain ⟨w, hrun, hS⟩ := run_putA (P := Try.prog) (t := 55) (us := #[.int .i64 r3.1, .int .i64 r3.2.1, .slice A3 r3.2.2.length c4]) (o := 0) (hS.at_ 0 rfl) (by kernel_rfl) (all_one (by kernel_rfl)) (Nat.le_of_ble_eq_true (by kernel_rfl))
              refine at_skip hF (by kernel_rfl) hrun ?_
              have hS : Sep w0 B w (blk g5 55 #[.int .i64 r3.1, .int .i64 r3.2.1, .slice A3 r3.2.2.length c4] :: own 3 (.slice A3 r3.2.2.length c4) (vI r3.2.2) :: blk g4 55 #[.int .i64 g1, .int .i64 g2, .slice A1 g3.length c1] :: fs) := hS
              refine at_end [1, 2, 3, 9, 10, 11, 12] [pl 1 (.int .i64 k1), pl 2 (.int .i64 plies1), pl 3 (.pointer (some ⟨g4, 0, none⟩)), pl 9 (.int .i64 sum1), pl 10 (.int .i64 c3), pl 11 (.int .i64 r2), pl 12 (.pointer (some ⟨g5, 0, none⟩))] hF rfl (by kernel_rfl) (fun hF => ?_)
              refine then_n ?_
              refine seq_cut (fun a w => ∃ (x1 : List Int), Fr 50 [pl 1 (.int .i64 k1), pl 2 (.int .i64 plies1), pl 3 (.pointer (some ⟨g4, 0, none⟩)), pl 9 (.int .i64 sum1), pl 10 (.int .i64 c3), pl 12 (.pointer (some ⟨g5, 0, none⟩))] a ∧ Sep w0 B w (blk g4 55 #[.int .i64 g1, .int .i64 g2, .slice A1 g3.length c1] :: blk g5 55 #[.int .i64 r3.1, .int .i64 r3.2.1, .slice A3 r3.2.2.length c4] :: own 3 (.slice A3 r3.2.2.length c4) (vI x1) :: fs) ∧ ((gameroomref_CountDrops_J6 rec_gameroomref_CountDrops k1 plies1 sum1 c3 r3) x1).bind φ1 = some r) ?_ ?_
              · rintro a w ⟨x1, hF, hS, hm⟩
                unfold gameroomref_CountDrops_J6 at hm
                obtain ⟨r5, hr5, hm⟩ := call_b hm
                refine reg1 [⟨false, [], vS (Instr.loadAt 55 (.pointer (some ⟨g5, 0, none⟩))), .agg #[.int .i64 r3.1, .int .i64 r3.2.1, .slice A3 r3.2.2.length c4]⟩, ⟨false, [], callFunc 31 #[.agg #[.int .i64 r3.1, .int .i64 r3.2.1, .slice A3 r3.2.2.length c4], .int .i64 k1, .int .i64 (w64 (plies1 - 1))], .int .i64 r5⟩] [none, some (.agg #[.int .i64 r3.1, .int .i64 r3.2.1, .slice A3 r3.2.2.length c4]), none, none, none, some (.int .i64 r5), none, none] [1, 2, 3, 9, 10] [pl 1 (.int .i64 k1), pl 2 (.int .i64 plies1), pl 3 (.pointer (some ⟨g4, 0, none⟩)), pl 9 (.int .i64 (w64 (sum1 + r5))), pl 10 (.int .i64 c3)] hF hS Fol (by kernel_rfl) (by kernel_rfl) (by kernel_rfl) ?_ (fun a w hF hS => ?_)
                · exact obs_cons (ob_loadA (cs := #[.int .i64 r3.1, .int .i64 r3.2.1, .slice A3 r3.2.2.length c4]) (by kernel_rfl) (by kernel_rfl) (fun _ _ hS => (hS.at_ 1 rfl).cellsAt 0 (by rfl))) <| obs_cons (ob_call Try.func31 (by kernel_rfl) rfl (fun _ _ hS => ih_gameroomref_CountDrops hr5 hS (fun _ hS => (hS.at_ 2 rfl).rd) ((hS.at_ 2 rfl).cap1) ((hS.at_ 2 rfl).len1))) <| obs_nil
                refine block_n ?_
                refine then_n ?_
                have hS := hS.pickN 3 [0] (by decide)
                exact ⟨(w64 (sum1 + r5)), hF.weak [1, 2, 3, 9, 10] (by kernel_rfl), hS, hm⟩
              · obtain ⟨r4, hr4, hm⟩ := call_b hm
                obtain ⟨hp1, hm⟩ := asrt_b hm
                refine regMix5 [0, 1, 2, 3] [6] 3 #[true, true, true, true, false, false, false] [⟨false, [], vS (Instr.loadAt 22 (.pointer (some ⟨g5, 2, none⟩))), .slice A3 r3.2.2.length c4⟩, ⟨false, [], vS (Instr.loadAt 55 (.pointer (some ⟨g4, 0, none⟩))), .agg #[.int .i64 g1, .int .i64 g2, .slice A1 g3.length c1]⟩] [none, some (.slice A3 r3.2.2.length c4), none, some (.agg #[.int .i64 g1, .int .i64 g2, .slice A1 g3.length c1])] [1, 2, 3, 9, 10, 12, 37, 38, 39] [pl 1 (.int .i64 k1), pl 2 (.int .i64 plies1), pl 3 (.pointer (some ⟨g4, 0, none⟩)), pl 9 (.int .i64 sum1), pl 10 (.int .i64 c3), pl 12 (.pointer (some ⟨g5, 0, none⟩)), pl 37 (.slice A3 r3.2.2.length c4), pl 38 (.int .i64 r2), pl 39 (.agg #[.int .i64 g1, .int .i64 g2, .slice A1 g3.length c1])] hF hS Fol (by kernel_rfl) (by kernel_rfl) (by kernel_rfl) (by kernel_rfl) ?_ (fun a w hF hS => ?_)
                · exact obs_cons (ob_load Agg22 (fun _ _ hS => (hS.at_ 0 rfl).cell rfl)) <| obs_cons (ob_loadA (cs := #[.int .i64 g1, .int .i64 g2, .slice A1 g3.length c1]) (by kernel_rfl) (by kernel_rfl) (fun _ _ hS => (hS.at_ 2 rfl).cellsAt 0 (by rfl))) <| obs_nil
                refine any_step [4] (by kernel_rfl) rfl ?_
                refine (all_cons ?_ all_nil)
                · refine any_op (listed' := #[true, true, true, true, true, false, false]) (by kernel_rfl) (by kernel_rfl) ?_
                  refine at_run 1 [⟨false, [], callFunc 73 #[.agg #[.int .i64 g1, .int .i64 g2, .slice A1 g3.length c1]], .int .i64 r4⟩] [some (.int .i64 r4)] [1, 2, 3, 9, 10, 12, 37, 38, 40] [pl 1 (.int .i64 k1), pl 2 (.int .i64 plies1), pl 3 (.pointer (some ⟨g4, 0, none⟩)), pl 9 (.int .i64 sum1), pl 10 (.int .i64 c3), pl 12 (.pointer (some ⟨g5, 0, none⟩)), pl 37 (.slice A3 r3.2.2.length c4), pl 38 (.int .i64 r2), pl 40 (.int .i64 r4)] hF hS (by kernel_rfl) (by kernel_rfl) ?_ (fun a w hF hS => ?_)
                  · exact obs_cons (ob_call Try.func73 (by kernel_rfl) rfl (fun _ _ hS => gameroomref_GridMover_w hr4 hS (fun _ hS => (hr_g3 _ (hS.dropN 3))) _hc_g3 rfl)) <| obs_nil
                  refine any_fin rfl hS ?_
                  refine any_step [5] (by kernel_rfl) rfl ?_
                  refine (all_cons ?_ all_nil)
                  · refine any_op (listed' := #[true, true, true, true, true, true, false]) (by kernel_rfl) (by kernel_rfl) ?_
                    refine at_runW 1 [⟨true, [], vS (Instr.indexAt 22 (.slice A3 r3.2.2.length c4) (.int .i64 r2)), .pointer (some (sAddr A3 r2))⟩] [some (.pointer (some (sAddr A3 r2)))] [1, 2, 3, 9, 10, 12, 40, 41] [pl 1 (.int .i64 k1), pl 2 (.int .i64 plies1), pl 3 (.pointer (some ⟨g4, 0, none⟩)), pl 9 (.int .i64 sum1), pl 10 (.int .i64 c3), pl 12 (.pointer (some ⟨g5, 0, none⟩)), pl 40 (.int .i64 r4), pl 41 (.pointer (some (sAddr A3 r2)))] hF hS (by kernel_rfl) (by kernel_rfl) ?_ (fun a hF => ?_)
                    · exact obs_cons (ob_ix1 (f := (Value.int .i64)) (m := r3.2.2) Und22 hi3 hs3 (hS.at_ 1 rfl).rd rfl (fun _ => hp1)) <| obs_nil
                    refine any_finI rfl (fun h => h) ?_
                    refine any_step [6] (by kernel_rfl) rfl ?_
                    refine (all_cons ?_ all_nil)
                    · refine any_op (listed' := #[true, true, true, true, true, true, true]) (by kernel_rfl) (by kernel_rfl) ?_
                      obtain ⟨w, hrun, hS⟩ := run_set1 (P := Try.prog) (t := 3) (x := r4) (Value.int .i64) (hS.at_ 1 rfl) hi3 hs3 rfl rfl hp1
                      refine at_skip hF (by kernel_rfl) hrun ?_
                      have hS : Sep w0 B w (blk g5 55 #[.int .i64 r3.1, .int .i64 r3.2.1, .slice A3 r3.2.2.length c4] :: own 3 (.slice A3 r3.2.2.length c4) (vI (r3.2.2.set (Int.toNat r2) r4)) :: blk g4 55 #[.int .i64 g1, .int .i64 g2, .slice A1 g3.length c1] :: fs) := hS
                      refine any_finE rfl (by decide) ?_
                      refine any_end (by kernel_rfl) ?_
                      refine np_n ?_
                      refine then_n ?_
                      have hS := hS.pickN 3 [2, 0, 1] (by decide)
                      exact ⟨(r3.2.2.set (Int.toNat r2) r4), hF.weak [1, 2, 3, 9, 10, 12] (by kernel_rfl), hS, hm⟩
            · replace hm := if_f hm hb
              refine wp_skip ?_
              refine block_n ?_
              refine then_n ?_
              exact ⟨sum1, hF.weak [1, 2, 3, 9, 10] (by kernel_rfl), hS, hm⟩
        · refine reg [⟨false, [], vS (Instr.loadAt 3 (.pointer (some ⟨g4, 0, none⟩))), .int .i64 g1⟩] [none, none, some (.int .i64 g1), none] [1, 2, 3, 9, 10, 26] [pl 1 (.int .i64 k1), pl 2 (.int .i64 plies1), pl 3 (.pointer (some ⟨g4, 0, none⟩)), pl 9 (.int .i64 sum1), pl 10 (.int .i64 c3), pl 26 (.bool (decide (c3 < g1)))] hF hS Fol (by kernel_rfl) (by kernel_rfl) (by kernel_rfl) ?_ (fun a w hF hS => ?_)
          · exact obs_cons (ob_load Agg3 (fun _ _ hS => (hS.at_ 0 rfl).cell rfl)) <| obs_nil
          refine cond_ev (t := 26) (b := decide (c3 < g1)) hF (by kernel_rfl) (fun hb => ?_) (fun hb => ?_)
          · replace hm := if_t hm hb
            refine wp_skip ?_
            refine then_n ?_
            exact ⟨hF.weak [1, 2, 3, 9, 10] (by kernel_rfl), hS, hm⟩
          · replace hm := if_f hm hb
            refine wp_exit ?_
            refine then_e (then_e (block_e (then_n ?_)))
            have hS := hS.pickN 1 [] (by decide)
            rw [← hφ1] at hm
            replace hm := done_b hm
            unfold gameroomref_CountDrops_K1 at hm
            try dsimp only at hm
            have hm : (gameroomref_CountDrops_J3 sum1).bind some = some r := hm
            exact ⟨sum1, hF.weak [9] (by kernel_rfl), hS, hm⟩
    · refine reg [] [] [1, 2, 3, 22] [pl 1 (.int .i64 k1), pl 2 (.int .i64 plies1), pl 3 (.pointer (some ⟨g4, 0, none⟩)), pl 22 (.bool (decide ((0 : Int) < r1.1)))] hF hS Fol (by kernel_rfl) (by kernel_rfl) (by kernel_rfl) ?_ (fun a w hF hS => ?_)
      · exact obs_nil
      refine cond_ev (t := 22) (b := decide ((0 : Int) < r1.1)) hF (by kernel_rfl) (fun hb => ?_) (fun hb => ?_)
      · replace hm := if_t hm hb
        refine reg [] [] [6] [pl 6 (.int .i64 0)] hF hS Fol (by kernel_rfl) (by kernel_rfl) (by kernel_rfl) ?_ (fun a w hF hS => ?_)
        · exact obs_nil
        refine wp_ret ?_
        refine then_r ?_
        have hS := hS.pickN 2 [] (by decide)
        have hm : some 0 = some r := hm
        obtain rfl := Option.some.inj hm
        exact retV (rs := [.tmp 6]) (vs := [.int .i64 0]) hF rfl (rv_t (by kernel_rfl) <| rv_nil) rfl ⟨rfl, hS⟩
      · replace hm := if_f hm hb
        refine wp_skip ?_
        refine then_n ?_
        have hS := hS.pickN 2 [1] (by decide)
        exact ⟨hF.weak [1, 2, 3] (by kernel_rfl), hS, hm⟩
  · refine reg [] [] [1, 2, 3, 14] [pl 1 (.int .i64 k1), pl 2 (.int .i64 plies1), pl 3 (.pointer (some ⟨g4, 0, none⟩)), pl 14 (.bool (plies1 == 0))] hF hS Fol (by kernel_rfl) (by kernel_rfl) (by kernel_rfl) ?_ (fun a w hF hS => ?_)
    · exact obs_nil
    refine cond_ev (t := 14) (b := (plies1 == 0)) hF (by kernel_rfl) (fun hb => ?_) (fun hb => ?_)
    · replace hm := if_t hm hb
      refine reg [] [] [6] [pl 6 (.int .i64 1)] hF hS Fol (by kernel_rfl) (by kernel_rfl) (by kernel_rfl) ?_ (fun a w hF hS => ?_)
      · exact obs_nil
      refine wp_ret ?_
      refine then_r ?_
      have hS := hS.pickN 1 [] (by decide)
      have hm : some 1 = some r := hm
      obtain rfl := Option.some.inj hm
      exact retV (rs := [.tmp 6]) (vs := [.int .i64 1]) hF rfl (rv_t (by kernel_rfl) <| rv_nil) rfl ⟨rfl, hS⟩
    · replace hm := if_f hm hb
      refine wp_skip ?_
      refine then_n ?_
      exact ⟨hF.weak [1, 2, 3] (by kernel_rfl), hS, hm⟩

theorem gameroomref_CountDrops_w {g1 : Int} {g2 : Int} {A1 : Option Addr} {c1 : Nat} {n1 : Nat} {g3 : List Int} {k1 : Int} {plies1 : Int} {r : Int} {w0 w : World} {B : Nat} {fs : List HP} (hm : gameroomref_CountDrops_m g1 g2 g3 k1 plies1 = some r) (hS : Sep w0 B w (fs)) (hr_g3 : RdF w0 B fs A1 (vI g3)) (_hc_g3 : g3.length ≤ c1) (_hn_g3 : n1 = g3.length) :
    Calls Try.prog 31 #[.agg #[.int .i64 g1, .int .i64 g2, .slice A1 n1 c1], .int .i64 k1, .int .i64 plies1] w fun e w' => e = .returned (.int .i64 r) ∧ Sep w0 B w' (fs) := by
  have key : ∀ (n : Nat) {g1 : Int} {g2 : Int} {A1 : Option Addr} {c1 : Nat} {n1 : Nat} {g3 : List Int} {k1 : Int} {plies1 : Int} {r : Int} {w0 w : World} {B : Nat} {fs : List HP} (_ : gameroomref_CountDrops_mF n g1 g2 g3 k1 plies1 = some r) (_ : Sep w0 B w (fs)) (hr_g3 : RdF w0 B fs A1 (vI g3)) (_hc_g3 : g3.length ≤ c1) (_hn_g3 : n1 = g3.length), Calls Try.prog 31 #[.agg #[.int .i64 g1, .int .i64 g2, .slice A1 n1 c1], .int .i64 k1, .int .i64 plies1] w fun e w' => e = .returned (.int .i64 r) ∧ Sep w0 B w' (fs) := by
    intro n
    induction n with
    | zero => intros; rename_i hm0 _ _ _ _; cases hm0
    | succ n ih => intros; rename_i hm0 hS0 h0 h1 h2; exact gameroomref_CountDrops_wB (rec_gameroomref_CountDrops := gameroomref_CountDrops_mF n) (fun hm hS h0 h1 h2 => ih hm hS h0 h1 h2) hm0 hS0 h0 h1 h2
  obtain ⟨n, hn⟩ := recM_some hm
  exact key n hn hS hr_g3 _hc_g3 _hn_g3

theorem gameroomref_CountDrops_J6_le_gameroomref_CountDrops {rec_gameroomref_CountDrops1 rec_gameroomref_CountDrops2 : Int → Int → List Int → Int → Int → Option Int} (h_rec_gameroomref_CountDrops : ∀ a0 a1 a2 a3 a4, Le (rec_gameroomref_CountDrops1 a0 a1 a2 a3 a4) (rec_gameroomref_CountDrops2 a0 a1 a2 a3 a4)) (k1 : Int) (plies1 : Int) (sum1 : Int) (c3 : Int) (r3 : (Int × Int × List Int)) (x1 : List Int) : Le (gameroomref_CountDrops_J6 rec_gameroomref_CountDrops1 k1 plies1 sum1 c3 r3 x1) (gameroomref_CountDrops_J6 rec_gameroomref_CountDrops2 k1 plies1 sum1 c3 r3 x1) := by
  unfold gameroomref_CountDrops_J6
  repeat' (first | with_reducible exact Le.refl _ | with_reducible exact h_rec_gameroomref_CountDrops _ _ _ _ _ | refine Le.asrt ?_ | refine Le.ite ?_ ?_ | refine Le.bind ?_ (fun _ => ?_) | refine Le.loop2 (fun _ => ?_) | refine Le.elim2 (fun _ => ?_) (fun _ => ?_))

theorem gameroomref_CountDrops_J4_le_gameroomref_CountDrops {rec_gameroomref_CountDrops1 rec_gameroomref_CountDrops2 : Int → Int → List Int → Int → Int → Option Int} (h_rec_gameroomref_CountDrops : ∀ a0 a1 a2 a3 a4, Le (rec_gameroomref_CountDrops1 a0 a1 a2 a3 a4) (rec_gameroomref_CountDrops2 a0 a1 a2 a3 a4)) (g1 : Int) (g2 : Int) (g3 : List Int) (k1 : Int) (plies1 : Int) (sum1 : Int) (c3 : Int) : Le (gameroomref_CountDrops_J4 rec_gameroomref_CountDrops1 g1 g2 g3 k1 plies1 sum1 c3) (gameroomref_CountDrops_J4 rec_gameroomref_CountDrops2 g1 g2 g3 k1 plies1 sum1 c3) := by
  unfold gameroomref_CountDrops_J4
  repeat' (first | with_reducible exact Le.refl _ | with_reducible exact h_rec_gameroomref_CountDrops _ _ _ _ _ | with_reducible exact gameroomref_CountDrops_J6_le_gameroomref_CountDrops h_rec_gameroomref_CountDrops _ _ _ _ _ _ | refine Le.asrt ?_ | refine Le.ite ?_ ?_ | refine Le.bind ?_ (fun _ => ?_) | refine Le.loop2 (fun _ => ?_) | refine Le.elim2 (fun _ => ?_) (fun _ => ?_))

theorem gameroomref_CountDrops_L1_le_gameroomref_CountDrops {rec_gameroomref_CountDrops1 rec_gameroomref_CountDrops2 : Int → Int → List Int → Int → Int → Option Int} (h_rec_gameroomref_CountDrops : ∀ a0 a1 a2 a3 a4, Le (rec_gameroomref_CountDrops1 a0 a1 a2 a3 a4) (rec_gameroomref_CountDrops2 a0 a1 a2 a3 a4)) (g1 : Int) (g2 : Int) (g3 : List Int) (k1 : Int) (plies1 : Int) (x : (Int × Int)) : Le (gameroomref_CountDrops_L1 rec_gameroomref_CountDrops1 g1 g2 g3 k1 plies1 x) (gameroomref_CountDrops_L1 rec_gameroomref_CountDrops2 g1 g2 g3 k1 plies1 x) := by
  rcases x with ⟨sum1, c3⟩
  all_goals
    unfold gameroomref_CountDrops_L1
    try dsimp only
    repeat' (first | with_reducible exact Le.refl _ | with_reducible exact h_rec_gameroomref_CountDrops _ _ _ _ _ | with_reducible exact gameroomref_CountDrops_J4_le_gameroomref_CountDrops h_rec_gameroomref_CountDrops _ _ _ _ _ _ _ | refine Le.asrt ?_ | refine Le.ite ?_ ?_ | refine Le.bind ?_ (fun _ => ?_) | refine Le.loop2 (fun _ => ?_) | refine Le.elim2 (fun _ => ?_) (fun _ => ?_))

theorem gameroomref_CountDrops_J2_le_gameroomref_CountDrops {rec_gameroomref_CountDrops1 rec_gameroomref_CountDrops2 : Int → Int → List Int → Int → Int → Option Int} (h_rec_gameroomref_CountDrops : ∀ a0 a1 a2 a3 a4, Le (rec_gameroomref_CountDrops1 a0 a1 a2 a3 a4) (rec_gameroomref_CountDrops2 a0 a1 a2 a3 a4)) (g1 : Int) (g2 : Int) (g3 : List Int) (k1 : Int) (plies1 : Int) : Le (gameroomref_CountDrops_J2 rec_gameroomref_CountDrops1 g1 g2 g3 k1 plies1) (gameroomref_CountDrops_J2 rec_gameroomref_CountDrops2 g1 g2 g3 k1 plies1) := by
  unfold gameroomref_CountDrops_J2
  repeat' (first | with_reducible exact Le.refl _ | with_reducible exact h_rec_gameroomref_CountDrops _ _ _ _ _ | with_reducible exact gameroomref_CountDrops_L1_le_gameroomref_CountDrops h_rec_gameroomref_CountDrops _ _ _ _ _ _ | refine Le.asrt ?_ | refine Le.ite ?_ ?_ | refine Le.bind ?_ (fun _ => ?_) | refine Le.loop2 (fun _ => ?_) | refine Le.elim2 (fun _ => ?_) (fun _ => ?_))

theorem gameroomref_CountDrops_J1_le_gameroomref_CountDrops {rec_gameroomref_CountDrops1 rec_gameroomref_CountDrops2 : Int → Int → List Int → Int → Int → Option Int} (h_rec_gameroomref_CountDrops : ∀ a0 a1 a2 a3 a4, Le (rec_gameroomref_CountDrops1 a0 a1 a2 a3 a4) (rec_gameroomref_CountDrops2 a0 a1 a2 a3 a4)) (g1 : Int) (g2 : Int) (g3 : List Int) (k1 : Int) (plies1 : Int) : Le (gameroomref_CountDrops_J1 rec_gameroomref_CountDrops1 g1 g2 g3 k1 plies1) (gameroomref_CountDrops_J1 rec_gameroomref_CountDrops2 g1 g2 g3 k1 plies1) := by
  unfold gameroomref_CountDrops_J1
  repeat' (first | with_reducible exact Le.refl _ | with_reducible exact h_rec_gameroomref_CountDrops _ _ _ _ _ | with_reducible exact gameroomref_CountDrops_J2_le_gameroomref_CountDrops h_rec_gameroomref_CountDrops _ _ _ _ _ | refine Le.asrt ?_ | refine Le.ite ?_ ?_ | refine Le.bind ?_ (fun _ => ?_) | refine Le.loop2 (fun _ => ?_) | refine Le.elim2 (fun _ => ?_) (fun _ => ?_))

theorem gameroomref_CountDrops_B_le {rec_gameroomref_CountDrops1 rec_gameroomref_CountDrops2 : Int → Int → List Int → Int → Int → Option Int} (h_rec_gameroomref_CountDrops : ∀ a0 a1 a2 a3 a4, Le (rec_gameroomref_CountDrops1 a0 a1 a2 a3 a4) (rec_gameroomref_CountDrops2 a0 a1 a2 a3 a4)) (g1 : Int) (g2 : Int) (g3 : List Int) (k1 : Int) (plies1 : Int) : Le (gameroomref_CountDrops_B rec_gameroomref_CountDrops1 g1 g2 g3 k1 plies1) (gameroomref_CountDrops_B rec_gameroomref_CountDrops2 g1 g2 g3 k1 plies1) := by
  unfold gameroomref_CountDrops_B
  repeat' (first | with_reducible exact Le.refl _ | with_reducible exact h_rec_gameroomref_CountDrops _ _ _ _ _ | with_reducible exact gameroomref_CountDrops_J1_le_gameroomref_CountDrops h_rec_gameroomref_CountDrops _ _ _ _ _ | refine Le.asrt ?_ | refine Le.ite ?_ ?_ | refine Le.bind ?_ (fun _ => ?_) | refine Le.loop2 (fun _ => ?_) | refine Le.elim2 (fun _ => ?_) (fun _ => ?_))

theorem gameroomref_CountDrops_mF_le : ∀ (n : Nat) (g1 : Int) (g2 : Int) (g3 : List Int) (k1 : Int) (plies1 : Int), Le (gameroomref_CountDrops_mF n g1 g2 g3 k1 plies1) (gameroomref_CountDrops_mF (n + 1) g1 g2 g3 k1 plies1)
  | 0, _, _, _, _, _ => fun _ h => by cases h
  | n + 1, _, _, _, _, _ => gameroomref_CountDrops_B_le (fun a0 a1 a2 a3 a4 => gameroomref_CountDrops_mF_le n a0 a1 a2 a3 a4) _ _ _ _ _

theorem gameroomref_CountDrops_m_of (N : Nat) (g1 : Int) (g2 : Int) (g3 : List Int) (k1 : Int) (plies1 : Int) {r : Int} (h : gameroomref_CountDrops_mF N g1 g2 g3 k1 plies1 = some r) : gameroomref_CountDrops_m g1 g2 g3 k1 plies1 = some r :=
  recM_mono (fun n => gameroomref_CountDrops_mF_le n _ _ _ _ _) h

noncomputable def gameroomlaw_FourCounts_J2 (z1 : Bool) : Option Bool :=
  some z1

noncomputable def gameroomlaw_FourCounts_J1 (w1 : Int) (h1 : Int) (k1 : Int) (plies1 : Int) (r1 : (Int × Int)) : Option Bool :=
  if (r1.2 == 0) then (asrt ((r1.2 == 0) = true → (0 : Int) ≤ (w64 (w1 * h1)) ∧ (w64 (w1 * h1)) ≤ bigN) <| ((if (r1.2 == 0) then gameroomref_CountDrops_m w1 h1 (List.replicate (Int.toNat (w64 (w1 * h1))) (0 : Int)) k1 plies1 else some 0)).bind fun r2 => gameroomlaw_FourCounts_J2 ((r1.2 == 0) && (r1.1 == r2))) else (((if (r1.2 == 0) then gameroomref_CountDrops_m w1 h1 ([] : List Int) k1 plies1 else some 0)).bind fun r3 => gameroomlaw_FourCounts_J2 ((r1.2 == 0) && (r1.1 == r3)))

noncomputable def gameroomlaw_FourCounts_m (w1 : Int) (h1 : Int) (k1 : Int) (plies1 : Int) : Option Bool :=
  (four_Count_m w1 h1 k1 plies1).bind fun r1 => if ((((((((decide (w1 < 1)) || (decide ((10 : Int) < w1))) || (decide (h1 < 1))) || (decide ((10 : Int) < h1))) || (decide (k1 < 1))) || (decide ((10 : Int) < k1))) || (decide (plies1 < 0))) || (decide ((6 : Int) < plies1))) then (some ((r1.2 == 3) && (r1.1 == 0))) else ((gameroomlaw_FourCounts_J1 w1 h1 k1 plies1 r1))

set_option maxRecDepth 100000 in
set_option maxHeartbeats 4000000 in
theorem gameroomlaw_FourCounts_w {w1 : Int} {h1 : Int} {k1 : Int} {plies1 : Int} {r : Bool} {w0 w : World} {B : Nat} {fs : List HP} (hm : gameroomlaw_FourCounts_m w1 h1 k1 plies1 = some r) (hS : Sep w0 B w (fs)) :
    Calls Try.prog 9 #[.int .i64 w1, .int .i64 h1, .int .i64 k1, .int .i64 plies1] w fun e w' => e = .returned (.bool r) ∧ Sep w0 B w' (fs) := by
  obtain ⟨i3, hi3, hz3, hs3, hb3⟩ := info_parts Info3
  unfold gameroomlaw_FourCounts_m at hm
  replace hm := start_b hm
  refine enter (l := [.int .i64 w1, .int .i64 h1, .int .i64 k1, .int .i64 plies1]) (n := 71) Try.func9 rfl rfl (by simp) (fun a hF => ?_)
  refine reg [] [] [0, 1, 2, 3] [pl 0 (.int .i64 w1), pl 1 (.int .i64 h1), pl 2 (.int .i64 k1), pl 3 (.int .i64 plies1)] hF hS Fol (by kernel_rfl) (by kernel_rfl) (by kernel_rfl) ?_ (fun a w hF hS => ?_)
  · exact obs_nil
  obtain ⟨r1, hr1, hm⟩ := call_b hm
  refine reg [⟨false, [], callFunc 30 #[.int .i64 w1, .int .i64 h1, .int .i64 k1, .int .i64 plies1], .tuple #[.int .i64 r1.1, .int .i64 r1.2]⟩] [none, none, none, none, some (.tuple #[.int .i64 r1.1, .int .i64 r1.2]), none, none, none, none, none] [0, 1, 2, 3, 9, 10] [pl 0 (.int .i64 w1), pl 1 (.int .i64 h1), pl 2 (.int .i64 k1), pl 3 (.int .i64 plies1), pl 9 (.int .i64 r1.1), pl 10 (.int .i64 r1.2)] hF hS Fol (by kernel_rfl) (by kernel_rfl) (by kernel_rfl) ?_ (fun a w hF hS => ?_)
  · exact obs_cons (ob_call Try.func30 (by kernel_rfl) rfl (fun _ _ hS => four_Count_w hr1 hS )) <| obs_nil
  refine seq_cut (fun a w => Fr 71 [pl 0 (.int .i64 w1), pl 1 (.int .i64 h1), pl 2 (.int .i64 k1), pl 3 (.int .i64 plies1), pl 9 (.int .i64 r1.1), pl 10 (.int .i64 r1.2)] a ∧ Sep w0 B w (fs) ∧ ((gameroomlaw_FourCounts_J1 w1 h1 k1 plies1 r1)).bind some = some r) ?_ ?_
  · rintro a w ⟨hF, hS, hm⟩
    unfold gameroomlaw_FourCounts_J1 at hm
    refine seq_cut (fun a w => ∃ (z1 : Bool), Fr 71 [pl 8 (.bool z1)] a ∧ Sep w0 B w (fs) ∧ (gameroomlaw_FourCounts_J2 z1).bind some = some r) ?_ ?_
    · rintro a w ⟨z1, hF, hS, hm⟩
      unfold gameroomlaw_FourCounts_J2 at hm
      refine wp_ret ?_
      have hm : some z1 = some r := hm
      obtain rfl := Option.some.inj hm
      exact retV (rs := [.tmp 8]) (vs := [.bool z1]) hF rfl (rv_t (by kernel_rfl) <| rv_nil) rfl ⟨rfl, hS⟩
    · refine oneR ?_
      refine at_run 9 [] [] [2, 3, 57, 58, 59, 60, 63] [pl 2 (.int .i64 k1), pl 3 (.int .i64 plies1), pl 57 (.bool (r1.2 == 0)), ⟨58, [(57, true)], .int .i64 r1.1⟩, ⟨59, [(57, true)], .int .i64 w1⟩, ⟨60, [(57, true)], .int .i64 h1⟩, ⟨63, [(57, true)], .int .i64 (w64 (w1 * h1))⟩] hF hS (by kernel_rfl) (by kernel_rfl) ?_ (fun a w hF hS => ?_)
      · exact obs_nil
      rcases Bool.eq_false_or_eq_true (r1.2 == 0) with hg1 | hg1
      · replace hm := if_t hm hg1
        obtain ⟨hp1, hm⟩ := asrt_b hm
        obtain ⟨r2, hr2, hm⟩ := call_b hm
        obtain ⟨A1, c1, w, hrun, hS⟩ := run_mk1 (P := Try.prog) (t := 22) (Value.int .i64) (0 : Int) hS .i64 .i64 Und22 hi3 hz3 hs3 (by omega) rfl (hp1 hg1)
        have hS : Sep w0 B w (own 3 (.slice A1 (Int.toNat (w64 (w1 * h1))) c1) (vI (List.replicate (Int.toNat (w64 (w1 * h1))) (0 : Int))) :: fs) := hS
        refine at_gdo (hs := [((r1.2 == 0), true)]) (fun y hy => by simp only [List.mem_cons, List.not_mem_nil, or_false] at hy; subst hy; first | exact hg1) (d := 64) hF (by kernel_rfl) (by kernel_rfl) hrun (fun a hF => ?_)
        refine at_run 7 [⟨false, [((r1.2 == 0), true)], callFunc 31 #[.agg #[.int .i64 w1, .int .i64 h1, .slice A1 (Int.toNat (w64 (w1 * h1))) c1], .int .i64 k1, .int .i64 plies1], .int .i64 r2⟩] [none, none, none, some (.int .i64 r2), none, none, none] [8] [pl 8 (.bool ((r1.2 == 0) && (r1.1 == r2)))] hF hS (by kernel_rfl) (by kernel_rfl) ?_ (fun a w hF hS => ?_)
        · exact obs_cons (ob_call Try.func31 (by kernel_rfl) rfl (fun hy _ hS => gameroomref_CountDrops_w (ite_some hr2 (by rw [show (r1.2 == 0) = true from hy ((r1.2 == 0), true) (by simp)]; try rfl)) hS (fun _ hS => (hS.at_ 0 rfl).rd) ((hS.at_ 0 rfl).cap1) ((hS.at_ 0 rfl).len1))) <| obs_nil
        refine at_end [8] [pl 8 (.bool ((r1.2 == 0) && (r1.1 == r2)))] hF rfl (by kernel_rfl) (fun hF => ?_)
        refine then_n ?_
        have hS := hS.pickN 1 [] (by decide)
        exact ⟨((r1.2 == 0) && (r1.1 == r2)), hF.weak [8] (by kernel_rfl), hS, hm⟩
      · replace hm := if_f hm hg1
        obtain ⟨r3, hr3, hm⟩ := call_b hm
        refine at_gskip (d := 64) (v := .slice none 0 0) (hs := [((r1.2 == 0), true)]) (ctx := [(57, true)]) hF (by kernel_rfl) (by kernel_rfl) (fun h => absurd (h ((r1.2 == 0), true) (by simp)) (by simp [hg1])) (fun a hF => ?_)
        refine at_run 7 [⟨false, [((r1.2 == 0), true)], callFunc 31 #[.agg #[.int .i64 w1, .int .i64 h1, .slice none 0 0], .int .i64 k1, .int .i64 plies1], .int .i64 r3⟩] [none, none, none, some (.int .i64 r3), none, none, none] [8] [pl 8 (.bool ((r1.2 == 0) && (r1.1 == r3)))] hF hS (by kernel_rfl) (by kernel_rfl) ?_ (fun a w hF hS => ?_)
        · exact obs_cons (Ob.vac (fun h => absurd (h ((r1.2 == 0), true) (by simp)) (by simp [hg1]))) <| obs_nil
        refine at_end [8] [pl 8 (.bool ((r1.2 == 0) && (r1.1 == r3)))] hF rfl (by kernel_rfl) (fun hF => ?_)
        refine then_n ?_
        exact ⟨((r1.2 == 0) && (r1.1 == r3)), hF.weak [8] (by kernel_rfl), hS, hm⟩
  · refine reg [] [] [0, 1, 2, 3, 9, 10, 48] [pl 0 (.int .i64 w1), pl 1 (.int .i64 h1), pl 2 (.int .i64 k1), pl 3 (.int .i64 plies1), pl 9 (.int .i64 r1.1), pl 10 (.int .i64 r1.2), pl 48 (.bool ((((((((decide (w1 < 1)) || (decide ((10 : Int) < w1))) || (decide (h1 < 1))) || (decide ((10 : Int) < h1))) || (decide (k1 < 1))) || (decide ((10 : Int) < k1))) || (decide (plies1 < 0))) || (decide ((6 : Int) < plies1))))] hF hS Fol (by kernel_rfl) (by kernel_rfl) (by kernel_rfl) ?_ (fun a w hF hS => ?_)
    · exact obs_nil
    refine cond_ev (t := 48) (b := (((((((decide (w1 < 1)) || (decide ((10 : Int) < w1))) || (decide (h1 < 1))) || (decide ((10 : Int) < h1))) || (decide (k1 < 1))) || (decide ((10 : Int) < k1))) || (decide (plies1 < 0))) || (decide ((6 : Int) < plies1))) hF (by kernel_rfl) (fun hb => ?_) (fun hb => ?_)
    · replace hm := if_t hm hb
      refine reg [] [] [8] [pl 8 (.bool ((r1.2 == 3) && (r1.1 == 0)))] hF hS Fol (by kernel_rfl) (by kernel_rfl) (by kernel_rfl) ?_ (fun a w hF hS => ?_)
      · exact obs_nil
      refine wp_ret ?_
      refine then_r ?_
      have hm : some ((r1.2 == 3) && (r1.1 == 0)) = some r := hm
      obtain rfl := Option.some.inj hm
      exact retV (rs := [.tmp 8]) (vs := [.bool ((r1.2 == 3) && (r1.1 == 0))]) hF rfl (rv_t (by kernel_rfl) <| rv_nil) rfl ⟨rfl, hS⟩
    · replace hm := if_f hm hb
      refine wp_skip ?_
      refine then_n ?_
      exact ⟨hF.weak [0, 1, 2, 3, 9, 10] (by kernel_rfl), hS, hm⟩

end Go.Proofs.Ytnplejebgbdfpaa
