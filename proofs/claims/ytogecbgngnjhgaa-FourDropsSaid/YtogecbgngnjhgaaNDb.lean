/-
  Models and walks, printed by our own program (wip/gen).
-/
import Derived.Test.YtogecbgngnjhgaaFB
import Derived.Test.YtogecbgngnjhgaaNDa
namespace Go.Proofs.Ytogecbgngnjhgaa
open Go Go.GL Go.RowKit

noncomputable def gameroomref_GridMover_m (g1 : Int) (g2 : Int) (g3 : List Int) : Option Int :=
  (loop (gameroomref_GridMover_L1 g3) (0, 0)).bind gameroomref_GridMover_K1

set_option maxRecDepth 100000 in
set_option maxHeartbeats 4000000 in
theorem gameroomref_GridMover_w {g1 : Int} {g2 : Int} {A1 : Option Addr} {c1 : Nat} {n1 : Nat} {g3 : List Int} {r : Int} {w0 w : World} {B : Nat} {fs : List HP} (hm : gameroomref_GridMover_m g1 g2 g3 = some r) (hS : Sep w0 B w (fs)) (hr_g3 : RdF w0 B fs A1 (vI g3)) (_hc_g3 : g3.length ≤ c1) (_hn_g3 : n1 = g3.length) :
    Calls Try.prog 35 #[.agg #[.int .i64 g1, .int .i64 g2, .slice A1 n1 c1]] w fun e w' => e = .returned (.int .i64 r) ∧ Sep w0 B w' (fs) := by
  obtain ⟨i3, hi3, hz3, hs3, hb3⟩ := info_parts Info3
  obtain rfl := _hn_g3
  unfold gameroomref_GridMover_m at hm
  replace hm := start_b hm
  refine enter (l := [.agg #[.int .i64 g1, .int .i64 g2, .slice A1 g3.length c1]]) (n := 32) Try.func35 rfl rfl (by simp) (fun a hF => ?_)
  refine seqR ?_
  refine at_do (d := 1) (s := vS (Instr.box 24 (.agg #[.int .i64 g1, .int .i64 g2, .slice A1 g3.length c1]))) (v := .pointer (some ⟨w.heap.size, 0, none⟩)) (w' := w.alloc (.cells #[.int .i64 g1, .int .i64 g2, .slice A1 g3.length c1] 24)) hF (by kernel_rfl) (by kernel_rfl) (by kernel_rfl) (fun a hF => ?_)
  have hS : Sep w0 B (w.alloc (.cells #[.int .i64 g1, .int .i64 g2, .slice A1 g3.length c1] 24)) (blk w.heap.size 24 #[.int .i64 g1, .int .i64 g2, .slice A1 g3.length c1] :: (fs)) := hS.box 24 #[.int .i64 g1, .int .i64 g2, .slice A1 g3.length c1]
  generalize w.heap.size = g4 at hF hS
  generalize w.alloc (.cells #[.int .i64 g1, .int .i64 g2, .slice A1 g3.length c1] 24) = w at hS ⊢
  refine at_run 1 [] [] [1] [pl 1 (.pointer (some ⟨g4, 0, none⟩))] hF hS (by kernel_rfl) (by kernel_rfl) ?_ (fun a w hF hS => ?_)
  · exact obs_nil
  refine at_end [1] [pl 1 (.pointer (some ⟨g4, 0, none⟩))] hF rfl (by kernel_rfl) (fun hF => ?_)
  refine then_n ?_
  refine reg [] [] [1, 3] [pl 1 (.pointer (some ⟨g4, 0, none⟩)), pl 3 (.int .i64 0)] hF hS Fol (by kernel_rfl) (by kernel_rfl) (by kernel_rfl) ?_ (fun a w hF hS => ?_)
  · exact obs_nil
  refine seq_cut (fun a w => ∃ (n3 : Int), Fr 32 [pl 3 (.int .i64 n3)] a ∧ Sep w0 B w (fs) ∧ (gameroomref_GridMover_J1 n3).bind some = some r) ?_ ?_
  · rintro a w ⟨n3, hF, hS, hm⟩
    unfold gameroomref_GridMover_J1 at hm
    refine seq_cut (fun a w => Fr 32 [pl 3 (.int .i64 n3)] a ∧ Sep w0 B w (fs) ∧ ((gameroomref_GridMover_J5 n3)).bind some = some r) ?_ ?_
    · rintro a w ⟨hF, hS, hm⟩
      unfold gameroomref_GridMover_J5 at hm
      refine seq_cut (fun a w => Fr 32 [] a ∧ Sep w0 B w (fs) ∧ (gameroomref_GridMover_J6).bind some = some r) ?_ ?_
      · rintro a w ⟨hF, hS, hm⟩
        unfold gameroomref_GridMover_J6 at hm
        refine reg [] [] [2] [pl 2 (.int .i64 0)] hF hS Fol (by kernel_rfl) (by kernel_rfl) (by kernel_rfl) ?_ (fun a w hF hS => ?_)
        · exact obs_nil
        refine wp_ret ?_
        have hm : some 0 = some r := hm
        obtain rfl := Option.some.inj hm
        exact retV (rs := [.tmp 2]) (vs := [.int .i64 0]) hF rfl (rv_t (by kernel_rfl) <| rv_nil) rfl ⟨rfl, hS⟩
      · refine reg [] [] [31] [pl 31 (.bool (n3 == 1))] hF hS Fol (by kernel_rfl) (by kernel_rfl) (by kernel_rfl) ?_ (fun a w hF hS => ?_)
        · exact obs_nil
        refine cond_ev (t := 31) (b := (n3 == 1)) hF (by kernel_rfl) (fun hb => ?_) (fun hb => ?_)
        · replace hm := if_t hm hb
          refine reg [] [] [2] [pl 2 (.int .i64 2)] hF hS Fol (by kernel_rfl) (by kernel_rfl) (by kernel_rfl) ?_ (fun a w hF hS => ?_)
          · exact obs_nil
          refine wp_ret ?_
          refine then_r ?_
          have hm : some 2 = some r := hm
          obtain rfl := Option.some.inj hm
          exact retV (rs := [.tmp 2]) (vs := [.int .i64 2]) hF rfl (rv_t (by kernel_rfl) <| rv_nil) rfl ⟨rfl, hS⟩
        · replace hm := if_f hm hb
          refine wp_skip ?_
          refine then_n ?_
          exact ⟨hF.weak [] (by kernel_rfl), hS, hm⟩
    · refine reg [] [] [3, 29] [pl 3 (.int .i64 n3), pl 29 (.bool (n3 == 0))] hF hS Fol (by kernel_rfl) (by kernel_rfl) (by kernel_rfl) ?_ (fun a w hF hS => ?_)
      · exact obs_nil
      refine cond_ev (t := 29) (b := (n3 == 0)) hF (by kernel_rfl) (fun hb => ?_) (fun hb => ?_)
      · replace hm := if_t hm hb
        refine reg [] [] [2] [pl 2 (.int .i64 1)] hF hS Fol (by kernel_rfl) (by kernel_rfl) (by kernel_rfl) ?_ (fun a w hF hS => ?_)
        · exact obs_nil
        refine wp_ret ?_
        refine then_r ?_
        have hm : some 1 = some r := hm
        obtain rfl := Option.some.inj hm
        exact retV (rs := [.tmp 2]) (vs := [.int .i64 1]) hF rfl (rv_t (by kernel_rfl) <| rv_nil) rfl ⟨rfl, hS⟩
      · replace hm := if_f hm hb
        refine wp_skip ?_
        refine then_n ?_
        exact ⟨hF.weak [3] (by kernel_rfl), hS, hm⟩
  · refine reg [] [] [1, 3, 4] [pl 1 (.pointer (some ⟨g4, 0, none⟩)), pl 3 (.int .i64 0), pl 4 (.int .i64 0)] hF hS Fol (by kernel_rfl) (by kernel_rfl) (by kernel_rfl) ?_ (fun a w hF hS => ?_)
    · exact obs_nil
    refine wp_block ?_
    refine wp_loop_model (S := (Int × Int)) (R := Int) (gameroomref_GridMover_L1 g3) (fun x => (gameroomref_GridMover_K1 x).bind some) r (fun (x : (Int × Int)) a w => Fr 32 [pl 1 (.pointer (some ⟨g4, 0, none⟩)), pl 3 (.int .i64 x.1), pl 4 (.int .i64 x.2)] a ∧ Sep w0 B w (blk g4 24 #[.int .i64 g1, .int .i64 g2, .slice A1 g3.length c1] :: fs)) (assoc_b hm) ⟨hF.weak [1, 3, 4] (by kernel_rfl), hS⟩ ?_
    clear hF hS hm
    rintro nn1 ⟨n2, i1⟩ a w ⟨hF, hS⟩ hm
    generalize hφ1 : stK (gameroomref_GridMover_L1 g3) nn1 (fun x => (gameroomref_GridMover_K1 x).bind some) = φ1 at hm
    unfold gameroomref_GridMover_L1 at hm
    dsimp only at hF hS hm
    refine seq_cut (fun a w => Fr 32 [pl 1 (.pointer (some ⟨g4, 0, none⟩)), pl 3 (.int .i64 n2), pl 4 (.int .i64 i1)] a ∧ Sep w0 B w (blk g4 24 #[.int .i64 g1, .int .i64 g2, .slice A1 g3.length c1] :: fs) ∧ ((gameroomref_GridMover_J2 g3 n2 i1)).bind φ1 = some r) ?_ ?_
    · rintro a w ⟨hF, hS, hm⟩
      unfold gameroomref_GridMover_J2 at hm
      refine seq_cut (fun a w => ∃ (n5 : Int), Fr 32 [pl 1 (.pointer (some ⟨g4, 0, none⟩)), pl 3 (.int .i64 n5), pl 4 (.int .i64 i1)] a ∧ Sep w0 B w (blk g4 24 #[.int .i64 g1, .int .i64 g2, .slice A1 g3.length c1] :: fs) ∧ ((gameroomref_GridMover_J3 i1) n5).bind φ1 = some r) ?_ ?_
      · rintro a w ⟨n5, hF, hS, hm⟩
        unfold gameroomref_GridMover_J3 at hm
        refine reg1 [] [] [1, 3, 4] [pl 1 (.pointer (some ⟨g4, 0, none⟩)), pl 3 (.int .i64 n5), pl 4 (.int .i64 (w64 (i1 + 1)))] hF hS Fol (by kernel_rfl) (by kernel_rfl) (by kernel_rfl) ?_ (fun a w hF hS => ?_)
        · exact obs_nil
        refine then_n ?_
        rw [← hφ1] at hm
        exact ⟨(n5, (w64 (i1 + 1))), ⟨hF.weak [1, 3, 4] (by kernel_rfl), hS⟩, hm⟩
      · refine wp_block ?_
        refine seq_cut (fun a w => ∃ (n4 : Int), Fr 32 [pl 1 (.pointer (some ⟨g4, 0, none⟩)), pl 3 (.int .i64 n4), pl 4 (.int .i64 i1)] a ∧ Sep w0 B w (blk g4 24 #[.int .i64 g1, .int .i64 g2, .slice A1 g3.length c1] :: fs) ∧ ((gameroomref_GridMover_J4 g3 i1) n4).bind φ1 = some r) ?_ ?_
        · rintro a w ⟨n4, hF, hS, hm⟩
          unfold gameroomref_GridMover_J4 at hm
          obtain ⟨hp2, hm⟩ := asrt_b hm
          refine reg [⟨false, [], vS (Instr.loadAt 22 (.pointer (some ⟨g4, 2, none⟩))), .slice A1 g3.length c1⟩, ⟨true, [], vS (Instr.indexAt 22 (.slice A1 g3.length c1) (.int .i64 i1)), .pointer (some (sAddr A1 i1))⟩, ⟨false, [], vS (Instr.loadAt 3 (.pointer (some (sAddr A1 i1)))), .int .i64 (geti g3 i1)⟩] [none, some (.slice A1 g3.length c1), none, some (.pointer (some (sAddr A1 i1))), some (.int .i64 (geti g3 i1)), none] [1, 3, 4, 25] [pl 1 (.pointer (some ⟨g4, 0, none⟩)), pl 3 (.int .i64 n4), pl 4 (.int .i64 i1), pl 25 (.bool ((geti g3 i1) == 2))] hF hS Fol (by kernel_rfl) (by kernel_rfl) (by kernel_rfl) ?_ (fun a w hF hS => ?_)
          · exact obs_cons (ob_load Agg22 (fun _ _ hS => (hS.at_ 0 rfl).cell rfl)) <| obs_cons (ob_ix1 (f := (Value.int .i64)) (m := g3) Und22 hi3 hs3 (hr_g3 _ (hS.dropN 1)) rfl (fun _ => hp2)) <| obs_cons (ob_get1 (n := g3.length) (m := g3) (Value.int .i64) (0 : Int) Agg3 (fun _ hS => ⟨_, (hr_g3 _ (hS.dropN 1))⟩) (fun _ hS => rfl) (fun _ => hp2)) <| obs_nil
          refine cond_ev (t := 25) (b := ((geti g3 i1) == 2)) hF (by kernel_rfl) (fun hb => ?_) (fun hb => ?_)
          · replace hm := if_t hm hb
            refine reg1 [] [] [1, 3, 4] [pl 1 (.pointer (some ⟨g4, 0, none⟩)), pl 3 (.int .i64 (w64 (n4 - 1))), pl 4 (.int .i64 i1)] hF hS Fol (by kernel_rfl) (by kernel_rfl) (by kernel_rfl) ?_ (fun a w hF hS => ?_)
            · exact obs_nil
            refine block_n ?_
            refine then_n ?_
            exact ⟨(w64 (n4 - 1)), hF.weak [1, 3, 4] (by kernel_rfl), hS, hm⟩
          · replace hm := if_f hm hb
            refine wp_skip ?_
            refine block_n ?_
            refine then_n ?_
            exact ⟨n4, hF.weak [1, 3, 4] (by kernel_rfl), hS, hm⟩
        · obtain ⟨hp1, hm⟩ := asrt_b hm
          refine reg [⟨false, [], vS (Instr.loadAt 22 (.pointer (some ⟨g4, 2, none⟩))), .slice A1 g3.length c1⟩, ⟨true, [], vS (Instr.indexAt 22 (.slice A1 g3.length c1) (.int .i64 i1)), .pointer (some (sAddr A1 i1))⟩, ⟨false, [], vS (Instr.loadAt 3 (.pointer (some (sAddr A1 i1)))), .int .i64 (geti g3 i1)⟩] [none, some (.slice A1 g3.length c1), none, some (.pointer (some (sAddr A1 i1))), some (.int .i64 (geti g3 i1)), none] [1, 3, 4, 17] [pl 1 (.pointer (some ⟨g4, 0, none⟩)), pl 3 (.int .i64 n2), pl 4 (.int .i64 i1), pl 17 (.bool ((geti g3 i1) == 1))] hF hS Fol (by kernel_rfl) (by kernel_rfl) (by kernel_rfl) ?_ (fun a w hF hS => ?_)
          · exact obs_cons (ob_load Agg22 (fun _ _ hS => (hS.at_ 0 rfl).cell rfl)) <| obs_cons (ob_ix1 (f := (Value.int .i64)) (m := g3) Und22 hi3 hs3 (hr_g3 _ (hS.dropN 1)) rfl (fun _ => hp1)) <| obs_cons (ob_get1 (n := g3.length) (m := g3) (Value.int .i64) (0 : Int) Agg3 (fun _ hS => ⟨_, (hr_g3 _ (hS.dropN 1))⟩) (fun _ hS => rfl) (fun _ => hp1)) <| obs_nil
          refine cond_ev (t := 17) (b := ((geti g3 i1) == 1)) hF (by kernel_rfl) (fun hb => ?_) (fun hb => ?_)
          · replace hm := if_t hm hb
            refine reg1 [] [] [1, 3, 4] [pl 1 (.pointer (some ⟨g4, 0, none⟩)), pl 3 (.int .i64 (w64 (n2 + 1))), pl 4 (.int .i64 i1)] hF hS Fol (by kernel_rfl) (by kernel_rfl) (by kernel_rfl) ?_ (fun a w hF hS => ?_)
            · exact obs_nil
            refine then_n ?_
            exact ⟨(w64 (n2 + 1)), hF.weak [1, 3, 4] (by kernel_rfl), hS, hm⟩
          · replace hm := if_f hm hb
            refine wp_skip ?_
            refine then_n ?_
            exact ⟨n2, hF.weak [1, 3, 4] (by kernel_rfl), hS, hm⟩
    · refine reg [⟨false, [], vS (Instr.loadAt 22 (.pointer (some ⟨g4, 2, none⟩))), .slice A1 g3.length c1⟩] [none, none, some (.slice A1 g3.length c1), none, none] [1, 3, 4, 9] [pl 1 (.pointer (some ⟨g4, 0, none⟩)), pl 3 (.int .i64 n2), pl 4 (.int .i64 i1), pl 9 (.bool (decide (i1 < (g3.length : Int))))] hF hS Fol (by kernel_rfl) (by kernel_rfl) (by kernel_rfl) ?_ (fun a w hF hS => ?_)
      · exact obs_cons (ob_load Agg22 (fun _ _ hS => (hS.at_ 0 rfl).cell rfl)) <| obs_nil
      refine cond_ev (t := 9) (b := decide (i1 < (g3.length : Int))) hF (by kernel_rfl) (fun hb => ?_) (fun hb => ?_)
      · replace hm := if_t hm hb
        refine wp_skip ?_
        refine then_n ?_
        exact ⟨hF.weak [1, 3, 4] (by kernel_rfl), hS, hm⟩
      · replace hm := if_f hm hb
        refine wp_exit ?_
        refine then_e (then_e (block_e (then_n ?_)))
        have hS := hS.pickN 1 [] (by decide)
        rw [← hφ1] at hm
        replace hm := done_b hm
        unfold gameroomref_GridMover_K1 at hm
        try dsimp only at hm
        have hm : (gameroomref_GridMover_J1 n2).bind some = some r := hm
        exact ⟨n2, hF.weak [3] (by kernel_rfl), hS, hm⟩

noncomputable def gameroomref_rowFrom_J3 (i1 : Int) : Option (St Int (Fl Unit Int)) :=
  some (.next (w64 (i1 + 1)))

noncomputable def gameroomref_rowFrom_J2 (g1 : Int) (g2 : Int) (g3 : List Int) (x1 : Int) (y1 : Int) (dx1 : Int) (dy1 : Int) (i1 : Int) : Option (St Int (Fl Unit Int)) :=
  (gameroomref_within_m (w64 (x1 + (w64 (dx1 * i1)))) 0 (w64 (g1 - 1))).bind fun r1 => ((if (!(!r1)) then gameroomref_within_m (w64 (y1 + (w64 (dy1 * i1)))) 0 (w64 (g2 - 1)) else some false)).bind fun r2 => asrt (((!r1) || (!r2)) = false → 0 ≤ (w64 ((w64 ((w64 (y1 + (w64 (dy1 * i1)))) * g1)) + (w64 (x1 + (w64 (dx1 * i1)))))) ∧ (w64 ((w64 ((w64 (y1 + (w64 (dy1 * i1)))) * g1)) + (w64 (x1 + (w64 (dx1 * i1)))))) < (g3.length : Int)) <| if (((!r1) || (!r2)) || ((geti g3 (w64 ((w64 ((w64 (y1 + (w64 (dy1 * i1)))) * g1)) + (w64 (x1 + (w64 (dx1 * i1))))))) != (geti g3 (w64 ((w64 (y1 * g1)) + x1))))) then (some (.done (.ret 0))) else ((gameroomref_rowFrom_J3 i1))

noncomputable def gameroomref_rowFrom_J1 (g1 : Int) (g3 : List Int) (x1 : Int) (y1 : Int) : Option Int :=
  some (geti g3 (w64 ((w64 (y1 * g1)) + x1)))

noncomputable def gameroomref_rowFrom_K1 (g1 : Int) (g3 : List Int) (x1 : Int) (y1 : Int) : (Fl Unit Int) → Option Int :=
  fun (x : (Fl Unit Int)) => match x with | .go _ => (gameroomref_rowFrom_J1 g1 g3 x1 y1) | .ret x => some x

noncomputable def gameroomref_rowFrom_L1 (g1 : Int) (g2 : Int) (g3 : List Int) (x1 : Int) (y1 : Int) (dx1 : Int) (dy1 : Int) (k1 : Int) : Int → Option (St Int (Fl Unit Int)) :=
  fun (x : Int) => match x with | i1 => if (decide (i1 < k1)) then ((gameroomref_rowFrom_J2 g1 g2 g3 x1 y1 dx1 dy1 i1)) else (some (.done (.go ())))

noncomputable def gameroomref_rowFrom_m (g1 : Int) (g2 : Int) (g3 : List Int) (x1 : Int) (y1 : Int) (dx1 : Int) (dy1 : Int) (k1 : Int) : Option Int :=
  asrt (0 ≤ (w64 ((w64 (y1 * g1)) + x1)) ∧ (w64 ((w64 (y1 * g1)) + x1)) < (g3.length : Int)) <| (loop (gameroomref_rowFrom_L1 g1 g2 g3 x1 y1 dx1 dy1 k1) 0).bind (gameroomref_rowFrom_K1 g1 g3 x1 y1)

set_option maxRecDepth 100000 in
set_option maxHeartbeats 4000000 in
theorem gameroomref_rowFrom_w {g1 : Int} {g2 : Int} {A1 : Option Addr} {c1 : Nat} {n1 : Nat} {g3 : List Int} {x1 : Int} {y1 : Int} {dx1 : Int} {dy1 : Int} {k1 : Int} {r : Int} {w0 w : World} {B : Nat} {fs : List HP} (hm : gameroomref_rowFrom_m g1 g2 g3 x1 y1 dx1 dy1 k1 = some r) (hS : Sep w0 B w (fs)) (hr_g3 : RdF w0 B fs A1 (vI g3)) (_hc_g3 : g3.length ≤ c1) (_hn_g3 : n1 = g3.length) :
    Calls Try.prog 118 #[.agg #[.int .i64 g1, .int .i64 g2, .slice A1 n1 c1], .int .i64 x1, .int .i64 y1, .int .i64 dx1, .int .i64 dy1, .int .i64 k1] w fun e w' => e = .returned (.int .i64 r) ∧ Sep w0 B w' (fs) := by
  obtain ⟨i3, hi3, hz3, hs3, hb3⟩ := info_parts Info3
  obtain rfl := _hn_g3
  unfold gameroomref_rowFrom_m at hm
  replace hm := start_b hm
  refine enter (l := [.agg #[.int .i64 g1, .int .i64 g2, .slice A1 g3.length c1], .int .i64 x1, .int .i64 y1, .int .i64 dx1, .int .i64 dy1, .int .i64 k1]) (n := 71) Try.func118 rfl rfl (by simp) (fun a hF => ?_)
  refine seqR ?_
  refine at_do (d := 6) (s := vS (Instr.box 24 (.agg #[.int .i64 g1, .int .i64 g2, .slice A1 g3.length c1]))) (v := .pointer (some ⟨w.heap.size, 0, none⟩)) (w' := w.alloc (.cells #[.int .i64 g1, .int .i64 g2, .slice A1 g3.length c1] 24)) hF (by kernel_rfl) (by kernel_rfl) (by kernel_rfl) (fun a hF => ?_)
  have hS : Sep w0 B (w.alloc (.cells #[.int .i64 g1, .int .i64 g2, .slice A1 g3.length c1] 24)) (blk w.heap.size 24 #[.int .i64 g1, .int .i64 g2, .slice A1 g3.length c1] :: (fs)) := hS.box 24 #[.int .i64 g1, .int .i64 g2, .slice A1 g3.length c1]
  generalize w.heap.size = g4 at hF hS
  generalize w.alloc (.cells #[.int .i64 g1, .int .i64 g2, .slice A1 g3.length c1] 24) = w at hS ⊢
  refine at_run 1 [] [] [1, 2, 3, 4, 5, 6] [pl 1 (.int .i64 x1), pl 2 (.int .i64 y1), pl 3 (.int .i64 dx1), pl 4 (.int .i64 dy1), pl 5 (.int .i64 k1), pl 6 (.pointer (some ⟨g4, 0, none⟩))] hF hS (by kernel_rfl) (by kernel_rfl) ?_ (fun a w hF hS => ?_)
  · exact obs_nil
  refine at_end [1, 2, 3, 4, 5, 6] [pl 1 (.int .i64 x1), pl 2 (.int .i64 y1), pl 3 (.int .i64 dx1), pl 4 (.int .i64 dy1), pl 5 (.int .i64 k1), pl 6 (.pointer (some ⟨g4, 0, none⟩))] hF rfl (by kernel_rfl) (fun hF => ?_)
  refine then_n ?_
  obtain ⟨hp1, hm⟩ := asrt_b hm
  refine reg [⟨false, [], vS (Instr.loadAt 22 (.pointer (some ⟨g4, 2, none⟩))), .slice A1 g3.length c1⟩, ⟨false, [], vS (Instr.loadAt 3 (.pointer (some ⟨g4, 0, none⟩))), .int .i64 g1⟩, ⟨true, [], vS (Instr.indexAt 22 (.slice A1 g3.length c1) (.int .i64 (w64 ((w64 (y1 * g1)) + x1)))), .pointer (some (sAddr A1 (w64 ((w64 (y1 * g1)) + x1))))⟩, ⟨false, [], vS (Instr.loadAt 3 (.pointer (some (sAddr A1 (w64 ((w64 (y1 * g1)) + x1)))))), .int .i64 (geti g3 (w64 ((w64 (y1 * g1)) + x1)))⟩] [none, some (.slice A1 g3.length c1), none, none, some (.int .i64 g1), none, none, none, some (.pointer (some (sAddr A1 (w64 ((w64 (y1 * g1)) + x1))))), some (.int .i64 (geti g3 (w64 ((w64 (y1 * g1)) + x1)))), none] [1, 2, 3, 4, 5, 6, 13] [pl 1 (.int .i64 x1), pl 2 (.int .i64 y1), pl 3 (.int .i64 dx1), pl 4 (.int .i64 dy1), pl 5 (.int .i64 k1), pl 6 (.pointer (some ⟨g4, 0, none⟩)), pl 13 (.int .i64 (geti g3 (w64 ((w64 (y1 * g1)) + x1))))] hF hS Fol (by kernel_rfl) (by kernel_rfl) (by kernel_rfl) ?_ (fun a w hF hS => ?_)
  · exact obs_cons (ob_load Agg22 (fun _ _ hS => (hS.at_ 0 rfl).cell rfl)) <| obs_cons (ob_load Agg3 (fun _ _ hS => (hS.at_ 0 rfl).cell rfl)) <| obs_cons (ob_ix1 (f := (Value.int .i64)) (m := g3) Und22 hi3 hs3 (hr_g3 _ (hS.dropN 1)) rfl (fun _ => hp1)) <| obs_cons (ob_get1 (n := g3.length) (m := g3) (Value.int .i64) (0 : Int) Agg3 (fun _ hS => ⟨_, (hr_g3 _ (hS.dropN 1))⟩) (fun _ hS => rfl) (fun _ => hp1)) <| obs_nil
  refine seq_cut (fun a w => Fr 71 [pl 13 (.int .i64 (geti g3 (w64 ((w64 (y1 * g1)) + x1))))] a ∧ Sep w0 B w (fs) ∧ ((gameroomref_rowFrom_J1 g1 g3 x1 y1)).bind some = some r) ?_ ?_
  · rintro a w ⟨hF, hS, hm⟩
    unfold gameroomref_rowFrom_J1 at hm
    refine reg [] [] [12] [pl 12 (.int .i64 (geti g3 (w64 ((w64 (y1 * g1)) + x1))))] hF hS Fol (by kernel_rfl) (by kernel_rfl) (by kernel_rfl) ?_ (fun a w hF hS => ?_)
    · exact obs_nil
    refine wp_ret ?_
    have hm : some (geti g3 (w64 ((w64 (y1 * g1)) + x1))) = some r := hm
    obtain rfl := Option.some.inj hm
    exact retV (rs := [.tmp 12]) (vs := [.int .i64 (geti g3 (w64 ((w64 (y1 * g1)) + x1)))]) hF rfl (rv_t (by kernel_rfl) <| rv_nil) rfl ⟨rfl, hS⟩
  · refine reg [] [] [1, 2, 3, 4, 5, 6, 13, 14] [pl 1 (.int .i64 x1), pl 2 (.int .i64 y1), pl 3 (.int .i64 dx1), pl 4 (.int .i64 dy1), pl 5 (.int .i64 k1), pl 6 (.pointer (some ⟨g4, 0, none⟩)), pl 13 (.int .i64 (geti g3 (w64 ((w64 (y1 * g1)) + x1)))), pl 14 (.int .i64 0)] hF hS Fol (by kernel_rfl) (by kernel_rfl) (by kernel_rfl) ?_ (fun a w hF hS => ?_)
    · exact obs_nil
    refine wp_block ?_
    refine wp_loop_model (S := Int) (R := (Fl Unit Int)) (gameroomref_rowFrom_L1 g1 g2 g3 x1 y1 dx1 dy1 k1) (fun x => ((gameroomref_rowFrom_K1 g1 g3 x1 y1) x).bind some) r (fun (x : Int) a w => Fr 71 [pl 1 (.int .i64 x1), pl 2 (.int .i64 y1), pl 3 (.int .i64 dx1), pl 4 (.int .i64 dy1), pl 5 (.int .i64 k1), pl 6 (.pointer (some ⟨g4, 0, none⟩)), pl 13 (.int .i64 (geti g3 (w64 ((w64 (y1 * g1)) + x1)))), pl 14 (.int .i64 x)] a ∧ Sep w0 B w (blk g4 24 #[.int .i64 g1, .int .i64 g2, .slice A1 g3.length c1] :: fs)) (assoc_b hm) ⟨hF.weak [1, 2, 3, 4, 5, 6, 13, 14] (by kernel_rfl), hS⟩ ?_
    clear hF hS hm
    rintro nn1 i1 a w ⟨hF, hS⟩ hm
    generalize hφ1 : stK (gameroomref_rowFrom_L1 g1 g2 g3 x1 y1 dx1 dy1 k1) nn1 (fun x => ((gameroomref_rowFrom_K1 g1 g3 x1 y1) x).bind some) = φ1 at hm
    unfold gameroomref_rowFrom_L1 at hm
    dsimp only at hm
    refine seq_cut (fun a w => Fr 71 [pl 1 (.int .i64 x1), pl 2 (.int .i64 y1), pl 3 (.int .i64 dx1), pl 4 (.int .i64 dy1), pl 5 (.int .i64 k1), pl 6 (.pointer (some ⟨g4, 0, none⟩)), pl 13 (.int .i64 (geti g3 (w64 ((w64 (y1 * g1)) + x1)))), pl 14 (.int .i64 i1)] a ∧ Sep w0 B w (blk g4 24 #[.int .i64 g1, .int .i64 g2, .slice A1 g3.length c1] :: fs) ∧ ((gameroomref_rowFrom_J2 g1 g2 g3 x1 y1 dx1 dy1 i1)).bind φ1 = some r) ?_ ?_
    · rintro a w ⟨hF, hS, hm⟩
      unfold gameroomref_rowFrom_J2 at hm
      refine seq_cut (fun a w => Fr 71 [pl 1 (.int .i64 x1), pl 2 (.int .i64 y1), pl 3 (.int .i64 dx1), pl 4 (.int .i64 dy1), pl 5 (.int .i64 k1), pl 6 (.pointer (some ⟨g4, 0, none⟩)), pl 13 (.int .i64 (geti g3 (w64 ((w64 (y1 * g1)) + x1)))), pl 14 (.int .i64 i1)] a ∧ Sep w0 B w (blk g4 24 #[.int .i64 g1, .int .i64 g2, .slice A1 g3.length c1] :: fs) ∧ ((gameroomref_rowFrom_J3 i1)).bind φ1 = some r) ?_ ?_
      · rintro a w ⟨hF, hS, hm⟩
        unfold gameroomref_rowFrom_J3 at hm
        refine reg1 [] [] [1, 2, 3, 4, 5, 6, 13, 14] [pl 1 (.int .i64 x1), pl 2 (.int .i64 y1), pl 3 (.int .i64 dx1), pl 4 (.int .i64 dy1), pl 5 (.int .i64 k1), pl 6 (.pointer (some ⟨g4, 0, none⟩)), pl 13 (.int .i64 (geti g3 (w64 ((w64 (y1 * g1)) + x1)))), pl 14 (.int .i64 (w64 (i1 + 1)))] hF hS Fol (by kernel_rfl) (by kernel_rfl) (by kernel_rfl) ?_ (fun a w hF hS => ?_)
        · exact obs_nil
        refine then_n ?_
        rw [← hφ1] at hm
        exact ⟨(w64 (i1 + 1)), ⟨hF.weak [1, 2, 3, 4, 5, 6, 13, 14] (by kernel_rfl), hS⟩, hm⟩
      · refine wp_block ?_
        refine reg [] [] [1, 2, 3, 4, 5, 6, 13, 14, 15, 16] [pl 1 (.int .i64 x1), pl 2 (.int .i64 y1), pl 3 (.int .i64 dx1), pl 4 (.int .i64 dy1), pl 5 (.int .i64 k1), pl 6 (.pointer (some ⟨g4, 0, none⟩)), pl 13 (.int .i64 (geti g3 (w64 ((w64 (y1 * g1)) + x1)))), pl 14 (.int .i64 i1), pl 15 (.int .i64 (w64 (x1 + (w64 (dx1 * i1))))), pl 16 (.int .i64 (w64 (y1 + (w64 (dy1 * i1)))))] hF hS Fol (by kernel_rfl) (by kernel_rfl) (by kernel_rfl) ?_ (fun a w hF hS => ?_)
        · exact obs_nil
        obtain ⟨r1, hr1, hm⟩ := call_b hm
        obtain ⟨r2, hr2, hm⟩ := call_b hm
        obtain ⟨hp2, hm⟩ := asrt_b hm
        refine reg [⟨false, [], vS (Instr.loadAt 3 (.pointer (some ⟨g4, 0, none⟩))), .int .i64 g1⟩, ⟨false, [], callFunc 64 #[.int .i64 (w64 (x1 + (w64 (dx1 * i1)))), .int .i64 0, .int .i64 (w64 (g1 - 1))], .bool r1⟩, ⟨false, [(!r1, false)], vS (Instr.loadAt 3 (.pointer (some ⟨g4, 1, none⟩))), .int .i64 g2⟩, ⟨false, [(!r1, false)], callFunc 64 #[.int .i64 (w64 (y1 + (w64 (dy1 * i1)))), .int .i64 0, .int .i64 (w64 (g2 - 1))], .bool r2⟩, ⟨false, [((!r1) || (!r2), false)], vS (Instr.loadAt 22 (.pointer (some ⟨g4, 2, none⟩))), .slice A1 g3.length c1⟩, ⟨false, [((!r1) || (!r2), false)], vS (Instr.loadAt 3 (.pointer (some ⟨g4, 0, none⟩))), .int .i64 g1⟩, ⟨true, [((!r1) || (!r2), false)], vS (Instr.indexAt 22 (.slice A1 g3.length c1) (.int .i64 (w64 ((w64 ((w64 (y1 + (w64 (dy1 * i1)))) * g1)) + (w64 (x1 + (w64 (dx1 * i1)))))))), .pointer (some (sAddr A1 (w64 ((w64 ((w64 (y1 + (w64 (dy1 * i1)))) * g1)) + (w64 (x1 + (w64 (dx1 * i1))))))))⟩, ⟨false, [((!r1) || (!r2), false)], vS (Instr.loadAt 3 (.pointer (some (sAddr A1 (w64 ((w64 ((w64 (y1 + (w64 (dy1 * i1)))) * g1)) + (w64 (x1 + (w64 (dx1 * i1)))))))))), .int .i64 (geti g3 (w64 ((w64 ((w64 (y1 + (w64 (dy1 * i1)))) * g1)) + (w64 (x1 + (w64 (dx1 * i1)))))))⟩] [none, none, some (.int .i64 g1), none, some (.bool r1), none, none, none, none, some (.int .i64 g2), none, some (.bool r2), none, none, none, none, some (.slice A1 g3.length c1), none, none, some (.int .i64 g1), none, none, none, some (.pointer (some (sAddr A1 (w64 ((w64 ((w64 (y1 + (w64 (dy1 * i1)))) * g1)) + (w64 (x1 + (w64 (dx1 * i1))))))))), some (.int .i64 (geti g3 (w64 ((w64 ((w64 (y1 + (w64 (dy1 * i1)))) * g1)) + (w64 (x1 + (w64 (dx1 * i1)))))))), none, none, none] [1, 2, 3, 4, 5, 6, 13, 14, 69] [pl 1 (.int .i64 x1), pl 2 (.int .i64 y1), pl 3 (.int .i64 dx1), pl 4 (.int .i64 dy1), pl 5 (.int .i64 k1), pl 6 (.pointer (some ⟨g4, 0, none⟩)), pl 13 (.int .i64 (geti g3 (w64 ((w64 (y1 * g1)) + x1)))), pl 14 (.int .i64 i1), pl 69 (.bool (((!r1) || (!r2)) || ((geti g3 (w64 ((w64 ((w64 (y1 + (w64 (dy1 * i1)))) * g1)) + (w64 (x1 + (w64 (dx1 * i1))))))) != (geti g3 (w64 ((w64 (y1 * g1)) + x1))))))] hF hS Fol (by kernel_rfl) (by kernel_rfl) (by kernel_rfl) ?_ (fun a w hF hS => ?_)
        · exact obs_cons (ob_load Agg3 (fun _ _ hS => (hS.at_ 0 rfl).cell rfl)) <| obs_cons (ob_call Try.func64 (by kernel_rfl) rfl (fun _ _ hS => gameroomref_within_w hr1 hS )) <| obs_cons (ob_load Agg3 (fun _ _ hS => (hS.at_ 0 rfl).cell rfl)) <| obs_cons (ob_call Try.func64 (by kernel_rfl) rfl (fun hy _ hS => gameroomref_within_w (ite_some hr2 (by rw [show (!r1) = false from hy (!r1, false) (by simp)]; try rfl)) hS )) <| obs_cons (ob_load Agg22 (fun _ _ hS => (hS.at_ 0 rfl).cell rfl)) <| obs_cons (ob_load Agg3 (fun _ _ hS => (hS.at_ 0 rfl).cell rfl)) <| obs_cons (ob_ix1 (f := (Value.int .i64)) (m := g3) Und22 hi3 hs3 (hr_g3 _ (hS.dropN 1)) rfl (fun hy => hp2 (hy ((!r1) || (!r2), false) (by simp)))) <| obs_cons (ob_get1 (n := g3.length) (m := g3) (Value.int .i64) (0 : Int) Agg3 (fun _ hS => ⟨_, (hr_g3 _ (hS.dropN 1))⟩) (fun _ hS => rfl) (fun hy => hp2 (hy ((!r1) || (!r2), false) (by simp)))) <| obs_nil
        refine cond_ev (t := 69) (b := ((!r1) || (!r2)) || ((geti g3 (w64 ((w64 ((w64 (y1 + (w64 (dy1 * i1)))) * g1)) + (w64 (x1 + (w64 (dx1 * i1))))))) != (geti g3 (w64 ((w64 (y1 * g1)) + x1))))) hF (by kernel_rfl) (fun hb => ?_) (fun hb => ?_)
        · replace hm := if_t hm hb
          refine reg [] [] [12] [pl 12 (.int .i64 0)] hF hS Fol (by kernel_rfl) (by kernel_rfl) (by kernel_rfl) ?_ (fun a w hF hS => ?_)
          · exact obs_nil
          refine wp_ret ?_
          refine block_r (then_r (then_r (block_r (then_r ?_))))
          rw [← hφ1] at hm
          replace hm := done_b hm
          unfold gameroomref_rowFrom_K1 at hm
          try dsimp only at hm
          have hS := hS.pickN 1 [] (by decide)
          have hm : some 0 = some r := hm
          obtain rfl := Option.some.inj hm
          exact retV (rs := [.tmp 12]) (vs := [.int .i64 0]) hF rfl (rv_t (by kernel_rfl) <| rv_nil) rfl ⟨rfl, hS⟩
        · replace hm := if_f hm hb
          refine wp_skip ?_
          refine block_n ?_
          refine then_n ?_
          exact ⟨hF.weak [1, 2, 3, 4, 5, 6, 13, 14] (by kernel_rfl), hS, hm⟩
    · refine reg [] [] [1, 2, 3, 4, 5, 6, 13, 14, 29] [pl 1 (.int .i64 x1), pl 2 (.int .i64 y1), pl 3 (.int .i64 dx1), pl 4 (.int .i64 dy1), pl 5 (.int .i64 k1), pl 6 (.pointer (some ⟨g4, 0, none⟩)), pl 13 (.int .i64 (geti g3 (w64 ((w64 (y1 * g1)) + x1)))), pl 14 (.int .i64 i1), pl 29 (.bool (decide (i1 < k1)))] hF hS Fol (by kernel_rfl) (by kernel_rfl) (by kernel_rfl) ?_ (fun a w hF hS => ?_)
      · exact obs_nil
      refine cond_ev (t := 29) (b := decide (i1 < k1)) hF (by kernel_rfl) (fun hb => ?_) (fun hb => ?_)
      · replace hm := if_t hm hb
        refine wp_skip ?_
        refine then_n ?_
        exact ⟨hF.weak [1, 2, 3, 4, 5, 6, 13, 14] (by kernel_rfl), hS, hm⟩
      · replace hm := if_f hm hb
        refine wp_exit ?_
        refine then_e (then_e (block_e (then_n ?_)))
        have hS := hS.pickN 1 [] (by decide)
        rw [← hφ1] at hm
        replace hm := done_b hm
        unfold gameroomref_rowFrom_K1 at hm
        try dsimp only at hm
        have hm : ((gameroomref_rowFrom_J1 g1 g3 x1 y1)).bind some = some r := hm
        exact ⟨hF.weak [13] (by kernel_rfl), hS, hm⟩

noncomputable def gameroomref_WonOf_J10 (g1 : Int) (y1 : Int) (x1 : Int) (d1 : Int) (in7 : List Bool) (i1 : Int) : Option (St (List Bool × Int) (List Bool × Bool × Bool)) :=
  some (.next ((in7.set (Int.toNat (w64 ((w64 ((w64 ((w64 (y1 + (w64 ((geti ([0, 1, 1, (-1)] : List Int) d1) * i1)))) * g1)) + x1)) + (w64 ((geti ([1, 0, 1, 1] : List Int) d1) * i1))))) true), (w64 (i1 + 1))))

noncomputable def gameroomref_WonOf_J9 (g1 : Int) (g3 : List Int) (y1 : Int) (x1 : Int) (d1 : Int) (in7 : List Bool) (i1 : Int) : Option (St (List Bool × Int) (List Bool × Bool × Bool)) :=
  asrt (0 ≤ (w64 ((w64 ((w64 ((w64 (y1 + (w64 ((geti ([0, 1, 1, (-1)] : List Int) d1) * i1)))) * g1)) + x1)) + (w64 ((geti ([1, 0, 1, 1] : List Int) d1) * i1)))) ∧ (w64 ((w64 ((w64 ((w64 (y1 + (w64 ((geti ([0, 1, 1, (-1)] : List Int) d1) * i1)))) * g1)) + x1)) + (w64 ((geti ([1, 0, 1, 1] : List Int) d1) * i1)))) < (((Int.toNat (g3.length : Int)) : Nat) : Int)) <| (gameroomref_WonOf_J10 g1 y1 x1 d1 in7 i1)

noncomputable def gameroomref_WonOf_J7 (d1 : Int) (in8 : List Bool) (one7 : Bool) (two7 : Bool) : Option (St (List Bool × Bool × Bool × Int) (List Bool × Bool × Bool)) :=
  some (.next (in8, one7, two7, (w64 (d1 + 1))))

noncomputable def gameroomref_WonOf_K4 (d1 : Int) : (List Bool × Bool × Bool) → Option (St (List Bool × Bool × Bool × Int) (List Bool × Bool × Bool)) :=
  fun (x : (List Bool × Bool × Bool)) => match x with | (in8, one7, two7) => (gameroomref_WonOf_J7 d1) in8 one7 two7

noncomputable def gameroomref_WonOf_L4 (g1 : Int) (g3 : List Int) (k1 : Int) (y1 : Int) (x1 : Int) (one5 : Bool) (two5 : Bool) (d1 : Int) (r1 : Int) : (List Bool × Int) → Option (St (List Bool × Int) (List Bool × Bool × Bool)) :=
  fun (x : (List Bool × Int)) => match x with | (in7, i1) => if ((decide (i1 < k1)) && (decide ((0 : Int) < r1))) then ((gameroomref_WonOf_J9 g1 g3 y1 x1 d1 in7 i1)) else (some (.done (in7, (one5 || (r1 == 1)), (two5 || (r1 == 2)))))

noncomputable def gameroomref_WonOf_J8 (g1 : Int) (g2 : Int) (g3 : List Int) (k1 : Int) (y1 : Int) (x1 : Int) (in5 : List Bool) (one5 : Bool) (two5 : Bool) (d1 : Int) : Option (St (List Bool × Bool × Bool × Int) (List Bool × Bool × Bool)) :=
  (gameroomref_rowFrom_m g1 g2 g3 x1 y1 (geti ([1, 0, 1, 1] : List Int) d1) (geti ([0, 1, 1, (-1)] : List Int) d1) k1).bind fun r1 => (loop (gameroomref_WonOf_L4 g1 g3 k1 y1 x1 one5 two5 d1 r1) (in5, 0)).bind (gameroomref_WonOf_K4 d1)

noncomputable def gameroomref_WonOf_J6 (g1 : Int) (g2 : Int) (g3 : List Int) (k1 : Int) (y1 : Int) (x1 : Int) (in5 : List Bool) (one5 : Bool) (two5 : Bool) (d1 : Int) : Option (St (List Bool × Bool × Bool × Int) (List Bool × Bool × Bool)) :=
  asrt (0 ≤ d1 ∧ d1 < 4) <| asrt (0 ≤ d1 ∧ d1 < 4) <| (gameroomref_WonOf_J8 g1 g2 g3 k1 y1 x1 in5 one5 two5 d1)

noncomputable def gameroomref_WonOf_J5 (x1 : Int) (in6 : List Bool) (one6 : Bool) (two6 : Bool) : Option (St (List Bool × Bool × Bool × Int) (List Bool × Bool × Bool)) :=
  some (.next (in6, one6, two6, (w64 (x1 + 1))))

noncomputable def gameroomref_WonOf_K3 (x1 : Int) : (List Bool × Bool × Bool) → Option (St (List Bool × Bool × Bool × Int) (List Bool × Bool × Bool)) :=
  fun (x : (List Bool × Bool × Bool)) => match x with | (in6, one6, two6) => (gameroomref_WonOf_J5 x1) in6 one6 two6

noncomputable def gameroomref_WonOf_L3 (g1 : Int) (g2 : Int) (g3 : List Int) (k1 : Int) (y1 : Int) (x1 : Int) : (List Bool × Bool × Bool × Int) → Option (St (List Bool × Bool × Bool × Int) (List Bool × Bool × Bool)) :=
  fun (x : (List Bool × Bool × Bool × Int)) => match x with | (in5, one5, two5, d1) => if (decide (d1 < 4)) then ((gameroomref_WonOf_J6 g1 g2 g3 k1 y1 x1 in5 one5 two5 d1)) else (some (.done (in5, one5, two5)))

noncomputable def gameroomref_WonOf_J4 (g1 : Int) (g2 : Int) (g3 : List Int) (k1 : Int) (y1 : Int) (in3 : List Bool) (one3 : Bool) (two3 : Bool) (x1 : Int) : Option (St (List Bool × Bool × Bool × Int) (List Bool × Bool × Bool)) :=
  (loop (gameroomref_WonOf_L3 g1 g2 g3 k1 y1 x1) (in3, one3, two3, 0)).bind (gameroomref_WonOf_K3 x1)

noncomputable def gameroomref_WonOf_J3 (y1 : Int) (in4 : List Bool) (one4 : Bool) (two4 : Bool) : Option (St (List Bool × Bool × Bool × Int) (List Bool × Bool × Bool)) :=
  some (.next (in4, one4, two4, (w64 (y1 + 1))))

noncomputable def gameroomref_WonOf_K2 (y1 : Int) : (List Bool × Bool × Bool) → Option (St (List Bool × Bool × Bool × Int) (List Bool × Bool × Bool)) :=
  fun (x : (List Bool × Bool × Bool)) => match x with | (in4, one4, two4) => (gameroomref_WonOf_J3 y1) in4 one4 two4

noncomputable def gameroomref_WonOf_L2 (g1 : Int) (g2 : Int) (g3 : List Int) (k1 : Int) (y1 : Int) : (List Bool × Bool × Bool × Int) → Option (St (List Bool × Bool × Bool × Int) (List Bool × Bool × Bool)) :=
  fun (x : (List Bool × Bool × Bool × Int)) => match x with | (in3, one3, two3, x1) => if (decide (x1 < g1)) then ((gameroomref_WonOf_J4 g1 g2 g3 k1 y1 in3 one3 two3 x1)) else (some (.done (in3, one3, two3)))

noncomputable def gameroomref_WonOf_J2 (g1 : Int) (g2 : Int) (g3 : List Int) (k1 : Int) (in1 : List Bool) (one1 : Bool) (two1 : Bool) (y1 : Int) : Option (St (List Bool × Bool × Bool × Int) (List Bool × Bool × Bool)) :=
  (loop (gameroomref_WonOf_L2 g1 g2 g3 k1 y1) (in1, one1, two1, 0)).bind (gameroomref_WonOf_K2 y1)

noncomputable def gameroomref_WonOf_J15 (i2 : Int) (l3 : List Int) : Option (St (List Int × Int) (List Int)) :=
  some (.next (l3, (w64 (i2 + 1))))

noncomputable def gameroomref_WonOf_J14 (g3 : List Int) (in2 : List Bool) (l1 : List Int) (i2 : Int) : Option (St (List Int × Int) (List Int)) :=
  asrt (0 ≤ i2 ∧ i2 < (((Int.toNat (g3.length : Int)) : Nat) : Int)) <| if (getb in2 i2) then (asrt ((l1.length : Int) + 1 ≤ bigN) <| (gameroomref_WonOf_J15 i2) (l1 ++ ([i2] : List Int))) else ((gameroomref_WonOf_J15 i2) l1)

noncomputable def gameroomref_WonOf_L5 (g3 : List Int) (in2 : List Bool) : (List Int × Int) → Option (St (List Int × Int) (List Int)) :=
  fun (x : (List Int × Int)) => match x with | (l1, i2) => if (decide (i2 < (((Int.toNat (g3.length : Int)) : Nat) : Int))) then ((gameroomref_WonOf_J14 g3 in2 l1 i2)) else (some (.done l1))

noncomputable def gameroomref_WonOf_J13 (n3 : Int) (l2 : List Int) : Option (Int × List Int) :=
  some (n3, l2)

noncomputable def gameroomref_WonOf_K5 (n3 : Int) : (List Int) → Option (Int × List Int) :=
  fun (x : (List Int)) => match x with | l2 => (gameroomref_WonOf_J13 n3) l2

noncomputable def gameroomref_WonOf_J12 (g3 : List Int) (in2 : List Bool) (n3 : Int) : Option (Int × List Int) :=
  (loop (gameroomref_WonOf_L5 g3 in2) (([] : List Int), 0)).bind (gameroomref_WonOf_K5 n3)

noncomputable def gameroomref_WonOf_J11 (g3 : List Int) (in2 : List Bool) (two2 : Bool) (n2 : Int) : Option (Int × List Int) :=
  if two2 then ((gameroomref_WonOf_J12 g3 in2) (w64 (n2 + 2))) else ((gameroomref_WonOf_J12 g3 in2) n2)

noncomputable def gameroomref_WonOf_J1 (g3 : List Int) (in2 : List Bool) (one2 : Bool) (two2 : Bool) : Option (Int × List Int) :=
  if one2 then ((gameroomref_WonOf_J11 g3 in2 two2) 1) else ((gameroomref_WonOf_J11 g3 in2 two2) 0)

noncomputable def gameroomref_WonOf_K1 (g3 : List Int) : (List Bool × Bool × Bool) → Option (Int × List Int) :=
  fun (x : (List Bool × Bool × Bool)) => match x with | (in2, one2, two2) => (gameroomref_WonOf_J1 g3) in2 one2 two2

noncomputable def gameroomref_WonOf_L1 (g1 : Int) (g2 : Int) (g3 : List Int) (k1 : Int) : (List Bool × Bool × Bool × Int) → Option (St (List Bool × Bool × Bool × Int) (List Bool × Bool × Bool)) :=
  fun (x : (List Bool × Bool × Bool × Int)) => match x with | (in1, one1, two1, y1) => if (decide (y1 < g2)) then ((gameroomref_WonOf_J2 g1 g2 g3 k1 in1 one1 two1 y1)) else (some (.done (in1, one1, two1)))
end Go.Proofs.Ytogecbgngnjhgaa
