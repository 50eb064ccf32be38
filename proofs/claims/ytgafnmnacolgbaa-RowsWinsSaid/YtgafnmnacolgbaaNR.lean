/-
  Models and walks, printed by our own program (wip/gen).
-/
import Derived.Test.YtgafnmnacolgbaaFB
import Derived.Test.YtgafnmnacolgbaaSH
import Derived.Test.YtgafnmnacolgbaaNRb
namespace Go.Proofs.Ytgafnmnacolgbaa
open Go Go.GL Go.RowKit

noncomputable def gameroomlaw_RowsWins_m (g1 : Int) (g2 : Int) (g3 : List Int) (k1 : Int) : Option Bool :=
  (gameroomref_GridOf_m g1 g2 g3).bind fun r1 => (rows_Won_m r1.1 r1.2.1 r1.2.2 k1).bind fun r2 => (gameroomref_GridMay_m g1 g2 g3).bind fun r3 => if (!r3) then ((gameroomlaw_RowsWins_J1 g1 g2 g3 k1 r2) 12) else (if ((decide (k1 < 1)) || (decide ((10 : Int) < k1))) then ((gameroomlaw_RowsWins_J1 g1 g2 g3 k1 r2) 3) else ((gameroomlaw_RowsWins_J1 g1 g2 g3 k1 r2) 0))

set_option maxRecDepth 100000 in
set_option maxHeartbeats 4000000 in
theorem gameroomlaw_RowsWins_w {g1 : Int} {g2 : Int} {A1 : Option Addr} {c1 : Nat} {n1 : Nat} {g3 : List Int} {k1 : Int} {r : Bool} {w0 w : World} {B : Nat} {fs : List HP} (hm : gameroomlaw_RowsWins_m g1 g2 g3 k1 = some r) (hS : Sep w0 B w (fs)) (hr_g3 : RdF w0 B fs A1 (vI g3)) (_hc_g3 : g3.length ≤ c1) (_hn_g3 : n1 = g3.length) :
    Calls Try.prog 9 #[.agg #[.int .i64 g1, .int .i64 g2, .slice A1 n1 c1], .int .i64 k1] w fun e w' => e = .returned (.bool r) ∧ Sep w0 B w' (fs) := by
  obtain ⟨i3, hi3, hz3, hs3, hb3⟩ := info_parts Info3
  obtain rfl := _hn_g3
  unfold gameroomlaw_RowsWins_m at hm
  replace hm := start_b hm
  refine enter (l := [.agg #[.int .i64 g1, .int .i64 g2, .slice A1 g3.length c1], .int .i64 k1]) (n := 60) Try.func9 rfl rfl (by simp) (fun a hF => ?_)
  refine seqR ?_
  refine at_do (d := 2) (s := vS (Instr.box 93 (.agg #[.int .i64 g1, .int .i64 g2, .slice A1 g3.length c1]))) (v := .pointer (some ⟨w.heap.size, 0, none⟩)) (w' := w.alloc (.cells #[.int .i64 g1, .int .i64 g2, .slice A1 g3.length c1] 93)) hF (by kernel_rfl) (by kernel_rfl) (by kernel_rfl) (fun a hF => ?_)
  have hS : Sep w0 B (w.alloc (.cells #[.int .i64 g1, .int .i64 g2, .slice A1 g3.length c1] 93)) (blk w.heap.size 93 #[.int .i64 g1, .int .i64 g2, .slice A1 g3.length c1] :: (fs)) := hS.box 93 #[.int .i64 g1, .int .i64 g2, .slice A1 g3.length c1]
  generalize w.heap.size = g4 at hF hS
  generalize w.alloc (.cells #[.int .i64 g1, .int .i64 g2, .slice A1 g3.length c1] 93) = w at hS ⊢
  refine at_run 1 [] [] [1, 2] [pl 1 (.int .i64 k1), pl 2 (.pointer (some ⟨g4, 0, none⟩))] hF hS (by kernel_rfl) (by kernel_rfl) ?_ (fun a w hF hS => ?_)
  · exact obs_nil
  refine at_end [1, 2] [pl 1 (.int .i64 k1), pl 2 (.pointer (some ⟨g4, 0, none⟩))] hF rfl (by kernel_rfl) (fun hF => ?_)
  refine then_n ?_
  refine seqR ?_
  obtain ⟨r1, hr1, hm⟩ := call_b hm
  obtain ⟨r2, hr2, hm⟩ := call_b hm
  refine at_run 1 [⟨false, [], vS (Instr.loadAt 93 (.pointer (some ⟨g4, 0, none⟩))), .agg #[.int .i64 g1, .int .i64 g2, .slice A1 g3.length c1]⟩] [some (.agg #[.int .i64 g1, .int .i64 g2, .slice A1 g3.length c1])] [1, 2, 12] [pl 1 (.int .i64 k1), pl 2 (.pointer (some ⟨g4, 0, none⟩)), pl 12 (.agg #[.int .i64 g1, .int .i64 g2, .slice A1 g3.length c1])] hF hS (by kernel_rfl) (by kernel_rfl) ?_ (fun a w hF hS => ?_)
  · exact obs_cons (ob_loadA (cs := #[.int .i64 g1, .int .i64 g2, .slice A1 g3.length c1]) (by kernel_rfl) (by kernel_rfl) (fun _ _ hS => (hS.at_ 0 rfl).cellsAt 0 (by rfl))) <| obs_nil
  refine at_call (f := 52) (args := #[.agg #[.int .i64 g1, .int .i64 g2, .slice A1 g3.length c1]]) (d := 13) hF (by kernel_rfl) (by kernel_rfl) Try.func52 (by kernel_rfl) rfl (gameroomref_GridOf_w hr1 hS (fun _ hS => (hr_g3 _ (hS.dropN 1))) _hc_g3 rfl) (fun v a w hR hF => ?_)
  clear hS
  obtain ⟨A2, c2, rfl, hS⟩ := hR
  have hS : Sep w0 B w (own 3 (.slice A2 r1.2.2.length c2) (vI r1.2.2) :: blk g4 93 #[.int .i64 g1, .int .i64 g2, .slice A1 g3.length c1] :: fs) := hS
  refine at_run 1 [] [] [1, 2, 13, 14] [pl 1 (.int .i64 k1), pl 2 (.pointer (some ⟨g4, 0, none⟩)), pl 13 (.agg #[.int .i64 r1.1, .int .i64 r1.2.1, .slice A2 r1.2.2.length c2]), pl 14 (.int .i64 k1)] hF hS (by kernel_rfl) (by kernel_rfl) ?_ (fun a w hF hS => ?_)
  · exact obs_nil
  refine at_call (f := 51) (args := #[.agg #[.int .i64 r1.1, .int .i64 r1.2.1, .slice A2 r1.2.2.length c2], .int .i64 k1]) (d := 15) hF (by kernel_rfl) (by kernel_rfl) Try.func51 (by kernel_rfl) rfl (rows_Won_w hr2 hS (fun _ hS => (hS.at_ 0 rfl).rd) ((hS.at_ 0 rfl).cap1) rfl) (fun v a w hR hF => ?_)
  clear hS
  obtain ⟨A3, c3, rfl, hS⟩ := hR
  have hS : Sep w0 B w (own 3 (.slice A3 r2.2.1.length c3) (vI r2.2.1) :: own 3 (.slice A2 r1.2.2.length c2) (vI r1.2.2) :: blk g4 93 #[.int .i64 g1, .int .i64 g2, .slice A1 g3.length c1] :: fs) := hS
  refine at_run 7 [] [] [1, 2, 5, 6, 7] [pl 1 (.int .i64 k1), pl 2 (.pointer (some ⟨g4, 0, none⟩)), pl 5 (.int .i64 r2.1), pl 6 (.slice A3 r2.2.1.length c3), pl 7 (.int .i64 r2.2.2)] hF hS (by kernel_rfl) (by kernel_rfl) ?_ (fun a w hF hS => ?_)
  · exact obs_nil
  refine at_end [1, 2, 5, 6, 7] [pl 1 (.int .i64 k1), pl 2 (.pointer (some ⟨g4, 0, none⟩)), pl 5 (.int .i64 r2.1), pl 6 (.slice A3 r2.2.1.length c3), pl 7 (.int .i64 r2.2.2)] hF rfl (by kernel_rfl) (fun hF => ?_)
  refine then_n ?_
  refine reg [] [] [1, 2, 5, 6, 7, 8] [pl 1 (.int .i64 k1), pl 2 (.pointer (some ⟨g4, 0, none⟩)), pl 5 (.int .i64 r2.1), pl 6 (.slice A3 r2.2.1.length c3), pl 7 (.int .i64 r2.2.2), pl 8 (.int .i64 0)] hF hS Fol (by kernel_rfl) (by kernel_rfl) (by kernel_rfl) ?_ (fun a w hF hS => ?_)
  · exact obs_nil
  refine seq_cut (fun a w => ∃ (no1 : Int), Fr 60 [pl 1 (.int .i64 k1), pl 2 (.pointer (some ⟨g4, 0, none⟩)), pl 5 (.int .i64 r2.1), pl 6 (.slice A3 r2.2.1.length c3), pl 7 (.int .i64 r2.2.2), pl 8 (.int .i64 no1)] a ∧ Sep w0 B w (blk g4 93 #[.int .i64 g1, .int .i64 g2, .slice A1 g3.length c1] :: own 3 (.slice A3 r2.2.1.length c3) (vI r2.2.1) :: fs) ∧ ((gameroomlaw_RowsWins_J1 g1 g2 g3 k1 r2) no1).bind some = some r) ?_ ?_
  · rintro a w ⟨no1, hF, hS, hm⟩
    unfold gameroomlaw_RowsWins_J1 at hm
    refine seq_cut (fun a w => Fr 60 [pl 1 (.int .i64 k1), pl 2 (.pointer (some ⟨g4, 0, none⟩)), pl 5 (.int .i64 r2.1), pl 6 (.slice A3 r2.2.1.length c3), pl 7 (.int .i64 r2.2.2)] a ∧ Sep w0 B w (blk g4 93 #[.int .i64 g1, .int .i64 g2, .slice A1 g3.length c1] :: own 3 (.slice A3 r2.2.1.length c3) (vI r2.2.1) :: fs) ∧ ((gameroomlaw_RowsWins_J2 g1 g2 g3 k1 r2)).bind some = some r) ?_ ?_
    · rintro a w ⟨hF, hS, hm⟩
      unfold gameroomlaw_RowsWins_J2 at hm
      refine seqR ?_
      obtain ⟨r4, hr4, hm⟩ := call_b hm
      refine at_run 2 [⟨false, [], vS (Instr.loadAt 93 (.pointer (some ⟨g4, 0, none⟩))), .agg #[.int .i64 g1, .int .i64 g2, .slice A1 g3.length c1]⟩] [some (.agg #[.int .i64 g1, .int .i64 g2, .slice A1 g3.length c1]), none] [5, 6, 7, 43, 44] [pl 5 (.int .i64 r2.1), pl 6 (.slice A3 r2.2.1.length c3), pl 7 (.int .i64 r2.2.2), pl 43 (.agg #[.int .i64 g1, .int .i64 g2, .slice A1 g3.length c1]), pl 44 (.int .i64 k1)] hF hS (by kernel_rfl) (by kernel_rfl) ?_ (fun a w hF hS => ?_)
      · exact obs_cons (ob_loadA (cs := #[.int .i64 g1, .int .i64 g2, .slice A1 g3.length c1]) (by kernel_rfl) (by kernel_rfl) (fun _ _ hS => (hS.at_ 0 rfl).cellsAt 0 (by rfl))) <| obs_nil
      refine at_call (f := 54) (args := #[.agg #[.int .i64 g1, .int .i64 g2, .slice A1 g3.length c1], .int .i64 k1]) (d := 45) hF (by kernel_rfl) (by kernel_rfl) Try.func54 (by kernel_rfl) rfl (gameroomref_WonOf_w hr4 hS (fun _ hS => (hr_g3 _ (hS.dropN 2))) _hc_g3 rfl) (fun v a w hR hF => ?_)
      clear hS
      obtain ⟨A4, c4, rfl, hS⟩ := hR
      have hS : Sep w0 B w (own 3 (.slice A4 r4.2.length c4) (vI r4.2) :: blk g4 93 #[.int .i64 g1, .int .i64 g2, .slice A1 g3.length c1] :: own 3 (.slice A3 r2.2.1.length c3) (vI r2.2.1) :: fs) := hS
      refine at_run 5 [] [] [5, 6, 7, 9, 10] [pl 5 (.int .i64 r2.1), pl 6 (.slice A3 r2.2.1.length c3), pl 7 (.int .i64 r2.2.2), pl 9 (.int .i64 r4.1), pl 10 (.slice A4 r4.2.length c4)] hF hS (by kernel_rfl) (by kernel_rfl) ?_ (fun a w hF hS => ?_)
      · exact obs_nil
      refine at_end [5, 6, 7, 9, 10] [pl 5 (.int .i64 r2.1), pl 6 (.slice A3 r2.2.1.length c3), pl 7 (.int .i64 r2.2.2), pl 9 (.int .i64 r4.1), pl 10 (.slice A4 r4.2.length c4)] hF rfl (by kernel_rfl) (fun hF => ?_)
      refine then_n ?_
      obtain ⟨r5, hr5, hm⟩ := call_b hm
      refine reg [⟨false, [((r2.2.2 == 0) && (r2.1 == r4.1), true)], callFunc 27 #[.slice A3 r2.2.1.length c3, .slice A4 r4.2.length c4], .bool r5⟩] [none, none, none, none, none, none, none, none, none, none, some (.bool r5), none, none] [4] [pl 4 (.bool (((r2.2.2 == 0) && (r2.1 == r4.1)) && r5))] hF hS Fol (by kernel_rfl) (by kernel_rfl) (by kernel_rfl) ?_ (fun a w hF hS => ?_)
      · exact obs_cons (ob_call Try.func27 (by kernel_rfl) rfl (fun hy _ hS => gameroomlaw_sameInts_w (ite_some hr5 (by rw [show ((r2.2.2 == 0) && (r2.1 == r4.1)) = true from hy ((r2.2.2 == 0) && (r2.1 == r4.1), true) (by simp)]; try rfl)) hS (fun _ hS => (hS.at_ 2 rfl).rd) ((hS.at_ 2 rfl).cap1) rfl (fun _ hS => (hS.at_ 0 rfl).rd) ((hS.at_ 0 rfl).cap1) rfl)) <| obs_nil
      refine wp_ret ?_
      have hS := hS.pickN 3 [] (by decide)
      have hm : some (((r2.2.2 == 0) && (r2.1 == r4.1)) && r5) = some r := hm
      obtain rfl := Option.some.inj hm
      exact retV (rs := [.tmp 4]) (vs := [.bool (((r2.2.2 == 0) && (r2.1 == r4.1)) && r5)]) hF rfl (rv_t (by kernel_rfl) <| rv_nil) rfl ⟨rfl, hS⟩
    · refine reg [] [] [1, 2, 5, 6, 7, 8, 29] [pl 1 (.int .i64 k1), pl 2 (.pointer (some ⟨g4, 0, none⟩)), pl 5 (.int .i64 r2.1), pl 6 (.slice A3 r2.2.1.length c3), pl 7 (.int .i64 r2.2.2), pl 8 (.int .i64 no1), pl 29 (.bool (no1 != 0))] hF hS Fol (by kernel_rfl) (by kernel_rfl) (by kernel_rfl) ?_ (fun a w hF hS => ?_)
      · exact obs_nil
      refine cond_ev (t := 29) (b := (no1 != 0)) hF (by kernel_rfl) (fun hb => ?_) (fun hb => ?_)
      · replace hm := if_t hm hb
        refine reg [] [] [4] [pl 4 (.bool (((r2.2.2 == no1) && (r2.1 == 0)) && ((r2.2.1.length : Int) == 0)))] hF hS Fol (by kernel_rfl) (by kernel_rfl) (by kernel_rfl) ?_ (fun a w hF hS => ?_)
        · exact obs_nil
        refine wp_ret ?_
        refine then_r ?_
        have hS := hS.pickN 2 [] (by decide)
        have hm : some (((r2.2.2 == no1) && (r2.1 == 0)) && ((r2.2.1.length : Int) == 0)) = some r := hm
        obtain rfl := Option.some.inj hm
        exact retV (rs := [.tmp 4]) (vs := [.bool (((r2.2.2 == no1) && (r2.1 == 0)) && ((r2.2.1.length : Int) == 0))]) hF rfl (rv_t (by kernel_rfl) <| rv_nil) rfl ⟨rfl, hS⟩
      · replace hm := if_f hm hb
        refine wp_skip ?_
        refine then_n ?_
        exact ⟨hF.weak [1, 2, 5, 6, 7] (by kernel_rfl), hS, hm⟩
  · obtain ⟨r3, hr3, hm⟩ := call_b hm
    refine reg [⟨false, [], vS (Instr.loadAt 93 (.pointer (some ⟨g4, 0, none⟩))), .agg #[.int .i64 g1, .int .i64 g2, .slice A1 g3.length c1]⟩, ⟨false, [], callFunc 53 #[.agg #[.int .i64 g1, .int .i64 g2, .slice A1 g3.length c1]], .bool r3⟩] [some (.agg #[.int .i64 g1, .int .i64 g2, .slice A1 g3.length c1]), some (.bool r3), none] [1, 2, 5, 6, 7, 8, 21] [pl 1 (.int .i64 k1), pl 2 (.pointer (some ⟨g4, 0, none⟩)), pl 5 (.int .i64 r2.1), pl 6 (.slice A3 r2.2.1.length c3), pl 7 (.int .i64 r2.2.2), pl 8 (.int .i64 0), pl 21 (.bool (!r3))] hF hS Fol (by kernel_rfl) (by kernel_rfl) (by kernel_rfl) ?_ (fun a w hF hS => ?_)
    · exact obs_cons (ob_loadA (cs := #[.int .i64 g1, .int .i64 g2, .slice A1 g3.length c1]) (by kernel_rfl) (by kernel_rfl) (fun _ _ hS => (hS.at_ 2 rfl).cellsAt 0 (by rfl))) <| obs_cons (ob_call Try.func53 (by kernel_rfl) rfl (fun _ _ hS => gameroomref_GridMay_w hr3 hS (fun _ hS => (hr_g3 _ (hS.dropN 3))) _hc_g3 rfl)) <| obs_nil
    refine cond_ev (t := 21) (b := !r3) hF (by kernel_rfl) (fun hb => ?_) (fun hb => ?_)
    · replace hm := if_t hm hb
      refine reg1 [] [] [1, 2, 5, 6, 7, 8] [pl 1 (.int .i64 k1), pl 2 (.pointer (some ⟨g4, 0, none⟩)), pl 5 (.int .i64 r2.1), pl 6 (.slice A3 r2.2.1.length c3), pl 7 (.int .i64 r2.2.2), pl 8 (.int .i64 12)] hF hS Fol (by kernel_rfl) (by kernel_rfl) (by kernel_rfl) ?_ (fun a w hF hS => ?_)
      · exact obs_nil
      refine then_n ?_
      have hS := hS.pickN 3 [2, 0] (by decide)
      exact ⟨12, hF.weak [1, 2, 5, 6, 7, 8] (by kernel_rfl), hS, hm⟩
    · replace hm := if_f hm hb
      refine reg [] [] [1, 2, 5, 6, 7, 8, 27] [pl 1 (.int .i64 k1), pl 2 (.pointer (some ⟨g4, 0, none⟩)), pl 5 (.int .i64 r2.1), pl 6 (.slice A3 r2.2.1.length c3), pl 7 (.int .i64 r2.2.2), pl 8 (.int .i64 0), pl 27 (.bool ((decide (k1 < 1)) || (decide ((10 : Int) < k1))))] hF hS Fol (by kernel_rfl) (by kernel_rfl) (by kernel_rfl) ?_ (fun a w hF hS => ?_)
      · exact obs_nil
      refine cond_ev (t := 27) (b := (decide (k1 < 1)) || (decide ((10 : Int) < k1))) hF (by kernel_rfl) (fun hb => ?_) (fun hb => ?_)
      · replace hm := if_t hm hb
        refine reg1 [] [] [1, 2, 5, 6, 7, 8] [pl 1 (.int .i64 k1), pl 2 (.pointer (some ⟨g4, 0, none⟩)), pl 5 (.int .i64 r2.1), pl 6 (.slice A3 r2.2.1.length c3), pl 7 (.int .i64 r2.2.2), pl 8 (.int .i64 3)] hF hS Fol (by kernel_rfl) (by kernel_rfl) (by kernel_rfl) ?_ (fun a w hF hS => ?_)
        · exact obs_nil
        refine then_n ?_
        have hS := hS.pickN 3 [2, 0] (by decide)
        exact ⟨3, hF.weak [1, 2, 5, 6, 7, 8] (by kernel_rfl), hS, hm⟩
      · replace hm := if_f hm hb
        refine wp_skip ?_
        refine then_n ?_
        have hS := hS.pickN 3 [2, 0] (by decide)
        exact ⟨0, hF.weak [1, 2, 5, 6, 7, 8] (by kernel_rfl), hS, hm⟩

end Go.Proofs.Ytgafnmnacolgbaa
