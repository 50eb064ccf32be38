/-
  Models and walks, printed by our own program (wip/gen).
-/
import Derived.Test.YtfmmlmiakkjaiaaFB
import Derived.Test.YtfmmlmiakkjaiaaLibD
import Derived.Test.YtfmmlmiakkjaiaaLibRF
import Derived.Test.YtfmmlmiakkjaiaaFM
import Derived.Test.YtfmmlmiakkjaiaaSH
import Derived.Test.YtfmmlmiakkjaiaaNHSb
namespace Go.Proofs.Ytfmmlmiakkjaiaa
open Go Go.GL Go.RowKit

noncomputable def hex_Shortest_m  (g1 : Int) (g2 : Int) (g3 : List Int) (who1 : Int) : Option (Int × Int) :=
  (hex_player_m g1 g2 g3 who1).bind fun r1 => if (r1 != 0) then (some (0, r1)) else ((hex_Shortest_J1 g1 g2 g3 who1))

set_option maxRecDepth 100000 in
set_option maxHeartbeats 4000000 in
theorem hex_Shortest_w {g1 : Int} {g2 : Int} {A1 : Option Addr} {c1 : Nat} {n1 : Nat} {g3 : List Int} {who1 : Int} {r : (Int × Int)} {w0 w : World} {B : Nat} {fs : List HP} (hm : hex_Shortest_m g1 g2 g3 who1 = some r) (hS : Sep w0 B w (fs)) (hr_g3 : RdF w0 B fs A1 (vI g3)) (_hc_g3 : g3.length ≤ c1) (_hn_g3 : n1 = g3.length) :
    Calls Try.prog 41 #[.agg #[.int .i64 g1, .int .i64 g2, .slice A1 n1 c1], .int .i64 who1] w fun e w' => e = .returned (.tuple #[.int .i64 r.1, .int .i64 r.2]) ∧ Sep w0 B w' (fs) := by
  obtain ⟨i3, hi3, hz3, hs3, hb3⟩ := info_parts Info3
  obtain ⟨i27, hi27, hz27, hs27, hb27⟩ := info_parts Info27
  obtain ⟨i140, hi140, hz140, hs140, hb140⟩ := info_parts Info140
  obtain ⟨i161, hi161, hz161, hs161, hb161⟩ := info_parts Info161
  obtain rfl := _hn_g3
  unfold hex_Shortest_m at hm
  replace hm := start_b hm
  refine enter (l := [.agg #[.int .i64 g1, .int .i64 g2, .slice A1 g3.length c1], .int .i64 who1]) (n := 100) Try.func41 rfl rfl (by simp) (fun a hF => ?_)
  have hS := hS.defs0
  refine seqR ?_
  refine at_do (d := 2) (s := vS (Instr.box 64 (.agg #[.int .i64 g1, .int .i64 g2, .slice A1 g3.length c1]))) (v := .pointer (some ⟨w.heap.size, 0, none⟩)) (w' := w.alloc (.cells #[.int .i64 g1, .int .i64 g2, .slice A1 g3.length c1] 64)) hF (by kernel_rfl) (by kernel_rfl) (by kernel_rfl) (fun a hF => ?_)
  have hS : Sep w0 B (w.alloc (.cells #[.int .i64 g1, .int .i64 g2, .slice A1 g3.length c1] 64)) (blk w.heap.size 64 #[.int .i64 g1, .int .i64 g2, .slice A1 g3.length c1] :: (defsH ([]) :: fs)) := hS.box 64 #[.int .i64 g1, .int .i64 g2, .slice A1 g3.length c1]
  generalize w.heap.size = g4 at hF hS
  generalize w.alloc (.cells #[.int .i64 g1, .int .i64 g2, .slice A1 g3.length c1] 64) = w at hS ⊢
  refine at_do (d := 3) (s := vS (Instr.box 3 (.int .i64 who1))) (v := .pointer (some ⟨w.heap.size, 0, none⟩)) (w' := w.alloc (.cells #[.int .i64 who1] 3)) hF (by kernel_rfl) (by kernel_rfl) (by kernel_rfl) (fun a hF => ?_)
  have hS : Sep w0 B (w.alloc (.cells #[.int .i64 who1] 3)) (blk w.heap.size 3 #[.int .i64 who1] :: (blk g4 64 #[.int .i64 g1, .int .i64 g2, .slice A1 g3.length c1] :: defsH ([]) :: fs)) := hS.box 3 #[.int .i64 who1]
  generalize w.heap.size = g5 at hF hS
  generalize w.alloc (.cells #[.int .i64 who1] 3) = w at hS ⊢
  refine at_run 2 [] [] [2, 3] [pl 2 (.pointer (some ⟨g4, 0, none⟩)), pl 3 (.pointer (some ⟨g5, 0, none⟩))] hF hS (by kernel_rfl) (by kernel_rfl) ?_ (fun a w hF hS => ?_)
  · exact obs_nil
  refine at_end [2, 3] [pl 2 (.pointer (some ⟨g4, 0, none⟩)), pl 3 (.pointer (some ⟨g5, 0, none⟩))] hF rfl (by kernel_rfl) (fun hF => ?_)
  refine then_n ?_
  refine seq_cut (fun a w => ∃ (Ds1 : List Nat), FrD Ds1 100 [pl 2 (.pointer (some ⟨g4, 0, none⟩)), pl 3 (.pointer (some ⟨g5, 0, none⟩))] a ∧ Sep w0 B w (blk g4 64 #[.int .i64 g1, .int .i64 g2, .slice A1 g3.length c1] :: blk g5 3 #[.int .i64 who1] :: defsH Ds1 :: fs) ∧ ((hex_Shortest_J1 g1 g2 g3 who1)).bind some = some r) ?_ ?_
  · rintro a w ⟨Ds1, hF, hS, hm⟩
    unfold hex_Shortest_J1 at hm
    refine seqR ?_
    obtain ⟨r2, hr2, hm⟩ := call_b hm
    refine at_do (d := 22) (s := vS (Instr.buildSlice 27 1 #[(0, .int .i64 (-1))])) (v := .slice (some ⟨w.heap.size, 0, none⟩) 1 1) (w' := w.alloc (.cells #[.int .i64 (-1)] 3)) hF (by kernel_rfl) (by kernel_rfl) (by kernel_rfl) (fun a hF => ?_)
    have hS : Sep w0 B (w.alloc (.cells #[.int .i64 (-1)] 3)) (own 3 (.slice (some (⟨w.heap.size, 0, none⟩ : Addr)) 1 1) (vI ([(-1)] : List Int)) :: (blk g4 64 #[.int .i64 g1, .int .i64 g2, .slice A1 g3.length c1] :: blk g5 3 #[.int .i64 who1] :: defsH Ds1 :: fs)) := hS.lit 3 #[.int .i64 (-1)] 1 rfl (by omega)
    generalize (some (⟨w.heap.size, 0, none⟩ : Addr)) = g6 at hF hS
    generalize w.alloc (.cells #[.int .i64 (-1)] 3) = w at hS ⊢
    refine at_run 3 [⟨false, [], vS (Instr.loadAt 27 (.pointer (some ⟨g4, 2, none⟩))), .slice A1 g3.length c1⟩] [none, some (.slice A1 g3.length c1), none] [2, 3, 22, 25] [pl 2 (.pointer (some ⟨g4, 0, none⟩)), pl 3 (.pointer (some ⟨g5, 0, none⟩)), pl 22 (.slice g6 1 1), pl 25 (.int .i64 (g3.length : Int))] hF hS (by kernel_rfl) (by kernel_rfl) ?_ (fun a w hF hS => ?_)
    · exact obs_cons (ob_load Agg27 (fun _ _ hS => (hS.at_ 1 rfl).cell rfl)) <| obs_nil
    refine at_call (f := 118) (args := #[.slice g6 1 1, .int .i64 (g3.length : Int)]) (d := 26) hF (by kernel_rfl) (by kernel_rfl) Try.func118 (by kernel_rfl) rfl (slices_Repeat_w hr2 hS (fun _ hS => (hS.at_ 0 rfl).rd) ((hS.at_ 0 rfl).cap1) ((hS.at_ 0 rfl).len1)) (fun v a w hR hF => ?_)
    clear hS
    obtain ⟨A2, c2, rfl, hS⟩ := hR
    have hS : Sep w0 B w (own 3 (.slice A2 r2.length c2) (vI r2) :: own 3 (.slice g6 1 1) (vI ([(-1)] : List Int)) :: blk g4 64 #[.int .i64 g1, .int .i64 g2, .slice A1 g3.length c1] :: blk g5 3 #[.int .i64 who1] :: defsH Ds1 :: fs) := hS
    refine at_do (d := 7) (s := vS (Instr.alloc 27 true (.tuple #[]))) (v := .pointer (some ⟨w.heap.size, 0, none⟩)) (w' := w.alloc (.cells #[.slice none 0 0] 27)) hF (by kernel_rfl) (by kernel_rfl) (by kernel_rfl) (fun a hF => ?_)
    have hS : Sep w0 B (w.alloc (.cells #[.slice none 0 0] 27)) (blk w.heap.size 27 #[.slice none 0 0] :: (own 3 (.slice A2 r2.length c2) (vI r2) :: own 3 (.slice g6 1 1) (vI ([(-1)] : List Int)) :: blk g4 64 #[.int .i64 g1, .int .i64 g2, .slice A1 g3.length c1] :: blk g5 3 #[.int .i64 who1] :: defsH Ds1 :: fs)) := hS.box 27 #[.slice none 0 0]
    generalize w.heap.size = g7 at hF hS
    generalize w.alloc (.cells #[.slice none 0 0] 27) = w at hS ⊢
    obtain ⟨w, hrun, hS⟩ := run_put (P := Try.prog) (t := 27) (u := .slice A2 r2.length c2) (i := 0) (hS.at_ 0 rfl) hi27 hs27 rfl (Nat.lt_of_lt_of_eq (Nat.lt_of_succ_le (Nat.le_of_ble_eq_true (by kernel_rfl))) rfl)
    refine at_skip hF (by kernel_rfl) hrun ?_
    have hS : Sep w0 B w (blk g7 27 #[.slice A2 r2.length c2] :: own 3 (.slice A2 r2.length c2) (vI r2) :: own 3 (.slice g6 1 1) (vI ([(-1)] : List Int)) :: blk g4 64 #[.int .i64 g1, .int .i64 g2, .slice A1 g3.length c1] :: blk g5 3 #[.int .i64 who1] :: defsH Ds1 :: fs) := hS
    refine at_end [2, 3, 7] [pl 2 (.pointer (some ⟨g4, 0, none⟩)), pl 3 (.pointer (some ⟨g5, 0, none⟩)), pl 7 (.pointer (some ⟨g7, 0, none⟩))] hF rfl (by kernel_rfl) (fun hF => ?_)
    refine then_n ?_
    refine seqR ?_
    refine at_run 1 [] [] [2, 3, 7, 27] [pl 2 (.pointer (some ⟨g4, 0, none⟩)), pl 3 (.pointer (some ⟨g5, 0, none⟩)), pl 7 (.pointer (some ⟨g7, 0, none⟩)), pl 27 (.func (.func 119) #[] #[.pointer (some ⟨g4, 0, none⟩)])] hF hS (by kernel_rfl) (by kernel_rfl) ?_ (fun a w hF hS => ?_)
    · exact obs_nil
    refine at_do (d := 8) (s := vS (Instr.alloc 140 true (.tuple #[]))) (v := .pointer (some ⟨w.heap.size, 0, none⟩)) (w' := w.alloc (.cells #[.nilFunc] 140)) hF (by kernel_rfl) (by kernel_rfl) (by kernel_rfl) (fun a hF => ?_)
    have hS : Sep w0 B (w.alloc (.cells #[.nilFunc] 140)) (blk w.heap.size 140 #[.nilFunc] :: (blk g7 27 #[.slice A2 r2.length c2] :: own 3 (.slice A2 r2.length c2) (vI r2) :: own 3 (.slice g6 1 1) (vI ([(-1)] : List Int)) :: blk g4 64 #[.int .i64 g1, .int .i64 g2, .slice A1 g3.length c1] :: blk g5 3 #[.int .i64 who1] :: defsH Ds1 :: fs)) := hS.box 140 #[.nilFunc]
    generalize w.heap.size = g8 at hF hS
    generalize w.alloc (.cells #[.nilFunc] 140) = w at hS ⊢
    obtain ⟨w, hrun, hS⟩ := run_put (P := Try.prog) (t := 140) (u := .func (.func 119) #[] #[.pointer (some ⟨g4, 0, none⟩)]) (i := 0) (hS.at_ 0 rfl) hi140 hs140 rfl (Nat.lt_of_lt_of_eq (Nat.lt_of_succ_le (Nat.le_of_ble_eq_true (by kernel_rfl))) rfl)
    refine at_skip hF (by kernel_rfl) hrun ?_
    have hS : Sep w0 B w (blk g8 140 #[.func (.func 119) #[] #[.pointer (some ⟨g4, 0, none⟩)]] :: blk g7 27 #[.slice A2 r2.length c2] :: own 3 (.slice A2 r2.length c2) (vI r2) :: own 3 (.slice g6 1 1) (vI ([(-1)] : List Int)) :: blk g4 64 #[.int .i64 g1, .int .i64 g2, .slice A1 g3.length c1] :: blk g5 3 #[.int .i64 who1] :: defsH Ds1 :: fs) := hS
    refine at_end [2, 3, 7, 8] [pl 2 (.pointer (some ⟨g4, 0, none⟩)), pl 3 (.pointer (some ⟨g5, 0, none⟩)), pl 7 (.pointer (some ⟨g7, 0, none⟩)), pl 8 (.pointer (some ⟨g8, 0, none⟩))] hF rfl (by kernel_rfl) (fun hF => ?_)
    refine then_n ?_
    refine seqR ?_
    refine at_do (d := 9) (s := vS (Instr.alloc 22 true (.tuple #[]))) (v := .pointer (some ⟨w.heap.size, 0, none⟩)) (w' := w.alloc (.cells #[.slice none 0 0] 22)) hF (by kernel_rfl) (by kernel_rfl) (by kernel_rfl) (fun a hF => ?_)
    have hS : Sep w0 B (w.alloc (.cells #[.slice none 0 0] 22)) (blk w.heap.size 22 #[.slice none 0 0] :: (blk g8 140 #[.func (.func 119) #[] #[.pointer (some ⟨g4, 0, none⟩)]] :: blk g7 27 #[.slice A2 r2.length c2] :: own 3 (.slice A2 r2.length c2) (vI r2) :: own 3 (.slice g6 1 1) (vI ([(-1)] : List Int)) :: blk g4 64 #[.int .i64 g1, .int .i64 g2, .slice A1 g3.length c1] :: blk g5 3 #[.int .i64 who1] :: defsH Ds1 :: fs)) := hS.box 22 #[.slice none 0 0]
    generalize w.heap.size = g9 at hF hS
    generalize w.alloc (.cells #[.slice none 0 0] 22) = w at hS ⊢
    refine at_end [2, 3, 7, 8, 9] [pl 2 (.pointer (some ⟨g4, 0, none⟩)), pl 3 (.pointer (some ⟨g5, 0, none⟩)), pl 7 (.pointer (some ⟨g7, 0, none⟩)), pl 8 (.pointer (some ⟨g8, 0, none⟩)), pl 9 (.pointer (some ⟨g9, 0, none⟩))] hF rfl (by kernel_rfl) (fun hF => ?_)
    refine then_n ?_
    refine seqR ?_
    refine at_run 1 [] [] [2, 3, 7, 8, 9, 28] [pl 2 (.pointer (some ⟨g4, 0, none⟩)), pl 3 (.pointer (some ⟨g5, 0, none⟩)), pl 7 (.pointer (some ⟨g7, 0, none⟩)), pl 8 (.pointer (some ⟨g8, 0, none⟩)), pl 9 (.pointer (some ⟨g9, 0, none⟩)), pl 28 (.func (.func 120) #[] #[.pointer (some ⟨g4, 0, none⟩), .pointer (some ⟨g5, 0, none⟩), .pointer (some ⟨g7, 0, none⟩), .pointer (some ⟨g9, 0, none⟩)])] hF hS (by kernel_rfl) (by kernel_rfl) ?_ (fun a w hF hS => ?_)
    · exact obs_nil
    refine at_do (d := 10) (s := vS (Instr.alloc 161 true (.tuple #[]))) (v := .pointer (some ⟨w.heap.size, 0, none⟩)) (w' := w.alloc (.cells #[.nilFunc] 161)) hF (by kernel_rfl) (by kernel_rfl) (by kernel_rfl) (fun a hF => ?_)
    have hS : Sep w0 B (w.alloc (.cells #[.nilFunc] 161)) (blk w.heap.size 161 #[.nilFunc] :: (blk g9 22 #[.slice none 0 0] :: blk g8 140 #[.func (.func 119) #[] #[.pointer (some ⟨g4, 0, none⟩)]] :: blk g7 27 #[.slice A2 r2.length c2] :: own 3 (.slice A2 r2.length c2) (vI r2) :: own 3 (.slice g6 1 1) (vI ([(-1)] : List Int)) :: blk g4 64 #[.int .i64 g1, .int .i64 g2, .slice A1 g3.length c1] :: blk g5 3 #[.int .i64 who1] :: defsH Ds1 :: fs)) := hS.box 161 #[.nilFunc]
    generalize w.heap.size = g10 at hF hS
    generalize w.alloc (.cells #[.nilFunc] 161) = w at hS ⊢
    obtain ⟨w, hrun, hS⟩ := run_put (P := Try.prog) (t := 161) (u := .func (.func 120) #[] #[.pointer (some ⟨g4, 0, none⟩), .pointer (some ⟨g5, 0, none⟩), .pointer (some ⟨g7, 0, none⟩), .pointer (some ⟨g9, 0, none⟩)]) (i := 0) (hS.at_ 0 rfl) hi161 hs161 rfl (Nat.lt_of_lt_of_eq (Nat.lt_of_succ_le (Nat.le_of_ble_eq_true (by kernel_rfl))) rfl)
    refine at_skip hF (by kernel_rfl) hrun ?_
    have hS : Sep w0 B w (blk g10 161 #[.func (.func 120) #[] #[.pointer (some ⟨g4, 0, none⟩), .pointer (some ⟨g5, 0, none⟩), .pointer (some ⟨g7, 0, none⟩), .pointer (some ⟨g9, 0, none⟩)]] :: blk g9 22 #[.slice none 0 0] :: blk g8 140 #[.func (.func 119) #[] #[.pointer (some ⟨g4, 0, none⟩)]] :: blk g7 27 #[.slice A2 r2.length c2] :: own 3 (.slice A2 r2.length c2) (vI r2) :: own 3 (.slice g6 1 1) (vI ([(-1)] : List Int)) :: blk g4 64 #[.int .i64 g1, .int .i64 g2, .slice A1 g3.length c1] :: blk g5 3 #[.int .i64 who1] :: defsH Ds1 :: fs) := hS
    refine at_end [2, 3, 7, 8, 9, 10] [pl 2 (.pointer (some ⟨g4, 0, none⟩)), pl 3 (.pointer (some ⟨g5, 0, none⟩)), pl 7 (.pointer (some ⟨g7, 0, none⟩)), pl 8 (.pointer (some ⟨g8, 0, none⟩)), pl 9 (.pointer (some ⟨g9, 0, none⟩)), pl 10 (.pointer (some ⟨g10, 0, none⟩))] hF rfl (by kernel_rfl) (fun hF => ?_)
    refine then_n ?_
    refine seq_cut (fun a w => ∃ (far2 : List Int) (rounds2 : List (List Int)) (A4 : Option Addr) (c4 : Nat) (hd2 : List Hd) (Ds4 : List Nat), FrD Ds4 100 [pl 2 (.pointer (some ⟨g4, 0, none⟩)), pl 3 (.pointer (some ⟨g5, 0, none⟩)), pl 7 (.pointer (some ⟨g7, 0, none⟩)), pl 8 (.pointer (some ⟨g8, 0, none⟩)), pl 9 (.pointer (some ⟨g9, 0, none⟩)), pl 10 (.pointer (some ⟨g10, 0, none⟩))] a ∧ Sep w0 B w (blk g4 64 #[.int .i64 g1, .int .i64 g2, .slice A1 g3.length c1] :: blk g5 3 #[.int .i64 who1] :: blk g7 27 #[.slice A2 r2.length c2] :: own 3 (.slice A2 r2.length c2) (vI far2) :: blk g8 140 #[.func (.func 119) #[] #[.pointer (some ⟨g4, 0, none⟩)]] :: blk g9 22 #[.slice A4 rounds2.length c4] :: rows 27 3 (.slice A4 rounds2.length c4) hd2 rounds2 :: blk g10 161 #[.func (.func 120) #[] #[.pointer (some ⟨g4, 0, none⟩), .pointer (some ⟨g5, 0, none⟩), .pointer (some ⟨g7, 0, none⟩), .pointer (some ⟨g9, 0, none⟩)]] :: defsH Ds4 :: fs) ∧ ((hex_Shortest_J2 g1 g2 g3 who1 r2) far2 rounds2).bind some = some r) ?_ ?_
    · rintro a w ⟨far2, rounds2, A4, c4, hd2, Ds4, hF, hS, hm⟩
      unfold hex_Shortest_J2 at hm
      refine seq_cut (fun a w => ∃ (Ds8 : List Nat), FrD Ds8 100 [] a ∧ Sep w0 B w (defsH Ds8 :: fs) ∧ (hex_Shortest_J5).bind some = some r) ?_ ?_
      · rintro a w ⟨Ds8, hF, hS, hm⟩
        unfold hex_Shortest_J5 at hm
        refine reg [] [] [4, 5] [pl 4 (.int .i64 (-1)), pl 5 (.int .i64 0)] hF hS Fol (by kernel_rfl) (by kernel_rfl) (by kernel_rfl) ?_ (fun a w hF hS => ?_)
        · exact obs_nil
        refine wpIn_ret ?_
        have hm : some ((-1), 0) = some r := hm
        obtain rfl := Option.some.inj hm
        exact retD (rs := [.tmp 4, .tmp 5]) (vs := [.int .i64 (-1), .int .i64 0]) hF hS rfl (fun w hS => by exact rv_t (by kernel_rfl) <| rv_t (by kernel_rfl) <| rv_nil) rfl (fun w hS => ⟨rfl, hS⟩)
      · refine seqR ?_
        refine at_do (d := 12) (s := vS (Instr.alloc 3 true (.tuple #[]))) (v := .pointer (some ⟨w.heap.size, 0, none⟩)) (w' := w.alloc (.cells #[.int .i64 0] 3)) hF (by kernel_rfl) (by kernel_rfl) (by kernel_rfl) (fun a hF => ?_)
        have hS : Sep w0 B (w.alloc (.cells #[.int .i64 0] 3)) (blk w.heap.size 3 #[.int .i64 0] :: (blk g4 64 #[.int .i64 g1, .int .i64 g2, .slice A1 g3.length c1] :: blk g5 3 #[.int .i64 who1] :: blk g7 27 #[.slice A2 r2.length c2] :: own 3 (.slice A2 r2.length c2) (vI far2) :: blk g8 140 #[.func (.func 119) #[] #[.pointer (some ⟨g4, 0, none⟩)]] :: blk g9 22 #[.slice A4 rounds2.length c4] :: rows 27 3 (.slice A4 rounds2.length c4) hd2 rounds2 :: blk g10 161 #[.func (.func 120) #[] #[.pointer (some ⟨g4, 0, none⟩), .pointer (some ⟨g5, 0, none⟩), .pointer (some ⟨g7, 0, none⟩), .pointer (some ⟨g9, 0, none⟩)]] :: defsH Ds4 :: fs)) := hS.box 3 #[.int .i64 0]
        generalize w.heap.size = g11 at hF hS
        generalize w.alloc (.cells #[.int .i64 0] 3) = w at hS ⊢
        obtain ⟨w, hrun, hS⟩ := run_put (P := Try.prog) (t := 3) (u := .int .i64 0) (i := 0) (hS.at_ 0 rfl) hi3 hs3 rfl (Nat.lt_of_lt_of_eq (Nat.lt_of_succ_le (Nat.le_of_ble_eq_true (by kernel_rfl))) rfl)
        refine at_skip hF (by kernel_rfl) hrun ?_
        have hS : Sep w0 B w (blk g11 3 #[.int .i64 0] :: blk g4 64 #[.int .i64 g1, .int .i64 g2, .slice A1 g3.length c1] :: blk g5 3 #[.int .i64 who1] :: blk g7 27 #[.slice A2 r2.length c2] :: own 3 (.slice A2 r2.length c2) (vI far2) :: blk g8 140 #[.func (.func 119) #[] #[.pointer (some ⟨g4, 0, none⟩)]] :: blk g9 22 #[.slice A4 rounds2.length c4] :: rows 27 3 (.slice A4 rounds2.length c4) hd2 rounds2 :: blk g10 161 #[.func (.func 120) #[] #[.pointer (some ⟨g4, 0, none⟩), .pointer (some ⟨g5, 0, none⟩), .pointer (some ⟨g7, 0, none⟩), .pointer (some ⟨g9, 0, none⟩)]] :: defsH Ds4 :: fs) := hS
        refine at_end [2, 3, 7, 8, 9, 10, 12] [pl 2 (.pointer (some ⟨g4, 0, none⟩)), pl 3 (.pointer (some ⟨g5, 0, none⟩)), pl 7 (.pointer (some ⟨g7, 0, none⟩)), pl 8 (.pointer (some ⟨g8, 0, none⟩)), pl 9 (.pointer (some ⟨g9, 0, none⟩)), pl 10 (.pointer (some ⟨g10, 0, none⟩)), pl 12 (.pointer (some ⟨g11, 0, none⟩))] hF rfl (by kernel_rfl) (fun hF => ?_)
        refine then_n ?_
        refine wpIn_block ?_
        have hS := hS.pickN 10 [1, 2, 3, 4, 5, 6, 7, 8, 0, 9] (by decide)
        refine wp_loop_model (S := (List Int × List (List Int) × Int)) (R := (Fl Unit (Int × Int))) (hex_Shortest_L2 g1 g2 g3 who1 r2) (fun x => (hex_Shortest_K2 x).bind some) r (fun (x : (List Int × List (List Int) × Int)) a w => ∃ (A7 : Option Addr) (c7 : Nat) (hd5 : List Hd) (g12 : Nat) (Ds6 : List Nat), FrD Ds6 100 [pl 2 (.pointer (some ⟨g4, 0, none⟩)), pl 3 (.pointer (some ⟨g5, 0, none⟩)), pl 7 (.pointer (some ⟨g7, 0, none⟩)), pl 8 (.pointer (some ⟨g8, 0, none⟩)), pl 9 (.pointer (some ⟨g9, 0, none⟩)), pl 10 (.pointer (some ⟨g10, 0, none⟩)), pl 12 (.pointer (some ⟨g12, 0, none⟩))] a ∧ Sep w0 B w (blk g4 64 #[.int .i64 g1, .int .i64 g2, .slice A1 g3.length c1] :: blk g5 3 #[.int .i64 who1] :: blk g7 27 #[.slice A2 r2.length c2] :: own 3 (.slice A2 r2.length c2) (vI x.1) :: blk g8 140 #[.func (.func 119) #[] #[.pointer (some ⟨g4, 0, none⟩)]] :: blk g9 22 #[.slice A7 x.2.1.length c7] :: rows 27 3 (.slice A7 x.2.1.length c7) hd5 x.2.1 :: blk g10 161 #[.func (.func 120) #[] #[.pointer (some ⟨g4, 0, none⟩), .pointer (some ⟨g5, 0, none⟩), .pointer (some ⟨g7, 0, none⟩), .pointer (some ⟨g9, 0, none⟩)]] :: blk g12 3 #[.int .i64 x.2.2] :: defsH Ds6 :: fs)) (assoc_b hm) ⟨A4, c4, hd2, g11, Ds4, hF.weak [2, 3, 7, 8, 9, 10, 12] (by kernel_rfl), hS⟩ ?_
        clear hF hS hm
        rintro nn2 ⟨far4, rounds4, n2⟩ a w ⟨A7, c7, hd5, g12, Ds6, hF, hS⟩ hm
        generalize hφ2 : stK (hex_Shortest_L2 g1 g2 g3 who1 r2) nn2 (fun x => (hex_Shortest_K2 x).bind some) = φ2 at hm
        unfold hex_Shortest_L2 at hm
        dsimp only at hF hS hm
        refine seq_cut (fun a w => ∃ (Ds7 : List Nat), FrD Ds7 100 [pl 2 (.pointer (some ⟨g4, 0, none⟩)), pl 3 (.pointer (some ⟨g5, 0, none⟩)), pl 7 (.pointer (some ⟨g7, 0, none⟩)), pl 8 (.pointer (some ⟨g8, 0, none⟩)), pl 9 (.pointer (some ⟨g9, 0, none⟩)), pl 10 (.pointer (some ⟨g10, 0, none⟩)), pl 12 (.pointer (some ⟨g12, 0, none⟩))] a ∧ Sep w0 B w (blk g4 64 #[.int .i64 g1, .int .i64 g2, .slice A1 g3.length c1] :: blk g5 3 #[.int .i64 who1] :: blk g7 27 #[.slice A2 r2.length c2] :: own 3 (.slice A2 r2.length c2) (vI far4) :: blk g8 140 #[.func (.func 119) #[] #[.pointer (some ⟨g4, 0, none⟩)]] :: blk g9 22 #[.slice A7 rounds4.length c7] :: rows 27 3 (.slice A7 rounds4.length c7) hd5 rounds4 :: blk g10 161 #[.func (.func 120) #[] #[.pointer (some ⟨g4, 0, none⟩), .pointer (some ⟨g5, 0, none⟩), .pointer (some ⟨g7, 0, none⟩), .pointer (some ⟨g9, 0, none⟩)]] :: blk g12 3 #[.int .i64 n2] :: defsH Ds7 :: fs) ∧ ((hex_Shortest_J6 g1 g2 g3 who1 r2 far4 rounds4 n2)).bind φ2 = some r) ?_ ?_
        · rintro a w ⟨Ds7, hF, hS, hm⟩
          unfold hex_Shortest_J6 at hm
          refine seq_cut (fun a w => ∃ (far6 : List Int) (rounds6 : List (List Int)) (A9 : Option Addr) (c9 : Nat) (hd7 : List Hd) (Ds11 : List Nat), FrD Ds11 100 [pl 2 (.pointer (some ⟨g4, 0, none⟩)), pl 3 (.pointer (some ⟨g5, 0, none⟩)), pl 7 (.pointer (some ⟨g7, 0, none⟩)), pl 8 (.pointer (some ⟨g8, 0, none⟩)), pl 9 (.pointer (some ⟨g9, 0, none⟩)), pl 10 (.pointer (some ⟨g10, 0, none⟩)), pl 12 (.pointer (some ⟨g12, 0, none⟩))] a ∧ Sep w0 B w (blk g4 64 #[.int .i64 g1, .int .i64 g2, .slice A1 g3.length c1] :: blk g5 3 #[.int .i64 who1] :: blk g7 27 #[.slice A2 r2.length c2] :: own 3 (.slice A2 r2.length c2) (vI far6) :: blk g8 140 #[.func (.func 119) #[] #[.pointer (some ⟨g4, 0, none⟩)]] :: blk g9 22 #[.slice A9 rounds6.length c9] :: rows 27 3 (.slice A9 rounds6.length c9) hd7 rounds6 :: blk g10 161 #[.func (.func 120) #[] #[.pointer (some ⟨g4, 0, none⟩), .pointer (some ⟨g5, 0, none⟩), .pointer (some ⟨g7, 0, none⟩), .pointer (some ⟨g9, 0, none⟩)]] :: blk g12 3 #[.int .i64 n2] :: defsH Ds11 :: fs) ∧ ((hex_Shortest_J7 n2) far6 rounds6).bind φ2 = some r) ?_ ?_
          · rintro a w ⟨far6, rounds6, A9, c9, hd7, Ds11, hF, hS, hm⟩
            unfold hex_Shortest_J7 at hm
            refine seq_cut (fun a w => ∃ (g16 : Nat) (Ds16 : List Nat), FrD Ds16 100 [pl 2 (.pointer (some ⟨g4, 0, none⟩)), pl 3 (.pointer (some ⟨g5, 0, none⟩)), pl 7 (.pointer (some ⟨g7, 0, none⟩)), pl 8 (.pointer (some ⟨g8, 0, none⟩)), pl 9 (.pointer (some ⟨g9, 0, none⟩)), pl 10 (.pointer (some ⟨g10, 0, none⟩)), pl 12 (.pointer (some ⟨g16, 0, none⟩))] a ∧ Sep w0 B w (blk g4 64 #[.int .i64 g1, .int .i64 g2, .slice A1 g3.length c1] :: blk g5 3 #[.int .i64 who1] :: blk g7 27 #[.slice A2 r2.length c2] :: own 3 (.slice A2 r2.length c2) (vI far6) :: blk g8 140 #[.func (.func 119) #[] #[.pointer (some ⟨g4, 0, none⟩)]] :: blk g9 22 #[.slice A9 rounds6.length c9] :: rows 27 3 (.slice A9 rounds6.length c9) hd7 rounds6 :: blk g10 161 #[.func (.func 120) #[] #[.pointer (some ⟨g4, 0, none⟩), .pointer (some ⟨g5, 0, none⟩), .pointer (some ⟨g7, 0, none⟩), .pointer (some ⟨g9, 0, none⟩)]] :: blk g16 3 #[.int .i64 n2] :: defsH Ds16 :: fs) ∧ ((hex_Shortest_J12 n2 far6 rounds6)).bind φ2 = some r) ?_ ?_
            · rintro a w ⟨g16, Ds16, hF, hS, hm⟩
              unfold hex_Shortest_J12 at hm
              refine oneR ?_
              refine at_run 2 [⟨false, [], vS (Instr.loadAt 3 (.pointer (some ⟨g16, 0, none⟩))), .int .i64 n2⟩] [some (.int .i64 n2), none] [2, 3, 7, 8, 9, 10, 12, 53] [pl 2 (.pointer (some ⟨g4, 0, none⟩)), pl 3 (.pointer (some ⟨g5, 0, none⟩)), pl 7 (.pointer (some ⟨g7, 0, none⟩)), pl 8 (.pointer (some ⟨g8, 0, none⟩)), pl 9 (.pointer (some ⟨g9, 0, none⟩)), pl 10 (.pointer (some ⟨g10, 0, none⟩)), pl 12 (.pointer (some ⟨g16, 0, none⟩)), pl 53 (.int .i64 (w64 (n2 + 1)))] hF hS (by kernel_rfl) (by kernel_rfl) ?_ (fun a w hF hS => ?_)
              · exact obs_cons (ob_load Agg3 (fun _ _ hS => (hS.at_ 8 rfl).cell rfl)) <| obs_nil
              obtain ⟨w, hrun, hS⟩ := run_put (P := Try.prog) (t := 3) (u := .int .i64 (w64 (n2 + 1))) (i := 0) (hS.at_ 8 rfl) hi3 hs3 rfl (Nat.lt_of_lt_of_eq (Nat.lt_of_succ_le (Nat.le_of_ble_eq_true (by kernel_rfl))) rfl)
              refine at_skip hF (by kernel_rfl) hrun ?_
              have hS : Sep w0 B w (blk g4 64 #[.int .i64 g1, .int .i64 g2, .slice A1 g3.length c1] :: blk g5 3 #[.int .i64 who1] :: blk g7 27 #[.slice A2 r2.length c2] :: own 3 (.slice A2 r2.length c2) (vI far6) :: blk g8 140 #[.func (.func 119) #[] #[.pointer (some ⟨g4, 0, none⟩)]] :: blk g9 22 #[.slice A9 rounds6.length c9] :: rows 27 3 (.slice A9 rounds6.length c9) hd7 rounds6 :: blk g10 161 #[.func (.func 120) #[] #[.pointer (some ⟨g4, 0, none⟩), .pointer (some ⟨g5, 0, none⟩), .pointer (some ⟨g7, 0, none⟩), .pointer (some ⟨g9, 0, none⟩)]] :: blk g16 3 #[.int .i64 (w64 (n2 + 1))] :: defsH Ds16 :: fs) := hS
              refine at_end [2, 3, 7, 8, 9, 10, 12] [pl 2 (.pointer (some ⟨g4, 0, none⟩)), pl 3 (.pointer (some ⟨g5, 0, none⟩)), pl 7 (.pointer (some ⟨g7, 0, none⟩)), pl 8 (.pointer (some ⟨g8, 0, none⟩)), pl 9 (.pointer (some ⟨g9, 0, none⟩)), pl 10 (.pointer (some ⟨g10, 0, none⟩)), pl 12 (.pointer (some ⟨g16, 0, none⟩))] hF rfl (by kernel_rfl) (fun hF => ?_)
              refine then_n ?_
              rw [← hφ2] at hm
              exact ⟨(far6, rounds6, (w64 (n2 + 1))), ⟨A9, c9, hd7, g16, Ds16, hF.weak [2, 3, 7, 8, 9, 10, 12] (by kernel_rfl), hS⟩, hm⟩
            · refine reg [⟨false, [], vS (Instr.loadAt 3 (.pointer (some ⟨g12, 0, none⟩))), .int .i64 n2⟩] [some (.int .i64 n2)] [2, 3, 7, 8, 9, 10, 99] [pl 2 (.pointer (some ⟨g4, 0, none⟩)), pl 3 (.pointer (some ⟨g5, 0, none⟩)), pl 7 (.pointer (some ⟨g7, 0, none⟩)), pl 8 (.pointer (some ⟨g8, 0, none⟩)), pl 9 (.pointer (some ⟨g9, 0, none⟩)), pl 10 (.pointer (some ⟨g10, 0, none⟩)), pl 99 (.int .i64 n2)] hF hS Fol (by kernel_rfl) (by kernel_rfl) (by kernel_rfl) ?_ (fun a w hF hS => ?_)
              · exact obs_cons (ob_load Agg3 (fun _ _ hS => (hS.at_ 8 rfl).cell rfl)) <| obs_nil
              refine oneR ?_
              refine at_do (d := 12) (s := vS (Instr.alloc 3 true (.tuple #[]))) (v := .pointer (some ⟨w.heap.size, 0, none⟩)) (w' := w.alloc (.cells #[.int .i64 0] 3)) hF (by kernel_rfl) (by kernel_rfl) (by kernel_rfl) (fun a hF => ?_)
              have hS : Sep w0 B (w.alloc (.cells #[.int .i64 0] 3)) (blk w.heap.size 3 #[.int .i64 0] :: (blk g4 64 #[.int .i64 g1, .int .i64 g2, .slice A1 g3.length c1] :: blk g5 3 #[.int .i64 who1] :: blk g7 27 #[.slice A2 r2.length c2] :: own 3 (.slice A2 r2.length c2) (vI far6) :: blk g8 140 #[.func (.func 119) #[] #[.pointer (some ⟨g4, 0, none⟩)]] :: blk g9 22 #[.slice A9 rounds6.length c9] :: rows 27 3 (.slice A9 rounds6.length c9) hd7 rounds6 :: blk g10 161 #[.func (.func 120) #[] #[.pointer (some ⟨g4, 0, none⟩), .pointer (some ⟨g5, 0, none⟩), .pointer (some ⟨g7, 0, none⟩), .pointer (some ⟨g9, 0, none⟩)]] :: blk g12 3 #[.int .i64 n2] :: defsH Ds11 :: fs)) := hS.box 3 #[.int .i64 0]
              generalize w.heap.size = g15 at hF hS
              generalize w.alloc (.cells #[.int .i64 0] 3) = w at hS ⊢
              obtain ⟨w, hrun, hS⟩ := run_put (P := Try.prog) (t := 3) (u := .int .i64 n2) (i := 0) (hS.at_ 0 rfl) hi3 hs3 rfl (Nat.lt_of_lt_of_eq (Nat.lt_of_succ_le (Nat.le_of_ble_eq_true (by kernel_rfl))) rfl)
              refine at_skip hF (by kernel_rfl) hrun ?_
              have hS : Sep w0 B w (blk g15 3 #[.int .i64 n2] :: blk g4 64 #[.int .i64 g1, .int .i64 g2, .slice A1 g3.length c1] :: blk g5 3 #[.int .i64 who1] :: blk g7 27 #[.slice A2 r2.length c2] :: own 3 (.slice A2 r2.length c2) (vI far6) :: blk g8 140 #[.func (.func 119) #[] #[.pointer (some ⟨g4, 0, none⟩)]] :: blk g9 22 #[.slice A9 rounds6.length c9] :: rows 27 3 (.slice A9 rounds6.length c9) hd7 rounds6 :: blk g10 161 #[.func (.func 120) #[] #[.pointer (some ⟨g4, 0, none⟩), .pointer (some ⟨g5, 0, none⟩), .pointer (some ⟨g7, 0, none⟩), .pointer (some ⟨g9, 0, none⟩)]] :: blk g12 3 #[.int .i64 n2] :: defsH Ds11 :: fs) := hS
              refine at_end [2, 3, 7, 8, 9, 10, 12] [pl 2 (.pointer (some ⟨g4, 0, none⟩)), pl 3 (.pointer (some ⟨g5, 0, none⟩)), pl 7 (.pointer (some ⟨g7, 0, none⟩)), pl 8 (.pointer (some ⟨g8, 0, none⟩)), pl 9 (.pointer (some ⟨g9, 0, none⟩)), pl 10 (.pointer (some ⟨g10, 0, none⟩)), pl 12 (.pointer (some ⟨g15, 0, none⟩))] hF rfl (by kernel_rfl) (fun hF => ?_)
              refine then_n ?_
              have hS := hS.pickN 11 [1, 2, 3, 4, 5, 6, 7, 8, 0, 10] (by decide)
              exact ⟨g15, Ds11, hF.weak [2, 3, 7, 8, 9, 10, 12] (by kernel_rfl), hS, hm⟩
          · refine wpIn_block ?_
            refine reg [] [] [2, 3, 7, 8, 9, 10, 12, 13] [pl 2 (.pointer (some ⟨g4, 0, none⟩)), pl 3 (.pointer (some ⟨g5, 0, none⟩)), pl 7 (.pointer (some ⟨g7, 0, none⟩)), pl 8 (.pointer (some ⟨g8, 0, none⟩)), pl 9 (.pointer (some ⟨g9, 0, none⟩)), pl 10 (.pointer (some ⟨g10, 0, none⟩)), pl 12 (.pointer (some ⟨g12, 0, none⟩)), pl 13 (.int .i64 0)] hF hS Fol (by kernel_rfl) (by kernel_rfl) (by kernel_rfl) ?_ (fun a w hF hS => ?_)
            · exact obs_nil
            refine wpIn_block ?_
            refine wp_loop_model (S := (List Int × List (List Int) × Int)) (R := (Fl (List Int × List (List Int)) (Int × Int))) (hex_Shortest_L3 g1 g2 g3 who1 r2 n2) (fun x => ((hex_Shortest_K3 n2) x).bind φ2) r (fun (x : (List Int × List (List Int) × Int)) a w => ∃ (A8 : Option Addr) (c8 : Nat) (hd6 : List Hd) (Ds9 : List Nat), FrD Ds9 100 [pl 2 (.pointer (some ⟨g4, 0, none⟩)), pl 3 (.pointer (some ⟨g5, 0, none⟩)), pl 7 (.pointer (some ⟨g7, 0, none⟩)), pl 8 (.pointer (some ⟨g8, 0, none⟩)), pl 9 (.pointer (some ⟨g9, 0, none⟩)), pl 10 (.pointer (some ⟨g10, 0, none⟩)), pl 12 (.pointer (some ⟨g12, 0, none⟩)), pl 13 (.int .i64 x.2.2)] a ∧ Sep w0 B w (blk g4 64 #[.int .i64 g1, .int .i64 g2, .slice A1 g3.length c1] :: blk g5 3 #[.int .i64 who1] :: blk g7 27 #[.slice A2 r2.length c2] :: own 3 (.slice A2 r2.length c2) (vI x.1) :: blk g8 140 #[.func (.func 119) #[] #[.pointer (some ⟨g4, 0, none⟩)]] :: blk g9 22 #[.slice A8 x.2.1.length c8] :: rows 27 3 (.slice A8 x.2.1.length c8) hd6 x.2.1 :: blk g10 161 #[.func (.func 120) #[] #[.pointer (some ⟨g4, 0, none⟩), .pointer (some ⟨g5, 0, none⟩), .pointer (some ⟨g7, 0, none⟩), .pointer (some ⟨g9, 0, none⟩)]] :: blk g12 3 #[.int .i64 n2] :: defsH Ds9 :: fs)) (assoc_b hm) ⟨A7, c7, hd5, Ds7, hF.weak [2, 3, 7, 8, 9, 10, 12, 13] (by kernel_rfl), hS⟩ ?_
            clear hF hS hm
            rintro nn3 ⟨far5, rounds5, i1⟩ a w ⟨A8, c8, hd6, Ds9, hF, hS⟩ hm
            generalize hφ3 : stK (hex_Shortest_L3 g1 g2 g3 who1 r2 n2) nn3 (fun x => ((hex_Shortest_K3 n2) x).bind φ2) = φ3 at hm
            unfold hex_Shortest_L3 at hm
            dsimp only at hF hS hm
            refine seq_cut (fun a w => ∃ (Ds10 : List Nat), FrD Ds10 100 [pl 2 (.pointer (some ⟨g4, 0, none⟩)), pl 3 (.pointer (some ⟨g5, 0, none⟩)), pl 7 (.pointer (some ⟨g7, 0, none⟩)), pl 8 (.pointer (some ⟨g8, 0, none⟩)), pl 9 (.pointer (some ⟨g9, 0, none⟩)), pl 10 (.pointer (some ⟨g10, 0, none⟩)), pl 12 (.pointer (some ⟨g12, 0, none⟩)), pl 13 (.int .i64 i1)] a ∧ Sep w0 B w (blk g4 64 #[.int .i64 g1, .int .i64 g2, .slice A1 g3.length c1] :: blk g5 3 #[.int .i64 who1] :: blk g7 27 #[.slice A2 r2.length c2] :: own 3 (.slice A2 r2.length c2) (vI far5) :: blk g8 140 #[.func (.func 119) #[] #[.pointer (some ⟨g4, 0, none⟩)]] :: blk g9 22 #[.slice A8 rounds5.length c8] :: rows 27 3 (.slice A8 rounds5.length c8) hd6 rounds5 :: blk g10 161 #[.func (.func 120) #[] #[.pointer (some ⟨g4, 0, none⟩), .pointer (some ⟨g5, 0, none⟩), .pointer (some ⟨g7, 0, none⟩), .pointer (some ⟨g9, 0, none⟩)]] :: blk g12 3 #[.int .i64 n2] :: defsH Ds10 :: fs) ∧ ((hex_Shortest_J8 g1 g2 g3 who1 r2 n2 far5 rounds5 i1)).bind φ3 = some r) ?_ ?_
            · rintro a w ⟨Ds10, hF, hS, hm⟩
              unfold hex_Shortest_J8 at hm
              refine seq_cut (fun a w => ∃ (far7 : List Int) (rounds7 : List (List Int)) (A10 : Option Addr) (c10 : Nat) (hd8 : List Hd) (Ds12 : List Nat), FrD Ds12 100 [pl 2 (.pointer (some ⟨g4, 0, none⟩)), pl 3 (.pointer (some ⟨g5, 0, none⟩)), pl 7 (.pointer (some ⟨g7, 0, none⟩)), pl 8 (.pointer (some ⟨g8, 0, none⟩)), pl 9 (.pointer (some ⟨g9, 0, none⟩)), pl 10 (.pointer (some ⟨g10, 0, none⟩)), pl 12 (.pointer (some ⟨g12, 0, none⟩)), pl 13 (.int .i64 i1)] a ∧ Sep w0 B w (blk g4 64 #[.int .i64 g1, .int .i64 g2, .slice A1 g3.length c1] :: blk g5 3 #[.int .i64 who1] :: blk g7 27 #[.slice A2 r2.length c2] :: own 3 (.slice A2 r2.length c2) (vI far7) :: blk g8 140 #[.func (.func 119) #[] #[.pointer (some ⟨g4, 0, none⟩)]] :: blk g9 22 #[.slice A10 rounds7.length c10] :: rows 27 3 (.slice A10 rounds7.length c10) hd8 rounds7 :: blk g10 161 #[.func (.func 120) #[] #[.pointer (some ⟨g4, 0, none⟩), .pointer (some ⟨g5, 0, none⟩), .pointer (some ⟨g7, 0, none⟩), .pointer (some ⟨g9, 0, none⟩)]] :: blk g12 3 #[.int .i64 n2] :: defsH Ds12 :: fs) ∧ ((hex_Shortest_J9 i1) far7 rounds7).bind φ3 = some r) ?_ ?_
              · rintro a w ⟨far7, rounds7, A10, c10, hd8, Ds12, hF, hS, hm⟩
                unfold hex_Shortest_J9 at hm
                refine reg1 [] [] [2, 3, 7, 8, 9, 10, 12, 13] [pl 2 (.pointer (some ⟨g4, 0, none⟩)), pl 3 (.pointer (some ⟨g5, 0, none⟩)), pl 7 (.pointer (some ⟨g7, 0, none⟩)), pl 8 (.pointer (some ⟨g8, 0, none⟩)), pl 9 (.pointer (some ⟨g9, 0, none⟩)), pl 10 (.pointer (some ⟨g10, 0, none⟩)), pl 12 (.pointer (some ⟨g12, 0, none⟩)), pl 13 (.int .i64 (w64 (i1 + 1)))] hF hS Fol (by kernel_rfl) (by kernel_rfl) (by kernel_rfl) ?_ (fun a w hF hS => ?_)
                · exact obs_nil
                refine then_n ?_
                rw [← hφ3] at hm
                exact ⟨(far7, rounds7, (w64 (i1 + 1))), ⟨A10, c10, hd8, Ds12, hF.weak [2, 3, 7, 8, 9, 10, 12, 13] (by kernel_rfl), hS⟩, hm⟩
              · refine wpIn_block ?_
                obtain ⟨hp2, hm⟩ := asrt_b hm
                obtain ⟨hp3, hm⟩ := asrt_b hm
                have hb2 := rowb (n := rounds5.length) (hS.at_ 6 rfl).lenR hp2
                refine reg [⟨false, [], vS (Instr.loadAt 22 (.pointer (some ⟨g9, 0, none⟩))), .slice A8 rounds5.length c8⟩, ⟨false, [], vS (Instr.loadAt 3 (.pointer (some ⟨g12, 0, none⟩))), .int .i64 n2⟩, ⟨true, [], vS (Instr.indexAt 22 (.slice A8 rounds5.length c8) (.int .i64 n2)), .pointer (some (sAddr A8 n2))⟩, ⟨false, [], vS (Instr.loadAt 27 (.pointer (some (sAddr A8 n2)))), .slice (hdA hd6 n2) ((geti2 rounds5 n2).length) (hdC hd6 n2)⟩, ⟨true, [], vS (Instr.indexAt 27 (.slice (hdA hd6 n2) ((geti2 rounds5 n2).length) (hdC hd6 n2)) (.int .i64 i1)), .pointer (some (sAddr (hdA hd6 n2) i1))⟩, ⟨false, [], vS (Instr.loadAt 3 (.pointer (some (sAddr (hdA hd6 n2) i1)))), .int .i64 (geti (geti2 rounds5 n2) i1)⟩] [some (.slice A8 rounds5.length c8), some (.int .i64 n2), some (.pointer (some (sAddr A8 n2))), some (.slice (hdA hd6 n2) ((geti2 rounds5 n2).length) (hdC hd6 n2)), none, some (.pointer (some (sAddr (hdA hd6 n2) i1))), some (.int .i64 (geti (geti2 rounds5 n2) i1)), none] [2, 3, 7, 8, 9, 10, 12, 13, 14] [pl 2 (.pointer (some ⟨g4, 0, none⟩)), pl 3 (.pointer (some ⟨g5, 0, none⟩)), pl 7 (.pointer (some ⟨g7, 0, none⟩)), pl 8 (.pointer (some ⟨g8, 0, none⟩)), pl 9 (.pointer (some ⟨g9, 0, none⟩)), pl 10 (.pointer (some ⟨g10, 0, none⟩)), pl 12 (.pointer (some ⟨g12, 0, none⟩)), pl 13 (.int .i64 i1), pl 14 (.int .i64 (geti (geti2 rounds5 n2) i1))] hF hS Fol (by kernel_rfl) (by kernel_rfl) (by kernel_rfl) ?_ (fun a w hF hS => ?_)
                · exact obs_cons (ob_load Agg22 (fun _ _ hS => (hS.at_ 5 rfl).cell rfl)) <| obs_cons (ob_load Agg3 (fun _ _ hS => (hS.at_ 8 rfl).cell rfl)) <| obs_cons (ob_ixRn Und22 hi27 hs27 (hS.at_ 6 rfl).rdRows (hS.at_ 6 rfl).lenR (fun _ => hp2)) <| obs_cons (ob_getR Agg27 (fun _ hS => ⟨_, (hS.at_ 6 rfl).rdRows⟩) (fun _ => hb2)) <| obs_cons (ob_ix1 (f := (Value.int .i64)) (m := (geti2 rounds5 n2)) Und27 hi3 hs3 ((hS.at_ 6 rfl).rdRows.row _ hb2).1 rfl (fun _ => hp3)) <| obs_cons (ob_get1 (n := (geti2 rounds5 n2).length) (m := (geti2 rounds5 n2)) (Value.int .i64) (0 : Int) Agg3 (fun _ hS => ⟨_, ((hS.at_ 6 rfl).rdRows.row _ hb2).1⟩) (fun _ hS => rfl) (fun _ => hp3)) <| obs_nil
                refine seq_cut (fun a w => ∃ (Ds13 : List Nat), FrD Ds13 100 [pl 2 (.pointer (some ⟨g4, 0, none⟩)), pl 3 (.pointer (some ⟨g5, 0, none⟩)), pl 7 (.pointer (some ⟨g7, 0, none⟩)), pl 8 (.pointer (some ⟨g8, 0, none⟩)), pl 9 (.pointer (some ⟨g9, 0, none⟩)), pl 10 (.pointer (some ⟨g10, 0, none⟩)), pl 12 (.pointer (some ⟨g12, 0, none⟩)), pl 13 (.int .i64 i1), pl 14 (.int .i64 (geti (geti2 rounds5 n2) i1))] a ∧ Sep w0 B w (blk g4 64 #[.int .i64 g1, .int .i64 g2, .slice A1 g3.length c1] :: blk g5 3 #[.int .i64 who1] :: blk g7 27 #[.slice A2 r2.length c2] :: own 3 (.slice A2 r2.length c2) (vI far5) :: blk g8 140 #[.func (.func 119) #[] #[.pointer (some ⟨g4, 0, none⟩)]] :: blk g9 22 #[.slice A8 rounds5.length c8] :: rows 27 3 (.slice A8 rounds5.length c8) hd6 rounds5 :: blk g10 161 #[.func (.func 120) #[] #[.pointer (some ⟨g4, 0, none⟩), .pointer (some ⟨g5, 0, none⟩), .pointer (some ⟨g7, 0, none⟩), .pointer (some ⟨g9, 0, none⟩)]] :: blk g12 3 #[.int .i64 n2] :: defsH Ds13 :: fs) ∧ ((hex_Shortest_J10 g1 g2 g3 who1 n2 far5 rounds5 i1)).bind φ3 = some r) ?_ ?_
                · rintro a w ⟨Ds13, hF, hS, hm⟩
                  unfold hex_Shortest_J10 at hm
                  refine seq_cut (fun a w => ∃ (Ds14 : List Nat), FrD Ds14 100 [pl 2 (.pointer (some ⟨g4, 0, none⟩)), pl 3 (.pointer (some ⟨g5, 0, none⟩)), pl 7 (.pointer (some ⟨g7, 0, none⟩)), pl 8 (.pointer (some ⟨g8, 0, none⟩)), pl 9 (.pointer (some ⟨g9, 0, none⟩)), pl 10 (.pointer (some ⟨g10, 0, none⟩)), pl 12 (.pointer (some ⟨g12, 0, none⟩)), pl 13 (.int .i64 i1), pl 14 (.int .i64 (geti (geti2 rounds5 n2) i1))] a ∧ Sep w0 B w (blk g4 64 #[.int .i64 g1, .int .i64 g2, .slice A1 g3.length c1] :: blk g5 3 #[.int .i64 who1] :: blk g7 27 #[.slice A2 r2.length c2] :: own 3 (.slice A2 r2.length c2) (vI far5) :: blk g8 140 #[.func (.func 119) #[] #[.pointer (some ⟨g4, 0, none⟩)]] :: blk g9 22 #[.slice A8 rounds5.length c8] :: rows 27 3 (.slice A8 rounds5.length c8) hd6 rounds5 :: blk g10 161 #[.func (.func 120) #[] #[.pointer (some ⟨g4, 0, none⟩), .pointer (some ⟨g5, 0, none⟩), .pointer (some ⟨g7, 0, none⟩), .pointer (some ⟨g9, 0, none⟩)]] :: blk g12 3 #[.int .i64 n2] :: defsH Ds14 :: fs) ∧ ((hex_Shortest_J11 g1 g2 g3 who1 n2 far5 rounds5 i1)).bind φ3 = some r) ?_ ?_
                  · rintro a w ⟨Ds14, hF, hS, hm⟩
                    unfold hex_Shortest_J11 at hm
                    refine seqR ?_
                    obtain ⟨r7, hr7, hm⟩ := call_b hm
                    refine at_run 3 [⟨false, [], vS (Instr.loadAt 3 (.pointer (some ⟨g4, 0, none⟩))), .int .i64 g1⟩] [none, some (.int .i64 g1), none] [2, 3, 7, 8, 9, 10, 12, 13, 87, 88] [pl 2 (.pointer (some ⟨g4, 0, none⟩)), pl 3 (.pointer (some ⟨g5, 0, none⟩)), pl 7 (.pointer (some ⟨g7, 0, none⟩)), pl 8 (.pointer (some ⟨g8, 0, none⟩)), pl 9 (.pointer (some ⟨g9, 0, none⟩)), pl 10 (.pointer (some ⟨g10, 0, none⟩)), pl 12 (.pointer (some ⟨g12, 0, none⟩)), pl 13 (.int .i64 i1), pl 87 (.int .i64 g1), pl 88 (.int .i64 (geti (geti2 rounds5 n2) i1))] hF hS (by kernel_rfl) (by kernel_rfl) ?_ (fun a w hF hS => ?_)
                    · exact obs_cons (ob_load Agg3 (fun _ _ hS => (hS.at_ 0 rfl).cell rfl)) <| obs_nil
                    refine at_call (f := 122) (args := #[.int .i64 g1, .int .i64 (geti (geti2 rounds5 n2) i1)]) (d := 89) hF (by kernel_rfl) (by kernel_rfl) Try.func122 (by kernel_rfl) rfl (hex_near_w hr7 hS ) (fun v a w hR hF => ?_)
                    clear hS
                    obtain ⟨g13, g14, rfl, hS⟩ := hR
                    have hS : Sep w0 B w (blk g13 3 #[.int .i64 r7.1] :: blk g14 3 #[.int .i64 r7.2] :: blk g4 64 #[.int .i64 g1, .int .i64 g2, .slice A1 g3.length c1] :: blk g5 3 #[.int .i64 who1] :: blk g7 27 #[.slice A2 r2.length c2] :: own 3 (.slice A2 r2.length c2) (vI far5) :: blk g8 140 #[.func (.func 119) #[] #[.pointer (some ⟨g4, 0, none⟩)]] :: blk g9 22 #[.slice A8 rounds5.length c8] :: rows 27 3 (.slice A8 rounds5.length c8) hd6 rounds5 :: blk g10 161 #[.func (.func 120) #[] #[.pointer (some ⟨g4, 0, none⟩), .pointer (some ⟨g5, 0, none⟩), .pointer (some ⟨g7, 0, none⟩), .pointer (some ⟨g9, 0, none⟩)]] :: blk g12 3 #[.int .i64 n2] :: defsH Ds14 :: fs) := hS
                    refine at_end [2, 3, 7, 8, 9, 10, 12, 13, 89] [pl 2 (.pointer (some ⟨g4, 0, none⟩)), pl 3 (.pointer (some ⟨g5, 0, none⟩)), pl 7 (.pointer (some ⟨g7, 0, none⟩)), pl 8 (.pointer (some ⟨g8, 0, none⟩)), pl 9 (.pointer (some ⟨g9, 0, none⟩)), pl 10 (.pointer (some ⟨g10, 0, none⟩)), pl 12 (.pointer (some ⟨g12, 0, none⟩)), pl 13 (.int .i64 i1), pl 89 (.func (.func 188) #[] #[.pointer (some ⟨g13, 0, none⟩), .pointer (some ⟨g14, 0, none⟩)])] hF rfl (by kernel_rfl) (fun hF => ?_)
                    refine then_n ?_
                    refine wpIn_block ?_
                    have hS := hS.pickN 12 [5, 7, 8, 11, 2, 3, 4, 6, 9, 10, 0, 1] (by decide)
                    obtain ⟨y1, hy1, hm⟩ := call_b hm
                    refine range_out (ρ := [pl 2 (.pointer (some ⟨g4, 0, none⟩)), pl 3 (.pointer (some ⟨g5, 0, none⟩)), pl 7 (.pointer (some ⟨g7, 0, none⟩)), pl 8 (.pointer (some ⟨g8, 0, none⟩)), pl 9 (.pointer (some ⟨g9, 0, none⟩)), pl 10 (.pointer (some ⟨g10, 0, none⟩)), pl 12 (.pointer (some ⟨g12, 0, none⟩)), pl 13 (.int .i64 i1), pl 89 (.func (.func 188) #[] #[.pointer (some ⟨g13, 0, none⟩), .pointer (some ⟨g14, 0, none⟩)])]) (lb := [.pointer (some ⟨g13, 0, none⟩), .pointer (some ⟨g14, 0, none⟩)]) (y := y1) (enc := (fun (x : Int) => #[.int .i64 x])) (qs := [own 3 (.slice A2 r2.length c2) (vI far5), blk g9 22 #[.slice A8 rounds5.length c8], rows 27 3 (.slice A8 rounds5.length c8) hd6 rounds5]) (fun (x : Int) => [(90, .int .i64 x)]) (fun (s : (List Int × List (List Int))) qs => ∃ (A11 : Option Addr) (c11 : Nat) (hd9 : List Hd), qs = [own 3 (.slice A2 r2.length c2) (vI s.1), blk g9 22 #[.slice A11 s.2.length c11], rows 27 3 (.slice A11 s.2.length c11) hd9 s.2]) (fun (_ : Unit) _ _ => False) (fun x s => (hex_Shortest_L4 g1 g2 g3 who1 n2) (x, s)) (far5, rounds5) (hF.weak [2, 3, 7, 8, 9, 10, 12, 13, 89] (by kernel_rfl)) hS (by kernel_rfl) Try.func188 (by kernel_rfl) rfl (by kernel_rfl) (by intro x; simp) (fun _ => rfl) (fun x p hp => ?_) ⟨A8, c8, hd6, rfl⟩ ?_ ?_ ?_ ?_
                    · simp only [List.mem_cons, List.not_mem_nil, or_false] at hp
                      rcases hp with rfl <;> (dsimp only; decide)
                    · intro lr1 D1 RS w hY hS
                      exact Calls.mono (hex_near_1_w hy1 (hS.pickN 10 [0, 8, 9, 1, 2, 3, 4, 5, 6, 7] (by decide)) (YieldC.perm (blk g13 3 #[.int .i64 r7.1] :: blk g14 3 #[.int .i64 r7.2] :: defsH (D1 :: Ds14) :: blk g4 64 #[.int .i64 g1, .int .i64 g2, .slice A1 g3.length c1] :: blk g5 3 #[.int .i64 who1] :: blk g7 27 #[.slice A2 r2.length c2] :: blk g8 140 #[.func (.func 119) #[] #[.pointer (some ⟨g4, 0, none⟩)]] :: blk g10 161 #[.func (.func 120) #[] #[.pointer (some ⟨g4, 0, none⟩), .pointer (some ⟨g5, 0, none⟩), .pointer (some ⟨g7, 0, none⟩), .pointer (some ⟨g9, 0, none⟩)]] :: blk g12 3 #[.int .i64 n2] :: fs) hY (fun hS => hS.pickN 10 [0, 3, 4, 5, 6, 7, 8, 9, 1, 2] (by decide)) (fun hS => hS.pickN 10 [0, 8, 9, 1, 2, 3, 4, 5, 6, 7] (by decide))) ) (fun e w' h => by obtain ⟨_, rfl, _, hS⟩ := h; exact hS.pickN 10 [0, 3, 4, 5, 6, 7, 8, 9, 1, 2] (by decide))
                    · rintro lr1 D1 rr1 x1 ⟨far8, rounds8⟩ r qs us1 a w hrr1 hm hI hF hS
                      obtain ⟨A11, c11, hd9, rfl⟩ := hI
                      replace hm := start_b hm
                      unfold hex_Shortest_L4 at hm
                      dsimp only at hm hF hS
                      have hF : Fr 100 [pl 2 (.pointer (some ⟨g4, 0, none⟩)), pl 3 (.pointer (some ⟨g5, 0, none⟩)), pl 7 (.pointer (some ⟨g7, 0, none⟩)), pl 8 (.pointer (some ⟨g8, 0, none⟩)), pl 9 (.pointer (some ⟨g9, 0, none⟩)), pl 10 (.pointer (some ⟨g10, 0, none⟩)), pl 12 (.pointer (some ⟨g12, 0, none⟩)), pl 13 (.int .i64 i1), pl 89 (.func (.func 188) #[] #[.pointer (some ⟨g13, 0, none⟩), .pointer (some ⟨g14, 0, none⟩)]), pl 90 (.int .i64 x1)] a := hF.weak [2, 3, 7, 8, 9, 10, 12, 13, 89, 90] (by kernel_rfl)
                      have hS : Sep w0 B w (recH lr1 rr1 :: own 3 (.slice A2 r2.length c2) (vI far8) :: blk g9 22 #[.slice A11 rounds8.length c11] :: rows 27 3 (.slice A11 rounds8.length c11) hd9 rounds8 :: defsH (D1 :: Ds14) :: blk g4 64 #[.int .i64 g1, .int .i64 g2, .slice A1 g3.length c1] :: blk g5 3 #[.int .i64 who1] :: blk g7 27 #[.slice A2 r2.length c2] :: blk g8 140 #[.func (.func 119) #[] #[.pointer (some ⟨g4, 0, none⟩)]] :: blk g10 161 #[.func (.func 120) #[] #[.pointer (some ⟨g4, 0, none⟩), .pointer (some ⟨g5, 0, none⟩), .pointer (some ⟨g7, 0, none⟩), .pointer (some ⟨g9, 0, none⟩)]] :: blk g12 3 #[.int .i64 n2] :: blk g13 3 #[.int .i64 r7.1] :: blk g14 3 #[.int .i64 r7.2] :: (fs ++ us1)) := hS
                      refine reg1 [] [] [8, 10, 12, 15] [pl 8 (.pointer (some ⟨g8, 0, none⟩)), pl 10 (.pointer (some ⟨g10, 0, none⟩)), pl 12 (.pointer (some ⟨g12, 0, none⟩)), pl 15 (.int .i64 x1)] hF hS Fol (by kernel_rfl) (by kernel_rfl) (by kernel_rfl) ?_ (fun a w hF hS => ?_)
                      · exact obs_nil
                      refine then_n ?_
                      refine begin_r hS hrr1 (fun w hS => ?_)
                      have hS : Sep w0 B w (recH lr1 { rr1 with state := .busy } :: own 3 (.slice A2 r2.length c2) (vI far8) :: blk g9 22 #[.slice A11 rounds8.length c11] :: rows 27 3 (.slice A11 rounds8.length c11) hd9 rounds8 :: defsH (D1 :: Ds14) :: blk g4 64 #[.int .i64 g1, .int .i64 g2, .slice A1 g3.length c1] :: blk g5 3 #[.int .i64 who1] :: blk g7 27 #[.slice A2 r2.length c2] :: blk g8 140 #[.func (.func 119) #[] #[.pointer (some ⟨g4, 0, none⟩)]] :: blk g10 161 #[.func (.func 120) #[] #[.pointer (some ⟨g4, 0, none⟩), .pointer (some ⟨g5, 0, none⟩), .pointer (some ⟨g7, 0, none⟩), .pointer (some ⟨g9, 0, none⟩)]] :: blk g12 3 #[.int .i64 n2] :: blk g13 3 #[.int .i64 r7.1] :: blk g14 3 #[.int .i64 r7.2] :: (fs ++ us1)) := hS
                      refine wpIn_block ?_
                      obtain ⟨r8, hr8, hm⟩ := call_b hm
                      obtain ⟨r9, hr9, hm⟩ := call_b hm
                      refine regMix5 [0, 1, 2, 3, 4] [7] 3 #[true, true, true, true, true, false, false, false] [⟨false, [], vS (Instr.loadAt 161 (.pointer (some ⟨g10, 0, none⟩))), .func (.func 120) #[] #[.pointer (some ⟨g4, 0, none⟩), .pointer (some ⟨g5, 0, none⟩), .pointer (some ⟨g7, 0, none⟩), .pointer (some ⟨g9, 0, none⟩)]⟩, ⟨false, [], vS (Instr.loadAt 3 (.pointer (some ⟨g12, 0, none⟩))), .int .i64 n2⟩, ⟨false, [], vS (Instr.loadAt 140 (.pointer (some ⟨g8, 0, none⟩))), .func (.func 119) #[] #[.pointer (some ⟨g4, 0, none⟩)]⟩] [some (.func (.func 120) #[] #[.pointer (some ⟨g4, 0, none⟩), .pointer (some ⟨g5, 0, none⟩), .pointer (some ⟨g7, 0, none⟩), .pointer (some ⟨g9, 0, none⟩)]), none, some (.int .i64 n2), some (.func (.func 119) #[] #[.pointer (some ⟨g4, 0, none⟩)]), none] [91, 92, 93, 94, 95] [pl 91 (.func (.func 120) #[] #[.pointer (some ⟨g4, 0, none⟩), .pointer (some ⟨g5, 0, none⟩), .pointer (some ⟨g7, 0, none⟩), .pointer (some ⟨g9, 0, none⟩)]), pl 92 (.int .i64 x1), pl 93 (.int .i64 n2), pl 94 (.func (.func 119) #[] #[.pointer (some ⟨g4, 0, none⟩)]), pl 95 (.int .i64 x1)] hF hS Fol (by kernel_rfl) (by kernel_rfl) (by kernel_rfl) (by kernel_rfl) ?_ (fun a w hF hS => ?_)
                      · exact obs_cons (ob_load Agg161 (fun _ _ hS => (hS.at_ 9 rfl).cell rfl)) <| obs_cons (ob_load Agg3 (fun _ _ hS => (hS.at_ 10 rfl).cell rfl)) <| obs_cons (ob_load Agg140 (fun _ _ hS => (hS.at_ 8 rfl).cell rfl)) <| obs_nil
                      refine any_step [5] (by kernel_rfl) rfl ?_
                      refine (all_cons ?_ all_nil)
                      · refine any_op (listed' := #[true, true, true, true, true, true, false, false]) (by kernel_rfl) (by kernel_rfl) ?_
                        refine at_run 1 [⟨false, [], callFunc 119 #[.int .i64 x1, .pointer (some ⟨g4, 0, none⟩)], .int .i64 r8⟩] [some (.int .i64 r8)] [91, 92, 93, 96] [pl 91 (.func (.func 120) #[] #[.pointer (some ⟨g4, 0, none⟩), .pointer (some ⟨g5, 0, none⟩), .pointer (some ⟨g7, 0, none⟩), .pointer (some ⟨g9, 0, none⟩)]), pl 92 (.int .i64 x1), pl 93 (.int .i64 n2), pl 96 (.int .i64 r8)] hF hS (by kernel_rfl) (by kernel_rfl) ?_ (fun a w hF hS => ?_)
                        · exact obs_cons (ob_call Try.func119 (by kernel_rfl) rfl (fun _ _ hS => quiet_pick hS 13 [5, 0, 1, 2, 3, 4, 6, 7, 8, 9, 10, 11, 12] (by decide) [1, 2, 3, 4, 5, 0, 6, 7, 8, 9, 10, 11, 12] (by decide) (qs := (blk g4 64 #[.int .i64 g1, .int .i64 g2, .slice A1 g3.length c1] :: recH lr1 { rr1 with state := .busy } :: own 3 (.slice A2 r2.length c2) (vI far8) :: blk g9 22 #[.slice A11 rounds8.length c11] :: rows 27 3 (.slice A11 rounds8.length c11) hd9 rounds8 :: defsH (D1 :: Ds14) :: blk g5 3 #[.int .i64 who1] :: blk g7 27 #[.slice A2 r2.length c2] :: blk g8 140 #[.func (.func 119) #[] #[.pointer (some ⟨g4, 0, none⟩)]] :: blk g10 161 #[.func (.func 120) #[] #[.pointer (some ⟨g4, 0, none⟩), .pointer (some ⟨g5, 0, none⟩), .pointer (some ⟨g7, 0, none⟩), .pointer (some ⟨g9, 0, none⟩)]] :: blk g12 3 #[.int .i64 n2] :: blk g13 3 #[.int .i64 r7.1] :: blk g14 3 #[.int .i64 r7.2] :: (fs ++ us1))) rfl (fun hS => hex_Shortest_1_w hr8 hS (fun _ hS => (hr_g3 _ (hS.dropN 12).pre)) _hc_g3 rfl) 13 rfl)) <| obs_nil
                        refine any_fin rfl hS ?_
                        refine any_step [6] (by kernel_rfl) rfl ?_
                        refine (all_cons ?_ all_nil)
                        · refine any_op (listed' := #[true, true, true, true, true, true, true, false]) (by kernel_rfl) (by kernel_rfl) ?_
                          refine at_runW 1 [] [] [91, 92, 97] [pl 91 (.func (.func 120) #[] #[.pointer (some ⟨g4, 0, none⟩), .pointer (some ⟨g5, 0, none⟩), .pointer (some ⟨g7, 0, none⟩), .pointer (some ⟨g9, 0, none⟩)]), pl 92 (.int .i64 x1), pl 97 (.int .i64 (w64 (n2 + r8)))] hF hS (by kernel_rfl) (by kernel_rfl) ?_ (fun a hF => ?_)
                          · exact obs_nil
                          refine any_finI rfl (fun h => h) ?_
                          refine any_step [7] (by kernel_rfl) rfl ?_
                          refine (all_cons ?_ all_nil)
                          · refine any_op (listed' := #[true, true, true, true, true, true, true, true]) (by kernel_rfl) (by kernel_rfl) ?_
                            have hS : Sep w0 B w (blk g4 64 #[.int .i64 g1, .int .i64 g2, .slice A1 g3.length c1] :: blk g5 3 #[.int .i64 who1] :: blk g7 27 #[.slice A2 r2.length c2] :: own 3 (.slice A2 r2.length c2) (vI far8) :: blk g9 22 #[.slice A11 rounds8.length c11] :: rows 27 3 (.slice A11 rounds8.length c11) hd9 rounds8 :: recH lr1 { rr1 with state := .busy } :: defsH (D1 :: Ds14) :: blk g8 140 #[.func (.func 119) #[] #[.pointer (some ⟨g4, 0, none⟩)]] :: blk g10 161 #[.func (.func 120) #[] #[.pointer (some ⟨g4, 0, none⟩), .pointer (some ⟨g5, 0, none⟩), .pointer (some ⟨g7, 0, none⟩), .pointer (some ⟨g9, 0, none⟩)]] :: blk g12 3 #[.int .i64 n2] :: blk g13 3 #[.int .i64 r7.1] :: blk g14 3 #[.int .i64 r7.2] :: (fs ++ us1)) := hS.pickN 13 [5, 6, 7, 1, 2, 3, 0, 4, 8, 9, 10, 11, 12] (by decide)
                            refine at_call (f := 120) (args := #[.int .i64 x1, .int .i64 (w64 (n2 + r8)), .pointer (some ⟨g4, 0, none⟩), .pointer (some ⟨g5, 0, none⟩), .pointer (some ⟨g7, 0, none⟩), .pointer (some ⟨g9, 0, none⟩)]) (d := 98) hF (by kernel_rfl) (by kernel_rfl) Try.func120 (by kernel_rfl) rfl (hex_Shortest_2_w hr9 hS (fun _ hS => (hr_g3 _ (hS.dropN 7).pre)) _hc_g3 rfl) (fun v a w hR hF => ?_)
                            clear hS
                            obtain ⟨A12, c12, hd10, rfl, hS⟩ := hR
                            have hS : Sep w0 B w (blk g4 64 #[.int .i64 g1, .int .i64 g2, .slice A1 g3.length c1] :: blk g5 3 #[.int .i64 who1] :: blk g7 27 #[.slice A2 r2.length c2] :: own 3 (.slice A2 r2.length c2) (vI r9.1) :: blk g9 22 #[.slice A12 r9.2.length c12] :: rows 27 3 (.slice A12 r9.2.length c12) hd10 r9.2 :: recH lr1 { rr1 with state := .busy } :: defsH (D1 :: Ds14) :: blk g8 140 #[.func (.func 119) #[] #[.pointer (some ⟨g4, 0, none⟩)]] :: blk g10 161 #[.func (.func 120) #[] #[.pointer (some ⟨g4, 0, none⟩), .pointer (some ⟨g5, 0, none⟩), .pointer (some ⟨g7, 0, none⟩), .pointer (some ⟨g9, 0, none⟩)]] :: blk g12 3 #[.int .i64 n2] :: blk g13 3 #[.int .i64 r7.1] :: blk g14 3 #[.int .i64 r7.2] :: (fs ++ us1)) := hS
                            refine any_finE rfl (by decide) ?_
                            refine any_end (by kernel_rfl) ?_
                            refine np_n ?_
                            refine block_n ?_
                            have hS := hS.pickN 13 [6, 3, 4, 5, 7, 0, 1, 2, 8, 9, 10, 11, 12] (by decide)
                            have hm : some (.next (r9.1, r9.2)) = some r := hm
                            obtain rfl := Option.some.inj hm
                            exact ⟨_, _, rfl, ⟨A12, c12, hd10, rfl⟩, hS⟩
                    · rintro ⟨far8, rounds8⟩ D1 qs a w hy1e hI hF hS
                      obtain ⟨A11, c11, hd9, rfl⟩ := hI
                      rw [hy1e] at hm
                      unfold hex_Shortest_K4 at hm
                      dsimp only at hm hF hS
                      have hF : FrD (D1 :: Ds14) 100 [pl 2 (.pointer (some ⟨g4, 0, none⟩)), pl 3 (.pointer (some ⟨g5, 0, none⟩)), pl 7 (.pointer (some ⟨g7, 0, none⟩)), pl 8 (.pointer (some ⟨g8, 0, none⟩)), pl 9 (.pointer (some ⟨g9, 0, none⟩)), pl 10 (.pointer (some ⟨g10, 0, none⟩)), pl 12 (.pointer (some ⟨g12, 0, none⟩)), pl 13 (.int .i64 i1), pl 89 (.func (.func 188) #[] #[.pointer (some ⟨g13, 0, none⟩), .pointer (some ⟨g14, 0, none⟩)])] a := hF
                      have hS : Sep w0 B w (own 3 (.slice A2 r2.length c2) (vI far8) :: blk g9 22 #[.slice A11 rounds8.length c11] :: rows 27 3 (.slice A11 rounds8.length c11) hd9 rounds8 :: defsH (D1 :: Ds14) :: blk g4 64 #[.int .i64 g1, .int .i64 g2, .slice A1 g3.length c1] :: blk g5 3 #[.int .i64 who1] :: blk g7 27 #[.slice A2 r2.length c2] :: blk g8 140 #[.func (.func 119) #[] #[.pointer (some ⟨g4, 0, none⟩)]] :: blk g10 161 #[.func (.func 120) #[] #[.pointer (some ⟨g4, 0, none⟩), .pointer (some ⟨g5, 0, none⟩), .pointer (some ⟨g7, 0, none⟩), .pointer (some ⟨g9, 0, none⟩)]] :: blk g12 3 #[.int .i64 n2] :: blk g13 3 #[.int .i64 r7.1] :: blk g14 3 #[.int .i64 r7.2] :: fs) := hS
                      refine block_n ?_
                      refine block_n ?_
                      refine then_n ?_
                      have hS := hS.pickN 12 [4, 5, 6, 0, 7, 1, 2, 8, 9, 3] (by decide)
                      exact ⟨far8, rounds8, A11, c11, hd9, (D1 :: Ds14), hF.weak [2, 3, 7, 8, 9, 10, 12, 13] (by kernel_rfl), hS, hm⟩
                    · intro x c D1 qs a w _ h
                      exact h.elim
                  · obtain ⟨r6, hr6, hm⟩ := call_b hm
                    refine reg [⟨false, [], vS (Instr.loadAt 3 (.pointer (some ⟨g4, 0, none⟩))), .int .i64 g1⟩, ⟨false, [], vS (Instr.loadAt 3 (.pointer (some ⟨g5, 0, none⟩))), .int .i64 who1⟩, ⟨false, [], callFunc 121 #[.int .i64 g1, .int .i64 who1, .int .i64 (geti (geti2 rounds5 n2) i1)], .int .i64 r6⟩, ⟨false, [], vS (Instr.loadAt 3 (.pointer (some ⟨g4, 0, none⟩))), .int .i64 g1⟩] [none, some (.int .i64 g1), some (.int .i64 who1), none, some (.int .i64 r6), none, some (.int .i64 g1), none, none] [2, 3, 7, 8, 9, 10, 12, 13, 14, 84] [pl 2 (.pointer (some ⟨g4, 0, none⟩)), pl 3 (.pointer (some ⟨g5, 0, none⟩)), pl 7 (.pointer (some ⟨g7, 0, none⟩)), pl 8 (.pointer (some ⟨g8, 0, none⟩)), pl 9 (.pointer (some ⟨g9, 0, none⟩)), pl 10 (.pointer (some ⟨g10, 0, none⟩)), pl 12 (.pointer (some ⟨g12, 0, none⟩)), pl 13 (.int .i64 i1), pl 14 (.int .i64 (geti (geti2 rounds5 n2) i1)), pl 84 (.bool (r6 == (w64 (g1 - 1))))] hF hS Fol (by kernel_rfl) (by kernel_rfl) (by kernel_rfl) ?_ (fun a w hF hS => ?_)
                    · exact obs_cons (ob_load Agg3 (fun _ _ hS => (hS.at_ 0 rfl).cell rfl)) <| obs_cons (ob_load Agg3 (fun _ _ hS => (hS.at_ 1 rfl).cell rfl)) <| obs_cons (ob_call Try.func121 (by kernel_rfl) rfl (fun _ _ hS => hex_along_w hr6 hS )) <| obs_cons (ob_load Agg3 (fun _ _ hS => (hS.at_ 0 rfl).cell rfl)) <| obs_nil
                    refine cond_ev (t := 84) (b := (r6 == (w64 (g1 - 1)))) hF (by kernel_rfl) (fun hb => ?_) (fun hb => ?_)
                    · replace hm := if_t hm hb
                      refine reg [⟨false, [], vS (Instr.loadAt 3 (.pointer (some ⟨g12, 0, none⟩))), .int .i64 n2⟩] [some (.int .i64 n2), none, none] [4, 5] [pl 4 (.int .i64 n2), pl 5 (.int .i64 0)] hF hS Fol (by kernel_rfl) (by kernel_rfl) (by kernel_rfl) ?_ (fun a w hF hS => ?_)
                      · exact obs_cons (ob_load Agg3 (fun _ _ hS => (hS.at_ 8 rfl).cell rfl)) <| obs_nil
                      refine wpIn_ret ?_
                      refine then_r (block_r (then_r (then_r (block_r (block_r (then_r (then_r (block_r (then_r ?_)))))))))
                      rw [← hφ3] at hm
                      replace hm := done_b hm
                      unfold hex_Shortest_K3 at hm
                      try dsimp only at hm
                      rw [← hφ2] at hm
                      replace hm := done_b hm
                      unfold hex_Shortest_K2 at hm
                      try dsimp only at hm
                      have hS := hS.pickN 10 [9, 0, 1, 2, 3, 4, 5, 6, 7, 8] (by decide)
                      have hm : some (n2, 0) = some r := hm
                      obtain rfl := Option.some.inj hm
                      exact retD (rs := [.tmp 4, .tmp 5]) (vs := [.int .i64 n2, .int .i64 0]) hF hS rfl (fun w hS => by exact rv_t (by kernel_rfl) <| rv_t (by kernel_rfl) <| rv_nil) rfl (fun w hS => ⟨rfl, hS.pickN 9 [] (by decide)⟩)
                    · replace hm := if_f hm hb
                      refine wpIn_skip ?_
                      refine then_n ?_
                      exact ⟨Ds13, hF.weak [2, 3, 7, 8, 9, 10, 12, 13, 14] (by kernel_rfl), hS, hm⟩
                · obtain ⟨hp4, hm⟩ := asrt_b hm
                  refine reg [⟨false, [], vS (Instr.loadAt 27 (.pointer (some ⟨g7, 0, none⟩))), .slice A2 r2.length c2⟩, ⟨true, [], vS (Instr.indexAt 27 (.slice A2 r2.length c2) (.int .i64 (geti (geti2 rounds5 n2) i1))), .pointer (some (sAddr A2 (geti (geti2 rounds5 n2) i1)))⟩, ⟨false, [], vS (Instr.loadAt 3 (.pointer (some (sAddr A2 (geti (geti2 rounds5 n2) i1))))), .int .i64 (geti far5 (geti (geti2 rounds5 n2) i1))⟩, ⟨false, [], vS (Instr.loadAt 3 (.pointer (some ⟨g12, 0, none⟩))), .int .i64 n2⟩] [some (.slice A2 r2.length c2), none, some (.pointer (some (sAddr A2 (geti (geti2 rounds5 n2) i1)))), some (.int .i64 (geti far5 (geti (geti2 rounds5 n2) i1))), some (.int .i64 n2), none] [2, 3, 7, 8, 9, 10, 12, 13, 14, 75] [pl 2 (.pointer (some ⟨g4, 0, none⟩)), pl 3 (.pointer (some ⟨g5, 0, none⟩)), pl 7 (.pointer (some ⟨g7, 0, none⟩)), pl 8 (.pointer (some ⟨g8, 0, none⟩)), pl 9 (.pointer (some ⟨g9, 0, none⟩)), pl 10 (.pointer (some ⟨g10, 0, none⟩)), pl 12 (.pointer (some ⟨g12, 0, none⟩)), pl 13 (.int .i64 i1), pl 14 (.int .i64 (geti (geti2 rounds5 n2) i1)), pl 75 (.bool (decide ((geti far5 (geti (geti2 rounds5 n2) i1)) < n2)))] hF hS Fol (by kernel_rfl) (by kernel_rfl) (by kernel_rfl) ?_ (fun a w hF hS => ?_)
                  · exact obs_cons (ob_load Agg27 (fun _ _ hS => (hS.at_ 2 rfl).cell rfl)) <| obs_cons (ob_ix1 (f := (Value.int .i64)) (m := far5) Und27 hi3 hs3 (hS.at_ 3 rfl).rd ((hS.at_ 3 rfl).len1) (fun _ => hp4)) <| obs_cons (ob_get1 (n := r2.length) (m := far5) (Value.int .i64) (0 : Int) Agg3 (fun _ hS => ⟨_, (hS.at_ 3 rfl).rd⟩) (fun _ hS => ((hS.at_ 3 rfl).len1)) (fun _ => hp4)) <| obs_cons (ob_load Agg3 (fun _ _ hS => (hS.at_ 8 rfl).cell rfl)) <| obs_nil
                  refine cond_ev (t := 75) (b := decide ((geti far5 (geti (geti2 rounds5 n2) i1)) < n2)) hF (by kernel_rfl) (fun hb => ?_) (fun hb => ?_)
                  · replace hm := if_t hm hb
                    refine wpIn_exit ?_
                    refine then_e (block_e (then_n ?_))
                    exact ⟨far5, rounds5, A8, c8, hd6, Ds10, hF.weak [2, 3, 7, 8, 9, 10, 12, 13] (by kernel_rfl), hS, hm⟩
                  · replace hm := if_f hm hb
                    refine wpIn_skip ?_
                    refine then_n ?_
                    exact ⟨Ds10, hF.weak [2, 3, 7, 8, 9, 10, 12, 13, 14] (by kernel_rfl), hS, hm⟩
            · obtain ⟨hp1, hm⟩ := asrt_b hm
              have hb1 := rowb (n := rounds5.length) (hS.at_ 6 rfl).lenR hp1
              refine reg [⟨false, [], vS (Instr.loadAt 22 (.pointer (some ⟨g9, 0, none⟩))), .slice A8 rounds5.length c8⟩, ⟨false, [], vS (Instr.loadAt 3 (.pointer (some ⟨g12, 0, none⟩))), .int .i64 n2⟩, ⟨true, [], vS (Instr.indexAt 22 (.slice A8 rounds5.length c8) (.int .i64 n2)), .pointer (some (sAddr A8 n2))⟩, ⟨false, [], vS (Instr.loadAt 27 (.pointer (some (sAddr A8 n2)))), .slice (hdA hd6 n2) ((geti2 rounds5 n2).length) (hdC hd6 n2)⟩] [none, some (.slice A8 rounds5.length c8), some (.int .i64 n2), some (.pointer (some (sAddr A8 n2))), some (.slice (hdA hd6 n2) ((geti2 rounds5 n2).length) (hdC hd6 n2)), none, none] [2, 3, 7, 8, 9, 10, 12, 13, 60] [pl 2 (.pointer (some ⟨g4, 0, none⟩)), pl 3 (.pointer (some ⟨g5, 0, none⟩)), pl 7 (.pointer (some ⟨g7, 0, none⟩)), pl 8 (.pointer (some ⟨g8, 0, none⟩)), pl 9 (.pointer (some ⟨g9, 0, none⟩)), pl 10 (.pointer (some ⟨g10, 0, none⟩)), pl 12 (.pointer (some ⟨g12, 0, none⟩)), pl 13 (.int .i64 i1), pl 60 (.bool (decide (i1 < (((geti2 rounds5 n2).length : Nat) : Int))))] hF hS Fol (by kernel_rfl) (by kernel_rfl) (by kernel_rfl) ?_ (fun a w hF hS => ?_)
              · exact obs_cons (ob_load Agg22 (fun _ _ hS => (hS.at_ 5 rfl).cell rfl)) <| obs_cons (ob_load Agg3 (fun _ _ hS => (hS.at_ 8 rfl).cell rfl)) <| obs_cons (ob_ixRn Und22 hi27 hs27 (hS.at_ 6 rfl).rdRows (hS.at_ 6 rfl).lenR (fun _ => hp1)) <| obs_cons (ob_getR Agg27 (fun _ hS => ⟨_, (hS.at_ 6 rfl).rdRows⟩) (fun _ => hb1)) <| obs_nil
              refine cond_ev (t := 60) (b := decide (i1 < (((geti2 rounds5 n2).length : Nat) : Int))) hF (by kernel_rfl) (fun hb => ?_) (fun hb => ?_)
              · replace hm := if_t hm hb
                refine wpIn_skip ?_
                refine then_n ?_
                exact ⟨Ds9, hF.weak [2, 3, 7, 8, 9, 10, 12, 13] (by kernel_rfl), hS, hm⟩
              · replace hm := if_f hm hb
                refine wpIn_exit ?_
                refine then_e (then_e (block_e (block_n (then_n ?_))))
                rw [← hφ3] at hm
                replace hm := done_b hm
                unfold hex_Shortest_K3 at hm
                try dsimp only at hm
                have hm : ((hex_Shortest_J7 n2) far5 rounds5).bind φ2 = some r := hm
                exact ⟨far5, rounds5, A8, c8, hd6, Ds9, hF.weak [2, 3, 7, 8, 9, 10, 12] (by kernel_rfl), hS, hm⟩
        · refine reg [⟨false, [], vS (Instr.loadAt 3 (.pointer (some ⟨g12, 0, none⟩))), .int .i64 n2⟩, ⟨false, [], vS (Instr.loadAt 22 (.pointer (some ⟨g9, 0, none⟩))), .slice A7 rounds4.length c7⟩] [some (.int .i64 n2), some (.slice A7 rounds4.length c7), none, none] [2, 3, 7, 8, 9, 10, 12, 51] [pl 2 (.pointer (some ⟨g4, 0, none⟩)), pl 3 (.pointer (some ⟨g5, 0, none⟩)), pl 7 (.pointer (some ⟨g7, 0, none⟩)), pl 8 (.pointer (some ⟨g8, 0, none⟩)), pl 9 (.pointer (some ⟨g9, 0, none⟩)), pl 10 (.pointer (some ⟨g10, 0, none⟩)), pl 12 (.pointer (some ⟨g12, 0, none⟩)), pl 51 (.bool (decide (n2 < (rounds4.length : Int))))] hF hS Fol (by kernel_rfl) (by kernel_rfl) (by kernel_rfl) ?_ (fun a w hF hS => ?_)
          · exact obs_cons (ob_load Agg3 (fun _ _ hS => (hS.at_ 8 rfl).cell rfl)) <| obs_cons (ob_load Agg22 (fun _ _ hS => (hS.at_ 5 rfl).cell rfl)) <| obs_nil
          refine cond_ev (t := 51) (b := decide (n2 < (rounds4.length : Int))) hF (by kernel_rfl) (fun hb => ?_) (fun hb => ?_)
          · replace hm := if_t hm hb
            refine wpIn_skip ?_
            refine then_n ?_
            exact ⟨Ds6, hF.weak [2, 3, 7, 8, 9, 10, 12] (by kernel_rfl), hS, hm⟩
          · replace hm := if_f hm hb
            refine wpIn_exit ?_
            refine then_e (then_e (block_e (then_n ?_)))
            have hS := hS.pickN 10 [9] (by decide)
            rw [← hφ2] at hm
            replace hm := done_b hm
            unfold hex_Shortest_K2 at hm
            try dsimp only at hm
            have hm : (hex_Shortest_J5).bind some = some r := hm
            exact ⟨Ds6, hF.weak [] (by kernel_rfl), hS, hm⟩
    · refine reg [⟨false, [], vS (Instr.loadAt 27 (.pointer (some ⟨g4, 2, none⟩))), .slice A1 g3.length c1⟩] [none, some (.slice A1 g3.length c1), none, none] [2, 3, 7, 8, 9, 10, 31, 32] [pl 2 (.pointer (some ⟨g4, 0, none⟩)), pl 3 (.pointer (some ⟨g5, 0, none⟩)), pl 7 (.pointer (some ⟨g7, 0, none⟩)), pl 8 (.pointer (some ⟨g8, 0, none⟩)), pl 9 (.pointer (some ⟨g9, 0, none⟩)), pl 10 (.pointer (some ⟨g10, 0, none⟩)), pl 31 (.int .i64 (g3.length : Int)), pl 32 (.int .i64 0)] hF hS Fol (by kernel_rfl) (by kernel_rfl) (by kernel_rfl) ?_ (fun a w hF hS => ?_)
      · exact obs_cons (ob_load Agg27 (fun _ _ hS => (hS.at_ 6 rfl).cell rfl)) <| obs_nil
      refine wpIn_block ?_
      have hS := hS.nilRows0 27 3
      have hS : Sep w0 B w (rows 27 3 (.slice none 0 0) ([]) ([] : List (List Int)) :: blk g10 161 #[.func (.func 120) #[] #[.pointer (some ⟨g4, 0, none⟩), .pointer (some ⟨g5, 0, none⟩), .pointer (some ⟨g7, 0, none⟩), .pointer (some ⟨g9, 0, none⟩)]] :: blk g9 22 #[.slice none 0 0] :: blk g8 140 #[.func (.func 119) #[] #[.pointer (some ⟨g4, 0, none⟩)]] :: blk g7 27 #[.slice A2 r2.length c2] :: own 3 (.slice A2 r2.length c2) (vI r2) :: own 3 (.slice g6 1 1) (vI ([(-1)] : List Int)) :: blk g4 64 #[.int .i64 g1, .int .i64 g2, .slice A1 g3.length c1] :: blk g5 3 #[.int .i64 who1] :: defsH Ds1 :: fs) := hS
      have hl1 := (hS.at_ 0 rfl).lenR
      have hS := (hS.at_ 0 rfl).reNR hl1
      have hS := (hS.at_ 2 rfl).reBlk (congrArg (fun k9 => (#[.slice none k9 0] : Array Value)) hl1)
      have hS : Sep w0 B w (rows 27 3 (.slice none (([] : List (List Int)).length) 0) ([]) ([] : List (List Int)) :: blk g10 161 #[.func (.func 120) #[] #[.pointer (some ⟨g4, 0, none⟩), .pointer (some ⟨g5, 0, none⟩), .pointer (some ⟨g7, 0, none⟩), .pointer (some ⟨g9, 0, none⟩)]] :: blk g9 22 #[.slice none (([] : List (List Int)).length) 0] :: blk g8 140 #[.func (.func 119) #[] #[.pointer (some ⟨g4, 0, none⟩)]] :: blk g7 27 #[.slice A2 r2.length c2] :: own 3 (.slice A2 r2.length c2) (vI r2) :: own 3 (.slice g6 1 1) (vI ([(-1)] : List Int)) :: blk g4 64 #[.int .i64 g1, .int .i64 g2, .slice A1 g3.length c1] :: blk g5 3 #[.int .i64 who1] :: defsH Ds1 :: fs) := hS
      have hS := hS.pickN 10 [7, 8, 4, 5, 3, 2, 0, 1, 9] (by decide)
      refine wp_loop_model (S := (List Int × List (List Int) × Int)) (R := (List Int × List (List Int))) (hex_Shortest_L1 g1 g2 g3 who1) (fun x => ((hex_Shortest_K1 g1 g2 g3 who1 r2) x).bind some) r (fun (x : (List Int × List (List Int) × Int)) a w => ∃ (A3 : Option Addr) (c3 : Nat) (hd1 : List Hd) (Ds2 : List Nat), FrD Ds2 100 [pl 2 (.pointer (some ⟨g4, 0, none⟩)), pl 3 (.pointer (some ⟨g5, 0, none⟩)), pl 7 (.pointer (some ⟨g7, 0, none⟩)), pl 8 (.pointer (some ⟨g8, 0, none⟩)), pl 9 (.pointer (some ⟨g9, 0, none⟩)), pl 10 (.pointer (some ⟨g10, 0, none⟩)), pl 31 (.int .i64 (g3.length : Int)), pl 32 (.int .i64 x.2.2)] a ∧ Sep w0 B w (blk g4 64 #[.int .i64 g1, .int .i64 g2, .slice A1 g3.length c1] :: blk g5 3 #[.int .i64 who1] :: blk g7 27 #[.slice A2 r2.length c2] :: own 3 (.slice A2 r2.length c2) (vI x.1) :: blk g8 140 #[.func (.func 119) #[] #[.pointer (some ⟨g4, 0, none⟩)]] :: blk g9 22 #[.slice A3 x.2.1.length c3] :: rows 27 3 (.slice A3 x.2.1.length c3) hd1 x.2.1 :: blk g10 161 #[.func (.func 120) #[] #[.pointer (some ⟨g4, 0, none⟩), .pointer (some ⟨g5, 0, none⟩), .pointer (some ⟨g7, 0, none⟩), .pointer (some ⟨g9, 0, none⟩)]] :: defsH Ds2 :: fs)) (assoc_b hm) ⟨none, 0, ([]), Ds1, hF.weak [2, 3, 7, 8, 9, 10, 31, 32] (by kernel_rfl), hS⟩ ?_
      clear hF hS hm
      rintro nn1 ⟨far1, rounds1, z1⟩ a w ⟨A3, c3, hd1, Ds2, hF, hS⟩ hm
      generalize hφ1 : stK (hex_Shortest_L1 g1 g2 g3 who1) nn1 (fun x => ((hex_Shortest_K1 g1 g2 g3 who1 r2) x).bind some) = φ1 at hm
      unfold hex_Shortest_L1 at hm
      dsimp only at hF hS hm
      refine reg [] [] [2, 3, 7, 8, 9, 10, 31, 32, 33] [pl 2 (.pointer (some ⟨g4, 0, none⟩)), pl 3 (.pointer (some ⟨g5, 0, none⟩)), pl 7 (.pointer (some ⟨g7, 0, none⟩)), pl 8 (.pointer (some ⟨g8, 0, none⟩)), pl 9 (.pointer (some ⟨g9, 0, none⟩)), pl 10 (.pointer (some ⟨g10, 0, none⟩)), pl 31 (.int .i64 (g3.length : Int)), pl 32 (.int .i64 z1), pl 33 (.bool (decide (z1 < (g3.length : Int))))] hF hS Fol (by kernel_rfl) (by kernel_rfl) (by kernel_rfl) ?_ (fun a w hF hS => ?_)
      · exact obs_nil
      refine seq_cut (fun a w => ∃ (Ds3 : List Nat), FrD Ds3 100 [pl 2 (.pointer (some ⟨g4, 0, none⟩)), pl 3 (.pointer (some ⟨g5, 0, none⟩)), pl 7 (.pointer (some ⟨g7, 0, none⟩)), pl 8 (.pointer (some ⟨g8, 0, none⟩)), pl 9 (.pointer (some ⟨g9, 0, none⟩)), pl 10 (.pointer (some ⟨g10, 0, none⟩)), pl 31 (.int .i64 (g3.length : Int)), pl 32 (.int .i64 z1)] a ∧ Sep w0 B w (blk g4 64 #[.int .i64 g1, .int .i64 g2, .slice A1 g3.length c1] :: blk g5 3 #[.int .i64 who1] :: blk g7 27 #[.slice A2 r2.length c2] :: own 3 (.slice A2 r2.length c2) (vI far1) :: blk g8 140 #[.func (.func 119) #[] #[.pointer (some ⟨g4, 0, none⟩)]] :: blk g9 22 #[.slice A3 rounds1.length c3] :: rows 27 3 (.slice A3 rounds1.length c3) hd1 rounds1 :: blk g10 161 #[.func (.func 120) #[] #[.pointer (some ⟨g4, 0, none⟩), .pointer (some ⟨g5, 0, none⟩), .pointer (some ⟨g7, 0, none⟩), .pointer (some ⟨g9, 0, none⟩)]] :: defsH Ds3 :: fs) ∧ ((hex_Shortest_J3 g1 g2 g3 who1 far1 rounds1 z1)).bind φ1 = some r) ?_ ?_
      · rintro a w ⟨Ds3, hF, hS, hm⟩
        unfold hex_Shortest_J3 at hm
        refine seq_cut (fun a w => ∃ (far3 : List Int) (rounds3 : List (List Int)) (A6 : Option Addr) (c6 : Nat) (hd4 : List Hd) (Ds5 : List Nat), FrD Ds5 100 [pl 2 (.pointer (some ⟨g4, 0, none⟩)), pl 3 (.pointer (some ⟨g5, 0, none⟩)), pl 7 (.pointer (some ⟨g7, 0, none⟩)), pl 8 (.pointer (some ⟨g8, 0, none⟩)), pl 9 (.pointer (some ⟨g9, 0, none⟩)), pl 10 (.pointer (some ⟨g10, 0, none⟩)), pl 31 (.int .i64 (g3.length : Int)), pl 32 (.int .i64 z1)] a ∧ Sep w0 B w (blk g4 64 #[.int .i64 g1, .int .i64 g2, .slice A1 g3.length c1] :: blk g5 3 #[.int .i64 who1] :: blk g7 27 #[.slice A2 r2.length c2] :: own 3 (.slice A2 r2.length c2) (vI far3) :: blk g8 140 #[.func (.func 119) #[] #[.pointer (some ⟨g4, 0, none⟩)]] :: blk g9 22 #[.slice A6 rounds3.length c6] :: rows 27 3 (.slice A6 rounds3.length c6) hd4 rounds3 :: blk g10 161 #[.func (.func 120) #[] #[.pointer (some ⟨g4, 0, none⟩), .pointer (some ⟨g5, 0, none⟩), .pointer (some ⟨g7, 0, none⟩), .pointer (some ⟨g9, 0, none⟩)]] :: defsH Ds5 :: fs) ∧ ((hex_Shortest_J4 z1) far3 rounds3).bind φ1 = some r) ?_ ?_
        · rintro a w ⟨far3, rounds3, A6, c6, hd4, Ds5, hF, hS, hm⟩
          unfold hex_Shortest_J4 at hm
          refine reg1 [] [] [2, 3, 7, 8, 9, 10, 31, 32] [pl 2 (.pointer (some ⟨g4, 0, none⟩)), pl 3 (.pointer (some ⟨g5, 0, none⟩)), pl 7 (.pointer (some ⟨g7, 0, none⟩)), pl 8 (.pointer (some ⟨g8, 0, none⟩)), pl 9 (.pointer (some ⟨g9, 0, none⟩)), pl 10 (.pointer (some ⟨g10, 0, none⟩)), pl 31 (.int .i64 (g3.length : Int)), pl 32 (.int .i64 (w64 (z1 + 1)))] hF hS Fol (by kernel_rfl) (by kernel_rfl) (by kernel_rfl) ?_ (fun a w hF hS => ?_)
          · exact obs_nil
          refine then_n ?_
          rw [← hφ1] at hm
          exact ⟨(far3, rounds3, (w64 (z1 + 1))), ⟨A6, c6, hd4, Ds5, hF.weak [2, 3, 7, 8, 9, 10, 31, 32] (by kernel_rfl), hS⟩, hm⟩
        · refine wpIn_block ?_
          refine reg [] [] [2, 3, 7, 8, 9, 10, 11, 31, 32] [pl 2 (.pointer (some ⟨g4, 0, none⟩)), pl 3 (.pointer (some ⟨g5, 0, none⟩)), pl 7 (.pointer (some ⟨g7, 0, none⟩)), pl 8 (.pointer (some ⟨g8, 0, none⟩)), pl 9 (.pointer (some ⟨g9, 0, none⟩)), pl 10 (.pointer (some ⟨g10, 0, none⟩)), pl 11 (.int .i64 z1), pl 31 (.int .i64 (g3.length : Int)), pl 32 (.int .i64 z1)] hF hS Fol (by kernel_rfl) (by kernel_rfl) (by kernel_rfl) ?_ (fun a w hF hS => ?_)
          · exact obs_nil
          obtain ⟨r3, hr3, hm⟩ := call_b hm
          refine reg [⟨false, [], vS (Instr.loadAt 3 (.pointer (some ⟨g4, 0, none⟩))), .int .i64 g1⟩, ⟨false, [], vS (Instr.loadAt 3 (.pointer (some ⟨g5, 0, none⟩))), .int .i64 who1⟩, ⟨false, [], callFunc 121 #[.int .i64 g1, .int .i64 who1, .int .i64 z1], .int .i64 r3⟩] [none, some (.int .i64 g1), some (.int .i64 who1), none, some (.int .i64 r3), none] [2, 3, 7, 8, 9, 10, 11, 31, 32, 40] [pl 2 (.pointer (some ⟨g4, 0, none⟩)), pl 3 (.pointer (some ⟨g5, 0, none⟩)), pl 7 (.pointer (some ⟨g7, 0, none⟩)), pl 8 (.pointer (some ⟨g8, 0, none⟩)), pl 9 (.pointer (some ⟨g9, 0, none⟩)), pl 10 (.pointer (some ⟨g10, 0, none⟩)), pl 11 (.int .i64 z1), pl 31 (.int .i64 (g3.length : Int)), pl 32 (.int .i64 z1), pl 40 (.bool (r3 == 0))] hF hS Fol (by kernel_rfl) (by kernel_rfl) (by kernel_rfl) ?_ (fun a w hF hS => ?_)
          · exact obs_cons (ob_load Agg3 (fun _ _ hS => (hS.at_ 0 rfl).cell rfl)) <| obs_cons (ob_load Agg3 (fun _ _ hS => (hS.at_ 1 rfl).cell rfl)) <| obs_cons (ob_call Try.func121 (by kernel_rfl) rfl (fun _ _ hS => hex_along_w hr3 hS )) <| obs_nil
          refine cond_ev (t := 40) (b := (r3 == 0)) hF (by kernel_rfl) (fun hb => ?_) (fun hb => ?_)
          · replace hm := if_t hm hb
            obtain ⟨r4, hr4, hm⟩ := call_b hm
            obtain ⟨r5, hr5, hm⟩ := call_b hm
            refine regMix5 [0, 1, 2, 3] [5] 2 #[true, true, true, true, false, false] [⟨false, [], vS (Instr.loadAt 161 (.pointer (some ⟨g10, 0, none⟩))), .func (.func 120) #[] #[.pointer (some ⟨g4, 0, none⟩), .pointer (some ⟨g5, 0, none⟩), .pointer (some ⟨g7, 0, none⟩), .pointer (some ⟨g9, 0, none⟩)]⟩, ⟨false, [], vS (Instr.loadAt 140 (.pointer (some ⟨g8, 0, none⟩))), .func (.func 119) #[] #[.pointer (some ⟨g4, 0, none⟩)]⟩] [some (.func (.func 120) #[] #[.pointer (some ⟨g4, 0, none⟩), .pointer (some ⟨g5, 0, none⟩), .pointer (some ⟨g7, 0, none⟩), .pointer (some ⟨g9, 0, none⟩)]), none, some (.func (.func 119) #[] #[.pointer (some ⟨g4, 0, none⟩)]), none] [2, 3, 7, 8, 9, 10, 31, 32, 41, 42, 43, 44] [pl 2 (.pointer (some ⟨g4, 0, none⟩)), pl 3 (.pointer (some ⟨g5, 0, none⟩)), pl 7 (.pointer (some ⟨g7, 0, none⟩)), pl 8 (.pointer (some ⟨g8, 0, none⟩)), pl 9 (.pointer (some ⟨g9, 0, none⟩)), pl 10 (.pointer (some ⟨g10, 0, none⟩)), pl 31 (.int .i64 (g3.length : Int)), pl 32 (.int .i64 z1), pl 41 (.func (.func 120) #[] #[.pointer (some ⟨g4, 0, none⟩), .pointer (some ⟨g5, 0, none⟩), .pointer (some ⟨g7, 0, none⟩), .pointer (some ⟨g9, 0, none⟩)]), pl 42 (.int .i64 z1), pl 43 (.func (.func 119) #[] #[.pointer (some ⟨g4, 0, none⟩)]), pl 44 (.int .i64 z1)] hF hS Fol (by kernel_rfl) (by kernel_rfl) (by kernel_rfl) (by kernel_rfl) ?_ (fun a w hF hS => ?_)
            · exact obs_cons (ob_load Agg161 (fun _ _ hS => (hS.at_ 7 rfl).cell rfl)) <| obs_cons (ob_load Agg140 (fun _ _ hS => (hS.at_ 4 rfl).cell rfl)) <| obs_nil
            refine any_step [4] (by kernel_rfl) rfl ?_
            refine (all_cons ?_ all_nil)
            · refine any_op (listed' := #[true, true, true, true, true, false]) (by kernel_rfl) (by kernel_rfl) ?_
              refine at_run 1 [⟨false, [], callFunc 119 #[.int .i64 z1, .pointer (some ⟨g4, 0, none⟩)], .int .i64 r4⟩] [some (.int .i64 r4)] [2, 3, 7, 8, 9, 10, 31, 32, 41, 42, 45] [pl 2 (.pointer (some ⟨g4, 0, none⟩)), pl 3 (.pointer (some ⟨g5, 0, none⟩)), pl 7 (.pointer (some ⟨g7, 0, none⟩)), pl 8 (.pointer (some ⟨g8, 0, none⟩)), pl 9 (.pointer (some ⟨g9, 0, none⟩)), pl 10 (.pointer (some ⟨g10, 0, none⟩)), pl 31 (.int .i64 (g3.length : Int)), pl 32 (.int .i64 z1), pl 41 (.func (.func 120) #[] #[.pointer (some ⟨g4, 0, none⟩), .pointer (some ⟨g5, 0, none⟩), .pointer (some ⟨g7, 0, none⟩), .pointer (some ⟨g9, 0, none⟩)]), pl 42 (.int .i64 z1), pl 45 (.int .i64 r4)] hF hS (by kernel_rfl) (by kernel_rfl) ?_ (fun a w hF hS => ?_)
              · exact obs_cons (ob_call Try.func119 (by kernel_rfl) rfl (fun _ _ hS => hex_Shortest_1_w hr4 hS (fun _ hS => (hr_g3 _ (hS.dropN 8))) _hc_g3 rfl)) <| obs_nil
              refine any_fin rfl hS ?_
              refine any_step [5] (by kernel_rfl) rfl ?_
              refine (all_cons ?_ all_nil)
              · refine any_op (listed' := #[true, true, true, true, true, true]) (by kernel_rfl) (by kernel_rfl) ?_
                have hS : Sep w0 B w (blk g4 64 #[.int .i64 g1, .int .i64 g2, .slice A1 g3.length c1] :: blk g5 3 #[.int .i64 who1] :: blk g7 27 #[.slice A2 r2.length c2] :: own 3 (.slice A2 r2.length c2) (vI far1) :: blk g9 22 #[.slice A3 rounds1.length c3] :: rows 27 3 (.slice A3 rounds1.length c3) hd1 rounds1 :: blk g8 140 #[.func (.func 119) #[] #[.pointer (some ⟨g4, 0, none⟩)]] :: blk g10 161 #[.func (.func 120) #[] #[.pointer (some ⟨g4, 0, none⟩), .pointer (some ⟨g5, 0, none⟩), .pointer (some ⟨g7, 0, none⟩), .pointer (some ⟨g9, 0, none⟩)]] :: defsH Ds3 :: fs) := hS.pickN 9 [0, 1, 2, 3, 5, 6, 4, 7, 8] (by decide)
                refine at_call (f := 120) (args := #[.int .i64 z1, .int .i64 r4, .pointer (some ⟨g4, 0, none⟩), .pointer (some ⟨g5, 0, none⟩), .pointer (some ⟨g7, 0, none⟩), .pointer (some ⟨g9, 0, none⟩)]) (d := 46) hF (by kernel_rfl) (by kernel_rfl) Try.func120 (by kernel_rfl) rfl (hex_Shortest_2_w hr5 hS (fun _ hS => (hr_g3 _ (hS.dropN 3))) _hc_g3 rfl) (fun v a w hR hF => ?_)
                clear hS
                obtain ⟨A5, c5, hd3, rfl, hS⟩ := hR
                have hS : Sep w0 B w (blk g4 64 #[.int .i64 g1, .int .i64 g2, .slice A1 g3.length c1] :: blk g5 3 #[.int .i64 who1] :: blk g7 27 #[.slice A2 r2.length c2] :: own 3 (.slice A2 r2.length c2) (vI r5.1) :: blk g9 22 #[.slice A5 r5.2.length c5] :: rows 27 3 (.slice A5 r5.2.length c5) hd3 r5.2 :: blk g8 140 #[.func (.func 119) #[] #[.pointer (some ⟨g4, 0, none⟩)]] :: blk g10 161 #[.func (.func 120) #[] #[.pointer (some ⟨g4, 0, none⟩), .pointer (some ⟨g5, 0, none⟩), .pointer (some ⟨g7, 0, none⟩), .pointer (some ⟨g9, 0, none⟩)]] :: defsH Ds3 :: fs) := hS
                refine any_finE rfl (by decide) ?_
                refine any_end (by kernel_rfl) ?_
                refine np_n ?_
                refine block_n ?_
                refine then_n ?_
                have hS := hS.pickN 9 [0, 1, 2, 3, 6, 4, 5, 7, 8] (by decide)
                exact ⟨r5.1, r5.2, A5, c5, hd3, Ds3, hF.weak [2, 3, 7, 8, 9, 10, 31, 32] (by kernel_rfl), hS, hm⟩
          · replace hm := if_f hm hb
            refine wpIn_skip ?_
            refine block_n ?_
            refine then_n ?_
            exact ⟨far1, rounds1, A3, c3, hd1, Ds3, hF.weak [2, 3, 7, 8, 9, 10, 31, 32] (by kernel_rfl), hS, hm⟩
      · refine cond_ev (t := 33) (b := decide (z1 < (g3.length : Int))) hF (by kernel_rfl) (fun hb => ?_) (fun hb => ?_)
        · replace hm := if_t hm hb
          refine wpIn_skip ?_
          refine then_n ?_
          exact ⟨Ds2, hF.weak [2, 3, 7, 8, 9, 10, 31, 32] (by kernel_rfl), hS, hm⟩
        · replace hm := if_f hm hb
          refine wpIn_exit ?_
          refine then_e (then_e (block_e (then_n ?_)))
          rw [← hφ1] at hm
          replace hm := done_b hm
          unfold hex_Shortest_K1 at hm
          try dsimp only at hm
          have hm : ((hex_Shortest_J2 g1 g2 g3 who1 r2) far1 rounds1).bind some = some r := hm
          exact ⟨far1, rounds1, A3, c3, hd1, Ds2, hF.weak [2, 3, 7, 8, 9, 10] (by kernel_rfl), hS, hm⟩
  · obtain ⟨r1, hr1, hm⟩ := call_b hm
    refine reg [⟨false, [], vS (Instr.loadAt 64 (.pointer (some ⟨g4, 0, none⟩))), .agg #[.int .i64 g1, .int .i64 g2, .slice A1 g3.length c1]⟩, ⟨false, [], vS (Instr.loadAt 3 (.pointer (some ⟨g5, 0, none⟩))), .int .i64 who1⟩, ⟨false, [], callFunc 115 #[.agg #[.int .i64 g1, .int .i64 g2, .slice A1 g3.length c1], .int .i64 who1], .int .i64 r1⟩] [some (.agg #[.int .i64 g1, .int .i64 g2, .slice A1 g3.length c1]), some (.int .i64 who1), some (.int .i64 r1), none] [2, 3, 6] [pl 2 (.pointer (some ⟨g4, 0, none⟩)), pl 3 (.pointer (some ⟨g5, 0, none⟩)), pl 6 (.int .i64 r1)] hF hS Fol (by kernel_rfl) (by kernel_rfl) (by kernel_rfl) ?_ (fun a w hF hS => ?_)
    · exact obs_cons (ob_loadA (cs := #[.int .i64 g1, .int .i64 g2, .slice A1 g3.length c1]) (by kernel_rfl) (by kernel_rfl) (fun _ _ hS => (hS.at_ 1 rfl).cellsAt 0 (by rfl))) <| obs_cons (ob_load Agg3 (fun _ _ hS => (hS.at_ 0 rfl).cell rfl)) <| obs_cons (ob_call Try.func115 (by kernel_rfl) rfl (fun _ _ hS => hex_player_w hr1 hS (fun _ hS => (hr_g3 _ (hS.dropN 3))) _hc_g3 rfl)) <| obs_nil
    refine reg [] [] [2, 3, 6, 20] [pl 2 (.pointer (some ⟨g4, 0, none⟩)), pl 3 (.pointer (some ⟨g5, 0, none⟩)), pl 6 (.int .i64 r1), pl 20 (.bool (r1 != 0))] hF hS Fol (by kernel_rfl) (by kernel_rfl) (by kernel_rfl) ?_ (fun a w hF hS => ?_)
    · exact obs_nil
    refine cond_ev (t := 20) (b := (r1 != 0)) hF (by kernel_rfl) (fun hb => ?_) (fun hb => ?_)
    · replace hm := if_t hm hb
      refine reg [] [] [4, 5] [pl 4 (.int .i64 0), pl 5 (.int .i64 r1)] hF hS Fol (by kernel_rfl) (by kernel_rfl) (by kernel_rfl) ?_ (fun a w hF hS => ?_)
      · exact obs_nil
      refine wpIn_ret ?_
      refine then_r ?_
      have hS := hS.pickN 3 [2, 0, 1] (by decide)
      have hm : some (0, r1) = some r := hm
      obtain rfl := Option.some.inj hm
      exact retD (rs := [.tmp 4, .tmp 5]) (vs := [.int .i64 0, .int .i64 r1]) hF hS rfl (fun w hS => by exact rv_t (by kernel_rfl) <| rv_t (by kernel_rfl) <| rv_nil) rfl (fun w hS => ⟨rfl, hS.pickN 2 [] (by decide)⟩)
    · replace hm := if_f hm hb
      refine wpIn_skip ?_
      refine then_n ?_
      have hS := hS.pickN 3 [1, 0, 2] (by decide)
      exact ⟨([]), hF.weak [2, 3] (by kernel_rfl), hS, hm⟩

noncomputable def gameroomref_within_m  (n1 : Int) (low1 : Int) (high1 : Int) : Option Bool :=
  some ((decide (low1 ≤ n1)) && (decide (n1 ≤ high1)))

set_option maxRecDepth 100000 in
set_option maxHeartbeats 4000000 in
theorem gameroomref_within_w {n1 : Int} {low1 : Int} {high1 : Int} {r : Bool} {w0 w : World} {B : Nat} {fs : List HP} (hm : gameroomref_within_m n1 low1 high1 = some r) (hS : Sep w0 B w (fs)) :
    Calls Try.prog 74 #[.int .i64 n1, .int .i64 low1, .int .i64 high1] w fun e w' => e = .returned (.bool r) ∧ Sep w0 B w' (fs) := by
  unfold gameroomref_within_m at hm
  replace hm := start_b hm
  refine enter (l := [.int .i64 n1, .int .i64 low1, .int .i64 high1]) (n := 15) Try.func74 rfl rfl (by simp) (fun a hF => ?_)
  refine reg [] [] [0, 1, 2] [pl 0 (.int .i64 n1), pl 1 (.int .i64 low1), pl 2 (.int .i64 high1)] hF hS Fol (by kernel_rfl) (by kernel_rfl) (by kernel_rfl) ?_ (fun a w hF hS => ?_)
  · exact obs_nil
  refine reg [] [] [6] [pl 6 (.bool ((decide (low1 ≤ n1)) && (decide (n1 ≤ high1))))] hF hS Fol (by kernel_rfl) (by kernel_rfl) (by kernel_rfl) ?_ (fun a w hF hS => ?_)
  · exact obs_nil
  refine wpIn_ret ?_
  have hm : some ((decide (low1 ≤ n1)) && (decide (n1 ≤ high1))) = some r := hm
  obtain rfl := Option.some.inj hm
  exact retV (rs := [.tmp 6]) (vs := [.bool ((decide (low1 ≤ n1)) && (decide (n1 ≤ high1)))]) hF rfl (rv_t (by kernel_rfl) <| rv_nil) rfl ⟨rfl, hS⟩

noncomputable def gameroomref_GridMay_J4  (i1 : Int) : Option (St Int (Fl Unit Bool)) :=
  some (.next (w64 (i1 + 1)))

noncomputable def gameroomref_GridMay_J3  (g3 : List Int) (i1 : Int) : Option (St Int (Fl Unit Bool)) :=
  asrt (0 ≤ i1 ∧ i1 < (g3.length : Int)) <| (gameroomref_within_m (geti g3 i1) 0 2).bind fun r3 => if (!r3) then (some (.done (.ret false))) else ((gameroomref_GridMay_J4 i1))

noncomputable def gameroomref_GridMay_J2  : Option Bool :=
  some true

noncomputable def gameroomref_GridMay_K1  : (Fl Unit Bool) → Option Bool :=
  fun (x : (Fl Unit Bool)) => match x with | .go _ => gameroomref_GridMay_J2 | .ret x => some x

noncomputable def gameroomref_GridMay_L1  (g3 : List Int) : Int → Option (St Int (Fl Unit Bool)) :=
  fun (x : Int) => match x with | i1 => if (decide (i1 < (g3.length : Int))) then ((gameroomref_GridMay_J3 g3 i1)) else (some (.done (.go ())))

noncomputable def gameroomref_GridMay_J1  (g3 : List Int) : Option Bool :=
  (loop (gameroomref_GridMay_L1 g3) 0).bind gameroomref_GridMay_K1

noncomputable def gameroomref_GridMay_m  (g1 : Int) (g2 : Int) (g3 : List Int) : Option Bool :=
  (gameroomref_within_m g1 1 10).bind fun r1 => ((if (!(!r1)) then gameroomref_within_m g2 1 10 else some false)).bind fun r2 => if (((!r1) || (!r2)) || ((g3.length : Int) != (w64 (g1 * g2)))) then (some false) else ((gameroomref_GridMay_J1 g3))

set_option maxRecDepth 100000 in
set_option maxHeartbeats 4000000 in
theorem gameroomref_GridMay_w {g1 : Int} {g2 : Int} {A1 : Option Addr} {c1 : Nat} {n1 : Nat} {g3 : List Int} {r : Bool} {w0 w : World} {B : Nat} {fs : List HP} (hm : gameroomref_GridMay_m g1 g2 g3 = some r) (hS : Sep w0 B w (fs)) (hr_g3 : RdF w0 B fs A1 (vI g3)) (_hc_g3 : g3.length ≤ c1) (_hn_g3 : n1 = g3.length) :
    Calls Try.prog 123 #[.agg #[.int .i64 g1, .int .i64 g2, .slice A1 n1 c1]] w fun e w' => e = .returned (.bool r) ∧ Sep w0 B w' (fs) := by
  obtain ⟨i3, hi3, hz3, hs3, hb3⟩ := info_parts Info3
  obtain rfl := _hn_g3
  unfold gameroomref_GridMay_m at hm
  replace hm := start_b hm
  refine enter (l := [.agg #[.int .i64 g1, .int .i64 g2, .slice A1 g3.length c1]]) (n := 39) Try.func123 rfl rfl (by simp) (fun a hF => ?_)
  refine seqR ?_
  refine at_do (d := 1) (s := vS (Instr.box 64 (.agg #[.int .i64 g1, .int .i64 g2, .slice A1 g3.length c1]))) (v := .pointer (some ⟨w.heap.size, 0, none⟩)) (w' := w.alloc (.cells #[.int .i64 g1, .int .i64 g2, .slice A1 g3.length c1] 64)) hF (by kernel_rfl) (by kernel_rfl) (by kernel_rfl) (fun a hF => ?_)
  have hS : Sep w0 B (w.alloc (.cells #[.int .i64 g1, .int .i64 g2, .slice A1 g3.length c1] 64)) (blk w.heap.size 64 #[.int .i64 g1, .int .i64 g2, .slice A1 g3.length c1] :: (fs)) := hS.box 64 #[.int .i64 g1, .int .i64 g2, .slice A1 g3.length c1]
  generalize w.heap.size = g4 at hF hS
  generalize w.alloc (.cells #[.int .i64 g1, .int .i64 g2, .slice A1 g3.length c1] 64) = w at hS ⊢
  refine at_run 1 [] [] [1] [pl 1 (.pointer (some ⟨g4, 0, none⟩))] hF hS (by kernel_rfl) (by kernel_rfl) ?_ (fun a w hF hS => ?_)
  · exact obs_nil
  refine at_end [1] [pl 1 (.pointer (some ⟨g4, 0, none⟩))] hF rfl (by kernel_rfl) (fun hF => ?_)
  refine then_n ?_
  refine seq_cut (fun a w => Fr 39 [pl 1 (.pointer (some ⟨g4, 0, none⟩))] a ∧ Sep w0 B w (blk g4 64 #[.int .i64 g1, .int .i64 g2, .slice A1 g3.length c1] :: fs) ∧ ((gameroomref_GridMay_J1 g3)).bind some = some r) ?_ ?_
  · rintro a w ⟨hF, hS, hm⟩
    unfold gameroomref_GridMay_J1 at hm
    refine seq_cut (fun a w => Fr 39 [] a ∧ Sep w0 B w (fs) ∧ (gameroomref_GridMay_J2).bind some = some r) ?_ ?_
    · rintro a w ⟨hF, hS, hm⟩
      unfold gameroomref_GridMay_J2 at hm
      refine reg [] [] [2] [pl 2 (.bool true)] hF hS Fol (by kernel_rfl) (by kernel_rfl) (by kernel_rfl) ?_ (fun a w hF hS => ?_)
      · exact obs_nil
      refine wpIn_ret ?_
      have hm : some true = some r := hm
      obtain rfl := Option.some.inj hm
      exact retV (rs := [.tmp 2]) (vs := [.bool true]) hF rfl (rv_t (by kernel_rfl) <| rv_nil) rfl ⟨rfl, hS⟩
    · refine reg [] [] [1, 3] [pl 1 (.pointer (some ⟨g4, 0, none⟩)), pl 3 (.int .i64 0)] hF hS Fol (by kernel_rfl) (by kernel_rfl) (by kernel_rfl) ?_ (fun a w hF hS => ?_)
      · exact obs_nil
      refine wpIn_block ?_
      refine wp_loop_model (S := Int) (R := (Fl Unit Bool)) (gameroomref_GridMay_L1 g3) (fun x => (gameroomref_GridMay_K1 x).bind some) r (fun (x : Int) a w => Fr 39 [pl 1 (.pointer (some ⟨g4, 0, none⟩)), pl 3 (.int .i64 x)] a ∧ Sep w0 B w (blk g4 64 #[.int .i64 g1, .int .i64 g2, .slice A1 g3.length c1] :: fs)) (assoc_b hm) ⟨hF.weak [1, 3] (by kernel_rfl), hS⟩ ?_
      clear hF hS hm
      rintro nn1 i1 a w ⟨hF, hS⟩ hm
      generalize hφ1 : stK (gameroomref_GridMay_L1 g3) nn1 (fun x => (gameroomref_GridMay_K1 x).bind some) = φ1 at hm
      unfold gameroomref_GridMay_L1 at hm
      dsimp only at hm
      refine seq_cut (fun a w => Fr 39 [pl 1 (.pointer (some ⟨g4, 0, none⟩)), pl 3 (.int .i64 i1)] a ∧ Sep w0 B w (blk g4 64 #[.int .i64 g1, .int .i64 g2, .slice A1 g3.length c1] :: fs) ∧ ((gameroomref_GridMay_J3 g3 i1)).bind φ1 = some r) ?_ ?_
      · rintro a w ⟨hF, hS, hm⟩
        unfold gameroomref_GridMay_J3 at hm
        refine seq_cut (fun a w => Fr 39 [pl 1 (.pointer (some ⟨g4, 0, none⟩)), pl 3 (.int .i64 i1)] a ∧ Sep w0 B w (blk g4 64 #[.int .i64 g1, .int .i64 g2, .slice A1 g3.length c1] :: fs) ∧ ((gameroomref_GridMay_J4 i1)).bind φ1 = some r) ?_ ?_
        · rintro a w ⟨hF, hS, hm⟩
          unfold gameroomref_GridMay_J4 at hm
          refine reg1 [] [] [1, 3] [pl 1 (.pointer (some ⟨g4, 0, none⟩)), pl 3 (.int .i64 (w64 (i1 + 1)))] hF hS Fol (by kernel_rfl) (by kernel_rfl) (by kernel_rfl) ?_ (fun a w hF hS => ?_)
          · exact obs_nil
          refine then_n ?_
          rw [← hφ1] at hm
          exact ⟨(w64 (i1 + 1)), ⟨hF.weak [1, 3] (by kernel_rfl), hS⟩, hm⟩
        · refine wpIn_block ?_
          obtain ⟨hp1, hm⟩ := asrt_b hm
          obtain ⟨r3, hr3, hm⟩ := call_b hm
          refine reg [⟨false, [], vS (Instr.loadAt 27 (.pointer (some ⟨g4, 2, none⟩))), .slice A1 g3.length c1⟩, ⟨true, [], vS (Instr.indexAt 27 (.slice A1 g3.length c1) (.int .i64 i1)), .pointer (some (sAddr A1 i1))⟩, ⟨false, [], vS (Instr.loadAt 3 (.pointer (some (sAddr A1 i1)))), .int .i64 (geti g3 i1)⟩, ⟨false, [], callFunc 74 #[.int .i64 (geti g3 i1), .int .i64 0, .int .i64 2], .bool r3⟩] [none, some (.slice A1 g3.length c1), none, some (.pointer (some (sAddr A1 i1))), some (.int .i64 (geti g3 i1)), some (.bool r3), none] [1, 3, 38] [pl 1 (.pointer (some ⟨g4, 0, none⟩)), pl 3 (.int .i64 i1), pl 38 (.bool (!r3))] hF hS Fol (by kernel_rfl) (by kernel_rfl) (by kernel_rfl) ?_ (fun a w hF hS => ?_)
          · exact obs_cons (ob_load Agg27 (fun _ _ hS => (hS.at_ 0 rfl).cell rfl)) <| obs_cons (ob_ix1 (f := (Value.int .i64)) (m := g3) Und27 hi3 hs3 (hr_g3 _ (hS.dropN 1)) rfl (fun _ => hp1)) <| obs_cons (ob_get1 (n := g3.length) (m := g3) (Value.int .i64) (0 : Int) Agg3 (fun _ hS => ⟨_, (hr_g3 _ (hS.dropN 1))⟩) (fun _ hS => rfl) (fun _ => hp1)) <| obs_cons (ob_call Try.func74 (by kernel_rfl) rfl (fun _ _ hS => gameroomref_within_w hr3 hS )) <| obs_nil
          refine cond_ev (t := 38) (b := !r3) hF (by kernel_rfl) (fun hb => ?_) (fun hb => ?_)
          · replace hm := if_t hm hb
            refine reg [] [] [2] [pl 2 (.bool false)] hF hS Fol (by kernel_rfl) (by kernel_rfl) (by kernel_rfl) ?_ (fun a w hF hS => ?_)
            · exact obs_nil
            refine wpIn_ret ?_
            refine block_r (then_r (then_r (block_r (then_r ?_))))
            rw [← hφ1] at hm
            replace hm := done_b hm
            unfold gameroomref_GridMay_K1 at hm
            try dsimp only at hm
            have hS := hS.pickN 1 [] (by decide)
            have hm : some false = some r := hm
            obtain rfl := Option.some.inj hm
            exact retV (rs := [.tmp 2]) (vs := [.bool false]) hF rfl (rv_t (by kernel_rfl) <| rv_nil) rfl ⟨rfl, hS⟩
          · replace hm := if_f hm hb
            refine wpIn_skip ?_
            refine block_n ?_
            refine then_n ?_
            exact ⟨hF.weak [1, 3] (by kernel_rfl), hS, hm⟩
      · refine reg [⟨false, [], vS (Instr.loadAt 27 (.pointer (some ⟨g4, 2, none⟩))), .slice A1 g3.length c1⟩] [none, none, some (.slice A1 g3.length c1), none, none] [1, 3, 29] [pl 1 (.pointer (some ⟨g4, 0, none⟩)), pl 3 (.int .i64 i1), pl 29 (.bool (decide (i1 < (g3.length : Int))))] hF hS Fol (by kernel_rfl) (by kernel_rfl) (by kernel_rfl) ?_ (fun a w hF hS => ?_)
        · exact obs_cons (ob_load Agg27 (fun _ _ hS => (hS.at_ 0 rfl).cell rfl)) <| obs_nil
        refine cond_ev (t := 29) (b := decide (i1 < (g3.length : Int))) hF (by kernel_rfl) (fun hb => ?_) (fun hb => ?_)
        · replace hm := if_t hm hb
          refine wpIn_skip ?_
          refine then_n ?_
          exact ⟨hF.weak [1, 3] (by kernel_rfl), hS, hm⟩
        · replace hm := if_f hm hb
          refine wpIn_exit ?_
          refine then_e (then_e (block_e (then_n ?_)))
          have hS := hS.pickN 1 [] (by decide)
          rw [← hφ1] at hm
          replace hm := done_b hm
          unfold gameroomref_GridMay_K1 at hm
          try dsimp only at hm
          have hm : (gameroomref_GridMay_J2).bind some = some r := hm
          exact ⟨hF.weak [] (by kernel_rfl), hS, hm⟩
  · obtain ⟨r1, hr1, hm⟩ := call_b hm
    obtain ⟨r2, hr2, hm⟩ := call_b hm
    refine reg [⟨false, [], vS (Instr.loadAt 3 (.pointer (some ⟨g4, 0, none⟩))), .int .i64 g1⟩, ⟨false, [], callFunc 74 #[.int .i64 g1, .int .i64 1, .int .i64 10], .bool r1⟩, ⟨false, [(!r1, false)], vS (Instr.loadAt 3 (.pointer (some ⟨g4, 1, none⟩))), .int .i64 g2⟩, ⟨false, [(!r1, false)], callFunc 74 #[.int .i64 g2, .int .i64 1, .int .i64 10], .bool r2⟩, ⟨false, [((!r1) || (!r2), false)], vS (Instr.loadAt 27 (.pointer (some ⟨g4, 2, none⟩))), .slice A1 g3.length c1⟩, ⟨false, [((!r1) || (!r2), false)], vS (Instr.loadAt 3 (.pointer (some ⟨g4, 0, none⟩))), .int .i64 g1⟩, ⟨false, [((!r1) || (!r2), false)], vS (Instr.loadAt 3 (.pointer (some ⟨g4, 1, none⟩))), .int .i64 g2⟩] [none, some (.int .i64 g1), some (.bool r1), none, none, none, some (.int .i64 g2), some (.bool r2), none, none, none, none, some (.slice A1 g3.length c1), none, none, some (.int .i64 g1), none, some (.int .i64 g2), none, none, none] [1, 24] [pl 1 (.pointer (some ⟨g4, 0, none⟩)), pl 24 (.bool (((!r1) || (!r2)) || ((g3.length : Int) != (w64 (g1 * g2)))))] hF hS Fol (by kernel_rfl) (by kernel_rfl) (by kernel_rfl) ?_ (fun a w hF hS => ?_)
    · exact obs_cons (ob_load Agg3 (fun _ _ hS => (hS.at_ 0 rfl).cell rfl)) <| obs_cons (ob_call Try.func74 (by kernel_rfl) rfl (fun _ _ hS => gameroomref_within_w hr1 hS )) <| obs_cons (ob_load Agg3 (fun _ _ hS => (hS.at_ 0 rfl).cell rfl)) <| obs_cons (ob_call Try.func74 (by kernel_rfl) rfl (fun hy _ hS => gameroomref_within_w (ite_some hr2 (by rw [show (!r1) = false from hy (!r1, false) (by simp)]; try rfl)) hS )) <| obs_cons (ob_load Agg27 (fun _ _ hS => (hS.at_ 0 rfl).cell rfl)) <| obs_cons (ob_load Agg3 (fun _ _ hS => (hS.at_ 0 rfl).cell rfl)) <| obs_cons (ob_load Agg3 (fun _ _ hS => (hS.at_ 0 rfl).cell rfl)) <| obs_nil
    refine cond_ev (t := 24) (b := ((!r1) || (!r2)) || ((g3.length : Int) != (w64 (g1 * g2)))) hF (by kernel_rfl) (fun hb => ?_) (fun hb => ?_)
    · replace hm := if_t hm hb
      refine reg [] [] [2] [pl 2 (.bool false)] hF hS Fol (by kernel_rfl) (by kernel_rfl) (by kernel_rfl) ?_ (fun a w hF hS => ?_)
      · exact obs_nil
      refine wpIn_ret ?_
      refine then_r ?_
      have hS := hS.pickN 1 [] (by decide)
      have hm : some false = some r := hm
      obtain rfl := Option.some.inj hm
      exact retV (rs := [.tmp 2]) (vs := [.bool false]) hF rfl (rv_t (by kernel_rfl) <| rv_nil) rfl ⟨rfl, hS⟩
    · replace hm := if_f hm hb
      refine wpIn_skip ?_
      refine then_n ?_
      exact ⟨hF.weak [1] (by kernel_rfl), hS, hm⟩

noncomputable def gameroomref_HexMay_m  (g1 : Int) (g2 : Int) (g3 : List Int) : Option Bool :=
  (gameroomref_GridMay_m g1 g2 g3).bind fun r1 => some (r1 && (g1 == g2))

set_option maxRecDepth 100000 in
set_option maxHeartbeats 4000000 in
theorem gameroomref_HexMay_w {g1 : Int} {g2 : Int} {A1 : Option Addr} {c1 : Nat} {n1 : Nat} {g3 : List Int} {r : Bool} {w0 w : World} {B : Nat} {fs : List HP} (hm : gameroomref_HexMay_m g1 g2 g3 = some r) (hS : Sep w0 B w (fs)) (hr_g3 : RdF w0 B fs A1 (vI g3)) (_hc_g3 : g3.length ≤ c1) (_hn_g3 : n1 = g3.length) :
    Calls Try.prog 42 #[.agg #[.int .i64 g1, .int .i64 g2, .slice A1 n1 c1]] w fun e w' => e = .returned (.bool r) ∧ Sep w0 B w' (fs) := by
  obtain ⟨i3, hi3, hz3, hs3, hb3⟩ := info_parts Info3
  obtain rfl := _hn_g3
  unfold gameroomref_HexMay_m at hm
  replace hm := start_b hm
  refine enter (l := [.agg #[.int .i64 g1, .int .i64 g2, .slice A1 g3.length c1]]) (n := 12) Try.func42 rfl rfl (by simp) (fun a hF => ?_)
  refine seqR ?_
  refine at_do (d := 1) (s := vS (Instr.box 64 (.agg #[.int .i64 g1, .int .i64 g2, .slice A1 g3.length c1]))) (v := .pointer (some ⟨w.heap.size, 0, none⟩)) (w' := w.alloc (.cells #[.int .i64 g1, .int .i64 g2, .slice A1 g3.length c1] 64)) hF (by kernel_rfl) (by kernel_rfl) (by kernel_rfl) (fun a hF => ?_)
  have hS : Sep w0 B (w.alloc (.cells #[.int .i64 g1, .int .i64 g2, .slice A1 g3.length c1] 64)) (blk w.heap.size 64 #[.int .i64 g1, .int .i64 g2, .slice A1 g3.length c1] :: (fs)) := hS.box 64 #[.int .i64 g1, .int .i64 g2, .slice A1 g3.length c1]
  generalize w.heap.size = g4 at hF hS
  generalize w.alloc (.cells #[.int .i64 g1, .int .i64 g2, .slice A1 g3.length c1] 64) = w at hS ⊢
  refine at_run 1 [] [] [1] [pl 1 (.pointer (some ⟨g4, 0, none⟩))] hF hS (by kernel_rfl) (by kernel_rfl) ?_ (fun a w hF hS => ?_)
  · exact obs_nil
  refine at_end [1] [pl 1 (.pointer (some ⟨g4, 0, none⟩))] hF rfl (by kernel_rfl) (fun hF => ?_)
  refine then_n ?_
  obtain ⟨r1, hr1, hm⟩ := call_b hm
  refine reg [⟨false, [], vS (Instr.loadAt 64 (.pointer (some ⟨g4, 0, none⟩))), .agg #[.int .i64 g1, .int .i64 g2, .slice A1 g3.length c1]⟩, ⟨false, [], callFunc 123 #[.agg #[.int .i64 g1, .int .i64 g2, .slice A1 g3.length c1]], .bool r1⟩, ⟨false, [(r1, true)], vS (Instr.loadAt 3 (.pointer (some ⟨g4, 0, none⟩))), .int .i64 g1⟩, ⟨false, [(r1, true)], vS (Instr.loadAt 3 (.pointer (some ⟨g4, 1, none⟩))), .int .i64 g2⟩] [some (.agg #[.int .i64 g1, .int .i64 g2, .slice A1 g3.length c1]), some (.bool r1), none, none, some (.int .i64 g1), none, some (.int .i64 g2), none, none, none] [2] [pl 2 (.bool (r1 && (g1 == g2)))] hF hS Fol (by kernel_rfl) (by kernel_rfl) (by kernel_rfl) ?_ (fun a w hF hS => ?_)
  · exact obs_cons (ob_loadA (cs := #[.int .i64 g1, .int .i64 g2, .slice A1 g3.length c1]) (by kernel_rfl) (by kernel_rfl) (fun _ _ hS => (hS.at_ 0 rfl).cellsAt 0 (by rfl))) <| obs_cons (ob_call Try.func123 (by kernel_rfl) rfl (fun _ _ hS => gameroomref_GridMay_w hr1 hS (fun _ hS => (hr_g3 _ (hS.dropN 1))) _hc_g3 rfl)) <| obs_cons (ob_load Agg3 (fun _ _ hS => (hS.at_ 0 rfl).cell rfl)) <| obs_cons (ob_load Agg3 (fun _ _ hS => (hS.at_ 0 rfl).cell rfl)) <| obs_nil
  refine wpIn_ret ?_
  have hS := hS.pickN 1 [] (by decide)
  have hm : some (r1 && (g1 == g2)) = some r := hm
  obtain rfl := Option.some.inj hm
  exact retV (rs := [.tmp 2]) (vs := [.bool (r1 && (g1 == g2))]) hF rfl (rv_t (by kernel_rfl) <| rv_nil) rfl ⟨rfl, hS⟩

noncomputable def gameroomref_hexNear_m  (n1 : Int) (a1 : Int) (b1 : Int) : Option Bool :=
  asrt (n1 ≠ (0 : Int)) <| asrt (n1 ≠ (0 : Int)) <| asrt (n1 ≠ (0 : Int)) <| asrt (n1 ≠ (0 : Int)) <| some (((((w64 ((w64 (Int.tdiv b1 n1)) - (w64 (Int.tdiv a1 n1)))) == 0) && (((w64 ((Int.tmod b1 n1) - (Int.tmod a1 n1))) == 1) || ((w64 ((Int.tmod b1 n1) - (Int.tmod a1 n1))) == (-1)))) || (((w64 ((w64 (Int.tdiv b1 n1)) - (w64 (Int.tdiv a1 n1)))) == (-1)) && (((w64 ((Int.tmod b1 n1) - (Int.tmod a1 n1))) == 0) || ((w64 ((Int.tmod b1 n1) - (Int.tmod a1 n1))) == 1)))) || (((w64 ((w64 (Int.tdiv b1 n1)) - (w64 (Int.tdiv a1 n1)))) == 1) && (((w64 ((Int.tmod b1 n1) - (Int.tmod a1 n1))) == 0) || ((w64 ((Int.tmod b1 n1) - (Int.tmod a1 n1))) == (-1)))))

set_option maxRecDepth 100000 in
set_option maxHeartbeats 4000000 in
theorem gameroomref_hexNear_w {n1 : Int} {a1 : Int} {b1 : Int} {r : Bool} {w0 w : World} {B : Nat} {fs : List HP} (hm : gameroomref_hexNear_m n1 a1 b1 = some r) (hS : Sep w0 B w (fs)) :
    Calls Try.prog 124 #[.int .i64 n1, .int .i64 a1, .int .i64 b1] w fun e w' => e = .returned (.bool r) ∧ Sep w0 B w' (fs) := by
  unfold gameroomref_hexNear_m at hm
  replace hm := start_b hm
  refine enter (l := [.int .i64 n1, .int .i64 a1, .int .i64 b1]) (n := 57) Try.func124 rfl rfl (by simp) (fun a hF => ?_)
  refine reg [] [] [0, 1, 2] [pl 0 (.int .i64 n1), pl 1 (.int .i64 a1), pl 2 (.int .i64 b1)] hF hS Fol (by kernel_rfl) (by kernel_rfl) (by kernel_rfl) ?_ (fun a w hF hS => ?_)
  · exact obs_nil
  obtain ⟨hp1, hm⟩ := asrt_b hm
  obtain ⟨hp2, hm⟩ := asrt_b hm
  obtain ⟨hp3, hm⟩ := asrt_b hm
  obtain ⟨hp4, hm⟩ := asrt_b hm
  refine reg [⟨true, [], vS (Op.intDiv .rem .i64 b1 n1), .int .i64 (Int.tmod b1 n1)⟩, ⟨true, [], vS (Op.intDiv .rem .i64 a1 n1), .int .i64 (Int.tmod a1 n1)⟩, ⟨true, [], vS (Op.intDiv .quo .i64 b1 n1), .int .i64 (w64 (Int.tdiv b1 n1))⟩, ⟨true, [], vS (Op.intDiv .quo .i64 a1 n1), .int .i64 (w64 (Int.tdiv a1 n1))⟩] [none, none, some (.int .i64 (Int.tmod b1 n1)), none, none, some (.int .i64 (Int.tmod a1 n1)), none, none, none, some (.int .i64 (w64 (Int.tdiv b1 n1))), none, none, some (.int .i64 (w64 (Int.tdiv a1 n1))), none, none, none] [7, 8] [pl 7 (.int .i64 (w64 ((Int.tmod b1 n1) - (Int.tmod a1 n1)))), pl 8 (.int .i64 (w64 ((w64 (Int.tdiv b1 n1)) - (w64 (Int.tdiv a1 n1)))))] hF hS Fol (by kernel_rfl) (by kernel_rfl) (by kernel_rfl) ?_ (fun a w hF hS => ?_)
  · exact obs_cons (ob_rem rfl (fun _ => hp1)) <| obs_cons (ob_rem rfl (fun _ => hp2)) <| obs_cons (ob_quo rfl (fun _ => hp3)) <| obs_cons (ob_quo rfl (fun _ => hp4)) <| obs_nil
  refine reg [] [] [6] [pl 6 (.bool (((((w64 ((w64 (Int.tdiv b1 n1)) - (w64 (Int.tdiv a1 n1)))) == 0) && (((w64 ((Int.tmod b1 n1) - (Int.tmod a1 n1))) == 1) || ((w64 ((Int.tmod b1 n1) - (Int.tmod a1 n1))) == (-1)))) || (((w64 ((w64 (Int.tdiv b1 n1)) - (w64 (Int.tdiv a1 n1)))) == (-1)) && (((w64 ((Int.tmod b1 n1) - (Int.tmod a1 n1))) == 0) || ((w64 ((Int.tmod b1 n1) - (Int.tmod a1 n1))) == 1)))) || (((w64 ((w64 (Int.tdiv b1 n1)) - (w64 (Int.tdiv a1 n1)))) == 1) && (((w64 ((Int.tmod b1 n1) - (Int.tmod a1 n1))) == 0) || ((w64 ((Int.tmod b1 n1) - (Int.tmod a1 n1))) == (-1))))))] hF hS Fol (by kernel_rfl) (by kernel_rfl) (by kernel_rfl) ?_ (fun a w hF hS => ?_)
  · exact obs_nil
  refine wpIn_ret ?_
  have hm : some (((((w64 ((w64 (Int.tdiv b1 n1)) - (w64 (Int.tdiv a1 n1)))) == 0) && (((w64 ((Int.tmod b1 n1) - (Int.tmod a1 n1))) == 1) || ((w64 ((Int.tmod b1 n1) - (Int.tmod a1 n1))) == (-1)))) || (((w64 ((w64 (Int.tdiv b1 n1)) - (w64 (Int.tdiv a1 n1)))) == (-1)) && (((w64 ((Int.tmod b1 n1) - (Int.tmod a1 n1))) == 0) || ((w64 ((Int.tmod b1 n1) - (Int.tmod a1 n1))) == 1)))) || (((w64 ((w64 (Int.tdiv b1 n1)) - (w64 (Int.tdiv a1 n1)))) == 1) && (((w64 ((Int.tmod b1 n1) - (Int.tmod a1 n1))) == 0) || ((w64 ((Int.tmod b1 n1) - (Int.tmod a1 n1))) == (-1))))) = some r := hm
  obtain rfl := Option.some.inj hm
  exact retV (rs := [.tmp 6]) (vs := [.bool (((((w64 ((w64 (Int.tdiv b1 n1)) - (w64 (Int.tdiv a1 n1)))) == 0) && (((w64 ((Int.tmod b1 n1) - (Int.tmod a1 n1))) == 1) || ((w64 ((Int.tmod b1 n1) - (Int.tmod a1 n1))) == (-1)))) || (((w64 ((w64 (Int.tdiv b1 n1)) - (w64 (Int.tdiv a1 n1)))) == (-1)) && (((w64 ((Int.tmod b1 n1) - (Int.tmod a1 n1))) == 0) || ((w64 ((Int.tmod b1 n1) - (Int.tmod a1 n1))) == 1)))) || (((w64 ((w64 (Int.tdiv b1 n1)) - (w64 (Int.tdiv a1 n1)))) == 1) && (((w64 ((Int.tmod b1 n1) - (Int.tmod a1 n1))) == 0) || ((w64 ((Int.tmod b1 n1) - (Int.tmod a1 n1))) == (-1)))))]) hF rfl (rv_t (by kernel_rfl) <| rv_nil) rfl ⟨rfl, hS⟩

noncomputable def gameroomref_HexShortest_J3  (i1 : Int) (cost5 : List Int) (far3 : List Int) : Option (St (List Int × List Int × Int) (List Int × List Int)) :=
  some (.next (cost5, far3, (w64 (i1 + 1))))

noncomputable def gameroomref_HexShortest_J6  (g3 : List Int) (far1 : List Int) (i1 : Int) (cost4 : List Int) (d1 : Int) : Option (St (List Int × List Int × Int) (List Int × List Int)) :=
  asrt ((d1 == 0) = true → 0 ≤ i1 ∧ i1 < (((Int.toNat (g3.length : Int)) : Nat) : Int)) <| if ((d1 == 0) && (decide ((geti cost4 i1) < 1000000))) then (asrt (0 ≤ i1 ∧ i1 < (((Int.toNat (g3.length : Int)) : Nat) : Int)) <| asrt (0 ≤ i1 ∧ i1 < (((Int.toNat (g3.length : Int)) : Nat) : Int)) <| (gameroomref_HexShortest_J3 i1) cost4 ((far1.set (Int.toNat i1) 1000000).set (Int.toNat i1) (geti cost4 i1))) else ((gameroomref_HexShortest_J3 i1) cost4 (far1.set (Int.toNat i1) 1000000))

noncomputable def gameroomref_HexShortest_J5  (g1 : Int) (g3 : List Int) (who1 : Int) (far1 : List Int) (i1 : Int) (cost4 : List Int) : Option (St (List Int × List Int × Int) (List Int × List Int)) :=
  asrt (g1 ≠ (0 : Int)) <| if (who1 == 2) then (asrt (g1 ≠ (0 : Int)) <| (gameroomref_HexShortest_J6 g3 far1 i1 cost4) (Int.tmod i1 g1)) else ((gameroomref_HexShortest_J6 g3 far1 i1 cost4) (w64 (Int.tdiv i1 g1)))

noncomputable def gameroomref_HexShortest_J4  (g1 : Int) (g3 : List Int) (who1 : Int) (far1 : List Int) (i1 : Int) (cost3 : List Int) : Option (St (List Int × List Int × Int) (List Int × List Int)) :=
  asrt (0 ≤ i1 ∧ i1 < (g3.length : Int)) <| if ((geti g3 i1) == (w64 (3 - who1))) then (asrt (0 ≤ i1 ∧ i1 < (((Int.toNat (g3.length : Int)) : Nat) : Int)) <| (gameroomref_HexShortest_J5 g1 g3 who1 far1 i1) (cost3.set (Int.toNat i1) 1000000)) else ((gameroomref_HexShortest_J5 g1 g3 who1 far1 i1) cost3)

noncomputable def gameroomref_HexShortest_J2  (g1 : Int) (g3 : List Int) (who1 : Int) (cost1 : List Int) (far1 : List Int) (i1 : Int) : Option (St (List Int × List Int × Int) (List Int × List Int)) :=
  asrt (0 ≤ i1 ∧ i1 < (((Int.toNat (g3.length : Int)) : Nat) : Int)) <| asrt (0 ≤ i1 ∧ i1 < (((Int.toNat (g3.length : Int)) : Nat) : Int)) <| asrt (0 ≤ i1 ∧ i1 < (g3.length : Int)) <| if ((geti g3 i1) == who1) then (asrt (0 ≤ i1 ∧ i1 < (((Int.toNat (g3.length : Int)) : Nat) : Int)) <| (gameroomref_HexShortest_J4 g1 g3 who1 far1 i1) ((cost1.set (Int.toNat i1) 1).set (Int.toNat i1) 0)) else ((gameroomref_HexShortest_J4 g1 g3 who1 far1 i1) (cost1.set (Int.toNat i1) 1))

noncomputable def gameroomref_HexShortest_J12  (b1 : Int) (far9 : List Int) (changed5 : Bool) : Option (St (List Int × Bool × Int) (List Int × Bool)) :=
  some (.next (far9, changed5, (w64 (b1 + 1))))

noncomputable def gameroomref_HexShortest_J11  (g1 : Int) (g3 : List Int) (cost2 : List Int) (a1 : Int) (far7 : List Int) (changed3 : Bool) (b1 : Int) : Option (St (List Int × Bool × Int) (List Int × Bool)) :=
  asrt (0 ≤ a1 ∧ a1 < (((Int.toNat (g3.length : Int)) : Nat) : Int)) <| asrt ((decide ((geti far7 a1) < 1000000)) = true → 0 ≤ b1 ∧ b1 < (((Int.toNat (g3.length : Int)) : Nat) : Int)) <| ((if ((decide ((geti far7 a1) < 1000000)) && (decide ((geti cost2 b1) < 1000000))) then gameroomref_hexNear_m g1 a1 b1 else some false)).bind fun r1 => asrt ((((decide ((geti far7 a1) < 1000000)) && (decide ((geti cost2 b1) < 1000000))) && r1) = true → 0 ≤ a1 ∧ a1 < (((Int.toNat (g3.length : Int)) : Nat) : Int)) <| asrt ((((decide ((geti far7 a1) < 1000000)) && (decide ((geti cost2 b1) < 1000000))) && r1) = true → 0 ≤ b1 ∧ b1 < (((Int.toNat (g3.length : Int)) : Nat) : Int)) <| asrt ((((decide ((geti far7 a1) < 1000000)) && (decide ((geti cost2 b1) < 1000000))) && r1) = true → 0 ≤ b1 ∧ b1 < (((Int.toNat (g3.length : Int)) : Nat) : Int)) <| if ((((decide ((geti far7 a1) < 1000000)) && (decide ((geti cost2 b1) < 1000000))) && r1) && (decide ((w64 ((geti far7 a1) + (geti cost2 b1))) < (geti far7 b1)))) then (asrt (0 ≤ a1 ∧ a1 < (((Int.toNat (g3.length : Int)) : Nat) : Int)) <| asrt (0 ≤ b1 ∧ b1 < (((Int.toNat (g3.length : Int)) : Nat) : Int)) <| asrt (0 ≤ b1 ∧ b1 < (((Int.toNat (g3.length : Int)) : Nat) : Int)) <| (gameroomref_HexShortest_J12 b1) (far7.set (Int.toNat b1) (w64 ((geti far7 a1) + (geti cost2 b1)))) true) else ((gameroomref_HexShortest_J12 b1) far7 changed3)

noncomputable def gameroomref_HexShortest_L4  (g1 : Int) (g3 : List Int) (cost2 : List Int) (a1 : Int) : (List Int × Bool × Int) → Option (St (List Int × Bool × Int) (List Int × Bool)) :=
  fun (x : (List Int × Bool × Int)) => match x with | (far7, changed3, b1) => if (decide (b1 < (g3.length : Int))) then ((gameroomref_HexShortest_J11 g1 g3 cost2 a1 far7 changed3 b1)) else (some (.done (far7, changed3)))

noncomputable def gameroomref_HexShortest_J10  (a1 : Int) (far8 : List Int) (changed4 : Bool) : Option (St (List Int × Bool × Int) (List Int × Bool)) :=
  some (.next (far8, changed4, (w64 (a1 + 1))))

noncomputable def gameroomref_HexShortest_K4  (a1 : Int) : (List Int × Bool) → Option (St (List Int × Bool × Int) (List Int × Bool)) :=
  fun (x : (List Int × Bool)) => match x with | (far8, changed4) => (gameroomref_HexShortest_J10 a1) far8 changed4

noncomputable def gameroomref_HexShortest_J9  (g1 : Int) (g3 : List Int) (cost2 : List Int) (far6 : List Int) (changed2 : Bool) (a1 : Int) : Option (St (List Int × Bool × Int) (List Int × Bool)) :=
  (loop (gameroomref_HexShortest_L4 g1 g3 cost2 a1) (far6, changed2, 0)).bind (gameroomref_HexShortest_K4 a1)

noncomputable def gameroomref_HexShortest_L3  (g1 : Int) (g3 : List Int) (cost2 : List Int) : (List Int × Bool × Int) → Option (St (List Int × Bool × Int) (List Int × Bool)) :=
  fun (x : (List Int × Bool × Int)) => match x with | (far6, changed2, a1) => if (decide (a1 < (g3.length : Int))) then ((gameroomref_HexShortest_J9 g1 g3 cost2 far6 changed2 a1)) else (some (.done (far6, changed2)))

noncomputable def gameroomref_HexShortest_K3  : (List Int × Bool) → Option (St (List Int × Bool) (List Int)) :=
  fun (x : (List Int × Bool)) => match x with | (far4, changed1) => some (.next (far4, changed1))

noncomputable def gameroomref_HexShortest_J8  (g1 : Int) (g3 : List Int) (cost2 : List Int) (far4 : List Int) : Option (St (List Int × Bool) (List Int)) :=
  (loop (gameroomref_HexShortest_L3 g1 g3 cost2) (far4, false, 0)).bind gameroomref_HexShortest_K3

noncomputable def gameroomref_HexShortest_L2  (g1 : Int) (g3 : List Int) (cost2 : List Int) : (List Int × Bool) → Option (St (List Int × Bool) (List Int)) :=
  fun (x : (List Int × Bool)) => match x with | (far4, changed1) => if changed1 then ((gameroomref_HexShortest_J8 g1 g3 cost2 far4)) else (some (.done far4))

noncomputable def gameroomref_HexShortest_J15  (i2 : Int) (best3 : Int) : Option (St (Int × Int) Int) :=
  some (.next (best3, (w64 (i2 + 1))))

noncomputable def gameroomref_HexShortest_J16  (g1 : Int) (g3 : List Int) (far5 : List Int) (best1 : Int) (i2 : Int) (d2 : Int) : Option (St (Int × Int) Int) :=
  asrt ((d2 == (w64 (g1 - 1))) = true → 0 ≤ i2 ∧ i2 < (((Int.toNat (g3.length : Int)) : Nat) : Int)) <| if ((d2 == (w64 (g1 - 1))) && (decide ((geti far5 i2) < best1))) then (asrt (0 ≤ i2 ∧ i2 < (((Int.toNat (g3.length : Int)) : Nat) : Int)) <| (gameroomref_HexShortest_J15 i2) (geti far5 i2)) else ((gameroomref_HexShortest_J15 i2) best1)

noncomputable def gameroomref_HexShortest_J14  (g1 : Int) (g3 : List Int) (who1 : Int) (far5 : List Int) (best1 : Int) (i2 : Int) : Option (St (Int × Int) Int) :=
  asrt (g1 ≠ (0 : Int)) <| if (who1 == 2) then (asrt (g1 ≠ (0 : Int)) <| (gameroomref_HexShortest_J16 g1 g3 far5 best1 i2) (Int.tmod i2 g1)) else ((gameroomref_HexShortest_J16 g1 g3 far5 best1 i2) (w64 (Int.tdiv i2 g1)))

noncomputable def gameroomref_HexShortest_L5  (g1 : Int) (g3 : List Int) (who1 : Int) (far5 : List Int) : (Int × Int) → Option (St (Int × Int) Int) :=
  fun (x : (Int × Int)) => match x with | (best1, i2) => if (decide (i2 < (g3.length : Int))) then ((gameroomref_HexShortest_J14 g1 g3 who1 far5 best1 i2)) else (some (.done best1))

noncomputable def gameroomref_HexShortest_J17  (best2 : Int) : Option Int :=
  some best2

noncomputable def gameroomref_HexShortest_J13  (best2 : Int) : Option Int :=
  if (best2 == 1000000) then (some (-1)) else ((gameroomref_HexShortest_J17 best2))

noncomputable def gameroomref_HexShortest_K5  : Int → Option Int :=
  fun (x : Int) => match x with | best2 => gameroomref_HexShortest_J13 best2

noncomputable def gameroomref_HexShortest_J7  (g1 : Int) (g3 : List Int) (who1 : Int) (far5 : List Int) : Option Int :=
  (loop (gameroomref_HexShortest_L5 g1 g3 who1 far5) (1000000, 0)).bind gameroomref_HexShortest_K5

noncomputable def gameroomref_HexShortest_K2  (g1 : Int) (g3 : List Int) (who1 : Int) : (List Int) → Option Int :=
  fun (x : (List Int)) => match x with | far5 => (gameroomref_HexShortest_J7 g1 g3 who1) far5

noncomputable def gameroomref_HexShortest_J1  (g1 : Int) (g3 : List Int) (who1 : Int) (cost2 : List Int) (far2 : List Int) : Option Int :=
  (loop (gameroomref_HexShortest_L2 g1 g3 cost2) (far2, true)).bind (gameroomref_HexShortest_K2 g1 g3 who1)

noncomputable def gameroomref_HexShortest_K1  (g1 : Int) (g3 : List Int) (who1 : Int) : (List Int × List Int) → Option Int :=
  fun (x : (List Int × List Int)) => match x with | (cost2, far2) => (gameroomref_HexShortest_J1 g1 g3 who1) cost2 far2

noncomputable def gameroomref_HexShortest_L1  (g1 : Int) (g3 : List Int) (who1 : Int) : (List Int × List Int × Int) → Option (St (List Int × List Int × Int) (List Int × List Int)) :=
  fun (x : (List Int × List Int × Int)) => match x with | (cost1, far1, i1) => if (decide (i1 < (g3.length : Int))) then ((gameroomref_HexShortest_J2 g1 g3 who1 cost1 far1 i1)) else (some (.done (cost1, far1)))

noncomputable def gameroomref_HexShortest_m  (g1 : Int) (g2 : Int) (g3 : List Int) (who1 : Int) : Option Int :=
  asrt ((0 : Int) ≤ (g3.length : Int) ∧ (g3.length : Int) ≤ bigN) <| asrt ((0 : Int) ≤ (g3.length : Int) ∧ (g3.length : Int) ≤ bigN) <| (loop (gameroomref_HexShortest_L1 g1 g3 who1) ((List.replicate (Int.toNat (g3.length : Int)) (0 : Int)), (List.replicate (Int.toNat (g3.length : Int)) (0 : Int)), 0)).bind (gameroomref_HexShortest_K1 g1 g3 who1)

set_option maxRecDepth 100000 in
set_option maxHeartbeats 4000000 in
theorem gameroomref_HexShortest_w {g1 : Int} {g2 : Int} {A1 : Option Addr} {c1 : Nat} {n1 : Nat} {g3 : List Int} {who1 : Int} {r : Int} {w0 w : World} {B : Nat} {fs : List HP} (hm : gameroomref_HexShortest_m g1 g2 g3 who1 = some r) (hS : Sep w0 B w (fs)) (hr_g3 : RdF w0 B fs A1 (vI g3)) (_hc_g3 : g3.length ≤ c1) (_hn_g3 : n1 = g3.length) :
    Calls Try.prog 43 #[.agg #[.int .i64 g1, .int .i64 g2, .slice A1 n1 c1], .int .i64 who1] w fun e w' => e = .returned (.int .i64 r) ∧ Sep w0 B w' (fs) := by
  obtain ⟨i3, hi3, hz3, hs3, hb3⟩ := info_parts Info3
  obtain rfl := _hn_g3
  unfold gameroomref_HexShortest_m at hm
  replace hm := start_b hm
  refine enter (l := [.agg #[.int .i64 g1, .int .i64 g2, .slice A1 g3.length c1], .int .i64 who1]) (n := 174) Try.func43 rfl rfl (by simp) (fun a hF => ?_)
  refine seqR ?_
  refine at_do (d := 2) (s := vS (Instr.box 64 (.agg #[.int .i64 g1, .int .i64 g2, .slice A1 g3.length c1]))) (v := .pointer (some ⟨w.heap.size, 0, none⟩)) (w' := w.alloc (.cells #[.int .i64 g1, .int .i64 g2, .slice A1 g3.length c1] 64)) hF (by kernel_rfl) (by kernel_rfl) (by kernel_rfl) (fun a hF => ?_)
  have hS : Sep w0 B (w.alloc (.cells #[.int .i64 g1, .int .i64 g2, .slice A1 g3.length c1] 64)) (blk w.heap.size 64 #[.int .i64 g1, .int .i64 g2, .slice A1 g3.length c1] :: (fs)) := hS.box 64 #[.int .i64 g1, .int .i64 g2, .slice A1 g3.length c1]
  generalize w.heap.size = g4 at hF hS
  generalize w.alloc (.cells #[.int .i64 g1, .int .i64 g2, .slice A1 g3.length c1] 64) = w at hS ⊢
  refine at_run 1 [] [] [1, 2] [pl 1 (.int .i64 who1), pl 2 (.pointer (some ⟨g4, 0, none⟩))] hF hS (by kernel_rfl) (by kernel_rfl) ?_ (fun a w hF hS => ?_)
  · exact obs_nil
  refine at_end [1, 2] [pl 1 (.int .i64 who1), pl 2 (.pointer (some ⟨g4, 0, none⟩))] hF rfl (by kernel_rfl) (fun hF => ?_)
  refine then_n ?_
  refine reg [⟨false, [], vS (Instr.loadAt 27 (.pointer (some ⟨g4, 2, none⟩))), .slice A1 g3.length c1⟩] [none, some (.slice A1 g3.length c1), none, none] [1, 2, 5] [pl 1 (.int .i64 who1), pl 2 (.pointer (some ⟨g4, 0, none⟩)), pl 5 (.int .i64 (g3.length : Int))] hF hS Fol (by kernel_rfl) (by kernel_rfl) (by kernel_rfl) ?_ (fun a w hF hS => ?_)
  · exact obs_cons (ob_load Agg27 (fun _ _ hS => (hS.at_ 0 rfl).cell rfl)) <| obs_nil
  refine seqR ?_
  obtain ⟨hp1, hm⟩ := asrt_b hm
  refine at_run 1 [] [] [1, 2, 5, 19] [pl 1 (.int .i64 who1), pl 2 (.pointer (some ⟨g4, 0, none⟩)), pl 5 (.int .i64 (g3.length : Int)), pl 19 (.int .i64 (g3.length : Int))] hF hS (by kernel_rfl) (by kernel_rfl) ?_ (fun a w hF hS => ?_)
  · exact obs_nil
  obtain ⟨A2, c2, w, hrun, hS⟩ := run_mk1 (P := Try.prog) (t := 27) (Value.int .i64) (0 : Int) hS .i64 .i64 Und27 hi3 hz3 hs3 (by omega) rfl hp1
  have hS : Sep w0 B w (own 3 (.slice A2 (Int.toNat (g3.length : Int)) c2) (vI (List.replicate (Int.toNat (g3.length : Int)) (0 : Int))) :: blk g4 64 #[.int .i64 g1, .int .i64 g2, .slice A1 g3.length c1] :: fs) := hS
  refine at_do (d := 20) hF (by kernel_rfl) (by kernel_rfl) hrun (fun a hF => ?_)
  refine at_run 1 [] [] [1, 2, 5, 6] [pl 1 (.int .i64 who1), pl 2 (.pointer (some ⟨g4, 0, none⟩)), pl 5 (.int .i64 (g3.length : Int)), pl 6 (.slice A2 (Int.toNat (g3.length : Int)) c2)] hF hS (by kernel_rfl) (by kernel_rfl) ?_ (fun a w hF hS => ?_)
  · exact obs_nil
  refine at_end [1, 2, 5, 6] [pl 1 (.int .i64 who1), pl 2 (.pointer (some ⟨g4, 0, none⟩)), pl 5 (.int .i64 (g3.length : Int)), pl 6 (.slice A2 (Int.toNat (g3.length : Int)) c2)] hF rfl (by kernel_rfl) (fun hF => ?_)
  refine then_n ?_
  refine seqR ?_
  obtain ⟨hp2, hm⟩ := asrt_b hm
  refine at_run 1 [] [] [1, 2, 5, 6, 21] [pl 1 (.int .i64 who1), pl 2 (.pointer (some ⟨g4, 0, none⟩)), pl 5 (.int .i64 (g3.length : Int)), pl 6 (.slice A2 (Int.toNat (g3.length : Int)) c2), pl 21 (.int .i64 (g3.length : Int))] hF hS (by kernel_rfl) (by kernel_rfl) ?_ (fun a w hF hS => ?_)
  · exact obs_nil
  obtain ⟨A3, c3, w, hrun, hS⟩ := run_mk1 (P := Try.prog) (t := 27) (Value.int .i64) (0 : Int) hS .i64 .i64 Und27 hi3 hz3 hs3 (by omega) rfl hp2
  have hS : Sep w0 B w (own 3 (.slice A3 (Int.toNat (g3.length : Int)) c3) (vI (List.replicate (Int.toNat (g3.length : Int)) (0 : Int))) :: own 3 (.slice A2 (Int.toNat (g3.length : Int)) c2) (vI (List.replicate (Int.toNat (g3.length : Int)) (0 : Int))) :: blk g4 64 #[.int .i64 g1, .int .i64 g2, .slice A1 g3.length c1] :: fs) := hS
  refine at_do (d := 22) hF (by kernel_rfl) (by kernel_rfl) hrun (fun a hF => ?_)
  refine at_run 1 [] [] [1, 2, 5, 6, 7] [pl 1 (.int .i64 who1), pl 2 (.pointer (some ⟨g4, 0, none⟩)), pl 5 (.int .i64 (g3.length : Int)), pl 6 (.slice A2 (Int.toNat (g3.length : Int)) c2), pl 7 (.slice A3 (Int.toNat (g3.length : Int)) c3)] hF hS (by kernel_rfl) (by kernel_rfl) ?_ (fun a w hF hS => ?_)
  · exact obs_nil
  refine at_end [1, 2, 5, 6, 7] [pl 1 (.int .i64 who1), pl 2 (.pointer (some ⟨g4, 0, none⟩)), pl 5 (.int .i64 (g3.length : Int)), pl 6 (.slice A2 (Int.toNat (g3.length : Int)) c2), pl 7 (.slice A3 (Int.toNat (g3.length : Int)) c3)] hF rfl (by kernel_rfl) (fun hF => ?_)
  refine then_n ?_
  refine seq_cut (fun a w => ∃ (cost2 : List Int) (far2 : List Int), Fr 174 [pl 1 (.int .i64 who1), pl 2 (.pointer (some ⟨g4, 0, none⟩)), pl 5 (.int .i64 (g3.length : Int)), pl 6 (.slice A2 (Int.toNat (g3.length : Int)) c2), pl 7 (.slice A3 (Int.toNat (g3.length : Int)) c3)] a ∧ Sep w0 B w (blk g4 64 #[.int .i64 g1, .int .i64 g2, .slice A1 g3.length c1] :: own 3 (.slice A2 (Int.toNat (g3.length : Int)) c2) (vI cost2) :: own 3 (.slice A3 (Int.toNat (g3.length : Int)) c3) (vI far2) :: fs) ∧ ((gameroomref_HexShortest_J1 g1 g3 who1) cost2 far2).bind some = some r) ?_ ?_
  · rintro a w ⟨cost2, far2, hF, hS, hm⟩
    unfold gameroomref_HexShortest_J1 at hm
    refine seq_cut (fun a w => ∃ (far5 : List Int), Fr 174 [pl 1 (.int .i64 who1), pl 2 (.pointer (some ⟨g4, 0, none⟩)), pl 5 (.int .i64 (g3.length : Int)), pl 7 (.slice A3 (Int.toNat (g3.length : Int)) c3)] a ∧ Sep w0 B w (blk g4 64 #[.int .i64 g1, .int .i64 g2, .slice A1 g3.length c1] :: own 3 (.slice A3 (Int.toNat (g3.length : Int)) c3) (vI far5) :: fs) ∧ ((gameroomref_HexShortest_J7 g1 g3 who1) far5).bind some = some r) ?_ ?_
    · rintro a w ⟨far5, hF, hS, hm⟩
      unfold gameroomref_HexShortest_J7 at hm
      refine reg [] [] [1, 2, 5, 7, 13] [pl 1 (.int .i64 who1), pl 2 (.pointer (some ⟨g4, 0, none⟩)), pl 5 (.int .i64 (g3.length : Int)), pl 7 (.slice A3 (Int.toNat (g3.length : Int)) c3), pl 13 (.int .i64 1000000)] hF hS Fol (by kernel_rfl) (by kernel_rfl) (by kernel_rfl) ?_ (fun a w hF hS => ?_)
      · exact obs_nil
      refine seq_cut (fun a w => ∃ (best2 : Int), Fr 174 [pl 13 (.int .i64 best2)] a ∧ Sep w0 B w (fs) ∧ (gameroomref_HexShortest_J13 best2).bind some = some r) ?_ ?_
      · rintro a w ⟨best2, hF, hS, hm⟩
        unfold gameroomref_HexShortest_J13 at hm
        refine seq_cut (fun a w => Fr 174 [pl 13 (.int .i64 best2)] a ∧ Sep w0 B w (fs) ∧ ((gameroomref_HexShortest_J17 best2)).bind some = some r) ?_ ?_
        · rintro a w ⟨hF, hS, hm⟩
          unfold gameroomref_HexShortest_J17 at hm
          refine reg [] [] [4] [pl 4 (.int .i64 best2)] hF hS Fol (by kernel_rfl) (by kernel_rfl) (by kernel_rfl) ?_ (fun a w hF hS => ?_)
          · exact obs_nil
          refine wpIn_ret ?_
          have hm : some best2 = some r := hm
          obtain rfl := Option.some.inj hm
          exact retV (rs := [.tmp 4]) (vs := [.int .i64 best2]) hF rfl (rv_t (by kernel_rfl) <| rv_nil) rfl ⟨rfl, hS⟩
        · refine reg [] [] [13, 172] [pl 13 (.int .i64 best2), pl 172 (.bool (best2 == 1000000))] hF hS Fol (by kernel_rfl) (by kernel_rfl) (by kernel_rfl) ?_ (fun a w hF hS => ?_)
          · exact obs_nil
          refine cond_ev (t := 172) (b := (best2 == 1000000)) hF (by kernel_rfl) (fun hb => ?_) (fun hb => ?_)
          · replace hm := if_t hm hb
            refine reg [] [] [4] [pl 4 (.int .i64 (-1))] hF hS Fol (by kernel_rfl) (by kernel_rfl) (by kernel_rfl) ?_ (fun a w hF hS => ?_)
            · exact obs_nil
            refine wpIn_ret ?_
            refine then_r ?_
            have hm : some (-1) = some r := hm
            obtain rfl := Option.some.inj hm
            exact retV (rs := [.tmp 4]) (vs := [.int .i64 (-1)]) hF rfl (rv_t (by kernel_rfl) <| rv_nil) rfl ⟨rfl, hS⟩
          · replace hm := if_f hm hb
            refine wpIn_skip ?_
            refine then_n ?_
            exact ⟨hF.weak [13] (by kernel_rfl), hS, hm⟩
      · refine reg [] [] [1, 2, 5, 7, 13, 14] [pl 1 (.int .i64 who1), pl 2 (.pointer (some ⟨g4, 0, none⟩)), pl 5 (.int .i64 (g3.length : Int)), pl 7 (.slice A3 (Int.toNat (g3.length : Int)) c3), pl 13 (.int .i64 1000000), pl 14 (.int .i64 0)] hF hS Fol (by kernel_rfl) (by kernel_rfl) (by kernel_rfl) ?_ (fun a w hF hS => ?_)
        · exact obs_nil
        refine wpIn_block ?_
        refine wp_loop_model (S := (Int × Int)) (R := Int) (gameroomref_HexShortest_L5 g1 g3 who1 far5) (fun x => (gameroomref_HexShortest_K5 x).bind some) r (fun (x : (Int × Int)) a w => Fr 174 [pl 1 (.int .i64 who1), pl 2 (.pointer (some ⟨g4, 0, none⟩)), pl 5 (.int .i64 (g3.length : Int)), pl 7 (.slice A3 (Int.toNat (g3.length : Int)) c3), pl 13 (.int .i64 x.1), pl 14 (.int .i64 x.2)] a ∧ Sep w0 B w (blk g4 64 #[.int .i64 g1, .int .i64 g2, .slice A1 g3.length c1] :: own 3 (.slice A3 (Int.toNat (g3.length : Int)) c3) (vI far5) :: fs)) (assoc_b hm) ⟨hF.weak [1, 2, 5, 7, 13, 14] (by kernel_rfl), hS⟩ ?_
        clear hF hS hm
        rintro nn5 ⟨best1, i2⟩ a w ⟨hF, hS⟩ hm
        generalize hφ5 : stK (gameroomref_HexShortest_L5 g1 g3 who1 far5) nn5 (fun x => (gameroomref_HexShortest_K5 x).bind some) = φ5 at hm
        unfold gameroomref_HexShortest_L5 at hm
        dsimp only at hF hS hm
        refine seq_cut (fun a w => Fr 174 [pl 1 (.int .i64 who1), pl 2 (.pointer (some ⟨g4, 0, none⟩)), pl 5 (.int .i64 (g3.length : Int)), pl 7 (.slice A3 (Int.toNat (g3.length : Int)) c3), pl 13 (.int .i64 best1), pl 14 (.int .i64 i2)] a ∧ Sep w0 B w (blk g4 64 #[.int .i64 g1, .int .i64 g2, .slice A1 g3.length c1] :: own 3 (.slice A3 (Int.toNat (g3.length : Int)) c3) (vI far5) :: fs) ∧ ((gameroomref_HexShortest_J14 g1 g3 who1 far5 best1 i2)).bind φ5 = some r) ?_ ?_
        · rintro a w ⟨hF, hS, hm⟩
          unfold gameroomref_HexShortest_J14 at hm
          refine seq_cut (fun a w => ∃ (best3 : Int), Fr 174 [pl 1 (.int .i64 who1), pl 2 (.pointer (some ⟨g4, 0, none⟩)), pl 5 (.int .i64 (g3.length : Int)), pl 7 (.slice A3 (Int.toNat (g3.length : Int)) c3), pl 13 (.int .i64 best3), pl 14 (.int .i64 i2)] a ∧ Sep w0 B w (blk g4 64 #[.int .i64 g1, .int .i64 g2, .slice A1 g3.length c1] :: own 3 (.slice A3 (Int.toNat (g3.length : Int)) c3) (vI far5) :: fs) ∧ ((gameroomref_HexShortest_J15 i2) best3).bind φ5 = some r) ?_ ?_
          · rintro a w ⟨best3, hF, hS, hm⟩
            unfold gameroomref_HexShortest_J15 at hm
            refine reg1 [] [] [1, 2, 5, 7, 13, 14] [pl 1 (.int .i64 who1), pl 2 (.pointer (some ⟨g4, 0, none⟩)), pl 5 (.int .i64 (g3.length : Int)), pl 7 (.slice A3 (Int.toNat (g3.length : Int)) c3), pl 13 (.int .i64 best3), pl 14 (.int .i64 (w64 (i2 + 1)))] hF hS Fol (by kernel_rfl) (by kernel_rfl) (by kernel_rfl) ?_ (fun a w hF hS => ?_)
            · exact obs_nil
            refine then_n ?_
            rw [← hφ5] at hm
            exact ⟨(best3, (w64 (i2 + 1))), ⟨hF.weak [1, 2, 5, 7, 13, 14] (by kernel_rfl), hS⟩, hm⟩
          · refine wpIn_block ?_
            obtain ⟨hp22, hm⟩ := asrt_b hm
            refine reg [⟨false, [], vS (Instr.loadAt 3 (.pointer (some ⟨g4, 0, none⟩))), .int .i64 g1⟩, ⟨true, [], vS (Op.intDiv .quo .i64 i2 g1), .int .i64 (w64 (Int.tdiv i2 g1))⟩] [none, none, some (.int .i64 g1), some (.int .i64 (w64 (Int.tdiv i2 g1))), none] [1, 2, 5, 7, 13, 14, 15] [pl 1 (.int .i64 who1), pl 2 (.pointer (some ⟨g4, 0, none⟩)), pl 5 (.int .i64 (g3.length : Int)), pl 7 (.slice A3 (Int.toNat (g3.length : Int)) c3), pl 13 (.int .i64 best1), pl 14 (.int .i64 i2), pl 15 (.int .i64 (w64 (Int.tdiv i2 g1)))] hF hS Fol (by kernel_rfl) (by kernel_rfl) (by kernel_rfl) ?_ (fun a w hF hS => ?_)
            · exact obs_cons (ob_load Agg3 (fun _ _ hS => (hS.at_ 0 rfl).cell rfl)) <| obs_cons (ob_quo rfl (fun _ => hp22)) <| obs_nil
            refine seq_cut (fun a w => ∃ (d2 : Int), Fr 174 [pl 1 (.int .i64 who1), pl 2 (.pointer (some ⟨g4, 0, none⟩)), pl 5 (.int .i64 (g3.length : Int)), pl 7 (.slice A3 (Int.toNat (g3.length : Int)) c3), pl 13 (.int .i64 best1), pl 14 (.int .i64 i2), pl 15 (.int .i64 d2)] a ∧ Sep w0 B w (blk g4 64 #[.int .i64 g1, .int .i64 g2, .slice A1 g3.length c1] :: own 3 (.slice A3 (Int.toNat (g3.length : Int)) c3) (vI far5) :: fs) ∧ ((gameroomref_HexShortest_J16 g1 g3 far5 best1 i2) d2).bind φ5 = some r) ?_ ?_
            · rintro a w ⟨d2, hF, hS, hm⟩
              unfold gameroomref_HexShortest_J16 at hm
              obtain ⟨hp24, hm⟩ := asrt_b hm
              refine reg [⟨false, [], vS (Instr.loadAt 3 (.pointer (some ⟨g4, 0, none⟩))), .int .i64 g1⟩, ⟨true, [((d2 == (w64 (g1 - 1))), true)], vS (Instr.indexAt 27 (.slice A3 (Int.toNat (g3.length : Int)) c3) (.int .i64 i2)), .pointer (some (sAddr A3 i2))⟩, ⟨false, [((d2 == (w64 (g1 - 1))), true)], vS (Instr.loadAt 3 (.pointer (some (sAddr A3 i2)))), .int .i64 (geti far5 i2)⟩] [none, none, some (.int .i64 g1), none, none, none, none, none, some (.pointer (some (sAddr A3 i2))), some (.int .i64 (geti far5 i2)), none, none, none] [1, 2, 5, 7, 13, 14, 166] [pl 1 (.int .i64 who1), pl 2 (.pointer (some ⟨g4, 0, none⟩)), pl 5 (.int .i64 (g3.length : Int)), pl 7 (.slice A3 (Int.toNat (g3.length : Int)) c3), pl 13 (.int .i64 best1), pl 14 (.int .i64 i2), pl 166 (.bool ((d2 == (w64 (g1 - 1))) && (decide ((geti far5 i2) < best1))))] hF hS Fol (by kernel_rfl) (by kernel_rfl) (by kernel_rfl) ?_ (fun a w hF hS => ?_)
              · exact obs_cons (ob_load Agg3 (fun _ _ hS => (hS.at_ 0 rfl).cell rfl)) <| obs_cons (ob_ix1 (f := (Value.int .i64)) (m := far5) Und27 hi3 hs3 (hS.at_ 1 rfl).rd ((hS.at_ 1 rfl).len1) (fun hy => hp24 (hy ((d2 == (w64 (g1 - 1))), true) (by simp)))) <| obs_cons (ob_get1 (n := (Int.toNat (g3.length : Int))) (m := far5) (Value.int .i64) (0 : Int) Agg3 (fun _ hS => ⟨_, (hS.at_ 1 rfl).rd⟩) (fun _ hS => ((hS.at_ 1 rfl).len1)) (fun hy => hp24 (hy ((d2 == (w64 (g1 - 1))), true) (by simp)))) <| obs_nil
              refine cond_ev (t := 166) (b := (d2 == (w64 (g1 - 1))) && (decide ((geti far5 i2) < best1))) hF (by kernel_rfl) (fun hb => ?_) (fun hb => ?_)
              · replace hm := if_t hm hb
                obtain ⟨hp25, hm⟩ := asrt_b hm
                refine reg1 [⟨true, [], vS (Instr.indexAt 27 (.slice A3 (Int.toNat (g3.length : Int)) c3) (.int .i64 i2)), .pointer (some (sAddr A3 i2))⟩, ⟨false, [], vS (Instr.loadAt 3 (.pointer (some (sAddr A3 i2)))), .int .i64 (geti far5 i2)⟩] [none, none, some (.pointer (some (sAddr A3 i2))), some (.int .i64 (geti far5 i2)), none] [1, 2, 5, 7, 13, 14] [pl 1 (.int .i64 who1), pl 2 (.pointer (some ⟨g4, 0, none⟩)), pl 5 (.int .i64 (g3.length : Int)), pl 7 (.slice A3 (Int.toNat (g3.length : Int)) c3), pl 13 (.int .i64 (geti far5 i2)), pl 14 (.int .i64 i2)] hF hS Fol (by kernel_rfl) (by kernel_rfl) (by kernel_rfl) ?_ (fun a w hF hS => ?_)
                · exact obs_cons (ob_ix1 (f := (Value.int .i64)) (m := far5) Und27 hi3 hs3 (hS.at_ 1 rfl).rd ((hS.at_ 1 rfl).len1) (fun _ => hp25)) <| obs_cons (ob_get1 (n := (Int.toNat (g3.length : Int))) (m := far5) (Value.int .i64) (0 : Int) Agg3 (fun _ hS => ⟨_, (hS.at_ 1 rfl).rd⟩) (fun _ hS => ((hS.at_ 1 rfl).len1)) (fun _ => hp25)) <| obs_nil
                refine block_n ?_
                refine then_n ?_
                exact ⟨(geti far5 i2), hF.weak [1, 2, 5, 7, 13, 14] (by kernel_rfl), hS, hm⟩
              · replace hm := if_f hm hb
                refine wpIn_skip ?_
                refine block_n ?_
                refine then_n ?_
                exact ⟨best1, hF.weak [1, 2, 5, 7, 13, 14] (by kernel_rfl), hS, hm⟩
            · refine reg [] [] [1, 2, 5, 7, 13, 14, 15, 149] [pl 1 (.int .i64 who1), pl 2 (.pointer (some ⟨g4, 0, none⟩)), pl 5 (.int .i64 (g3.length : Int)), pl 7 (.slice A3 (Int.toNat (g3.length : Int)) c3), pl 13 (.int .i64 best1), pl 14 (.int .i64 i2), pl 15 (.int .i64 (w64 (Int.tdiv i2 g1))), pl 149 (.bool (who1 == 2))] hF hS Fol (by kernel_rfl) (by kernel_rfl) (by kernel_rfl) ?_ (fun a w hF hS => ?_)
              · exact obs_nil
              refine cond_ev (t := 149) (b := (who1 == 2)) hF (by kernel_rfl) (fun hb => ?_) (fun hb => ?_)
              · replace hm := if_t hm hb
                obtain ⟨hp23, hm⟩ := asrt_b hm
                refine reg1 [⟨false, [], vS (Instr.loadAt 3 (.pointer (some ⟨g4, 0, none⟩))), .int .i64 g1⟩, ⟨true, [], vS (Op.intDiv .rem .i64 i2 g1), .int .i64 (Int.tmod i2 g1)⟩] [none, none, some (.int .i64 g1), some (.int .i64 (Int.tmod i2 g1)), none] [1, 2, 5, 7, 13, 14, 15] [pl 1 (.int .i64 who1), pl 2 (.pointer (some ⟨g4, 0, none⟩)), pl 5 (.int .i64 (g3.length : Int)), pl 7 (.slice A3 (Int.toNat (g3.length : Int)) c3), pl 13 (.int .i64 best1), pl 14 (.int .i64 i2), pl 15 (.int .i64 (Int.tmod i2 g1))] hF hS Fol (by kernel_rfl) (by kernel_rfl) (by kernel_rfl) ?_ (fun a w hF hS => ?_)
                · exact obs_cons (ob_load Agg3 (fun _ _ hS => (hS.at_ 0 rfl).cell rfl)) <| obs_cons (ob_rem rfl (fun _ => hp23)) <| obs_nil
                refine then_n ?_
                exact ⟨(Int.tmod i2 g1), hF.weak [1, 2, 5, 7, 13, 14, 15] (by kernel_rfl), hS, hm⟩
              · replace hm := if_f hm hb
                refine wpIn_skip ?_
                refine then_n ?_
                exact ⟨(w64 (Int.tdiv i2 g1)), hF.weak [1, 2, 5, 7, 13, 14, 15] (by kernel_rfl), hS, hm⟩
        · refine reg [] [] [1, 2, 5, 7, 13, 14, 141] [pl 1 (.int .i64 who1), pl 2 (.pointer (some ⟨g4, 0, none⟩)), pl 5 (.int .i64 (g3.length : Int)), pl 7 (.slice A3 (Int.toNat (g3.length : Int)) c3), pl 13 (.int .i64 best1), pl 14 (.int .i64 i2), pl 141 (.bool (decide (i2 < (g3.length : Int))))] hF hS Fol (by kernel_rfl) (by kernel_rfl) (by kernel_rfl) ?_ (fun a w hF hS => ?_)
          · exact obs_nil
          refine cond_ev (t := 141) (b := decide (i2 < (g3.length : Int))) hF (by kernel_rfl) (fun hb => ?_) (fun hb => ?_)
          · replace hm := if_t hm hb
            refine wpIn_skip ?_
            refine then_n ?_
            exact ⟨hF.weak [1, 2, 5, 7, 13, 14] (by kernel_rfl), hS, hm⟩
          · replace hm := if_f hm hb
            refine wpIn_exit ?_
            refine then_e (then_e (block_e (then_n ?_)))
            have hS := hS.pickN 2 [] (by decide)
            rw [← hφ5] at hm
            replace hm := done_b hm
            unfold gameroomref_HexShortest_K5 at hm
            try dsimp only at hm
            have hm : (gameroomref_HexShortest_J13 best1).bind some = some r := hm
            exact ⟨best1, hF.weak [13] (by kernel_rfl), hS, hm⟩
    · refine reg [] [] [1, 2, 5, 6, 7, 10] [pl 1 (.int .i64 who1), pl 2 (.pointer (some ⟨g4, 0, none⟩)), pl 5 (.int .i64 (g3.length : Int)), pl 6 (.slice A2 (Int.toNat (g3.length : Int)) c2), pl 7 (.slice A3 (Int.toNat (g3.length : Int)) c3), pl 10 (.bool true)] hF hS Fol (by kernel_rfl) (by kernel_rfl) (by kernel_rfl) ?_ (fun a w hF hS => ?_)
      · exact obs_nil
      refine wpIn_block ?_
      refine wp_loop_model (S := (List Int × Bool)) (R := (List Int)) (gameroomref_HexShortest_L2 g1 g3 cost2) (fun x => ((gameroomref_HexShortest_K2 g1 g3 who1) x).bind some) r (fun (x : (List Int × Bool)) a w => Fr 174 [pl 1 (.int .i64 who1), pl 2 (.pointer (some ⟨g4, 0, none⟩)), pl 5 (.int .i64 (g3.length : Int)), pl 6 (.slice A2 (Int.toNat (g3.length : Int)) c2), pl 7 (.slice A3 (Int.toNat (g3.length : Int)) c3), pl 10 (.bool x.2)] a ∧ Sep w0 B w (blk g4 64 #[.int .i64 g1, .int .i64 g2, .slice A1 g3.length c1] :: own 3 (.slice A2 (Int.toNat (g3.length : Int)) c2) (vI cost2) :: own 3 (.slice A3 (Int.toNat (g3.length : Int)) c3) (vI x.1) :: fs)) (assoc_b hm) ⟨hF.weak [1, 2, 5, 6, 7, 10] (by kernel_rfl), hS⟩ ?_
      clear hF hS hm
      rintro nn2 ⟨far4, changed1⟩ a w ⟨hF, hS⟩ hm
      generalize hφ2 : stK (gameroomref_HexShortest_L2 g1 g3 cost2) nn2 (fun x => ((gameroomref_HexShortest_K2 g1 g3 who1) x).bind some) = φ2 at hm
      unfold gameroomref_HexShortest_L2 at hm
      dsimp only at hF hS hm
      refine seq_cut (fun a w => Fr 174 [pl 1 (.int .i64 who1), pl 2 (.pointer (some ⟨g4, 0, none⟩)), pl 5 (.int .i64 (g3.length : Int)), pl 6 (.slice A2 (Int.toNat (g3.length : Int)) c2), pl 7 (.slice A3 (Int.toNat (g3.length : Int)) c3)] a ∧ Sep w0 B w (blk g4 64 #[.int .i64 g1, .int .i64 g2, .slice A1 g3.length c1] :: own 3 (.slice A2 (Int.toNat (g3.length : Int)) c2) (vI cost2) :: own 3 (.slice A3 (Int.toNat (g3.length : Int)) c3) (vI far4) :: fs) ∧ ((gameroomref_HexShortest_J8 g1 g3 cost2 far4)).bind φ2 = some r) ?_ ?_
      · rintro a w ⟨hF, hS, hm⟩
        unfold gameroomref_HexShortest_J8 at hm
        refine wpIn_block ?_
        refine reg [] [] [1, 2, 5, 6, 7, 10] [pl 1 (.int .i64 who1), pl 2 (.pointer (some ⟨g4, 0, none⟩)), pl 5 (.int .i64 (g3.length : Int)), pl 6 (.slice A2 (Int.toNat (g3.length : Int)) c2), pl 7 (.slice A3 (Int.toNat (g3.length : Int)) c3), pl 10 (.bool false)] hF hS Fol (by kernel_rfl) (by kernel_rfl) (by kernel_rfl) ?_ (fun a w hF hS => ?_)
        · exact obs_nil
        refine reg [] [] [1, 2, 5, 6, 7, 10, 11] [pl 1 (.int .i64 who1), pl 2 (.pointer (some ⟨g4, 0, none⟩)), pl 5 (.int .i64 (g3.length : Int)), pl 6 (.slice A2 (Int.toNat (g3.length : Int)) c2), pl 7 (.slice A3 (Int.toNat (g3.length : Int)) c3), pl 10 (.bool false), pl 11 (.int .i64 0)] hF hS Fol (by kernel_rfl) (by kernel_rfl) (by kernel_rfl) ?_ (fun a w hF hS => ?_)
        · exact obs_nil
        refine wpIn_block ?_
        refine wp_loop_model (S := (List Int × Bool × Int)) (R := (List Int × Bool)) (gameroomref_HexShortest_L3 g1 g3 cost2) (fun x => (gameroomref_HexShortest_K3 x).bind φ2) r (fun (x : (List Int × Bool × Int)) a w => Fr 174 [pl 1 (.int .i64 who1), pl 2 (.pointer (some ⟨g4, 0, none⟩)), pl 5 (.int .i64 (g3.length : Int)), pl 6 (.slice A2 (Int.toNat (g3.length : Int)) c2), pl 7 (.slice A3 (Int.toNat (g3.length : Int)) c3), pl 10 (.bool x.2.1), pl 11 (.int .i64 x.2.2)] a ∧ Sep w0 B w (blk g4 64 #[.int .i64 g1, .int .i64 g2, .slice A1 g3.length c1] :: own 3 (.slice A2 (Int.toNat (g3.length : Int)) c2) (vI cost2) :: own 3 (.slice A3 (Int.toNat (g3.length : Int)) c3) (vI x.1) :: fs)) (assoc_b hm) ⟨hF.weak [1, 2, 5, 6, 7, 10, 11] (by kernel_rfl), hS⟩ ?_
        clear hF hS hm
        rintro nn3 ⟨far6, changed2, a1⟩ a w ⟨hF, hS⟩ hm
        generalize hφ3 : stK (gameroomref_HexShortest_L3 g1 g3 cost2) nn3 (fun x => (gameroomref_HexShortest_K3 x).bind φ2) = φ3 at hm
        unfold gameroomref_HexShortest_L3 at hm
        dsimp only at hF hS hm
        refine seq_cut (fun a w => Fr 174 [pl 1 (.int .i64 who1), pl 2 (.pointer (some ⟨g4, 0, none⟩)), pl 5 (.int .i64 (g3.length : Int)), pl 6 (.slice A2 (Int.toNat (g3.length : Int)) c2), pl 7 (.slice A3 (Int.toNat (g3.length : Int)) c3), pl 10 (.bool changed2), pl 11 (.int .i64 a1)] a ∧ Sep w0 B w (blk g4 64 #[.int .i64 g1, .int .i64 g2, .slice A1 g3.length c1] :: own 3 (.slice A2 (Int.toNat (g3.length : Int)) c2) (vI cost2) :: own 3 (.slice A3 (Int.toNat (g3.length : Int)) c3) (vI far6) :: fs) ∧ ((gameroomref_HexShortest_J9 g1 g3 cost2 far6 changed2 a1)).bind φ3 = some r) ?_ ?_
        · rintro a w ⟨hF, hS, hm⟩
          unfold gameroomref_HexShortest_J9 at hm
          refine seq_cut (fun a w => ∃ (far8 : List Int) (changed4 : Bool), Fr 174 [pl 1 (.int .i64 who1), pl 2 (.pointer (some ⟨g4, 0, none⟩)), pl 5 (.int .i64 (g3.length : Int)), pl 6 (.slice A2 (Int.toNat (g3.length : Int)) c2), pl 7 (.slice A3 (Int.toNat (g3.length : Int)) c3), pl 10 (.bool changed4), pl 11 (.int .i64 a1)] a ∧ Sep w0 B w (blk g4 64 #[.int .i64 g1, .int .i64 g2, .slice A1 g3.length c1] :: own 3 (.slice A2 (Int.toNat (g3.length : Int)) c2) (vI cost2) :: own 3 (.slice A3 (Int.toNat (g3.length : Int)) c3) (vI far8) :: fs) ∧ ((gameroomref_HexShortest_J10 a1) far8 changed4).bind φ3 = some r) ?_ ?_
          · rintro a w ⟨far8, changed4, hF, hS, hm⟩
            unfold gameroomref_HexShortest_J10 at hm
            refine reg1 [] [] [1, 2, 5, 6, 7, 10, 11] [pl 1 (.int .i64 who1), pl 2 (.pointer (some ⟨g4, 0, none⟩)), pl 5 (.int .i64 (g3.length : Int)), pl 6 (.slice A2 (Int.toNat (g3.length : Int)) c2), pl 7 (.slice A3 (Int.toNat (g3.length : Int)) c3), pl 10 (.bool changed4), pl 11 (.int .i64 (w64 (a1 + 1)))] hF hS Fol (by kernel_rfl) (by kernel_rfl) (by kernel_rfl) ?_ (fun a w hF hS => ?_)
            · exact obs_nil
            refine then_n ?_
            rw [← hφ3] at hm
            exact ⟨(far8, changed4, (w64 (a1 + 1))), ⟨hF.weak [1, 2, 5, 6, 7, 10, 11] (by kernel_rfl), hS⟩, hm⟩
          · refine wpIn_block ?_
            refine reg [] [] [1, 2, 5, 6, 7, 10, 11, 12] [pl 1 (.int .i64 who1), pl 2 (.pointer (some ⟨g4, 0, none⟩)), pl 5 (.int .i64 (g3.length : Int)), pl 6 (.slice A2 (Int.toNat (g3.length : Int)) c2), pl 7 (.slice A3 (Int.toNat (g3.length : Int)) c3), pl 10 (.bool changed2), pl 11 (.int .i64 a1), pl 12 (.int .i64 0)] hF hS Fol (by kernel_rfl) (by kernel_rfl) (by kernel_rfl) ?_ (fun a w hF hS => ?_)
            · exact obs_nil
            refine wpIn_block ?_
            refine wp_loop_model (S := (List Int × Bool × Int)) (R := (List Int × Bool)) (gameroomref_HexShortest_L4 g1 g3 cost2 a1) (fun x => ((gameroomref_HexShortest_K4 a1) x).bind φ3) r (fun (x : (List Int × Bool × Int)) a w => Fr 174 [pl 1 (.int .i64 who1), pl 2 (.pointer (some ⟨g4, 0, none⟩)), pl 5 (.int .i64 (g3.length : Int)), pl 6 (.slice A2 (Int.toNat (g3.length : Int)) c2), pl 7 (.slice A3 (Int.toNat (g3.length : Int)) c3), pl 10 (.bool x.2.1), pl 11 (.int .i64 a1), pl 12 (.int .i64 x.2.2)] a ∧ Sep w0 B w (blk g4 64 #[.int .i64 g1, .int .i64 g2, .slice A1 g3.length c1] :: own 3 (.slice A2 (Int.toNat (g3.length : Int)) c2) (vI cost2) :: own 3 (.slice A3 (Int.toNat (g3.length : Int)) c3) (vI x.1) :: fs)) (assoc_b hm) ⟨hF.weak [1, 2, 5, 6, 7, 10, 11, 12] (by kernel_rfl), hS⟩ ?_
            clear hF hS hm
            rintro nn4 ⟨far7, changed3, b1⟩ a w ⟨hF, hS⟩ hm
            generalize hφ4 : stK (gameroomref_HexShortest_L4 g1 g3 cost2 a1) nn4 (fun x => ((gameroomref_HexShortest_K4 a1) x).bind φ3) = φ4 at hm
            unfold gameroomref_HexShortest_L4 at hm
            dsimp only at hF hS hm
            refine seq_cut (fun a w => Fr 174 [pl 1 (.int .i64 who1), pl 2 (.pointer (some ⟨g4, 0, none⟩)), pl 5 (.int .i64 (g3.length : Int)), pl 6 (.slice A2 (Int.toNat (g3.length : Int)) c2), pl 7 (.slice A3 (Int.toNat (g3.length : Int)) c3), pl 10 (.bool changed3), pl 11 (.int .i64 a1), pl 12 (.int .i64 b1)] a ∧ Sep w0 B w (blk g4 64 #[.int .i64 g1, .int .i64 g2, .slice A1 g3.length c1] :: own 3 (.slice A2 (Int.toNat (g3.length : Int)) c2) (vI cost2) :: own 3 (.slice A3 (Int.toNat (g3.length : Int)) c3) (vI far7) :: fs) ∧ ((gameroomref_HexShortest_J11 g1 g3 cost2 a1 far7 changed3 b1)).bind φ4 = some r) ?_ ?_
            · rintro a w ⟨hF, hS, hm⟩
              unfold gameroomref_HexShortest_J11 at hm
              refine seq_cut (fun a w => ∃ (far9 : List Int) (changed5 : Bool), Fr 174 [pl 1 (.int .i64 who1), pl 2 (.pointer (some ⟨g4, 0, none⟩)), pl 5 (.int .i64 (g3.length : Int)), pl 6 (.slice A2 (Int.toNat (g3.length : Int)) c2), pl 7 (.slice A3 (Int.toNat (g3.length : Int)) c3), pl 10 (.bool changed5), pl 11 (.int .i64 a1), pl 12 (.int .i64 b1)] a ∧ Sep w0 B w (blk g4 64 #[.int .i64 g1, .int .i64 g2, .slice A1 g3.length c1] :: own 3 (.slice A2 (Int.toNat (g3.length : Int)) c2) (vI cost2) :: own 3 (.slice A3 (Int.toNat (g3.length : Int)) c3) (vI far9) :: fs) ∧ ((gameroomref_HexShortest_J12 b1) far9 changed5).bind φ4 = some r) ?_ ?_
              · rintro a w ⟨far9, changed5, hF, hS, hm⟩
                unfold gameroomref_HexShortest_J12 at hm
                refine reg1 [] [] [1, 2, 5, 6, 7, 10, 11, 12] [pl 1 (.int .i64 who1), pl 2 (.pointer (some ⟨g4, 0, none⟩)), pl 5 (.int .i64 (g3.length : Int)), pl 6 (.slice A2 (Int.toNat (g3.length : Int)) c2), pl 7 (.slice A3 (Int.toNat (g3.length : Int)) c3), pl 10 (.bool changed5), pl 11 (.int .i64 a1), pl 12 (.int .i64 (w64 (b1 + 1)))] hF hS Fol (by kernel_rfl) (by kernel_rfl) (by kernel_rfl) ?_ (fun a w hF hS => ?_)
                · exact obs_nil
                refine then_n ?_
                rw [← hφ4] at hm
                exact ⟨(far9, changed5, (w64 (b1 + 1))), ⟨hF.weak [1, 2, 5, 6, 7, 10, 11, 12] (by kernel_rfl), hS⟩, hm⟩
              · refine wpIn_block ?_
                obtain ⟨hp14, hm⟩ := asrt_b hm
                obtain ⟨hp15, hm⟩ := asrt_b hm
                obtain ⟨r1, hr1, hm⟩ := call_b hm
                obtain ⟨hp16, hm⟩ := asrt_b hm
                obtain ⟨hp17, hm⟩ := asrt_b hm
                obtain ⟨hp18, hm⟩ := asrt_b hm
                refine reg [⟨true, [], vS (Instr.indexAt 27 (.slice A3 (Int.toNat (g3.length : Int)) c3) (.int .i64 a1)), .pointer (some (sAddr A3 a1))⟩, ⟨false, [], vS (Instr.loadAt 3 (.pointer (some (sAddr A3 a1)))), .int .i64 (geti far7 a1)⟩, ⟨true, [(decide ((geti far7 a1) < 1000000), true)], vS (Instr.indexAt 27 (.slice A2 (Int.toNat (g3.length : Int)) c2) (.int .i64 b1)), .pointer (some (sAddr A2 b1))⟩, ⟨false, [(decide ((geti far7 a1) < 1000000), true)], vS (Instr.loadAt 3 (.pointer (some (sAddr A2 b1)))), .int .i64 (geti cost2 b1)⟩, ⟨false, [((decide ((geti far7 a1) < 1000000)) && (decide ((geti cost2 b1) < 1000000)), true)], vS (Instr.loadAt 3 (.pointer (some ⟨g4, 0, none⟩))), .int .i64 g1⟩, ⟨false, [((decide ((geti far7 a1) < 1000000)) && (decide ((geti cost2 b1) < 1000000)), true)], callFunc 124 #[.int .i64 g1, .int .i64 a1, .int .i64 b1], .bool r1⟩, ⟨true, [(((decide ((geti far7 a1) < 1000000)) && (decide ((geti cost2 b1) < 1000000))) && r1, true)], vS (Instr.indexAt 27 (.slice A3 (Int.toNat (g3.length : Int)) c3) (.int .i64 a1)), .pointer (some (sAddr A3 a1))⟩, ⟨false, [(((decide ((geti far7 a1) < 1000000)) && (decide ((geti cost2 b1) < 1000000))) && r1, true)], vS (Instr.loadAt 3 (.pointer (some (sAddr A3 a1)))), .int .i64 (geti far7 a1)⟩, ⟨true, [(((decide ((geti far7 a1) < 1000000)) && (decide ((geti cost2 b1) < 1000000))) && r1, true)], vS (Instr.indexAt 27 (.slice A2 (Int.toNat (g3.length : Int)) c2) (.int .i64 b1)), .pointer (some (sAddr A2 b1))⟩, ⟨false, [(((decide ((geti far7 a1) < 1000000)) && (decide ((geti cost2 b1) < 1000000))) && r1, true)], vS (Instr.loadAt 3 (.pointer (some (sAddr A2 b1)))), .int .i64 (geti cost2 b1)⟩, ⟨true, [(((decide ((geti far7 a1) < 1000000)) && (decide ((geti cost2 b1) < 1000000))) && r1, true)], vS (Instr.indexAt 27 (.slice A3 (Int.toNat (g3.length : Int)) c3) (.int .i64 b1)), .pointer (some (sAddr A3 b1))⟩, ⟨false, [(((decide ((geti far7 a1) < 1000000)) && (decide ((geti cost2 b1) < 1000000))) && r1, true)], vS (Instr.loadAt 3 (.pointer (some (sAddr A3 b1)))), .int .i64 (geti far7 b1)⟩] [none, none, some (.pointer (some (sAddr A3 a1))), some (.int .i64 (geti far7 a1)), none, none, none, none, some (.pointer (some (sAddr A2 b1))), some (.int .i64 (geti cost2 b1)), none, none, none, none, some (.int .i64 g1), none, none, some (.bool r1), none, none, none, none, some (.pointer (some (sAddr A3 a1))), some (.int .i64 (geti far7 a1)), none, none, some (.pointer (some (sAddr A2 b1))), some (.int .i64 (geti cost2 b1)), none, none, none, some (.pointer (some (sAddr A3 b1))), some (.int .i64 (geti far7 b1)), none, none] [1, 2, 5, 6, 7, 10, 11, 12, 126] [pl 1 (.int .i64 who1), pl 2 (.pointer (some ⟨g4, 0, none⟩)), pl 5 (.int .i64 (g3.length : Int)), pl 6 (.slice A2 (Int.toNat (g3.length : Int)) c2), pl 7 (.slice A3 (Int.toNat (g3.length : Int)) c3), pl 10 (.bool changed3), pl 11 (.int .i64 a1), pl 12 (.int .i64 b1), pl 126 (.bool ((((decide ((geti far7 a1) < 1000000)) && (decide ((geti cost2 b1) < 1000000))) && r1) && (decide ((w64 ((geti far7 a1) + (geti cost2 b1))) < (geti far7 b1)))))] hF hS Fol (by kernel_rfl) (by kernel_rfl) (by kernel_rfl) ?_ (fun a w hF hS => ?_)
                · exact obs_cons (ob_ix1 (f := (Value.int .i64)) (m := far7) Und27 hi3 hs3 (hS.at_ 2 rfl).rd ((hS.at_ 2 rfl).len1) (fun _ => hp14)) <| obs_cons (ob_get1 (n := (Int.toNat (g3.length : Int))) (m := far7) (Value.int .i64) (0 : Int) Agg3 (fun _ hS => ⟨_, (hS.at_ 2 rfl).rd⟩) (fun _ hS => ((hS.at_ 2 rfl).len1)) (fun _ => hp14)) <| obs_cons (ob_ix1 (f := (Value.int .i64)) (m := cost2) Und27 hi3 hs3 (hS.at_ 1 rfl).rd ((hS.at_ 1 rfl).len1) (fun hy => hp15 (hy (decide ((geti far7 a1) < 1000000), true) (by simp)))) <| obs_cons (ob_get1 (n := (Int.toNat (g3.length : Int))) (m := cost2) (Value.int .i64) (0 : Int) Agg3 (fun _ hS => ⟨_, (hS.at_ 1 rfl).rd⟩) (fun _ hS => ((hS.at_ 1 rfl).len1)) (fun hy => hp15 (hy (decide ((geti far7 a1) < 1000000), true) (by simp)))) <| obs_cons (ob_load Agg3 (fun _ _ hS => (hS.at_ 0 rfl).cell rfl)) <| obs_cons (ob_call Try.func124 (by kernel_rfl) rfl (fun hy _ hS => gameroomref_hexNear_w (ite_some hr1 (by rw [show ((decide ((geti far7 a1) < 1000000)) && (decide ((geti cost2 b1) < 1000000))) = true from hy ((decide ((geti far7 a1) < 1000000)) && (decide ((geti cost2 b1) < 1000000)), true) (by simp)]; try rfl)) hS )) <| obs_cons (ob_ix1 (f := (Value.int .i64)) (m := far7) Und27 hi3 hs3 (hS.at_ 2 rfl).rd ((hS.at_ 2 rfl).len1) (fun hy => hp16 (hy (((decide ((geti far7 a1) < 1000000)) && (decide ((geti cost2 b1) < 1000000))) && r1, true) (by simp)))) <| obs_cons (ob_get1 (n := (Int.toNat (g3.length : Int))) (m := far7) (Value.int .i64) (0 : Int) Agg3 (fun _ hS => ⟨_, (hS.at_ 2 rfl).rd⟩) (fun _ hS => ((hS.at_ 2 rfl).len1)) (fun hy => hp16 (hy (((decide ((geti far7 a1) < 1000000)) && (decide ((geti cost2 b1) < 1000000))) && r1, true) (by simp)))) <| obs_cons (ob_ix1 (f := (Value.int .i64)) (m := cost2) Und27 hi3 hs3 (hS.at_ 1 rfl).rd ((hS.at_ 1 rfl).len1) (fun hy => hp17 (hy (((decide ((geti far7 a1) < 1000000)) && (decide ((geti cost2 b1) < 1000000))) && r1, true) (by simp)))) <| obs_cons (ob_get1 (n := (Int.toNat (g3.length : Int))) (m := cost2) (Value.int .i64) (0 : Int) Agg3 (fun _ hS => ⟨_, (hS.at_ 1 rfl).rd⟩) (fun _ hS => ((hS.at_ 1 rfl).len1)) (fun hy => hp17 (hy (((decide ((geti far7 a1) < 1000000)) && (decide ((geti cost2 b1) < 1000000))) && r1, true) (by simp)))) <| obs_cons (ob_ix1 (f := (Value.int .i64)) (m := far7) Und27 hi3 hs3 (hS.at_ 2 rfl).rd ((hS.at_ 2 rfl).len1) (fun hy => hp18 (hy (((decide ((geti far7 a1) < 1000000)) && (decide ((geti cost2 b1) < 1000000))) && r1, true) (by simp)))) <| obs_cons (ob_get1 (n := (Int.toNat (g3.length : Int))) (m := far7) (Value.int .i64) (0 : Int) Agg3 (fun _ hS => ⟨_, (hS.at_ 2 rfl).rd⟩) (fun _ hS => ((hS.at_ 2 rfl).len1)) (fun hy => hp18 (hy (((decide ((geti far7 a1) < 1000000)) && (decide ((geti cost2 b1) < 1000000))) && r1, true) (by simp)))) <| obs_nil
                refine cond_ev (t := 126) (b := (((decide ((geti far7 a1) < 1000000)) && (decide ((geti cost2 b1) < 1000000))) && r1) && (decide ((w64 ((geti far7 a1) + (geti cost2 b1))) < (geti far7 b1)))) hF (by kernel_rfl) (fun hb => ?_) (fun hb => ?_)
                · replace hm := if_t hm hb
                  refine wpIn_seq ?_
                  obtain ⟨hp19, hm⟩ := asrt_b hm
                  obtain ⟨hp20, hm⟩ := asrt_b hm
                  obtain ⟨hp21, hm⟩ := asrt_b hm
                  refine regMix4 [0, 1, 2, 3, 4, 5, 6, 7, 8, 9, 10, 11] [12] [⟨true, [], vS (Instr.indexAt 27 (.slice A3 (Int.toNat (g3.length : Int)) c3) (.int .i64 a1)), .pointer (some (sAddr A3 a1))⟩, ⟨false, [], vS (Instr.loadAt 3 (.pointer (some (sAddr A3 a1)))), .int .i64 (geti far7 a1)⟩, ⟨true, [], vS (Instr.indexAt 27 (.slice A2 (Int.toNat (g3.length : Int)) c2) (.int .i64 b1)), .pointer (some (sAddr A2 b1))⟩, ⟨false, [], vS (Instr.loadAt 3 (.pointer (some (sAddr A2 b1)))), .int .i64 (geti cost2 b1)⟩, ⟨true, [], vS (Instr.indexAt 27 (.slice A3 (Int.toNat (g3.length : Int)) c3) (.int .i64 b1)), .pointer (some (sAddr A3 b1))⟩] [none, none, none, none, some (.pointer (some (sAddr A3 a1))), some (.int .i64 (geti far7 a1)), none, none, some (.pointer (some (sAddr A2 b1))), some (.int .i64 (geti cost2 b1)), none, some (.pointer (some (sAddr A3 b1)))] [1, 2, 5, 6, 7, 11, 12, 137, 138] [pl 1 (.int .i64 who1), pl 2 (.pointer (some ⟨g4, 0, none⟩)), pl 5 (.int .i64 (g3.length : Int)), pl 6 (.slice A2 (Int.toNat (g3.length : Int)) c2), pl 7 (.slice A3 (Int.toNat (g3.length : Int)) c3), pl 11 (.int .i64 a1), pl 12 (.int .i64 b1), pl 137 (.int .i64 (w64 ((geti far7 a1) + (geti cost2 b1)))), pl 138 (.pointer (some (sAddr A3 b1)))] hF hS Fol (by kernel_rfl) (by kernel_rfl) (by kernel_rfl) (by kernel_rfl) (by kernel_rfl) ?_ (fun a w hF hS => ?_)
                  · exact obs_cons (ob_ix1 (f := (Value.int .i64)) (m := far7) Und27 hi3 hs3 (hS.at_ 2 rfl).rd ((hS.at_ 2 rfl).len1) (fun _ => hp19)) <| obs_cons (ob_get1 (n := (Int.toNat (g3.length : Int))) (m := far7) (Value.int .i64) (0 : Int) Agg3 (fun _ hS => ⟨_, (hS.at_ 2 rfl).rd⟩) (fun _ hS => ((hS.at_ 2 rfl).len1)) (fun _ => hp19)) <| obs_cons (ob_ix1 (f := (Value.int .i64)) (m := cost2) Und27 hi3 hs3 (hS.at_ 1 rfl).rd ((hS.at_ 1 rfl).len1) (fun _ => hp20)) <| obs_cons (ob_get1 (n := (Int.toNat (g3.length : Int))) (m := cost2) (Value.int .i64) (0 : Int) Agg3 (fun _ hS => ⟨_, (hS.at_ 1 rfl).rd⟩) (fun _ hS => ((hS.at_ 1 rfl).len1)) (fun _ => hp20)) <| obs_cons (ob_ix1 (f := (Value.int .i64)) (m := far7) Und27 hi3 hs3 (hS.at_ 2 rfl).rd ((hS.at_ 2 rfl).len1) (fun _ => hp21)) <| obs_nil
                  obtain ⟨w, hrun, hS⟩ := run_set1 (P := Try.prog) (t := 3) (x := (w64 ((geti far7 a1) + (geti cost2 b1)))) (Value.int .i64) (hS.at_ 2 rfl) hi3 hs3 rfl rfl hp21
                  refine at_skip hF (by kernel_rfl) hrun ?_
                  have hS : Sep w0 B w (blk g4 64 #[.int .i64 g1, .int .i64 g2, .slice A1 g3.length c1] :: own 3 (.slice A2 (Int.toNat (g3.length : Int)) c2) (vI cost2) :: own 3 (.slice A3 (Int.toNat (g3.length : Int)) c3) (vI (far7.set (Int.toNat b1) (w64 ((geti far7 a1) + (geti cost2 b1))))) :: fs) := hS
                  refine at_end [1, 2, 5, 6, 7, 11, 12] [pl 1 (.int .i64 who1), pl 2 (.pointer (some ⟨g4, 0, none⟩)), pl 5 (.int .i64 (g3.length : Int)), pl 6 (.slice A2 (Int.toNat (g3.length : Int)) c2), pl 7 (.slice A3 (Int.toNat (g3.length : Int)) c3), pl 11 (.int .i64 a1), pl 12 (.int .i64 b1)] hF rfl (by kernel_rfl) (fun hF => ?_)
                  refine np_n ?_
                  refine then_n ?_
                  refine reg1 [] [] [1, 2, 5, 6, 7, 10, 11, 12] [pl 1 (.int .i64 who1), pl 2 (.pointer (some ⟨g4, 0, none⟩)), pl 5 (.int .i64 (g3.length : Int)), pl 6 (.slice A2 (Int.toNat (g3.length : Int)) c2), pl 7 (.slice A3 (Int.toNat (g3.length : Int)) c3), pl 10 (.bool true), pl 11 (.int .i64 a1), pl 12 (.int .i64 b1)] hF hS Fol (by kernel_rfl) (by kernel_rfl) (by kernel_rfl) ?_ (fun a w hF hS => ?_)
                  · exact obs_nil
                  refine block_n ?_
                  refine then_n ?_
                  exact ⟨(far7.set (Int.toNat b1) (w64 ((geti far7 a1) + (geti cost2 b1)))), true, hF.weak [1, 2, 5, 6, 7, 10, 11, 12] (by kernel_rfl), hS, hm⟩
                · replace hm := if_f hm hb
                  refine wpIn_skip ?_
                  refine block_n ?_
                  refine then_n ?_
                  exact ⟨far7, changed3, hF.weak [1, 2, 5, 6, 7, 10, 11, 12] (by kernel_rfl), hS, hm⟩
            · refine reg [] [] [1, 2, 5, 6, 7, 10, 11, 12, 89] [pl 1 (.int .i64 who1), pl 2 (.pointer (some ⟨g4, 0, none⟩)), pl 5 (.int .i64 (g3.length : Int)), pl 6 (.slice A2 (Int.toNat (g3.length : Int)) c2), pl 7 (.slice A3 (Int.toNat (g3.length : Int)) c3), pl 10 (.bool changed3), pl 11 (.int .i64 a1), pl 12 (.int .i64 b1), pl 89 (.bool (decide (b1 < (g3.length : Int))))] hF hS Fol (by kernel_rfl) (by kernel_rfl) (by kernel_rfl) ?_ (fun a w hF hS => ?_)
              · exact obs_nil
              refine cond_ev (t := 89) (b := decide (b1 < (g3.length : Int))) hF (by kernel_rfl) (fun hb => ?_) (fun hb => ?_)
              · replace hm := if_t hm hb
                refine wpIn_skip ?_
                refine then_n ?_
                exact ⟨hF.weak [1, 2, 5, 6, 7, 10, 11, 12] (by kernel_rfl), hS, hm⟩
              · replace hm := if_f hm hb
                refine wpIn_exit ?_
                refine then_e (then_e (block_e (block_n (then_n ?_))))
                rw [← hφ4] at hm
                replace hm := done_b hm
                unfold gameroomref_HexShortest_K4 at hm
                try dsimp only at hm
                have hm : ((gameroomref_HexShortest_J10 a1) far7 changed3).bind φ3 = some r := hm
                exact ⟨far7, changed3, hF.weak [1, 2, 5, 6, 7, 10, 11] (by kernel_rfl), hS, hm⟩
        · refine reg [] [] [1, 2, 5, 6, 7, 10, 11, 84] [pl 1 (.int .i64 who1), pl 2 (.pointer (some ⟨g4, 0, none⟩)), pl 5 (.int .i64 (g3.length : Int)), pl 6 (.slice A2 (Int.toNat (g3.length : Int)) c2), pl 7 (.slice A3 (Int.toNat (g3.length : Int)) c3), pl 10 (.bool changed2), pl 11 (.int .i64 a1), pl 84 (.bool (decide (a1 < (g3.length : Int))))] hF hS Fol (by kernel_rfl) (by kernel_rfl) (by kernel_rfl) ?_ (fun a w hF hS => ?_)
          · exact obs_nil
          refine cond_ev (t := 84) (b := decide (a1 < (g3.length : Int))) hF (by kernel_rfl) (fun hb => ?_) (fun hb => ?_)
          · replace hm := if_t hm hb
            refine wpIn_skip ?_
            refine then_n ?_
            exact ⟨hF.weak [1, 2, 5, 6, 7, 10, 11] (by kernel_rfl), hS, hm⟩
          · replace hm := if_f hm hb
            refine wpIn_exit ?_
            refine then_e (then_e (block_e (block_n (then_n ?_))))
            rw [← hφ3] at hm
            replace hm := done_b hm
            unfold gameroomref_HexShortest_K3 at hm
            try dsimp only at hm
            have hm : (some (.next (far6, changed2))).bind φ2 = some r := hm
            rw [← hφ2] at hm
            exact ⟨(far6, changed2), ⟨hF.weak [1, 2, 5, 6, 7, 10] (by kernel_rfl), hS⟩, hm⟩
      · refine reg [] [] [1, 2, 5, 6, 7, 81] [pl 1 (.int .i64 who1), pl 2 (.pointer (some ⟨g4, 0, none⟩)), pl 5 (.int .i64 (g3.length : Int)), pl 6 (.slice A2 (Int.toNat (g3.length : Int)) c2), pl 7 (.slice A3 (Int.toNat (g3.length : Int)) c3), pl 81 (.bool changed1)] hF hS Fol (by kernel_rfl) (by kernel_rfl) (by kernel_rfl) ?_ (fun a w hF hS => ?_)
        · exact obs_nil
        refine cond_ev (t := 81) (b := changed1) hF (by kernel_rfl) (fun hb => ?_) (fun hb => ?_)
        · replace hm := if_t hm hb
          refine wpIn_skip ?_
          refine then_n ?_
          exact ⟨hF.weak [1, 2, 5, 6, 7] (by kernel_rfl), hS, hm⟩
        · replace hm := if_f hm hb
          refine wpIn_exit ?_
          refine then_e (then_e (block_e (then_n ?_)))
          have hS := hS.pickN 3 [0, 2] (by decide)
          rw [← hφ2] at hm
          replace hm := done_b hm
          unfold gameroomref_HexShortest_K2 at hm
          try dsimp only at hm
          have hm : ((gameroomref_HexShortest_J7 g1 g3 who1) far4).bind some = some r := hm
          exact ⟨far4, hF.weak [1, 2, 5, 7] (by kernel_rfl), hS, hm⟩
  · refine reg [] [] [1, 2, 5, 6, 7, 8] [pl 1 (.int .i64 who1), pl 2 (.pointer (some ⟨g4, 0, none⟩)), pl 5 (.int .i64 (g3.length : Int)), pl 6 (.slice A2 (Int.toNat (g3.length : Int)) c2), pl 7 (.slice A3 (Int.toNat (g3.length : Int)) c3), pl 8 (.int .i64 0)] hF hS Fol (by kernel_rfl) (by kernel_rfl) (by kernel_rfl) ?_ (fun a w hF hS => ?_)
    · exact obs_nil
    refine wpIn_block ?_
    have hS := hS.pickN 3 [2, 1, 0] (by decide)
    refine wp_loop_model (S := (List Int × List Int × Int)) (R := (List Int × List Int)) (gameroomref_HexShortest_L1 g1 g3 who1) (fun x => ((gameroomref_HexShortest_K1 g1 g3 who1) x).bind some) r (fun (x : (List Int × List Int × Int)) a w => Fr 174 [pl 1 (.int .i64 who1), pl 2 (.pointer (some ⟨g4, 0, none⟩)), pl 5 (.int .i64 (g3.length : Int)), pl 6 (.slice A2 (Int.toNat (g3.length : Int)) c2), pl 7 (.slice A3 (Int.toNat (g3.length : Int)) c3), pl 8 (.int .i64 x.2.2)] a ∧ Sep w0 B w (blk g4 64 #[.int .i64 g1, .int .i64 g2, .slice A1 g3.length c1] :: own 3 (.slice A2 (Int.toNat (g3.length : Int)) c2) (vI x.1) :: own 3 (.slice A3 (Int.toNat (g3.length : Int)) c3) (vI x.2.1) :: fs)) (assoc_b hm) ⟨hF.weak [1, 2, 5, 6, 7, 8] (by kernel_rfl), hS⟩ ?_
    clear hF hS hm
    rintro nn1 ⟨cost1, far1, i1⟩ a w ⟨hF, hS⟩ hm
    generalize hφ1 : stK (gameroomref_HexShortest_L1 g1 g3 who1) nn1 (fun x => ((gameroomref_HexShortest_K1 g1 g3 who1) x).bind some) = φ1 at hm
    unfold gameroomref_HexShortest_L1 at hm
    dsimp only at hF hS hm
    refine seq_cut (fun a w => Fr 174 [pl 1 (.int .i64 who1), pl 2 (.pointer (some ⟨g4, 0, none⟩)), pl 5 (.int .i64 (g3.length : Int)), pl 6 (.slice A2 (Int.toNat (g3.length : Int)) c2), pl 7 (.slice A3 (Int.toNat (g3.length : Int)) c3), pl 8 (.int .i64 i1)] a ∧ Sep w0 B w (blk g4 64 #[.int .i64 g1, .int .i64 g2, .slice A1 g3.length c1] :: own 3 (.slice A2 (Int.toNat (g3.length : Int)) c2) (vI cost1) :: own 3 (.slice A3 (Int.toNat (g3.length : Int)) c3) (vI far1) :: fs) ∧ ((gameroomref_HexShortest_J2 g1 g3 who1 cost1 far1 i1)).bind φ1 = some r) ?_ ?_
    · rintro a w ⟨hF, hS, hm⟩
      unfold gameroomref_HexShortest_J2 at hm
      refine seq_cut (fun a w => ∃ (cost5 : List Int) (far3 : List Int), Fr 174 [pl 1 (.int .i64 who1), pl 2 (.pointer (some ⟨g4, 0, none⟩)), pl 5 (.int .i64 (g3.length : Int)), pl 6 (.slice A2 (Int.toNat (g3.length : Int)) c2), pl 7 (.slice A3 (Int.toNat (g3.length : Int)) c3), pl 8 (.int .i64 i1)] a ∧ Sep w0 B w (blk g4 64 #[.int .i64 g1, .int .i64 g2, .slice A1 g3.length c1] :: own 3 (.slice A2 (Int.toNat (g3.length : Int)) c2) (vI cost5) :: own 3 (.slice A3 (Int.toNat (g3.length : Int)) c3) (vI far3) :: fs) ∧ ((gameroomref_HexShortest_J3 i1) cost5 far3).bind φ1 = some r) ?_ ?_
      · rintro a w ⟨cost5, far3, hF, hS, hm⟩
        unfold gameroomref_HexShortest_J3 at hm
        refine reg1 [] [] [1, 2, 5, 6, 7, 8] [pl 1 (.int .i64 who1), pl 2 (.pointer (some ⟨g4, 0, none⟩)), pl 5 (.int .i64 (g3.length : Int)), pl 6 (.slice A2 (Int.toNat (g3.length : Int)) c2), pl 7 (.slice A3 (Int.toNat (g3.length : Int)) c3), pl 8 (.int .i64 (w64 (i1 + 1)))] hF hS Fol (by kernel_rfl) (by kernel_rfl) (by kernel_rfl) ?_ (fun a w hF hS => ?_)
        · exact obs_nil
        refine then_n ?_
        rw [← hφ1] at hm
        exact ⟨(cost5, far3, (w64 (i1 + 1))), ⟨hF.weak [1, 2, 5, 6, 7, 8] (by kernel_rfl), hS⟩, hm⟩
      · refine wpIn_block ?_
        refine seqR ?_
        obtain ⟨hp3, hm⟩ := asrt_b hm
        refine at_run 3 [⟨true, [], vS (Instr.indexAt 27 (.slice A3 (Int.toNat (g3.length : Int)) c3) (.int .i64 i1)), .pointer (some (sAddr A3 i1))⟩] [none, none, some (.pointer (some (sAddr A3 i1)))] [1, 2, 5, 6, 7, 8, 30] [pl 1 (.int .i64 who1), pl 2 (.pointer (some ⟨g4, 0, none⟩)), pl 5 (.int .i64 (g3.length : Int)), pl 6 (.slice A2 (Int.toNat (g3.length : Int)) c2), pl 7 (.slice A3 (Int.toNat (g3.length : Int)) c3), pl 8 (.int .i64 i1), pl 30 (.pointer (some (sAddr A3 i1)))] hF hS (by kernel_rfl) (by kernel_rfl) ?_ (fun a w hF hS => ?_)
        · exact obs_cons (ob_ix1 (f := (Value.int .i64)) (m := far1) Und27 hi3 hs3 (hS.at_ 2 rfl).rd ((hS.at_ 2 rfl).len1) (fun _ => hp3)) <| obs_nil
        obtain ⟨w, hrun, hS⟩ := run_set1 (P := Try.prog) (t := 3) (x := 1000000) (Value.int .i64) (hS.at_ 2 rfl) hi3 hs3 rfl rfl hp3
        refine at_skip hF (by kernel_rfl) hrun ?_
        have hS : Sep w0 B w (blk g4 64 #[.int .i64 g1, .int .i64 g2, .slice A1 g3.length c1] :: own 3 (.slice A2 (Int.toNat (g3.length : Int)) c2) (vI cost1) :: own 3 (.slice A3 (Int.toNat (g3.length : Int)) c3) (vI (far1.set (Int.toNat i1) 1000000)) :: fs) := hS
        refine at_end [1, 2, 5, 6, 7, 8] [pl 1 (.int .i64 who1), pl 2 (.pointer (some ⟨g4, 0, none⟩)), pl 5 (.int .i64 (g3.length : Int)), pl 6 (.slice A2 (Int.toNat (g3.length : Int)) c2), pl 7 (.slice A3 (Int.toNat (g3.length : Int)) c3), pl 8 (.int .i64 i1)] hF rfl (by kernel_rfl) (fun hF => ?_)
        refine then_n ?_
        refine seqR ?_
        obtain ⟨hp4, hm⟩ := asrt_b hm
        refine at_run 3 [⟨true, [], vS (Instr.indexAt 27 (.slice A2 (Int.toNat (g3.length : Int)) c2) (.int .i64 i1)), .pointer (some (sAddr A2 i1))⟩] [none, none, some (.pointer (some (sAddr A2 i1)))] [1, 2, 5, 6, 7, 8, 33] [pl 1 (.int .i64 who1), pl 2 (.pointer (some ⟨g4, 0, none⟩)), pl 5 (.int .i64 (g3.length : Int)), pl 6 (.slice A2 (Int.toNat (g3.length : Int)) c2), pl 7 (.slice A3 (Int.toNat (g3.length : Int)) c3), pl 8 (.int .i64 i1), pl 33 (.pointer (some (sAddr A2 i1)))] hF hS (by kernel_rfl) (by kernel_rfl) ?_ (fun a w hF hS => ?_)
        · exact obs_cons (ob_ix1 (f := (Value.int .i64)) (m := cost1) Und27 hi3 hs3 (hS.at_ 1 rfl).rd ((hS.at_ 1 rfl).len1) (fun _ => hp4)) <| obs_nil
        obtain ⟨w, hrun, hS⟩ := run_set1 (P := Try.prog) (t := 3) (x := 1) (Value.int .i64) (hS.at_ 1 rfl) hi3 hs3 rfl rfl hp4
        refine at_skip hF (by kernel_rfl) hrun ?_
        have hS : Sep w0 B w (blk g4 64 #[.int .i64 g1, .int .i64 g2, .slice A1 g3.length c1] :: own 3 (.slice A2 (Int.toNat (g3.length : Int)) c2) (vI (cost1.set (Int.toNat i1) 1)) :: own 3 (.slice A3 (Int.toNat (g3.length : Int)) c3) (vI (far1.set (Int.toNat i1) 1000000)) :: fs) := hS
        refine at_end [1, 2, 5, 6, 7, 8] [pl 1 (.int .i64 who1), pl 2 (.pointer (some ⟨g4, 0, none⟩)), pl 5 (.int .i64 (g3.length : Int)), pl 6 (.slice A2 (Int.toNat (g3.length : Int)) c2), pl 7 (.slice A3 (Int.toNat (g3.length : Int)) c3), pl 8 (.int .i64 i1)] hF rfl (by kernel_rfl) (fun hF => ?_)
        refine then_n ?_
        refine seq_cut (fun a w => ∃ (cost3 : List Int), Fr 174 [pl 1 (.int .i64 who1), pl 2 (.pointer (some ⟨g4, 0, none⟩)), pl 5 (.int .i64 (g3.length : Int)), pl 6 (.slice A2 (Int.toNat (g3.length : Int)) c2), pl 7 (.slice A3 (Int.toNat (g3.length : Int)) c3), pl 8 (.int .i64 i1)] a ∧ Sep w0 B w (blk g4 64 #[.int .i64 g1, .int .i64 g2, .slice A1 g3.length c1] :: own 3 (.slice A2 (Int.toNat (g3.length : Int)) c2) (vI cost3) :: own 3 (.slice A3 (Int.toNat (g3.length : Int)) c3) (vI (far1.set (Int.toNat i1) 1000000)) :: fs) ∧ ((gameroomref_HexShortest_J4 g1 g3 who1 far1 i1) cost3).bind φ1 = some r) ?_ ?_
        · rintro a w ⟨cost3, hF, hS, hm⟩
          unfold gameroomref_HexShortest_J4 at hm
          refine seq_cut (fun a w => ∃ (cost4 : List Int), Fr 174 [pl 1 (.int .i64 who1), pl 2 (.pointer (some ⟨g4, 0, none⟩)), pl 5 (.int .i64 (g3.length : Int)), pl 6 (.slice A2 (Int.toNat (g3.length : Int)) c2), pl 7 (.slice A3 (Int.toNat (g3.length : Int)) c3), pl 8 (.int .i64 i1)] a ∧ Sep w0 B w (blk g4 64 #[.int .i64 g1, .int .i64 g2, .slice A1 g3.length c1] :: own 3 (.slice A2 (Int.toNat (g3.length : Int)) c2) (vI cost4) :: own 3 (.slice A3 (Int.toNat (g3.length : Int)) c3) (vI (far1.set (Int.toNat i1) 1000000)) :: fs) ∧ ((gameroomref_HexShortest_J5 g1 g3 who1 far1 i1) cost4).bind φ1 = some r) ?_ ?_
          · rintro a w ⟨cost4, hF, hS, hm⟩
            unfold gameroomref_HexShortest_J5 at hm
            obtain ⟨hp9, hm⟩ := asrt_b hm
            refine reg [⟨false, [], vS (Instr.loadAt 3 (.pointer (some ⟨g4, 0, none⟩))), .int .i64 g1⟩, ⟨true, [], vS (Op.intDiv .quo .i64 i1 g1), .int .i64 (w64 (Int.tdiv i1 g1))⟩] [none, none, some (.int .i64 g1), some (.int .i64 (w64 (Int.tdiv i1 g1))), none] [1, 2, 5, 6, 7, 8, 9] [pl 1 (.int .i64 who1), pl 2 (.pointer (some ⟨g4, 0, none⟩)), pl 5 (.int .i64 (g3.length : Int)), pl 6 (.slice A2 (Int.toNat (g3.length : Int)) c2), pl 7 (.slice A3 (Int.toNat (g3.length : Int)) c3), pl 8 (.int .i64 i1), pl 9 (.int .i64 (w64 (Int.tdiv i1 g1)))] hF hS Fol (by kernel_rfl) (by kernel_rfl) (by kernel_rfl) ?_ (fun a w hF hS => ?_)
            · exact obs_cons (ob_load Agg3 (fun _ _ hS => (hS.at_ 0 rfl).cell rfl)) <| obs_cons (ob_quo rfl (fun _ => hp9)) <| obs_nil
            refine seq_cut (fun a w => ∃ (d1 : Int), Fr 174 [pl 1 (.int .i64 who1), pl 2 (.pointer (some ⟨g4, 0, none⟩)), pl 5 (.int .i64 (g3.length : Int)), pl 6 (.slice A2 (Int.toNat (g3.length : Int)) c2), pl 7 (.slice A3 (Int.toNat (g3.length : Int)) c3), pl 8 (.int .i64 i1), pl 9 (.int .i64 d1)] a ∧ Sep w0 B w (blk g4 64 #[.int .i64 g1, .int .i64 g2, .slice A1 g3.length c1] :: own 3 (.slice A2 (Int.toNat (g3.length : Int)) c2) (vI cost4) :: own 3 (.slice A3 (Int.toNat (g3.length : Int)) c3) (vI (far1.set (Int.toNat i1) 1000000)) :: fs) ∧ ((gameroomref_HexShortest_J6 g3 far1 i1 cost4) d1).bind φ1 = some r) ?_ ?_
            · rintro a w ⟨d1, hF, hS, hm⟩
              unfold gameroomref_HexShortest_J6 at hm
              obtain ⟨hp11, hm⟩ := asrt_b hm
              refine reg [⟨true, [((d1 == 0), true)], vS (Instr.indexAt 27 (.slice A2 (Int.toNat (g3.length : Int)) c2) (.int .i64 i1)), .pointer (some (sAddr A2 i1))⟩, ⟨false, [((d1 == 0), true)], vS (Instr.loadAt 3 (.pointer (some (sAddr A2 i1)))), .int .i64 (geti cost4 i1)⟩] [none, none, none, none, none, some (.pointer (some (sAddr A2 i1))), some (.int .i64 (geti cost4 i1)), none, none] [1, 2, 5, 6, 7, 8, 73] [pl 1 (.int .i64 who1), pl 2 (.pointer (some ⟨g4, 0, none⟩)), pl 5 (.int .i64 (g3.length : Int)), pl 6 (.slice A2 (Int.toNat (g3.length : Int)) c2), pl 7 (.slice A3 (Int.toNat (g3.length : Int)) c3), pl 8 (.int .i64 i1), pl 73 (.bool ((d1 == 0) && (decide ((geti cost4 i1) < 1000000))))] hF hS Fol (by kernel_rfl) (by kernel_rfl) (by kernel_rfl) ?_ (fun a w hF hS => ?_)
              · exact obs_cons (ob_ix1 (f := (Value.int .i64)) (m := cost4) Und27 hi3 hs3 (hS.at_ 1 rfl).rd ((hS.at_ 1 rfl).len1) (fun hy => hp11 (hy ((d1 == 0), true) (by simp)))) <| obs_cons (ob_get1 (n := (Int.toNat (g3.length : Int))) (m := cost4) (Value.int .i64) (0 : Int) Agg3 (fun _ hS => ⟨_, (hS.at_ 1 rfl).rd⟩) (fun _ hS => ((hS.at_ 1 rfl).len1)) (fun hy => hp11 (hy ((d1 == 0), true) (by simp)))) <| obs_nil
              refine cond_ev (t := 73) (b := (d1 == 0) && (decide ((geti cost4 i1) < 1000000))) hF (by kernel_rfl) (fun hb => ?_) (fun hb => ?_)
              · replace hm := if_t hm hb
                refine oneR ?_
                obtain ⟨hp12, hm⟩ := asrt_b hm
                obtain ⟨hp13, hm⟩ := asrt_b hm
                refine at_run 7 [⟨true, [], vS (Instr.indexAt 27 (.slice A2 (Int.toNat (g3.length : Int)) c2) (.int .i64 i1)), .pointer (some (sAddr A2 i1))⟩, ⟨false, [], vS (Instr.loadAt 3 (.pointer (some (sAddr A2 i1)))), .int .i64 (geti cost4 i1)⟩, ⟨true, [], vS (Instr.indexAt 27 (.slice A3 (Int.toNat (g3.length : Int)) c3) (.int .i64 i1)), .pointer (some (sAddr A3 i1))⟩] [none, none, none, none, some (.pointer (some (sAddr A2 i1))), some (.int .i64 (geti cost4 i1)), some (.pointer (some (sAddr A3 i1)))] [1, 2, 5, 6, 7, 8, 79, 80] [pl 1 (.int .i64 who1), pl 2 (.pointer (some ⟨g4, 0, none⟩)), pl 5 (.int .i64 (g3.length : Int)), pl 6 (.slice A2 (Int.toNat (g3.length : Int)) c2), pl 7 (.slice A3 (Int.toNat (g3.length : Int)) c3), pl 8 (.int .i64 i1), pl 79 (.int .i64 (geti cost4 i1)), pl 80 (.pointer (some (sAddr A3 i1)))] hF hS (by kernel_rfl) (by kernel_rfl) ?_ (fun a w hF hS => ?_)
                · exact obs_cons (ob_ix1 (f := (Value.int .i64)) (m := cost4) Und27 hi3 hs3 (hS.at_ 1 rfl).rd ((hS.at_ 1 rfl).len1) (fun _ => hp12)) <| obs_cons (ob_get1 (n := (Int.toNat (g3.length : Int))) (m := cost4) (Value.int .i64) (0 : Int) Agg3 (fun _ hS => ⟨_, (hS.at_ 1 rfl).rd⟩) (fun _ hS => ((hS.at_ 1 rfl).len1)) (fun _ => hp12)) <| obs_cons (ob_ix1 (f := (Value.int .i64)) (m := (far1.set (Int.toNat i1) 1000000)) Und27 hi3 hs3 (hS.at_ 2 rfl).rd ((hS.at_ 2 rfl).len1) (fun _ => hp13)) <| obs_nil
                obtain ⟨w, hrun, hS⟩ := run_set1 (P := Try.prog) (t := 3) (x := (geti cost4 i1)) (Value.int .i64) (hS.at_ 2 rfl) hi3 hs3 rfl rfl hp13
                refine at_skip hF (by kernel_rfl) hrun ?_
                have hS : Sep w0 B w (blk g4 64 #[.int .i64 g1, .int .i64 g2, .slice A1 g3.length c1] :: own 3 (.slice A2 (Int.toNat (g3.length : Int)) c2) (vI cost4) :: own 3 (.slice A3 (Int.toNat (g3.length : Int)) c3) (vI ((far1.set (Int.toNat i1) 1000000).set (Int.toNat i1) (geti cost4 i1))) :: fs) := hS
                refine at_end [1, 2, 5, 6, 7, 8] [pl 1 (.int .i64 who1), pl 2 (.pointer (some ⟨g4, 0, none⟩)), pl 5 (.int .i64 (g3.length : Int)), pl 6 (.slice A2 (Int.toNat (g3.length : Int)) c2), pl 7 (.slice A3 (Int.toNat (g3.length : Int)) c3), pl 8 (.int .i64 i1)] hF rfl (by kernel_rfl) (fun hF => ?_)
                refine block_n ?_
                refine then_n ?_
                exact ⟨cost4, ((far1.set (Int.toNat i1) 1000000).set (Int.toNat i1) (geti cost4 i1)), hF.weak [1, 2, 5, 6, 7, 8] (by kernel_rfl), hS, hm⟩
              · replace hm := if_f hm hb
                refine wpIn_skip ?_
                refine block_n ?_
                refine then_n ?_
                exact ⟨cost4, (far1.set (Int.toNat i1) 1000000), hF.weak [1, 2, 5, 6, 7, 8] (by kernel_rfl), hS, hm⟩
            · refine reg [] [] [1, 2, 5, 6, 7, 8, 9, 60] [pl 1 (.int .i64 who1), pl 2 (.pointer (some ⟨g4, 0, none⟩)), pl 5 (.int .i64 (g3.length : Int)), pl 6 (.slice A2 (Int.toNat (g3.length : Int)) c2), pl 7 (.slice A3 (Int.toNat (g3.length : Int)) c3), pl 8 (.int .i64 i1), pl 9 (.int .i64 (w64 (Int.tdiv i1 g1))), pl 60 (.bool (who1 == 2))] hF hS Fol (by kernel_rfl) (by kernel_rfl) (by kernel_rfl) ?_ (fun a w hF hS => ?_)
              · exact obs_nil
              refine cond_ev (t := 60) (b := (who1 == 2)) hF (by kernel_rfl) (fun hb => ?_) (fun hb => ?_)
              · replace hm := if_t hm hb
                obtain ⟨hp10, hm⟩ := asrt_b hm
                refine reg1 [⟨false, [], vS (Instr.loadAt 3 (.pointer (some ⟨g4, 0, none⟩))), .int .i64 g1⟩, ⟨true, [], vS (Op.intDiv .rem .i64 i1 g1), .int .i64 (Int.tmod i1 g1)⟩] [none, none, some (.int .i64 g1), some (.int .i64 (Int.tmod i1 g1)), none] [1, 2, 5, 6, 7, 8, 9] [pl 1 (.int .i64 who1), pl 2 (.pointer (some ⟨g4, 0, none⟩)), pl 5 (.int .i64 (g3.length : Int)), pl 6 (.slice A2 (Int.toNat (g3.length : Int)) c2), pl 7 (.slice A3 (Int.toNat (g3.length : Int)) c3), pl 8 (.int .i64 i1), pl 9 (.int .i64 (Int.tmod i1 g1))] hF hS Fol (by kernel_rfl) (by kernel_rfl) (by kernel_rfl) ?_ (fun a w hF hS => ?_)
                · exact obs_cons (ob_load Agg3 (fun _ _ hS => (hS.at_ 0 rfl).cell rfl)) <| obs_cons (ob_rem rfl (fun _ => hp10)) <| obs_nil
                refine then_n ?_
                exact ⟨(Int.tmod i1 g1), hF.weak [1, 2, 5, 6, 7, 8, 9] (by kernel_rfl), hS, hm⟩
              · replace hm := if_f hm hb
                refine wpIn_skip ?_
                refine then_n ?_
                exact ⟨(w64 (Int.tdiv i1 g1)), hF.weak [1, 2, 5, 6, 7, 8, 9] (by kernel_rfl), hS, hm⟩
          · obtain ⟨hp7, hm⟩ := asrt_b hm
            refine reg [⟨false, [], vS (Instr.loadAt 27 (.pointer (some ⟨g4, 2, none⟩))), .slice A1 g3.length c1⟩, ⟨true, [], vS (Instr.indexAt 27 (.slice A1 g3.length c1) (.int .i64 i1)), .pointer (some (sAddr A1 i1))⟩, ⟨false, [], vS (Instr.loadAt 3 (.pointer (some (sAddr A1 i1)))), .int .i64 (geti g3 i1)⟩] [none, some (.slice A1 g3.length c1), none, some (.pointer (some (sAddr A1 i1))), some (.int .i64 (geti g3 i1)), none, none, none] [1, 2, 5, 6, 7, 8, 51] [pl 1 (.int .i64 who1), pl 2 (.pointer (some ⟨g4, 0, none⟩)), pl 5 (.int .i64 (g3.length : Int)), pl 6 (.slice A2 (Int.toNat (g3.length : Int)) c2), pl 7 (.slice A3 (Int.toNat (g3.length : Int)) c3), pl 8 (.int .i64 i1), pl 51 (.bool ((geti g3 i1) == (w64 (3 - who1))))] hF hS Fol (by kernel_rfl) (by kernel_rfl) (by kernel_rfl) ?_ (fun a w hF hS => ?_)
            · exact obs_cons (ob_load Agg27 (fun _ _ hS => (hS.at_ 0 rfl).cell rfl)) <| obs_cons (ob_ix1 (f := (Value.int .i64)) (m := g3) Und27 hi3 hs3 (hr_g3 _ (hS.dropN 3)) rfl (fun _ => hp7)) <| obs_cons (ob_get1 (n := g3.length) (m := g3) (Value.int .i64) (0 : Int) Agg3 (fun _ hS => ⟨_, (hr_g3 _ (hS.dropN 3))⟩) (fun _ hS => rfl) (fun _ => hp7)) <| obs_nil
            refine cond_ev (t := 51) (b := ((geti g3 i1) == (w64 (3 - who1)))) hF (by kernel_rfl) (fun hb => ?_) (fun hb => ?_)
            · replace hm := if_t hm hb
              refine oneR ?_
              obtain ⟨hp8, hm⟩ := asrt_b hm
              refine at_run 3 [⟨true, [], vS (Instr.indexAt 27 (.slice A2 (Int.toNat (g3.length : Int)) c2) (.int .i64 i1)), .pointer (some (sAddr A2 i1))⟩] [none, none, some (.pointer (some (sAddr A2 i1)))] [1, 2, 5, 6, 7, 8, 54] [pl 1 (.int .i64 who1), pl 2 (.pointer (some ⟨g4, 0, none⟩)), pl 5 (.int .i64 (g3.length : Int)), pl 6 (.slice A2 (Int.toNat (g3.length : Int)) c2), pl 7 (.slice A3 (Int.toNat (g3.length : Int)) c3), pl 8 (.int .i64 i1), pl 54 (.pointer (some (sAddr A2 i1)))] hF hS (by kernel_rfl) (by kernel_rfl) ?_ (fun a w hF hS => ?_)
              · exact obs_cons (ob_ix1 (f := (Value.int .i64)) (m := cost3) Und27 hi3 hs3 (hS.at_ 1 rfl).rd ((hS.at_ 1 rfl).len1) (fun _ => hp8)) <| obs_nil
              obtain ⟨w, hrun, hS⟩ := run_set1 (P := Try.prog) (t := 3) (x := 1000000) (Value.int .i64) (hS.at_ 1 rfl) hi3 hs3 rfl rfl hp8
              refine at_skip hF (by kernel_rfl) hrun ?_
              have hS : Sep w0 B w (blk g4 64 #[.int .i64 g1, .int .i64 g2, .slice A1 g3.length c1] :: own 3 (.slice A2 (Int.toNat (g3.length : Int)) c2) (vI (cost3.set (Int.toNat i1) 1000000)) :: own 3 (.slice A3 (Int.toNat (g3.length : Int)) c3) (vI (far1.set (Int.toNat i1) 1000000)) :: fs) := hS
              refine at_end [1, 2, 5, 6, 7, 8] [pl 1 (.int .i64 who1), pl 2 (.pointer (some ⟨g4, 0, none⟩)), pl 5 (.int .i64 (g3.length : Int)), pl 6 (.slice A2 (Int.toNat (g3.length : Int)) c2), pl 7 (.slice A3 (Int.toNat (g3.length : Int)) c3), pl 8 (.int .i64 i1)] hF rfl (by kernel_rfl) (fun hF => ?_)
              refine then_n ?_
              exact ⟨(cost3.set (Int.toNat i1) 1000000), hF.weak [1, 2, 5, 6, 7, 8] (by kernel_rfl), hS, hm⟩
            · replace hm := if_f hm hb
              refine wpIn_skip ?_
              refine then_n ?_
              exact ⟨cost3, hF.weak [1, 2, 5, 6, 7, 8] (by kernel_rfl), hS, hm⟩
        · obtain ⟨hp5, hm⟩ := asrt_b hm
          refine reg [⟨false, [], vS (Instr.loadAt 27 (.pointer (some ⟨g4, 2, none⟩))), .slice A1 g3.length c1⟩, ⟨true, [], vS (Instr.indexAt 27 (.slice A1 g3.length c1) (.int .i64 i1)), .pointer (some (sAddr A1 i1))⟩, ⟨false, [], vS (Instr.loadAt 3 (.pointer (some (sAddr A1 i1)))), .int .i64 (geti g3 i1)⟩] [none, some (.slice A1 g3.length c1), none, some (.pointer (some (sAddr A1 i1))), some (.int .i64 (geti g3 i1)), none, none] [1, 2, 5, 6, 7, 8, 40] [pl 1 (.int .i64 who1), pl 2 (.pointer (some ⟨g4, 0, none⟩)), pl 5 (.int .i64 (g3.length : Int)), pl 6 (.slice A2 (Int.toNat (g3.length : Int)) c2), pl 7 (.slice A3 (Int.toNat (g3.length : Int)) c3), pl 8 (.int .i64 i1), pl 40 (.bool ((geti g3 i1) == who1))] hF hS Fol (by kernel_rfl) (by kernel_rfl) (by kernel_rfl) ?_ (fun a w hF hS => ?_)
          · exact obs_cons (ob_load Agg27 (fun _ _ hS => (hS.at_ 0 rfl).cell rfl)) <| obs_cons (ob_ix1 (f := (Value.int .i64)) (m := g3) Und27 hi3 hs3 (hr_g3 _ (hS.dropN 3)) rfl (fun _ => hp5)) <| obs_cons (ob_get1 (n := g3.length) (m := g3) (Value.int .i64) (0 : Int) Agg3 (fun _ hS => ⟨_, (hr_g3 _ (hS.dropN 3))⟩) (fun _ hS => rfl) (fun _ => hp5)) <| obs_nil
          refine cond_ev (t := 40) (b := ((geti g3 i1) == who1)) hF (by kernel_rfl) (fun hb => ?_) (fun hb => ?_)
          · replace hm := if_t hm hb
            refine oneR ?_
            obtain ⟨hp6, hm⟩ := asrt_b hm
            refine at_run 3 [⟨true, [], vS (Instr.indexAt 27 (.slice A2 (Int.toNat (g3.length : Int)) c2) (.int .i64 i1)), .pointer (some (sAddr A2 i1))⟩] [none, none, some (.pointer (some (sAddr A2 i1)))] [1, 2, 5, 6, 7, 8, 43] [pl 1 (.int .i64 who1), pl 2 (.pointer (some ⟨g4, 0, none⟩)), pl 5 (.int .i64 (g3.length : Int)), pl 6 (.slice A2 (Int.toNat (g3.length : Int)) c2), pl 7 (.slice A3 (Int.toNat (g3.length : Int)) c3), pl 8 (.int .i64 i1), pl 43 (.pointer (some (sAddr A2 i1)))] hF hS (by kernel_rfl) (by kernel_rfl) ?_ (fun a w hF hS => ?_)
            · exact obs_cons (ob_ix1 (f := (Value.int .i64)) (m := (cost1.set (Int.toNat i1) 1)) Und27 hi3 hs3 (hS.at_ 1 rfl).rd ((hS.at_ 1 rfl).len1) (fun _ => hp6)) <| obs_nil
            obtain ⟨w, hrun, hS⟩ := run_set1 (P := Try.prog) (t := 3) (x := 0) (Value.int .i64) (hS.at_ 1 rfl) hi3 hs3 rfl rfl hp6
            refine at_skip hF (by kernel_rfl) hrun ?_
            have hS : Sep w0 B w (blk g4 64 #[.int .i64 g1, .int .i64 g2, .slice A1 g3.length c1] :: own 3 (.slice A2 (Int.toNat (g3.length : Int)) c2) (vI ((cost1.set (Int.toNat i1) 1).set (Int.toNat i1) 0)) :: own 3 (.slice A3 (Int.toNat (g3.length : Int)) c3) (vI (far1.set (Int.toNat i1) 1000000)) :: fs) := hS
            refine at_end [1, 2, 5, 6, 7, 8] [pl 1 (.int .i64 who1), pl 2 (.pointer (some ⟨g4, 0, none⟩)), pl 5 (.int .i64 (g3.length : Int)), pl 6 (.slice A2 (Int.toNat (g3.length : Int)) c2), pl 7 (.slice A3 (Int.toNat (g3.length : Int)) c3), pl 8 (.int .i64 i1)] hF rfl (by kernel_rfl) (fun hF => ?_)
            refine then_n ?_
            exact ⟨((cost1.set (Int.toNat i1) 1).set (Int.toNat i1) 0), hF.weak [1, 2, 5, 6, 7, 8] (by kernel_rfl), hS, hm⟩
          · replace hm := if_f hm hb
            refine wpIn_skip ?_
            refine then_n ?_
            exact ⟨(cost1.set (Int.toNat i1) 1), hF.weak [1, 2, 5, 6, 7, 8] (by kernel_rfl), hS, hm⟩
    · refine reg [] [] [1, 2, 5, 6, 7, 8, 25] [pl 1 (.int .i64 who1), pl 2 (.pointer (some ⟨g4, 0, none⟩)), pl 5 (.int .i64 (g3.length : Int)), pl 6 (.slice A2 (Int.toNat (g3.length : Int)) c2), pl 7 (.slice A3 (Int.toNat (g3.length : Int)) c3), pl 8 (.int .i64 i1), pl 25 (.bool (decide (i1 < (g3.length : Int))))] hF hS Fol (by kernel_rfl) (by kernel_rfl) (by kernel_rfl) ?_ (fun a w hF hS => ?_)
      · exact obs_nil
      refine cond_ev (t := 25) (b := decide (i1 < (g3.length : Int))) hF (by kernel_rfl) (fun hb => ?_) (fun hb => ?_)
      · replace hm := if_t hm hb
        refine wpIn_skip ?_
        refine then_n ?_
        exact ⟨hF.weak [1, 2, 5, 6, 7, 8] (by kernel_rfl), hS, hm⟩
      · replace hm := if_f hm hb
        refine wpIn_exit ?_
        refine then_e (then_e (block_e (then_n ?_)))
        rw [← hφ1] at hm
        replace hm := done_b hm
        unfold gameroomref_HexShortest_K1 at hm
        try dsimp only at hm
        have hm : ((gameroomref_HexShortest_J1 g1 g3 who1) cost1 far1).bind some = some r := hm
        exact ⟨cost1, far1, hF.weak [1, 2, 5, 6, 7] (by kernel_rfl), hS, hm⟩

noncomputable def gameroomref_OpenPlaces_J3  (i1 : Int) (n4 : Int) : Option (St (Int × Int) Int) :=
  some (.next (n4, (w64 (i1 + 1))))

noncomputable def gameroomref_OpenPlaces_J2  (g3 : List Int) (n2 : Int) (i1 : Int) : Option (St (Int × Int) Int) :=
  asrt (0 ≤ i1 ∧ i1 < (g3.length : Int)) <| if ((geti g3 i1) == 0) then ((gameroomref_OpenPlaces_J3 i1) (w64 (n2 + 1))) else ((gameroomref_OpenPlaces_J3 i1) n2)

noncomputable def gameroomref_OpenPlaces_J1  (n3 : Int) : Option Int :=
  some n3

noncomputable def gameroomref_OpenPlaces_K1  : Int → Option Int :=
  fun (x : Int) => match x with | n3 => gameroomref_OpenPlaces_J1 n3

noncomputable def gameroomref_OpenPlaces_L1  (g3 : List Int) : (Int × Int) → Option (St (Int × Int) Int) :=
  fun (x : (Int × Int)) => match x with | (n2, i1) => if (decide (i1 < (g3.length : Int))) then ((gameroomref_OpenPlaces_J2 g3 n2 i1)) else (some (.done n2))

noncomputable def gameroomref_OpenPlaces_m  (g1 : Int) (g2 : Int) (g3 : List Int) : Option Int :=
  (loop (gameroomref_OpenPlaces_L1 g3) (0, 0)).bind gameroomref_OpenPlaces_K1

set_option maxRecDepth 100000 in
set_option maxHeartbeats 4000000 in
theorem gameroomref_OpenPlaces_w {g1 : Int} {g2 : Int} {A1 : Option Addr} {c1 : Nat} {n1 : Nat} {g3 : List Int} {r : Int} {w0 w : World} {B : Nat} {fs : List HP} (hm : gameroomref_OpenPlaces_m g1 g2 g3 = some r) (hS : Sep w0 B w (fs)) (hr_g3 : RdF w0 B fs A1 (vI g3)) (_hc_g3 : g3.length ≤ c1) (_hn_g3 : n1 = g3.length) :
    Calls Try.prog 44 #[.agg #[.int .i64 g1, .int .i64 g2, .slice A1 n1 c1]] w fun e w' => e = .returned (.int .i64 r) ∧ Sep w0 B w' (fs) := by
  obtain ⟨i3, hi3, hz3, hs3, hb3⟩ := info_parts Info3
  obtain rfl := _hn_g3
  unfold gameroomref_OpenPlaces_m at hm
  replace hm := start_b hm
  refine enter (l := [.agg #[.int .i64 g1, .int .i64 g2, .slice A1 g3.length c1]]) (n := 21) Try.func44 rfl rfl (by simp) (fun a hF => ?_)
  refine seqR ?_
  refine at_do (d := 1) (s := vS (Instr.box 64 (.agg #[.int .i64 g1, .int .i64 g2, .slice A1 g3.length c1]))) (v := .pointer (some ⟨w.heap.size, 0, none⟩)) (w' := w.alloc (.cells #[.int .i64 g1, .int .i64 g2, .slice A1 g3.length c1] 64)) hF (by kernel_rfl) (by kernel_rfl) (by kernel_rfl) (fun a hF => ?_)
  have hS : Sep w0 B (w.alloc (.cells #[.int .i64 g1, .int .i64 g2, .slice A1 g3.length c1] 64)) (blk w.heap.size 64 #[.int .i64 g1, .int .i64 g2, .slice A1 g3.length c1] :: (fs)) := hS.box 64 #[.int .i64 g1, .int .i64 g2, .slice A1 g3.length c1]
  generalize w.heap.size = g4 at hF hS
  generalize w.alloc (.cells #[.int .i64 g1, .int .i64 g2, .slice A1 g3.length c1] 64) = w at hS ⊢
  refine at_run 1 [] [] [1] [pl 1 (.pointer (some ⟨g4, 0, none⟩))] hF hS (by kernel_rfl) (by kernel_rfl) ?_ (fun a w hF hS => ?_)
  · exact obs_nil
  refine at_end [1] [pl 1 (.pointer (some ⟨g4, 0, none⟩))] hF rfl (by kernel_rfl) (fun hF => ?_)
  refine then_n ?_
  refine reg [] [] [1, 3] [pl 1 (.pointer (some ⟨g4, 0, none⟩)), pl 3 (.int .i64 0)] hF hS Fol (by kernel_rfl) (by kernel_rfl) (by kernel_rfl) ?_ (fun a w hF hS => ?_)
  · exact obs_nil
  refine seq_cut (fun a w => ∃ (n3 : Int), Fr 21 [pl 3 (.int .i64 n3)] a ∧ Sep w0 B w (fs) ∧ (gameroomref_OpenPlaces_J1 n3).bind some = some r) ?_ ?_
  · rintro a w ⟨n3, hF, hS, hm⟩
    unfold gameroomref_OpenPlaces_J1 at hm
    refine reg [] [] [2] [pl 2 (.int .i64 n3)] hF hS Fol (by kernel_rfl) (by kernel_rfl) (by kernel_rfl) ?_ (fun a w hF hS => ?_)
    · exact obs_nil
    refine wpIn_ret ?_
    have hm : some n3 = some r := hm
    obtain rfl := Option.some.inj hm
    exact retV (rs := [.tmp 2]) (vs := [.int .i64 n3]) hF rfl (rv_t (by kernel_rfl) <| rv_nil) rfl ⟨rfl, hS⟩
  · refine reg [] [] [1, 3, 4] [pl 1 (.pointer (some ⟨g4, 0, none⟩)), pl 3 (.int .i64 0), pl 4 (.int .i64 0)] hF hS Fol (by kernel_rfl) (by kernel_rfl) (by kernel_rfl) ?_ (fun a w hF hS => ?_)
    · exact obs_nil
    refine wpIn_block ?_
    refine wp_loop_model (S := (Int × Int)) (R := Int) (gameroomref_OpenPlaces_L1 g3) (fun x => (gameroomref_OpenPlaces_K1 x).bind some) r (fun (x : (Int × Int)) a w => Fr 21 [pl 1 (.pointer (some ⟨g4, 0, none⟩)), pl 3 (.int .i64 x.1), pl 4 (.int .i64 x.2)] a ∧ Sep w0 B w (blk g4 64 #[.int .i64 g1, .int .i64 g2, .slice A1 g3.length c1] :: fs)) (assoc_b hm) ⟨hF.weak [1, 3, 4] (by kernel_rfl), hS⟩ ?_
    clear hF hS hm
    rintro nn1 ⟨n2, i1⟩ a w ⟨hF, hS⟩ hm
    generalize hφ1 : stK (gameroomref_OpenPlaces_L1 g3) nn1 (fun x => (gameroomref_OpenPlaces_K1 x).bind some) = φ1 at hm
    unfold gameroomref_OpenPlaces_L1 at hm
    dsimp only at hF hS hm
    refine seq_cut (fun a w => Fr 21 [pl 1 (.pointer (some ⟨g4, 0, none⟩)), pl 3 (.int .i64 n2), pl 4 (.int .i64 i1)] a ∧ Sep w0 B w (blk g4 64 #[.int .i64 g1, .int .i64 g2, .slice A1 g3.length c1] :: fs) ∧ ((gameroomref_OpenPlaces_J2 g3 n2 i1)).bind φ1 = some r) ?_ ?_
    · rintro a w ⟨hF, hS, hm⟩
      unfold gameroomref_OpenPlaces_J2 at hm
      refine seq_cut (fun a w => ∃ (n4 : Int), Fr 21 [pl 1 (.pointer (some ⟨g4, 0, none⟩)), pl 3 (.int .i64 n4), pl 4 (.int .i64 i1)] a ∧ Sep w0 B w (blk g4 64 #[.int .i64 g1, .int .i64 g2, .slice A1 g3.length c1] :: fs) ∧ ((gameroomref_OpenPlaces_J3 i1) n4).bind φ1 = some r) ?_ ?_
      · rintro a w ⟨n4, hF, hS, hm⟩
        unfold gameroomref_OpenPlaces_J3 at hm
        refine reg1 [] [] [1, 3, 4] [pl 1 (.pointer (some ⟨g4, 0, none⟩)), pl 3 (.int .i64 n4), pl 4 (.int .i64 (w64 (i1 + 1)))] hF hS Fol (by kernel_rfl) (by kernel_rfl) (by kernel_rfl) ?_ (fun a w hF hS => ?_)
        · exact obs_nil
        refine then_n ?_
        rw [← hφ1] at hm
        exact ⟨(n4, (w64 (i1 + 1))), ⟨hF.weak [1, 3, 4] (by kernel_rfl), hS⟩, hm⟩
      · refine wpIn_block ?_
        obtain ⟨hp1, hm⟩ := asrt_b hm
        refine reg [⟨false, [], vS (Instr.loadAt 27 (.pointer (some ⟨g4, 2, none⟩))), .slice A1 g3.length c1⟩, ⟨true, [], vS (Instr.indexAt 27 (.slice A1 g3.length c1) (.int .i64 i1)), .pointer (some (sAddr A1 i1))⟩, ⟨false, [], vS (Instr.loadAt 3 (.pointer (some (sAddr A1 i1)))), .int .i64 (geti g3 i1)⟩] [none, some (.slice A1 g3.length c1), none, some (.pointer (some (sAddr A1 i1))), some (.int .i64 (geti g3 i1)), none] [1, 3, 4, 17] [pl 1 (.pointer (some ⟨g4, 0, none⟩)), pl 3 (.int .i64 n2), pl 4 (.int .i64 i1), pl 17 (.bool ((geti g3 i1) == 0))] hF hS Fol (by kernel_rfl) (by kernel_rfl) (by kernel_rfl) ?_ (fun a w hF hS => ?_)
        · exact obs_cons (ob_load Agg27 (fun _ _ hS => (hS.at_ 0 rfl).cell rfl)) <| obs_cons (ob_ix1 (f := (Value.int .i64)) (m := g3) Und27 hi3 hs3 (hr_g3 _ (hS.dropN 1)) rfl (fun _ => hp1)) <| obs_cons (ob_get1 (n := g3.length) (m := g3) (Value.int .i64) (0 : Int) Agg3 (fun _ hS => ⟨_, (hr_g3 _ (hS.dropN 1))⟩) (fun _ hS => rfl) (fun _ => hp1)) <| obs_nil
        refine cond_ev (t := 17) (b := ((geti g3 i1) == 0)) hF (by kernel_rfl) (fun hb => ?_) (fun hb => ?_)
        · replace hm := if_t hm hb
          refine reg1 [] [] [1, 3, 4] [pl 1 (.pointer (some ⟨g4, 0, none⟩)), pl 3 (.int .i64 (w64 (n2 + 1))), pl 4 (.int .i64 i1)] hF hS Fol (by kernel_rfl) (by kernel_rfl) (by kernel_rfl) ?_ (fun a w hF hS => ?_)
          · exact obs_nil
          refine block_n ?_
          refine then_n ?_
          exact ⟨(w64 (n2 + 1)), hF.weak [1, 3, 4] (by kernel_rfl), hS, hm⟩
        · replace hm := if_f hm hb
          refine wpIn_skip ?_
          refine block_n ?_
          refine then_n ?_
          exact ⟨n2, hF.weak [1, 3, 4] (by kernel_rfl), hS, hm⟩
    · refine reg [⟨false, [], vS (Instr.loadAt 27 (.pointer (some ⟨g4, 2, none⟩))), .slice A1 g3.length c1⟩] [none, none, some (.slice A1 g3.length c1), none, none] [1, 3, 4, 9] [pl 1 (.pointer (some ⟨g4, 0, none⟩)), pl 3 (.int .i64 n2), pl 4 (.int .i64 i1), pl 9 (.bool (decide (i1 < (g3.length : Int))))] hF hS Fol (by kernel_rfl) (by kernel_rfl) (by kernel_rfl) ?_ (fun a w hF hS => ?_)
      · exact obs_cons (ob_load Agg27 (fun _ _ hS => (hS.at_ 0 rfl).cell rfl)) <| obs_nil
      refine cond_ev (t := 9) (b := decide (i1 < (g3.length : Int))) hF (by kernel_rfl) (fun hb => ?_) (fun hb => ?_)
      · replace hm := if_t hm hb
        refine wpIn_skip ?_
        refine then_n ?_
        exact ⟨hF.weak [1, 3, 4] (by kernel_rfl), hS, hm⟩
      · replace hm := if_f hm hb
        refine wpIn_exit ?_
        refine then_e (then_e (block_e (then_n ?_)))
        have hS := hS.pickN 1 [] (by decide)
        rw [← hφ1] at hm
        replace hm := done_b hm
        unfold gameroomref_OpenPlaces_K1 at hm
        try dsimp only at hm
        have hm : (gameroomref_OpenPlaces_J1 n2).bind some = some r := hm
        exact ⟨n2, hF.weak [3] (by kernel_rfl), hS, hm⟩

noncomputable def gameroomref_HexGroups_J3  (group1 : List Int) (i1 : Int) : Option (St (List Int × Int) (List Int)) :=
  some (.next ((group1.set (Int.toNat i1) i1), (w64 (i1 + 1))))

noncomputable def gameroomref_HexGroups_J2  (g3 : List Int) (group1 : List Int) (i1 : Int) : Option (St (List Int × Int) (List Int)) :=
  asrt (0 ≤ i1 ∧ i1 < (((Int.toNat (g3.length : Int)) : Nat) : Int)) <| (gameroomref_HexGroups_J3 group1 i1)

noncomputable def gameroomref_HexGroups_J9  (b1 : Int) (group8 : List Int) (changed5 : Bool) : Option (St (List Int × Bool × Int) (List Int × Bool)) :=
  some (.next (group8, changed5, (w64 (b1 + 1))))

noncomputable def gameroomref_HexGroups_J8  (g1 : Int) (g3 : List Int) (who1 : Int) (a1 : Int) (group6 : List Int) (changed3 : Bool) (b1 : Int) : Option (St (List Int × Bool × Int) (List Int × Bool)) :=
  asrt (0 ≤ a1 ∧ a1 < (g3.length : Int)) <| asrt (((geti g3 a1) == who1) = true → 0 ≤ b1 ∧ b1 < (g3.length : Int)) <| ((if (((geti g3 a1) == who1) && ((geti g3 b1) == who1)) then gameroomref_hexNear_m g1 a1 b1 else some false)).bind fun r1 => asrt (((((geti g3 a1) == who1) && ((geti g3 b1) == who1)) && r1) = true → 0 ≤ b1 ∧ b1 < (((Int.toNat (g3.length : Int)) : Nat) : Int)) <| asrt (((((geti g3 a1) == who1) && ((geti g3 b1) == who1)) && r1) = true → 0 ≤ a1 ∧ a1 < (((Int.toNat (g3.length : Int)) : Nat) : Int)) <| if (((((geti g3 a1) == who1) && ((geti g3 b1) == who1)) && r1) && (decide ((geti group6 b1) < (geti group6 a1)))) then (asrt (0 ≤ b1 ∧ b1 < (((Int.toNat (g3.length : Int)) : Nat) : Int)) <| asrt (0 ≤ a1 ∧ a1 < (((Int.toNat (g3.length : Int)) : Nat) : Int)) <| (gameroomref_HexGroups_J9 b1) (group6.set (Int.toNat a1) (geti group6 b1)) true) else ((gameroomref_HexGroups_J9 b1) group6 changed3)

noncomputable def gameroomref_HexGroups_L4  (g1 : Int) (g3 : List Int) (who1 : Int) (a1 : Int) : (List Int × Bool × Int) → Option (St (List Int × Bool × Int) (List Int × Bool)) :=
  fun (x : (List Int × Bool × Int)) => match x with | (group6, changed3, b1) => if (decide (b1 < (g3.length : Int))) then ((gameroomref_HexGroups_J8 g1 g3 who1 a1 group6 changed3 b1)) else (some (.done (group6, changed3)))

noncomputable def gameroomref_HexGroups_J7  (a1 : Int) (group7 : List Int) (changed4 : Bool) : Option (St (List Int × Bool × Int) (List Int × Bool)) :=
  some (.next (group7, changed4, (w64 (a1 + 1))))

noncomputable def gameroomref_HexGroups_K4  (a1 : Int) : (List Int × Bool) → Option (St (List Int × Bool × Int) (List Int × Bool)) :=
  fun (x : (List Int × Bool)) => match x with | (group7, changed4) => (gameroomref_HexGroups_J7 a1) group7 changed4

noncomputable def gameroomref_HexGroups_J6  (g1 : Int) (g3 : List Int) (who1 : Int) (group5 : List Int) (changed2 : Bool) (a1 : Int) : Option (St (List Int × Bool × Int) (List Int × Bool)) :=
  (loop (gameroomref_HexGroups_L4 g1 g3 who1 a1) (group5, changed2, 0)).bind (gameroomref_HexGroups_K4 a1)

noncomputable def gameroomref_HexGroups_L3  (g1 : Int) (g3 : List Int) (who1 : Int) : (List Int × Bool × Int) → Option (St (List Int × Bool × Int) (List Int × Bool)) :=
  fun (x : (List Int × Bool × Int)) => match x with | (group5, changed2, a1) => if (decide (a1 < (g3.length : Int))) then ((gameroomref_HexGroups_J6 g1 g3 who1 group5 changed2 a1)) else (some (.done (group5, changed2)))

noncomputable def gameroomref_HexGroups_K3  : (List Int × Bool) → Option (St (List Int × Bool) (List Int)) :=
  fun (x : (List Int × Bool)) => match x with | (group3, changed1) => some (.next (group3, changed1))

noncomputable def gameroomref_HexGroups_J5  (g1 : Int) (g3 : List Int) (who1 : Int) (group3 : List Int) : Option (St (List Int × Bool) (List Int)) :=
  (loop (gameroomref_HexGroups_L3 g1 g3 who1) (group3, false, 0)).bind gameroomref_HexGroups_K3

noncomputable def gameroomref_HexGroups_L2  (g1 : Int) (g3 : List Int) (who1 : Int) : (List Int × Bool) → Option (St (List Int × Bool) (List Int)) :=
  fun (x : (List Int × Bool)) => match x with | (group3, changed1) => if changed1 then ((gameroomref_HexGroups_J5 g1 g3 who1 group3)) else (some (.done group3))

noncomputable def gameroomref_HexGroups_J12  (i2 : Int) (l3 : List (List Int)) : Option (St (List (List Int) × Int) (List (List Int))) :=
  some (.next (l3, (w64 (i2 + 1))))

noncomputable def gameroomref_HexGroups_J16  (k1 : Int) (x3 : List Int) : Option (St (List Int × Int) (List Int)) :=
  some (.next (x3, (w64 (k1 + 1))))

noncomputable def gameroomref_HexGroups_J15  (g3 : List Int) (who1 : Int) (group4 : List Int) (i2 : Int) (x1 : List Int) (k1 : Int) : Option (St (List Int × Int) (List Int)) :=
  asrt (0 ≤ k1 ∧ k1 < (g3.length : Int)) <| asrt (((geti g3 k1) == who1) = true → 0 ≤ k1 ∧ k1 < (((Int.toNat (g3.length : Int)) : Nat) : Int)) <| if (((geti g3 k1) == who1) && ((geti group4 k1) == i2)) then (asrt ((x1.length : Int) + 1 ≤ bigN) <| (gameroomref_HexGroups_J16 k1) (x1 ++ ([k1] : List Int))) else ((gameroomref_HexGroups_J16 k1) x1)

noncomputable def gameroomref_HexGroups_L6  (g3 : List Int) (who1 : Int) (group4 : List Int) (i2 : Int) : (List Int × Int) → Option (St (List Int × Int) (List Int)) :=
  fun (x : (List Int × Int)) => match x with | (x1, k1) => if (decide (k1 < (g3.length : Int))) then ((gameroomref_HexGroups_J15 g3 who1 group4 i2 x1 k1)) else (some (.done x1))

noncomputable def gameroomref_HexGroups_J14  (l1 : List (List Int)) (i2 : Int) (x2 : List Int) : Option (St (List (List Int) × Int) (List (List Int))) :=
  asrt (((l1.length : Int) : Int) + 1 ≤ bigR) <| (gameroomref_HexGroups_J12 i2) (l1 ++ [x2])

noncomputable def gameroomref_HexGroups_K6  (l1 : List (List Int)) (i2 : Int) : (List Int) → Option (St (List (List Int) × Int) (List (List Int))) :=
  fun (x : (List Int)) => match x with | x2 => (gameroomref_HexGroups_J14 l1 i2) x2

noncomputable def gameroomref_HexGroups_J13  (g3 : List Int) (who1 : Int) (group4 : List Int) (l1 : List (List Int)) (i2 : Int) : Option (St (List (List Int) × Int) (List (List Int))) :=
  (loop (gameroomref_HexGroups_L6 g3 who1 group4 i2) (([] : List Int), 0)).bind (gameroomref_HexGroups_K6 l1 i2)

noncomputable def gameroomref_HexGroups_J11  (g3 : List Int) (who1 : Int) (group4 : List Int) (l1 : List (List Int)) (i2 : Int) : Option (St (List (List Int) × Int) (List (List Int))) :=
  asrt (0 ≤ i2 ∧ i2 < (g3.length : Int)) <| asrt (((geti g3 i2) != who1) = false → 0 ≤ i2 ∧ i2 < (((Int.toNat (g3.length : Int)) : Nat) : Int)) <| if (((geti g3 i2) != who1) || ((geti group4 i2) != i2)) then ((gameroomref_HexGroups_J12 i2) l1) else ((gameroomref_HexGroups_J13 g3 who1 group4 l1 i2))

noncomputable def gameroomref_HexGroups_L5  (g3 : List Int) (who1 : Int) (group4 : List Int) : (List (List Int) × Int) → Option (St (List (List Int) × Int) (List (List Int))) :=
  fun (x : (List (List Int) × Int)) => match x with | (l1, i2) => if (decide (i2 < (g3.length : Int))) then ((gameroomref_HexGroups_J11 g3 who1 group4 l1 i2)) else (some (.done l1))

noncomputable def gameroomref_HexGroups_J10  (l2 : List (List Int)) : Option (List (List Int)) :=
  some l2

noncomputable def gameroomref_HexGroups_K5  : (List (List Int)) → Option (List (List Int)) :=
  fun (x : (List (List Int))) => match x with | l2 => gameroomref_HexGroups_J10 l2

noncomputable def gameroomref_HexGroups_J4  (g3 : List Int) (who1 : Int) (group4 : List Int) : Option (List (List Int)) :=
  (loop (gameroomref_HexGroups_L5 g3 who1 group4) (([] : List (List Int)), 0)).bind gameroomref_HexGroups_K5

noncomputable def gameroomref_HexGroups_K2  (g3 : List Int) (who1 : Int) : (List Int) → Option (List (List Int)) :=
  fun (x : (List Int)) => match x with | group4 => (gameroomref_HexGroups_J4 g3 who1) group4

noncomputable def gameroomref_HexGroups_J1  (g1 : Int) (g3 : List Int) (who1 : Int) (group2 : List Int) : Option (List (List Int)) :=
  (loop (gameroomref_HexGroups_L2 g1 g3 who1) (group2, true)).bind (gameroomref_HexGroups_K2 g3 who1)

noncomputable def gameroomref_HexGroups_K1  (g1 : Int) (g3 : List Int) (who1 : Int) : (List Int) → Option (List (List Int)) :=
  fun (x : (List Int)) => match x with | group2 => (gameroomref_HexGroups_J1 g1 g3 who1) group2

noncomputable def gameroomref_HexGroups_L1  (g3 : List Int) : (List Int × Int) → Option (St (List Int × Int) (List Int)) :=
  fun (x : (List Int × Int)) => match x with | (group1, i1) => if (decide (i1 < (g3.length : Int))) then ((gameroomref_HexGroups_J2 g3 group1 i1)) else (some (.done group1))
end Go.Proofs.Ytfmmlmiakkjaiaa
