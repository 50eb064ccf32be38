/-
  Models and walks, printed by our own program (wip/gen).
-/
import Derived.Test.YtfmmlmiakkjaiaaFB
import Derived.Test.YtfmmlmiakkjaiaaLibAP
import Derived.Test.YtfmmlmiakkjaiaaLibRF
import Derived.Test.YtfmmlmiakkjaiaaSF
import Derived.Test.YtfmmlmiakkjaiaaNMCb
namespace Go.Proofs.Ytfmmlmiakkjaiaa
open Go Go.GL Go.RowKit

noncomputable def board_Moves_m  (p1 : List Int) (p2 : Int) (p3 : Int) (p4 : Int) (p5 : Int) (p6 : Int) : Option (List (Int × Int × Int)) :=
  (loop (board_Moves_L1 p1 p2 p3 p4 p5 p6) (([] : List (Int × Int × Int)), 0)).bind (board_Moves_K1 p1 p2 p3 p4 p5 p6)

set_option maxRecDepth 100000 in
set_option maxHeartbeats 4000000 in
theorem board_Moves_w {A1 : Option Addr} {c1 : Nat} {n1 : Nat} {p1 : List Int} {p2 : Int} {p3 : Int} {p4 : Int} {p5 : Int} {p6 : Int} {r : (List (Int × Int × Int))} {w0 w : World} {B : Nat} {fs : List HP} (hm : board_Moves_m p1 p2 p3 p4 p5 p6 = some r) (hS : Sep w0 B w (fs)) (hr_p1 : RdF w0 B fs A1 (vI p1)) (_hc_p1 : p1.length ≤ c1) (_hn_p1 : n1 = p1.length) :
    Calls Try.prog 133 #[.agg #[.slice A1 n1 c1, .int .i64 p2, .int .i64 p3, .int .i64 p4, .int .i64 p5, .int .i64 p6]] w fun e w' => ∃ v, e = .returned v ∧ ∃ (A9 : Option Addr) (c9 : Nat), v = .slice A9 r.length c9 ∧ Sep w0 B w' (ownK 88 3 A9 r.length c9 (List.flatMap enc88 r) :: fs) := by
  obtain ⟨i3, hi3, hz3, hs3, hb3⟩ := info_parts Info3
  obtain ⟨i88, hi88, hz88, hs88, hb88⟩ := info_parts Info88
  obtain ⟨i214, hi214, hz214, hs214, hb214⟩ := info_parts Info214
  obtain rfl := _hn_p1
  unfold board_Moves_m at hm
  replace hm := start_b hm
  refine enter (l := [.agg #[.slice A1 p1.length c1, .int .i64 p2, .int .i64 p3, .int .i64 p4, .int .i64 p5, .int .i64 p6]]) (n := 57) Try.func133 rfl rfl (by simp) (fun a hF => ?_)
  have hS := hS.defs0
  refine seqR ?_
  refine at_do (d := 1) (s := vS (Instr.box 75 (.agg #[.slice A1 p1.length c1, .int .i64 p2, .int .i64 p3, .int .i64 p4, .int .i64 p5, .int .i64 p6]))) (v := .pointer (some ⟨w.heap.size, 0, none⟩)) (w' := w.alloc (.cells #[.slice A1 p1.length c1, .int .i64 p2, .int .i64 p3, .int .i64 p4, .int .i64 p5, .int .i64 p6] 75)) hF (by kernel_rfl) (by kernel_rfl) (by kernel_rfl) (fun a hF => ?_)
  have hS : Sep w0 B (w.alloc (.cells #[.slice A1 p1.length c1, .int .i64 p2, .int .i64 p3, .int .i64 p4, .int .i64 p5, .int .i64 p6] 75)) (blk w.heap.size 75 #[.slice A1 p1.length c1, .int .i64 p2, .int .i64 p3, .int .i64 p4, .int .i64 p5, .int .i64 p6] :: (defsH ([]) :: fs)) := hS.box 75 #[.slice A1 p1.length c1, .int .i64 p2, .int .i64 p3, .int .i64 p4, .int .i64 p5, .int .i64 p6]
  generalize w.heap.size = g1 at hF hS
  generalize w.alloc (.cells #[.slice A1 p1.length c1, .int .i64 p2, .int .i64 p3, .int .i64 p4, .int .i64 p5, .int .i64 p6] 75) = w at hS ⊢
  refine at_run 1 [] [] [1] [pl 1 (.pointer (some ⟨g1, 0, none⟩))] hF hS (by kernel_rfl) (by kernel_rfl) ?_ (fun a w hF hS => ?_)
  · exact obs_nil
  refine at_end [1] [pl 1 (.pointer (some ⟨g1, 0, none⟩))] hF rfl (by kernel_rfl) (fun hF => ?_)
  refine then_n ?_
  refine seqR ?_
  refine at_do (d := 3) (s := vS (Instr.alloc 81 true (.tuple #[]))) (v := .pointer (some ⟨w.heap.size, 0, none⟩)) (w' := w.alloc (.cells #[.slice none 0 0] 81)) hF (by kernel_rfl) (by kernel_rfl) (by kernel_rfl) (fun a hF => ?_)
  have hS : Sep w0 B (w.alloc (.cells #[.slice none 0 0] 81)) (blk w.heap.size 81 #[.slice none 0 0] :: (blk g1 75 #[.slice A1 p1.length c1, .int .i64 p2, .int .i64 p3, .int .i64 p4, .int .i64 p5, .int .i64 p6] :: defsH ([]) :: fs)) := hS.box 81 #[.slice none 0 0]
  generalize w.heap.size = g2 at hF hS
  generalize w.alloc (.cells #[.slice none 0 0] 81) = w at hS ⊢
  refine at_end [1, 3] [pl 1 (.pointer (some ⟨g1, 0, none⟩)), pl 3 (.pointer (some ⟨g2, 0, none⟩))] hF rfl (by kernel_rfl) (fun hF => ?_)
  refine then_n ?_
  refine seqR ?_
  refine at_run 1 [] [] [1, 3, 8] [pl 1 (.pointer (some ⟨g1, 0, none⟩)), pl 3 (.pointer (some ⟨g2, 0, none⟩)), pl 8 (.func (.func 195) #[] #[.pointer (some ⟨g1, 0, none⟩), .pointer (some ⟨g2, 0, none⟩)])] hF hS (by kernel_rfl) (by kernel_rfl) ?_ (fun a w hF hS => ?_)
  · exact obs_nil
  refine at_do (d := 4) (s := vS (Instr.alloc 214 true (.tuple #[]))) (v := .pointer (some ⟨w.heap.size, 0, none⟩)) (w' := w.alloc (.cells #[.nilFunc] 214)) hF (by kernel_rfl) (by kernel_rfl) (by kernel_rfl) (fun a hF => ?_)
  have hS : Sep w0 B (w.alloc (.cells #[.nilFunc] 214)) (blk w.heap.size 214 #[.nilFunc] :: (blk g2 81 #[.slice none 0 0] :: blk g1 75 #[.slice A1 p1.length c1, .int .i64 p2, .int .i64 p3, .int .i64 p4, .int .i64 p5, .int .i64 p6] :: defsH ([]) :: fs)) := hS.box 214 #[.nilFunc]
  generalize w.heap.size = g3 at hF hS
  generalize w.alloc (.cells #[.nilFunc] 214) = w at hS ⊢
  obtain ⟨w, hrun, hS⟩ := run_put (P := Try.prog) (t := 214) (u := .func (.func 195) #[] #[.pointer (some ⟨g1, 0, none⟩), .pointer (some ⟨g2, 0, none⟩)]) (i := 0) (hS.at_ 0 rfl) hi214 hs214 rfl (Nat.lt_of_lt_of_eq (Nat.lt_of_succ_le (Nat.le_of_ble_eq_true (by kernel_rfl))) rfl)
  refine at_skip hF (by kernel_rfl) hrun ?_
  have hS : Sep w0 B w (blk g3 214 #[.func (.func 195) #[] #[.pointer (some ⟨g1, 0, none⟩), .pointer (some ⟨g2, 0, none⟩)]] :: blk g2 81 #[.slice none 0 0] :: blk g1 75 #[.slice A1 p1.length c1, .int .i64 p2, .int .i64 p3, .int .i64 p4, .int .i64 p5, .int .i64 p6] :: defsH ([]) :: fs) := hS
  refine at_end [1, 3, 4] [pl 1 (.pointer (some ⟨g1, 0, none⟩)), pl 3 (.pointer (some ⟨g2, 0, none⟩)), pl 4 (.pointer (some ⟨g3, 0, none⟩))] hF rfl (by kernel_rfl) (fun hF => ?_)
  refine then_n ?_
  refine seq_cut (fun a w => ∃ (l2 : List (Int × Int × Int)) (A3 : Option Addr) (c3 : Nat) (Ds3 : List Nat), FrD Ds3 57 [pl 1 (.pointer (some ⟨g1, 0, none⟩)), pl 3 (.pointer (some ⟨g2, 0, none⟩)), pl 4 (.pointer (some ⟨g3, 0, none⟩))] a ∧ Sep w0 B w (blk g1 75 #[.slice A1 p1.length c1, .int .i64 p2, .int .i64 p3, .int .i64 p4, .int .i64 p5, .int .i64 p6] :: blk g2 81 #[.slice A3 l2.length c3] :: ownK 88 3 A3 l2.length c3 (List.flatMap enc88 l2) :: blk g3 214 #[.func (.func 195) #[] #[.pointer (some ⟨g1, 0, none⟩), .pointer (some ⟨g2, 0, none⟩)]] :: defsH Ds3 :: fs) ∧ ((board_Moves_J1 p1 p2 p3 p4 p5 p6) l2).bind some = some r) ?_ ?_
  · rintro a w ⟨l2, A3, c3, Ds3, hF, hS, hm⟩
    unfold board_Moves_J1 at hm
    refine seqR ?_
    obtain ⟨r7, hr7, hm⟩ := call_b hm
    refine at_run 2 [⟨false, [], vS (Instr.loadAt 75 (.pointer (some ⟨g1, 0, none⟩))), .agg #[.slice A1 p1.length c1, .int .i64 p2, .int .i64 p3, .int .i64 p4, .int .i64 p5, .int .i64 p6]⟩] [some (.agg #[.slice A1 p1.length c1, .int .i64 p2, .int .i64 p3, .int .i64 p4, .int .i64 p5, .int .i64 p6]), none] [3, 51, 52] [pl 3 (.pointer (some ⟨g2, 0, none⟩)), pl 51 (.agg #[.slice A1 p1.length c1, .int .i64 p2, .int .i64 p3, .int .i64 p4, .int .i64 p5, .int .i64 p6]), pl 52 (.func (.func 200) #[] #[.pointer (some ⟨g3, 0, none⟩)])] hF hS (by kernel_rfl) (by kernel_rfl) ?_ (fun a w hF hS => ?_)
    · exact obs_cons (ob_loadA (cs := #[.slice A1 p1.length c1, .int .i64 p2, .int .i64 p3, .int .i64 p4, .int .i64 p5, .int .i64 p6]) (by kernel_rfl) (by kernel_rfl) (fun _ _ hS => (hS.at_ 0 rfl).cellsAt 0 (by rfl))) <| obs_nil
    have hS : Sep w0 B w (blk g3 214 #[.func (.func 195) #[] #[.pointer (some ⟨g1, 0, none⟩), .pointer (some ⟨g2, 0, none⟩)]] :: blk g1 75 #[.slice A1 p1.length c1, .int .i64 p2, .int .i64 p3, .int .i64 p4, .int .i64 p5, .int .i64 p6] :: blk g2 81 #[.slice A3 l2.length c3] :: ownK 88 3 A3 l2.length c3 (List.flatMap enc88 l2) :: defsH Ds3 :: fs) := hS.pickN 5 [3, 0, 1, 2, 4] (by decide)
    refine at_call (f := 199) (args := #[.agg #[.slice A1 p1.length c1, .int .i64 p2, .int .i64 p3, .int .i64 p4, .int .i64 p5, .int .i64 p6], .func (.func 200) #[] #[.pointer (some ⟨g3, 0, none⟩)]]) (d := 53) hF (by kernel_rfl) (by kernel_rfl) Try.func199 (by kernel_rfl) rfl (board_castles_w hr7 hS (fun _ hS => (hr_p1 _ (hS.dropN 1))) _hc_p1 rfl (fun _ hS => (hr_p1 _ (hS.dropN 1))) _hc_p1 rfl) (fun v a w hR hF => ?_)
    clear hS
    obtain ⟨A8, c8, rfl, hS⟩ := hR
    have hS : Sep w0 B w (blk g3 214 #[.func (.func 195) #[] #[.pointer (some ⟨g1, 0, none⟩), .pointer (some ⟨g2, 0, none⟩)]] :: blk g1 75 #[.slice A1 p1.length c1, .int .i64 p2, .int .i64 p3, .int .i64 p4, .int .i64 p5, .int .i64 p6] :: blk g2 81 #[.slice A8 r7.length c8] :: ownK 88 3 A8 r7.length c8 (List.flatMap enc88 r7) :: defsH Ds3 :: fs) := hS
    refine at_end [3] [pl 3 (.pointer (some ⟨g2, 0, none⟩))] hF rfl (by kernel_rfl) (fun hF => ?_)
    refine then_n ?_
    refine seqR ?_
    obtain ⟨r8, hr8, hm⟩ := call_b hm
    refine at_run 1 [⟨false, [], vS (Instr.loadAt 81 (.pointer (some ⟨g2, 0, none⟩))), .slice A8 r7.length c8⟩] [some (.slice A8 r7.length c8)] [3, 54] [pl 3 (.pointer (some ⟨g2, 0, none⟩)), pl 54 (.slice A8 r7.length c8)] hF hS (by kernel_rfl) (by kernel_rfl) ?_ (fun a w hF hS => ?_)
    · exact obs_cons (ob_load Agg81 (fun _ _ hS => (hS.at_ 2 rfl).cell rfl)) <| obs_nil
    have hS : Sep w0 B w (ownK 88 3 A8 r7.length c8 (List.flatMap enc88 r7) :: blk g3 214 #[.func (.func 195) #[] #[.pointer (some ⟨g1, 0, none⟩), .pointer (some ⟨g2, 0, none⟩)]] :: blk g1 75 #[.slice A1 p1.length c1, .int .i64 p2, .int .i64 p3, .int .i64 p4, .int .i64 p5, .int .i64 p6] :: blk g2 81 #[.slice A8 r7.length c8] :: defsH Ds3 :: fs) := hS.pickN 5 [3, 0, 1, 2, 4] (by decide)
    refine at_call (f := 201) (args := #[.slice A8 r7.length c8, .func (.func 202) #[] #[]]) (d := 55) hF (by kernel_rfl) (by kernel_rfl) Try.func201 (by kernel_rfl) rfl (api_Move_2_w hr8 hS ) (fun v a w hR hF => ?_)
    clear hS
    obtain ⟨rfl, hS⟩ := hR
    have hS : Sep w0 B w (ownK 88 3 A8 r7.length c8 (List.flatMap enc88 r8) :: blk g3 214 #[.func (.func 195) #[] #[.pointer (some ⟨g1, 0, none⟩), .pointer (some ⟨g2, 0, none⟩)]] :: blk g1 75 #[.slice A1 p1.length c1, .int .i64 p2, .int .i64 p3, .int .i64 p4, .int .i64 p5, .int .i64 p6] :: blk g2 81 #[.slice A8 r7.length c8] :: defsH Ds3 :: fs) := hS
    refine at_end [3] [pl 3 (.pointer (some ⟨g2, 0, none⟩))] hF rfl (by kernel_rfl) (fun hF => ?_)
    refine then_n ?_
    refine reg [⟨false, [], vS (Instr.loadAt 81 (.pointer (some ⟨g2, 0, none⟩))), .slice A8 r7.length c8⟩] [some (.slice A8 r7.length c8), none] [2] [pl 2 (.slice A8 r7.length c8)] hF hS Fol (by kernel_rfl) (by kernel_rfl) (by kernel_rfl) ?_ (fun a w hF hS => ?_)
    · exact obs_cons (ob_load Agg81 (fun _ _ hS => (hS.at_ 3 rfl).cell rfl)) <| obs_nil
    refine wpIn_ret ?_
    have hl2 := (hS.at_ 0 rfl).lenK encK88
    have hS := (hS.at_ 0 rfl).reNK hl2
    have hS := (hS.at_ 3 rfl).reBlk (congrArg (fun k9 => (#[.slice A8 k9 c8] : Array Value)) hl2)
    have hS : Sep w0 B w (ownK 88 3 A8 r8.length c8 (List.flatMap enc88 r8) :: blk g3 214 #[.func (.func 195) #[] #[.pointer (some ⟨g1, 0, none⟩), .pointer (some ⟨g2, 0, none⟩)]] :: blk g1 75 #[.slice A1 p1.length c1, .int .i64 p2, .int .i64 p3, .int .i64 p4, .int .i64 p5, .int .i64 p6] :: blk g2 81 #[.slice A8 r8.length c8] :: defsH Ds3 :: fs) := hS
    have hF := hF.cast (t := 2) (v := .slice A8 r7.length c8) (v' := .slice A8 r8.length c8) rfl rfl (congrArg (fun k => Value.slice A8 k c8) hl2)
    have hS := hS.pickN 5 [4, 0, 1, 2, 3] (by decide)
    have hm : some r8 = some r := hm
    obtain rfl := Option.some.inj hm
    exact retD (rs := [.tmp 2]) (vs := [.slice A8 r8.length c8]) hF hS rfl (fun w hS => by exact rv_t (by kernel_rfl) <| rv_nil) rfl (fun w hS => ⟨_, rfl, A8, c8, rfl, hS.pickN 4 [0] (by decide)⟩)
  · refine reg [⟨false, [], vS (Instr.loadAt 27 (.pointer (some ⟨g1, 0, none⟩))), .slice A1 p1.length c1⟩] [none, some (.slice A1 p1.length c1), none, none] [1, 3, 4, 10, 11, 12] [pl 1 (.pointer (some ⟨g1, 0, none⟩)), pl 3 (.pointer (some ⟨g2, 0, none⟩)), pl 4 (.pointer (some ⟨g3, 0, none⟩)), pl 10 (.slice A1 p1.length c1), pl 11 (.int .i64 (p1.length : Int)), pl 12 (.int .i64 0)] hF hS Fol (by kernel_rfl) (by kernel_rfl) (by kernel_rfl) ?_ (fun a w hF hS => ?_)
    · exact obs_cons (ob_load Agg27 (fun _ _ hS => (hS.at_ 2 rfl).cell rfl)) <| obs_nil
    refine wpIn_block ?_
    have hS : Sep w0 B w (ownK 88 3 none 0 0 (List.flatMap enc88 ([] : List (Int × Int × Int))) :: blk g3 214 #[.func (.func 195) #[] #[.pointer (some ⟨g1, 0, none⟩), .pointer (some ⟨g2, 0, none⟩)]] :: blk g2 81 #[.slice none 0 0] :: blk g1 75 #[.slice A1 p1.length c1, .int .i64 p2, .int .i64 p3, .int .i64 p4, .int .i64 p5, .int .i64 p6] :: defsH ([]) :: fs) := hS.nilK 88 3 enc88
    have hS : Sep w0 B w (ownK 88 3 none 0 0 (List.flatMap enc88 ([] : List (Int × Int × Int))) :: blk g3 214 #[.func (.func 195) #[] #[.pointer (some ⟨g1, 0, none⟩), .pointer (some ⟨g2, 0, none⟩)]] :: blk g2 81 #[.slice none 0 0] :: blk g1 75 #[.slice A1 p1.length c1, .int .i64 p2, .int .i64 p3, .int .i64 p4, .int .i64 p5, .int .i64 p6] :: defsH ([]) :: fs) := hS
    have hl1 := (hS.at_ 0 rfl).lenK encK88
    have hS := (hS.at_ 0 rfl).reNK hl1
    have hS := (hS.at_ 2 rfl).reBlk (congrArg (fun k9 => (#[.slice none k9 0] : Array Value)) hl1)
    have hS : Sep w0 B w (ownK 88 3 none (([] : List (Int × Int × Int)).length) 0 (List.flatMap enc88 ([] : List (Int × Int × Int))) :: blk g3 214 #[.func (.func 195) #[] #[.pointer (some ⟨g1, 0, none⟩), .pointer (some ⟨g2, 0, none⟩)]] :: blk g2 81 #[.slice none (([] : List (Int × Int × Int)).length) 0] :: blk g1 75 #[.slice A1 p1.length c1, .int .i64 p2, .int .i64 p3, .int .i64 p4, .int .i64 p5, .int .i64 p6] :: defsH ([]) :: fs) := hS
    have hS := hS.pickN 5 [3, 2, 0, 1, 4] (by decide)
    refine wp_loop_model (S := (List (Int × Int × Int) × Int)) (R := (List (Int × Int × Int))) (board_Moves_L1 p1 p2 p3 p4 p5 p6) (fun x => ((board_Moves_K1 p1 p2 p3 p4 p5 p6) x).bind some) r (fun (x : (List (Int × Int × Int) × Int)) a w => ∃ (A2 : Option Addr) (c2 : Nat) (Ds1 : List Nat), FrD Ds1 57 [pl 1 (.pointer (some ⟨g1, 0, none⟩)), pl 3 (.pointer (some ⟨g2, 0, none⟩)), pl 4 (.pointer (some ⟨g3, 0, none⟩)), pl 10 (.slice A1 p1.length c1), pl 11 (.int .i64 (p1.length : Int)), pl 12 (.int .i64 x.2)] a ∧ Sep w0 B w (blk g1 75 #[.slice A1 p1.length c1, .int .i64 p2, .int .i64 p3, .int .i64 p4, .int .i64 p5, .int .i64 p6] :: blk g2 81 #[.slice A2 x.1.length c2] :: ownK 88 3 A2 x.1.length c2 (List.flatMap enc88 x.1) :: blk g3 214 #[.func (.func 195) #[] #[.pointer (some ⟨g1, 0, none⟩), .pointer (some ⟨g2, 0, none⟩)]] :: defsH Ds1 :: fs)) (assoc_b hm) ⟨none, 0, ([]), hF.weak [1, 3, 4, 10, 11, 12] (by kernel_rfl), hS⟩ ?_
    clear hF hS hm
    rintro nn1 ⟨l1, z1⟩ a w ⟨A2, c2, Ds1, hF, hS⟩ hm
    generalize hφ1 : stK (board_Moves_L1 p1 p2 p3 p4 p5 p6) nn1 (fun x => ((board_Moves_K1 p1 p2 p3 p4 p5 p6) x).bind some) = φ1 at hm
    unfold board_Moves_L1 at hm
    dsimp only at hF hS hm
    refine reg [] [] [1, 3, 4, 10, 11, 12, 13] [pl 1 (.pointer (some ⟨g1, 0, none⟩)), pl 3 (.pointer (some ⟨g2, 0, none⟩)), pl 4 (.pointer (some ⟨g3, 0, none⟩)), pl 10 (.slice A1 p1.length c1), pl 11 (.int .i64 (p1.length : Int)), pl 12 (.int .i64 z1), pl 13 (.bool (decide (z1 < (p1.length : Int))))] hF hS Fol (by kernel_rfl) (by kernel_rfl) (by kernel_rfl) ?_ (fun a w hF hS => ?_)
    · exact obs_nil
    refine seq_cut (fun a w => ∃ (Ds2 : List Nat), FrD Ds2 57 [pl 1 (.pointer (some ⟨g1, 0, none⟩)), pl 3 (.pointer (some ⟨g2, 0, none⟩)), pl 4 (.pointer (some ⟨g3, 0, none⟩)), pl 10 (.slice A1 p1.length c1), pl 11 (.int .i64 (p1.length : Int)), pl 12 (.int .i64 z1)] a ∧ Sep w0 B w (blk g1 75 #[.slice A1 p1.length c1, .int .i64 p2, .int .i64 p3, .int .i64 p4, .int .i64 p5, .int .i64 p6] :: blk g2 81 #[.slice A2 l1.length c2] :: ownK 88 3 A2 l1.length c2 (List.flatMap enc88 l1) :: blk g3 214 #[.func (.func 195) #[] #[.pointer (some ⟨g1, 0, none⟩), .pointer (some ⟨g2, 0, none⟩)]] :: defsH Ds2 :: fs) ∧ ((board_Moves_J2 p1 p2 p3 p4 p5 p6 l1 z1)).bind φ1 = some r) ?_ ?_
    · rintro a w ⟨Ds2, hF, hS, hm⟩
      unfold board_Moves_J2 at hm
      refine seq_cut (fun a w => ∃ (l3 : List (Int × Int × Int)) (A4 : Option Addr) (c4 : Nat) (Ds4 : List Nat), FrD Ds4 57 [pl 1 (.pointer (some ⟨g1, 0, none⟩)), pl 3 (.pointer (some ⟨g2, 0, none⟩)), pl 4 (.pointer (some ⟨g3, 0, none⟩)), pl 10 (.slice A1 p1.length c1), pl 11 (.int .i64 (p1.length : Int)), pl 12 (.int .i64 z1)] a ∧ Sep w0 B w (blk g1 75 #[.slice A1 p1.length c1, .int .i64 p2, .int .i64 p3, .int .i64 p4, .int .i64 p5, .int .i64 p6] :: blk g2 81 #[.slice A4 l3.length c4] :: ownK 88 3 A4 l3.length c4 (List.flatMap enc88 l3) :: blk g3 214 #[.func (.func 195) #[] #[.pointer (some ⟨g1, 0, none⟩), .pointer (some ⟨g2, 0, none⟩)]] :: defsH Ds4 :: fs) ∧ ((board_Moves_J3 z1) l3).bind φ1 = some r) ?_ ?_
      · rintro a w ⟨l3, A4, c4, Ds4, hF, hS, hm⟩
        unfold board_Moves_J3 at hm
        refine reg1 [] [] [1, 3, 4, 10, 11, 12] [pl 1 (.pointer (some ⟨g1, 0, none⟩)), pl 3 (.pointer (some ⟨g2, 0, none⟩)), pl 4 (.pointer (some ⟨g3, 0, none⟩)), pl 10 (.slice A1 p1.length c1), pl 11 (.int .i64 (p1.length : Int)), pl 12 (.int .i64 (w64 (z1 + 1)))] hF hS Fol (by kernel_rfl) (by kernel_rfl) (by kernel_rfl) ?_ (fun a w hF hS => ?_)
        · exact obs_nil
        refine then_n ?_
        rw [← hφ1] at hm
        exact ⟨(l3, (w64 (z1 + 1))), ⟨A4, c4, Ds4, hF.weak [1, 3, 4, 10, 11, 12] (by kernel_rfl), hS⟩, hm⟩
      · refine wpIn_block ?_
        refine seqR ?_
        obtain ⟨hp1, hm⟩ := asrt_b hm
        refine at_run 3 [⟨true, [], vS (Instr.indexAt 27 (.slice A1 p1.length c1) (.int .i64 z1)), .pointer (some (sAddr A1 z1))⟩, ⟨false, [], vS (Instr.loadAt 3 (.pointer (some (sAddr A1 z1)))), .int .i64 (geti p1 z1)⟩] [none, some (.pointer (some (sAddr A1 z1))), some (.int .i64 (geti p1 z1))] [1, 3, 4, 10, 11, 12, 14, 16] [pl 1 (.pointer (some ⟨g1, 0, none⟩)), pl 3 (.pointer (some ⟨g2, 0, none⟩)), pl 4 (.pointer (some ⟨g3, 0, none⟩)), pl 10 (.slice A1 p1.length c1), pl 11 (.int .i64 (p1.length : Int)), pl 12 (.int .i64 z1), pl 14 (.int .i64 z1), pl 16 (.int .i64 (geti p1 z1))] hF hS (by kernel_rfl) (by kernel_rfl) ?_ (fun a w hF hS => ?_)
        · exact obs_cons (ob_ix1 (f := (Value.int .i64)) (m := p1) Und27 hi3 hs3 (hr_p1 _ (hS.dropN 5)) rfl (fun _ => hp1)) <| obs_cons (ob_get1 (n := p1.length) (m := p1) (Value.int .i64) (0 : Int) Agg3 (fun _ hS => ⟨_, (hr_p1 _ (hS.dropN 5))⟩) (fun _ hS => rfl) (fun _ => hp1)) <| obs_nil
        refine at_do (d := 5) (s := vS (Instr.alloc 3 true (.tuple #[]))) (v := .pointer (some ⟨w.heap.size, 0, none⟩)) (w' := w.alloc (.cells #[.int .i64 0] 3)) hF (by kernel_rfl) (by kernel_rfl) (by kernel_rfl) (fun a hF => ?_)
        have hS : Sep w0 B (w.alloc (.cells #[.int .i64 0] 3)) (blk w.heap.size 3 #[.int .i64 0] :: (blk g1 75 #[.slice A1 p1.length c1, .int .i64 p2, .int .i64 p3, .int .i64 p4, .int .i64 p5, .int .i64 p6] :: blk g2 81 #[.slice A2 l1.length c2] :: ownK 88 3 A2 l1.length c2 (List.flatMap enc88 l1) :: blk g3 214 #[.func (.func 195) #[] #[.pointer (some ⟨g1, 0, none⟩), .pointer (some ⟨g2, 0, none⟩)]] :: defsH Ds2 :: fs)) := hS.box 3 #[.int .i64 0]
        generalize w.heap.size = g4 at hF hS
        generalize w.alloc (.cells #[.int .i64 0] 3) = w at hS ⊢
        obtain ⟨w, hrun, hS⟩ := run_put (P := Try.prog) (t := 3) (u := .int .i64 z1) (i := 0) (hS.at_ 0 rfl) hi3 hs3 rfl (Nat.lt_of_lt_of_eq (Nat.lt_of_succ_le (Nat.le_of_ble_eq_true (by kernel_rfl))) rfl)
        refine at_skip hF (by kernel_rfl) hrun ?_
        have hS : Sep w0 B w (blk g4 3 #[.int .i64 z1] :: blk g1 75 #[.slice A1 p1.length c1, .int .i64 p2, .int .i64 p3, .int .i64 p4, .int .i64 p5, .int .i64 p6] :: blk g2 81 #[.slice A2 l1.length c2] :: ownK 88 3 A2 l1.length c2 (List.flatMap enc88 l1) :: blk g3 214 #[.func (.func 195) #[] #[.pointer (some ⟨g1, 0, none⟩), .pointer (some ⟨g2, 0, none⟩)]] :: defsH Ds2 :: fs) := hS
        refine at_run 1 [] [] [1, 3, 4, 5, 6, 10, 11, 12] [pl 1 (.pointer (some ⟨g1, 0, none⟩)), pl 3 (.pointer (some ⟨g2, 0, none⟩)), pl 4 (.pointer (some ⟨g3, 0, none⟩)), pl 5 (.pointer (some ⟨g4, 0, none⟩)), pl 6 (.int .i64 (geti p1 z1)), pl 10 (.slice A1 p1.length c1), pl 11 (.int .i64 (p1.length : Int)), pl 12 (.int .i64 z1)] hF hS (by kernel_rfl) (by kernel_rfl) ?_ (fun a w hF hS => ?_)
        · exact obs_nil
        refine at_end [1, 3, 4, 5, 6, 10, 11, 12] [pl 1 (.pointer (some ⟨g1, 0, none⟩)), pl 3 (.pointer (some ⟨g2, 0, none⟩)), pl 4 (.pointer (some ⟨g3, 0, none⟩)), pl 5 (.pointer (some ⟨g4, 0, none⟩)), pl 6 (.int .i64 (geti p1 z1)), pl 10 (.slice A1 p1.length c1), pl 11 (.int .i64 (p1.length : Int)), pl 12 (.int .i64 z1)] hF rfl (by kernel_rfl) (fun hF => ?_)
        refine then_n ?_
        refine wpIn_block ?_
        obtain ⟨r1, hr1, hm⟩ := call_b hm
        refine reg [⟨false, [], callFunc 144 #[.int .i64 (geti p1 z1)], .int .i64 r1⟩, ⟨false, [], vS (Instr.loadAt 3 (.pointer (some ⟨g1, 1, none⟩))), .int .i64 p2⟩] [none, some (.int .i64 r1), none, some (.int .i64 p2), none, none] [1, 3, 4, 5, 6, 10, 11, 12, 36] [pl 1 (.pointer (some ⟨g1, 0, none⟩)), pl 3 (.pointer (some ⟨g2, 0, none⟩)), pl 4 (.pointer (some ⟨g3, 0, none⟩)), pl 5 (.pointer (some ⟨g4, 0, none⟩)), pl 6 (.int .i64 (geti p1 z1)), pl 10 (.slice A1 p1.length c1), pl 11 (.int .i64 (p1.length : Int)), pl 12 (.int .i64 z1), pl 36 (.bool (r1 != p2))] hF hS Fol (by kernel_rfl) (by kernel_rfl) (by kernel_rfl) ?_ (fun a w hF hS => ?_)
        · exact obs_cons (ob_call Try.func144 (by kernel_rfl) rfl (fun _ _ hS => board_Side_w hr1 hS )) <| obs_cons (ob_load Agg3 (fun _ _ hS => (hS.at_ 1 rfl).cell rfl)) <| obs_nil
        refine cond_ev (t := 36) (b := (r1 != p2)) hF (by kernel_rfl) (fun hb => ?_) (fun hb => ?_)
        · replace hm := if_t hm hb
          refine wpIn_skip ?_
          refine block_n ?_
          refine block_n ?_
          refine then_n ?_
          have hS := hS.pickN 6 [1, 2, 3, 4, 5] (by decide)
          exact ⟨l1, A2, c2, Ds2, hF.weak [1, 3, 4, 10, 11, 12] (by kernel_rfl), hS, hm⟩
        · replace hm := if_f hm hb
          obtain ⟨r2, hr2, hm⟩ := call_b hm
          refine reg [⟨false, [], callFunc 190 #[.int .i64 (geti p1 z1)], .int .i64 r2⟩] [none, some (.int .i64 r2), none, none] [1, 3, 4, 5, 10, 11, 12, 42] [pl 1 (.pointer (some ⟨g1, 0, none⟩)), pl 3 (.pointer (some ⟨g2, 0, none⟩)), pl 4 (.pointer (some ⟨g3, 0, none⟩)), pl 5 (.pointer (some ⟨g4, 0, none⟩)), pl 10 (.slice A1 p1.length c1), pl 11 (.int .i64 (p1.length : Int)), pl 12 (.int .i64 z1), pl 42 (.bool (r2 == 1))] hF hS Fol (by kernel_rfl) (by kernel_rfl) (by kernel_rfl) ?_ (fun a w hF hS => ?_)
          · exact obs_cons (ob_call Try.func190 (by kernel_rfl) rfl (fun _ _ hS => board_Kind_w hr2 hS )) <| obs_nil
          refine cond_ev (t := 42) (b := (r2 == 1)) hF (by kernel_rfl) (fun hb => ?_) (fun hb => ?_)
          · replace hm := if_t hm hb
            refine oneR ?_
            obtain ⟨r3, hr3, hm⟩ := call_b hm
            refine at_run 3 [⟨false, [], vS (Instr.loadAt 75 (.pointer (some ⟨g1, 0, none⟩))), .agg #[.slice A1 p1.length c1, .int .i64 p2, .int .i64 p3, .int .i64 p4, .int .i64 p5, .int .i64 p6]⟩, ⟨false, [], vS (Instr.loadAt 3 (.pointer (some ⟨g4, 0, none⟩))), .int .i64 z1⟩] [some (.agg #[.slice A1 p1.length c1, .int .i64 p2, .int .i64 p3, .int .i64 p4, .int .i64 p5, .int .i64 p6]), some (.int .i64 z1), none] [1, 3, 4, 10, 11, 12, 46, 47, 48] [pl 1 (.pointer (some ⟨g1, 0, none⟩)), pl 3 (.pointer (some ⟨g2, 0, none⟩)), pl 4 (.pointer (some ⟨g3, 0, none⟩)), pl 10 (.slice A1 p1.length c1), pl 11 (.int .i64 (p1.length : Int)), pl 12 (.int .i64 z1), pl 46 (.agg #[.slice A1 p1.length c1, .int .i64 p2, .int .i64 p3, .int .i64 p4, .int .i64 p5, .int .i64 p6]), pl 47 (.int .i64 z1), pl 48 (.func (.func 197) #[] #[.pointer (some ⟨g4, 0, none⟩), .pointer (some ⟨g3, 0, none⟩)])] hF hS (by kernel_rfl) (by kernel_rfl) ?_ (fun a w hF hS => ?_)
            · exact obs_cons (ob_loadA (cs := #[.slice A1 p1.length c1, .int .i64 p2, .int .i64 p3, .int .i64 p4, .int .i64 p5, .int .i64 p6]) (by kernel_rfl) (by kernel_rfl) (fun _ _ hS => (hS.at_ 1 rfl).cellsAt 0 (by rfl))) <| obs_cons (ob_load Agg3 (fun _ _ hS => (hS.at_ 0 rfl).cell rfl)) <| obs_nil
            have hS : Sep w0 B w (blk g4 3 #[.int .i64 z1] :: blk g3 214 #[.func (.func 195) #[] #[.pointer (some ⟨g1, 0, none⟩), .pointer (some ⟨g2, 0, none⟩)]] :: blk g1 75 #[.slice A1 p1.length c1, .int .i64 p2, .int .i64 p3, .int .i64 p4, .int .i64 p5, .int .i64 p6] :: blk g2 81 #[.slice A2 l1.length c2] :: ownK 88 3 A2 l1.length c2 (List.flatMap enc88 l1) :: defsH Ds2 :: fs) := hS.pickN 6 [0, 4, 1, 2, 3, 5] (by decide)
            refine at_call (f := 196) (args := #[.agg #[.slice A1 p1.length c1, .int .i64 p2, .int .i64 p3, .int .i64 p4, .int .i64 p5, .int .i64 p6], .int .i64 z1, .func (.func 197) #[] #[.pointer (some ⟨g4, 0, none⟩), .pointer (some ⟨g3, 0, none⟩)]]) (d := 49) hF (by kernel_rfl) (by kernel_rfl) Try.func196 (by kernel_rfl) rfl (board_pawn_w hr3 hS (fun _ hS => (hr_p1 _ (hS.dropN 1))) _hc_p1 rfl (fun _ hS => (hr_p1 _ (hS.dropN 1))) _hc_p1 rfl) (fun v a w hR hF => ?_)
            clear hS
            obtain ⟨A5, c5, rfl, hS⟩ := hR
            have hS : Sep w0 B w (blk g4 3 #[.int .i64 z1] :: blk g3 214 #[.func (.func 195) #[] #[.pointer (some ⟨g1, 0, none⟩), .pointer (some ⟨g2, 0, none⟩)]] :: blk g1 75 #[.slice A1 p1.length c1, .int .i64 p2, .int .i64 p3, .int .i64 p4, .int .i64 p5, .int .i64 p6] :: blk g2 81 #[.slice A5 r3.length c5] :: ownK 88 3 A5 r3.length c5 (List.flatMap enc88 r3) :: defsH Ds2 :: fs) := hS
            refine at_end [1, 3, 4, 10, 11, 12] [pl 1 (.pointer (some ⟨g1, 0, none⟩)), pl 3 (.pointer (some ⟨g2, 0, none⟩)), pl 4 (.pointer (some ⟨g3, 0, none⟩)), pl 10 (.slice A1 p1.length c1), pl 11 (.int .i64 (p1.length : Int)), pl 12 (.int .i64 z1)] hF rfl (by kernel_rfl) (fun hF => ?_)
            refine block_n ?_
            refine block_n ?_
            refine then_n ?_
            have hS := hS.pickN 6 [2, 3, 4, 1, 5] (by decide)
            exact ⟨r3, A5, c5, Ds2, hF.weak [1, 3, 4, 10, 11, 12] (by kernel_rfl), hS, hm⟩
          · replace hm := if_f hm hb
            refine seqR ?_
            obtain ⟨r4, hr4, hm⟩ := call_b hm
            refine at_run 3 [⟨false, [], vS (Instr.loadAt 27 (.pointer (some ⟨g1, 0, none⟩))), .slice A1 p1.length c1⟩, ⟨false, [], vS (Instr.loadAt 3 (.pointer (some ⟨g4, 0, none⟩))), .int .i64 z1⟩] [none, some (.slice A1 p1.length c1), some (.int .i64 z1)] [1, 3, 4, 5, 10, 11, 12, 18, 19] [pl 1 (.pointer (some ⟨g1, 0, none⟩)), pl 3 (.pointer (some ⟨g2, 0, none⟩)), pl 4 (.pointer (some ⟨g3, 0, none⟩)), pl 5 (.pointer (some ⟨g4, 0, none⟩)), pl 10 (.slice A1 p1.length c1), pl 11 (.int .i64 (p1.length : Int)), pl 12 (.int .i64 z1), pl 18 (.slice A1 p1.length c1), pl 19 (.int .i64 z1)] hF hS (by kernel_rfl) (by kernel_rfl) ?_ (fun a w hF hS => ?_)
            · exact obs_cons (ob_load Agg27 (fun _ _ hS => (hS.at_ 1 rfl).cell rfl)) <| obs_cons (ob_load Agg3 (fun _ _ hS => (hS.at_ 0 rfl).cell rfl)) <| obs_nil
            refine at_call (f := 145) (args := #[.slice A1 p1.length c1, .int .i64 z1]) (d := 20) hF (by kernel_rfl) (by kernel_rfl) Try.func145 (by kernel_rfl) rfl (board_Reach_w hr4 hS (fun _ hS => (hr_p1 _ (hS.dropN 6))) _hc_p1 rfl) (fun v a w hR hF => ?_)
            clear hS
            obtain ⟨g5, g6, rfl, hS⟩ := hR
            have hS : Sep w0 B w (blk g5 27 #[.slice A1 p1.length c1] :: blk g6 3 #[.int .i64 r4] :: blk g4 3 #[.int .i64 z1] :: blk g1 75 #[.slice A1 p1.length c1, .int .i64 p2, .int .i64 p3, .int .i64 p4, .int .i64 p5, .int .i64 p6] :: blk g2 81 #[.slice A2 l1.length c2] :: ownK 88 3 A2 l1.length c2 (List.flatMap enc88 l1) :: blk g3 214 #[.func (.func 195) #[] #[.pointer (some ⟨g1, 0, none⟩), .pointer (some ⟨g2, 0, none⟩)]] :: defsH Ds2 :: fs) := hS
            refine at_end [1, 3, 4, 5, 10, 11, 12, 20] [pl 1 (.pointer (some ⟨g1, 0, none⟩)), pl 3 (.pointer (some ⟨g2, 0, none⟩)), pl 4 (.pointer (some ⟨g3, 0, none⟩)), pl 5 (.pointer (some ⟨g4, 0, none⟩)), pl 10 (.slice A1 p1.length c1), pl 11 (.int .i64 (p1.length : Int)), pl 12 (.int .i64 z1), pl 20 (.func (.func 212) #[] #[.pointer (some ⟨g5, 0, none⟩), .pointer (some ⟨g6, 0, none⟩)])] hF rfl (by kernel_rfl) (fun hF => ?_)
            refine then_n ?_
            refine wpIn_block ?_
            have hS := hS.pickN 8 [4, 5, 7, 3, 6, 2, 0, 1] (by decide)
            obtain ⟨y1, hy1, hm⟩ := call_b hm
            refine range_out (ρ := [pl 1 (.pointer (some ⟨g1, 0, none⟩)), pl 3 (.pointer (some ⟨g2, 0, none⟩)), pl 4 (.pointer (some ⟨g3, 0, none⟩)), pl 5 (.pointer (some ⟨g4, 0, none⟩)), pl 10 (.slice A1 p1.length c1), pl 11 (.int .i64 (p1.length : Int)), pl 12 (.int .i64 z1), pl 20 (.func (.func 212) #[] #[.pointer (some ⟨g5, 0, none⟩), .pointer (some ⟨g6, 0, none⟩)])]) (lb := [.pointer (some ⟨g5, 0, none⟩), .pointer (some ⟨g6, 0, none⟩)]) (y := y1) (enc := (fun (x : Int) => #[.int .i64 x])) (qs := [blk g2 81 #[.slice A2 l1.length c2], ownK 88 3 A2 l1.length c2 (List.flatMap enc88 l1)]) (fun (x : Int) => [(21, .int .i64 x)]) (fun (s : (List (Int × Int × Int))) qs => ∃ (A6 : Option Addr) (c6 : Nat), qs = [blk g2 81 #[.slice A6 s.length c6], ownK 88 3 A6 s.length c6 (List.flatMap enc88 s)]) (fun (_ : Unit) _ _ => False) (fun x s => (board_Moves_L2 p1 p2 p3 p4 p5 p6 z1) (x, s)) l1 (hF.weak [1, 3, 4, 5, 10, 11, 12, 20] (by kernel_rfl)) hS (by kernel_rfl) Try.func212 (by kernel_rfl) rfl (by kernel_rfl) (by intro x; simp) (fun _ => rfl) (fun x p hp => ?_) ⟨A2, c2, rfl⟩ ?_ ?_ ?_ ?_
            · simp only [List.mem_cons, List.not_mem_nil, or_false] at hp
              rcases hp with rfl <;> (dsimp only; decide)
            · intro lr1 D1 RS w hY hS
              exact Calls.mono (board_Reach_1_w hy1 (hS.pickN 7 [0, 5, 6, 1, 2, 3, 4] (by decide)) (YieldC.perm (blk g5 27 #[.slice A1 p1.length c1] :: blk g6 3 #[.int .i64 r4] :: defsH (D1 :: Ds2) :: blk g1 75 #[.slice A1 p1.length c1, .int .i64 p2, .int .i64 p3, .int .i64 p4, .int .i64 p5, .int .i64 p6] :: blk g3 214 #[.func (.func 195) #[] #[.pointer (some ⟨g1, 0, none⟩), .pointer (some ⟨g2, 0, none⟩)]] :: blk g4 3 #[.int .i64 z1] :: fs) hY (fun hS => hS.pickN 7 [0, 3, 4, 5, 6, 1, 2] (by decide)) (fun hS => hS.pickN 7 [0, 5, 6, 1, 2, 3, 4] (by decide))) (fun _ hS => (hr_p1 _ (hS.dropN 4))) _hc_p1 rfl) (fun e w' h => by obtain ⟨_, rfl, _, hS⟩ := h; exact hS.pickN 7 [0, 3, 4, 5, 6, 1, 2] (by decide))
            · rintro lr1 D1 rr1 x1 l4 r qs us1 a w hrr1 hm hI hF hS
              obtain ⟨A6, c6, rfl⟩ := hI
              replace hm := start_b hm
              unfold board_Moves_L2 at hm
              dsimp only at hm hF hS
              have hF : Fr 57 [pl 1 (.pointer (some ⟨g1, 0, none⟩)), pl 3 (.pointer (some ⟨g2, 0, none⟩)), pl 4 (.pointer (some ⟨g3, 0, none⟩)), pl 5 (.pointer (some ⟨g4, 0, none⟩)), pl 10 (.slice A1 p1.length c1), pl 11 (.int .i64 (p1.length : Int)), pl 12 (.int .i64 z1), pl 20 (.func (.func 212) #[] #[.pointer (some ⟨g5, 0, none⟩), .pointer (some ⟨g6, 0, none⟩)]), pl 21 (.int .i64 x1)] a := hF.weak [1, 3, 4, 5, 10, 11, 12, 20, 21] (by kernel_rfl)
              have hS : Sep w0 B w (recH lr1 rr1 :: blk g2 81 #[.slice A6 l4.length c6] :: ownK 88 3 A6 l4.length c6 (List.flatMap enc88 l4) :: defsH (D1 :: Ds2) :: blk g1 75 #[.slice A1 p1.length c1, .int .i64 p2, .int .i64 p3, .int .i64 p4, .int .i64 p5, .int .i64 p6] :: blk g3 214 #[.func (.func 195) #[] #[.pointer (some ⟨g1, 0, none⟩), .pointer (some ⟨g2, 0, none⟩)]] :: blk g4 3 #[.int .i64 z1] :: blk g5 27 #[.slice A1 p1.length c1] :: blk g6 3 #[.int .i64 r4] :: (fs ++ us1)) := hS
              refine reg1 [] [] [1, 4, 5, 7] [pl 1 (.pointer (some ⟨g1, 0, none⟩)), pl 4 (.pointer (some ⟨g3, 0, none⟩)), pl 5 (.pointer (some ⟨g4, 0, none⟩)), pl 7 (.int .i64 x1)] hF hS Fol (by kernel_rfl) (by kernel_rfl) (by kernel_rfl) ?_ (fun a w hF hS => ?_)
              · exact obs_nil
              refine then_n ?_
              refine begin_r hS hrr1 (fun w hS => ?_)
              have hS : Sep w0 B w (recH lr1 { rr1 with state := .busy } :: blk g2 81 #[.slice A6 l4.length c6] :: ownK 88 3 A6 l4.length c6 (List.flatMap enc88 l4) :: defsH (D1 :: Ds2) :: blk g1 75 #[.slice A1 p1.length c1, .int .i64 p2, .int .i64 p3, .int .i64 p4, .int .i64 p5, .int .i64 p6] :: blk g3 214 #[.func (.func 195) #[] #[.pointer (some ⟨g1, 0, none⟩), .pointer (some ⟨g2, 0, none⟩)]] :: blk g4 3 #[.int .i64 z1] :: blk g5 27 #[.slice A1 p1.length c1] :: blk g6 3 #[.int .i64 r4] :: (fs ++ us1)) := hS
              refine wpIn_block ?_
              obtain ⟨hp2, hm⟩ := asrt_b hm
              obtain ⟨r5, hr5, hm⟩ := call_b hm
              refine reg [⟨false, [], vS (Instr.loadAt 27 (.pointer (some ⟨g1, 0, none⟩))), .slice A1 p1.length c1⟩, ⟨true, [], vS (Instr.indexAt 27 (.slice A1 p1.length c1) (.int .i64 x1)), .pointer (some (sAddr A1 x1))⟩, ⟨false, [], vS (Instr.loadAt 3 (.pointer (some (sAddr A1 x1)))), .int .i64 (geti p1 x1)⟩, ⟨false, [], callFunc 144 #[.int .i64 (geti p1 x1)], .int .i64 r5⟩, ⟨false, [], vS (Instr.loadAt 3 (.pointer (some ⟨g1, 1, none⟩))), .int .i64 p2⟩] [none, some (.slice A1 p1.length c1), none, some (.pointer (some (sAddr A1 x1))), some (.int .i64 (geti p1 x1)), some (.int .i64 r5), none, some (.int .i64 p2), none] [4, 5, 7, 30] [pl 4 (.pointer (some ⟨g3, 0, none⟩)), pl 5 (.pointer (some ⟨g4, 0, none⟩)), pl 7 (.int .i64 x1), pl 30 (.bool (r5 != p2))] hF hS Fol (by kernel_rfl) (by kernel_rfl) (by kernel_rfl) ?_ (fun a w hF hS => ?_)
              · exact obs_cons (ob_load Agg27 (fun _ _ hS => (hS.at_ 4 rfl).cell rfl)) <| obs_cons (ob_ix1 (f := (Value.int .i64)) (m := p1) Und27 hi3 hs3 (hr_p1 _ (hS.dropN 9).pre) rfl (fun _ => hp2)) <| obs_cons (ob_get1 (n := p1.length) (m := p1) (Value.int .i64) (0 : Int) Agg3 (fun _ hS => ⟨_, (hr_p1 _ (hS.dropN 9).pre)⟩) (fun _ hS => rfl) (fun _ => hp2)) <| obs_cons (ob_call Try.func144 (by kernel_rfl) rfl (fun _ _ hS => board_Side_w hr5 hS )) <| obs_cons (ob_load Agg3 (fun _ _ hS => (hS.at_ 4 rfl).cell rfl)) <| obs_nil
              refine cond_ev (t := 30) (b := (r5 != p2)) hF (by kernel_rfl) (fun hb => ?_) (fun hb => ?_)
              · replace hm := if_t hm hb
                refine oneR ?_
                obtain ⟨r6, hr6, hm⟩ := call_b hm
                refine at_run 4 [⟨false, [], vS (Instr.loadAt 214 (.pointer (some ⟨g3, 0, none⟩))), .func (.func 195) #[] #[.pointer (some ⟨g1, 0, none⟩), .pointer (some ⟨g2, 0, none⟩)]⟩, ⟨false, [], vS (Instr.loadAt 3 (.pointer (some ⟨g4, 0, none⟩))), .int .i64 z1⟩] [some (.func (.func 195) #[] #[.pointer (some ⟨g1, 0, none⟩), .pointer (some ⟨g2, 0, none⟩)]), some (.int .i64 z1), none, none] [31, 34] [pl 31 (.func (.func 195) #[] #[.pointer (some ⟨g1, 0, none⟩), .pointer (some ⟨g2, 0, none⟩)]), pl 34 (.agg #[.int .i64 z1, .int .i64 x1, .int .i64 0])] hF hS (by kernel_rfl) (by kernel_rfl) ?_ (fun a w hF hS => ?_)
                · exact obs_cons (ob_load Agg214 (fun _ _ hS => (hS.at_ 5 rfl).cell rfl)) <| obs_cons (ob_load Agg3 (fun _ _ hS => (hS.at_ 6 rfl).cell rfl)) <| obs_nil
                have hS : Sep w0 B w (blk g1 75 #[.slice A1 p1.length c1, .int .i64 p2, .int .i64 p3, .int .i64 p4, .int .i64 p5, .int .i64 p6] :: blk g2 81 #[.slice A6 l4.length c6] :: ownK 88 3 A6 l4.length c6 (List.flatMap enc88 l4) :: recH lr1 { rr1 with state := .busy } :: defsH (D1 :: Ds2) :: blk g3 214 #[.func (.func 195) #[] #[.pointer (some ⟨g1, 0, none⟩), .pointer (some ⟨g2, 0, none⟩)]] :: blk g4 3 #[.int .i64 z1] :: blk g5 27 #[.slice A1 p1.length c1] :: blk g6 3 #[.int .i64 r4] :: (fs ++ us1)) := hS.pickN 9 [4, 1, 2, 0, 3, 5, 6, 7, 8] (by decide)
                refine at_call (f := 195) (args := #[.agg #[.int .i64 z1, .int .i64 x1, .int .i64 0], .pointer (some ⟨g1, 0, none⟩), .pointer (some ⟨g2, 0, none⟩)]) (d := 35) hF (by kernel_rfl) (by kernel_rfl) Try.func195 (by kernel_rfl) rfl (board_Moves_1_w hr6 hS (fun _ hS => (hr_p1 _ (hS.dropN 6).pre)) _hc_p1 rfl) (fun v a w hR hF => ?_)
                clear hS
                obtain ⟨A7, c7, rfl, hS⟩ := hR
                have hS : Sep w0 B w (blk g1 75 #[.slice A1 p1.length c1, .int .i64 p2, .int .i64 p3, .int .i64 p4, .int .i64 p5, .int .i64 p6] :: blk g2 81 #[.slice A7 r6.2.length c7] :: ownK 88 3 A7 r6.2.length c7 (List.flatMap enc88 r6.2) :: recH lr1 { rr1 with state := .busy } :: defsH (D1 :: Ds2) :: blk g3 214 #[.func (.func 195) #[] #[.pointer (some ⟨g1, 0, none⟩), .pointer (some ⟨g2, 0, none⟩)]] :: blk g4 3 #[.int .i64 z1] :: blk g5 27 #[.slice A1 p1.length c1] :: blk g6 3 #[.int .i64 r4] :: (fs ++ us1)) := hS
                refine at_end [] [] hF rfl (by kernel_rfl) (fun hF => ?_)
                refine block_n ?_
                have hS := hS.pickN 9 [3, 1, 2, 4, 0, 5, 6, 7, 8] (by decide)
                have hm : some (.next r6.2) = some r := hm
                obtain rfl := Option.some.inj hm
                exact ⟨_, _, rfl, ⟨A7, c7, rfl⟩, hS⟩
              · replace hm := if_f hm hb
                refine wpIn_skip ?_
                refine block_n ?_
                have hm : some (.next l4) = some r := hm
                obtain rfl := Option.some.inj hm
                exact ⟨_, _, rfl, ⟨A6, c6, rfl⟩, hS⟩
            · rintro l4 D1 qs a w hy1e hI hF hS
              obtain ⟨A6, c6, rfl⟩ := hI
              rw [hy1e] at hm
              unfold board_Moves_K2 at hm
              dsimp only at hm hF hS
              have hF : FrD (D1 :: Ds2) 57 [pl 1 (.pointer (some ⟨g1, 0, none⟩)), pl 3 (.pointer (some ⟨g2, 0, none⟩)), pl 4 (.pointer (some ⟨g3, 0, none⟩)), pl 5 (.pointer (some ⟨g4, 0, none⟩)), pl 10 (.slice A1 p1.length c1), pl 11 (.int .i64 (p1.length : Int)), pl 12 (.int .i64 z1), pl 20 (.func (.func 212) #[] #[.pointer (some ⟨g5, 0, none⟩), .pointer (some ⟨g6, 0, none⟩)])] a := hF
              have hS : Sep w0 B w (blk g2 81 #[.slice A6 l4.length c6] :: ownK 88 3 A6 l4.length c6 (List.flatMap enc88 l4) :: defsH (D1 :: Ds2) :: blk g1 75 #[.slice A1 p1.length c1, .int .i64 p2, .int .i64 p3, .int .i64 p4, .int .i64 p5, .int .i64 p6] :: blk g3 214 #[.func (.func 195) #[] #[.pointer (some ⟨g1, 0, none⟩), .pointer (some ⟨g2, 0, none⟩)]] :: blk g4 3 #[.int .i64 z1] :: blk g5 27 #[.slice A1 p1.length c1] :: blk g6 3 #[.int .i64 r4] :: fs) := hS
              refine block_n ?_
              refine block_n ?_
              refine block_n ?_
              refine then_n ?_
              have hS := hS.pickN 8 [3, 0, 1, 4, 2] (by decide)
              exact ⟨l4, A6, c6, (D1 :: Ds2), hF.weak [1, 3, 4, 10, 11, 12] (by kernel_rfl), hS, hm⟩
            · intro x c D1 qs a w _ h
              exact h.elim
    · refine cond_ev (t := 13) (b := decide (z1 < (p1.length : Int))) hF (by kernel_rfl) (fun hb => ?_) (fun hb => ?_)
      · replace hm := if_t hm hb
        refine wpIn_skip ?_
        refine then_n ?_
        exact ⟨Ds1, hF.weak [1, 3, 4, 10, 11, 12] (by kernel_rfl), hS, hm⟩
      · replace hm := if_f hm hb
        refine wpIn_exit ?_
        refine then_e (then_e (block_e (then_n ?_)))
        rw [← hφ1] at hm
        replace hm := done_b hm
        unfold board_Moves_K1 at hm
        try dsimp only at hm
        have hm : ((board_Moves_J1 p1 p2 p3 p4 p5 p6) l1).bind some = some r := hm
        exact ⟨l1, A2, c2, Ds1, hF.weak [1, 3, 4] (by kernel_rfl), hS, hm⟩

noncomputable def moves_count_J5  (z1 : Int) (n4 : Int) : Option (St (Int × Int) Int) :=
  some (.next (n4, (w64 (z1 + 1))))

noncomputable def moves_count_J4  (rec_moves_count : List Int → Int → Int → Int → Int → Int → Int → Option Int) (p1 : List Int) (p2 : Int) (p3 : Int) (p4 : Int) (p5 : Int) (p6 : Int) (plies1 : Int) (l1 : List (Int × Int × Int)) (n2 : Int) (z1 : Int) : Option (St (Int × Int) Int) :=
  asrt (0 ≤ z1 ∧ z1 < (l1.length : Int)) <| (board_After_m p1 p2 p3 p4 p5 p6 ((getd ((0, 0, 0) : (Int × Int × Int)) l1 z1).1) ((getd ((0, 0, 0) : (Int × Int × Int)) l1 z1).2.1) ((getd ((0, 0, 0) : (Int × Int × Int)) l1 z1).2.2)).bind fun r2 => (rec_moves_count r2.1 r2.2.1 r2.2.2.1 r2.2.2.2.1 r2.2.2.2.2.1 r2.2.2.2.2.2 (w64 (plies1 - 1))).bind fun r3 => (moves_count_J5 z1) (w64 (n2 + r3))

noncomputable def moves_count_J3  (n3 : Int) : Option Int :=
  some n3

noncomputable def moves_count_K1  : Int → Option Int :=
  fun (x : Int) => match x with | n3 => moves_count_J3 n3

noncomputable def moves_count_L1  (rec_moves_count : List Int → Int → Int → Int → Int → Int → Int → Option Int) (p1 : List Int) (p2 : Int) (p3 : Int) (p4 : Int) (p5 : Int) (p6 : Int) (plies1 : Int) (l1 : List (Int × Int × Int)) : (Int × Int) → Option (St (Int × Int) Int) :=
  fun (x : (Int × Int)) => match x with | (n2, z1) => if (decide (z1 < (l1.length : Int))) then ((moves_count_J4 rec_moves_count p1 p2 p3 p4 p5 p6 plies1 l1 n2 z1)) else (some (.done n2))

noncomputable def moves_count_J2  (rec_moves_count : List Int → Int → Int → Int → Int → Int → Int → Option Int) (p1 : List Int) (p2 : Int) (p3 : Int) (p4 : Int) (p5 : Int) (p6 : Int) (plies1 : Int) (l1 : List (Int × Int × Int)) : Option Int :=
  (loop (moves_count_L1 rec_moves_count p1 p2 p3 p4 p5 p6 plies1 l1) (0, 0)).bind moves_count_K1

noncomputable def moves_count_J1  (rec_moves_count : List Int → Int → Int → Int → Int → Int → Int → Option Int) (p1 : List Int) (p2 : Int) (p3 : Int) (p4 : Int) (p5 : Int) (p6 : Int) (plies1 : Int) (l1 : List (Int × Int × Int)) : Option Int :=
  if (plies1 == 0) then (some 1) else (if (plies1 == 1) then (some (l1.length : Int)) else ((moves_count_J2 rec_moves_count p1 p2 p3 p4 p5 p6 plies1 l1)))

noncomputable def moves_count_B (rec_moves_count : List Int → Int → Int → Int → Int → Int → Int → Option Int) (p1 : List Int) (p2 : Int) (p3 : Int) (p4 : Int) (p5 : Int) (p6 : Int) (plies1 : Int) : Option Int :=
  if (decide ((0 : Int) < plies1)) then ((board_Moves_m p1 p2 p3 p4 p5 p6).bind fun r1 => (moves_count_J1 rec_moves_count p1 p2 p3 p4 p5 p6 plies1) r1) else ((moves_count_J1 rec_moves_count p1 p2 p3 p4 p5 p6 plies1) ([] : List (Int × Int × Int)))

noncomputable def moves_count_mF : Nat → List Int → Int → Int → Int → Int → Int → Int → Option Int
  | 0 => fun _ _ _ _ _ _ _ => none
  | n + 1 => fun p1 p2 p3 p4 p5 p6 plies1 => moves_count_B (moves_count_mF n) p1 p2 p3 p4 p5 p6 plies1

noncomputable def moves_count_m (p1 : List Int) (p2 : Int) (p3 : Int) (p4 : Int) (p5 : Int) (p6 : Int) (plies1 : Int) : Option Int :=
  recM fun n => moves_count_mF n p1 p2 p3 p4 p5 p6 plies1

set_option maxRecDepth 100000 in
set_option maxHeartbeats 4000000 in
theorem moves_count_wB {rec_moves_count : List Int → Int → Int → Int → Int → Int → Int → Option Int} (ih_moves_count : ∀ {A1 : Option Addr} {c1 : Nat} {n1 : Nat} {p1 : List Int} {p2 : Int} {p3 : Int} {p4 : Int} {p5 : Int} {p6 : Int} {plies1 : Int} {r : Int} {w0 w : World} {B : Nat} {fs : List HP} (_ : rec_moves_count p1 p2 p3 p4 p5 p6 plies1 = some r) (_ : Sep w0 B w (fs)) (hr_p1 : RdF w0 B fs A1 (vI p1)) (_hc_p1 : p1.length ≤ c1) (_hn_p1 : n1 = p1.length), Calls Try.prog 128 #[.agg #[.slice A1 n1 c1, .int .i64 p2, .int .i64 p3, .int .i64 p4, .int .i64 p5, .int .i64 p6], .int .i64 plies1] w fun e w' => e = .returned (.int .i64 r) ∧ Sep w0 B w' (fs)) {A1 : Option Addr} {c1 : Nat} {n1 : Nat} {p1 : List Int} {p2 : Int} {p3 : Int} {p4 : Int} {p5 : Int} {p6 : Int} {plies1 : Int} {r : Int} {w0 w : World} {B : Nat} {fs : List HP} (hm : moves_count_B rec_moves_count p1 p2 p3 p4 p5 p6 plies1 = some r) (hS : Sep w0 B w (fs)) (hr_p1 : RdF w0 B fs A1 (vI p1)) (_hc_p1 : p1.length ≤ c1) (_hn_p1 : n1 = p1.length) :
    Calls Try.prog 128 #[.agg #[.slice A1 n1 c1, .int .i64 p2, .int .i64 p3, .int .i64 p4, .int .i64 p5, .int .i64 p6], .int .i64 plies1] w fun e w' => e = .returned (.int .i64 r) ∧ Sep w0 B w' (fs) := by
  obtain ⟨i3, hi3, hz3, hs3, hb3⟩ := info_parts Info3
  obtain ⟨i88, hi88, hz88, hs88, hb88⟩ := info_parts Info88
  obtain rfl := _hn_p1
  unfold moves_count_B at hm
  replace hm := start_b hm
  refine enter (l := [.agg #[.slice A1 p1.length c1, .int .i64 p2, .int .i64 p3, .int .i64 p4, .int .i64 p5, .int .i64 p6], .int .i64 plies1]) (n := 36) Try.func128 rfl rfl (by simp) (fun a hF => ?_)
  refine seqR ?_
  refine at_do (d := 2) (s := vS (Instr.box 75 (.agg #[.slice A1 p1.length c1, .int .i64 p2, .int .i64 p3, .int .i64 p4, .int .i64 p5, .int .i64 p6]))) (v := .pointer (some ⟨w.heap.size, 0, none⟩)) (w' := w.alloc (.cells #[.slice A1 p1.length c1, .int .i64 p2, .int .i64 p3, .int .i64 p4, .int .i64 p5, .int .i64 p6] 75)) hF (by kernel_rfl) (by kernel_rfl) (by kernel_rfl) (fun a hF => ?_)
  have hS : Sep w0 B (w.alloc (.cells #[.slice A1 p1.length c1, .int .i64 p2, .int .i64 p3, .int .i64 p4, .int .i64 p5, .int .i64 p6] 75)) (blk w.heap.size 75 #[.slice A1 p1.length c1, .int .i64 p2, .int .i64 p3, .int .i64 p4, .int .i64 p5, .int .i64 p6] :: (fs)) := hS.box 75 #[.slice A1 p1.length c1, .int .i64 p2, .int .i64 p3, .int .i64 p4, .int .i64 p5, .int .i64 p6]
  generalize w.heap.size = g1 at hF hS
  generalize w.alloc (.cells #[.slice A1 p1.length c1, .int .i64 p2, .int .i64 p3, .int .i64 p4, .int .i64 p5, .int .i64 p6] 75) = w at hS ⊢
  refine at_run 1 [] [] [1, 2] [pl 1 (.int .i64 plies1), pl 2 (.pointer (some ⟨g1, 0, none⟩))] hF hS (by kernel_rfl) (by kernel_rfl) ?_ (fun a w hF hS => ?_)
  · exact obs_nil
  refine at_end [1, 2] [pl 1 (.int .i64 plies1), pl 2 (.pointer (some ⟨g1, 0, none⟩))] hF rfl (by kernel_rfl) (fun hF => ?_)
  refine then_n ?_
  refine reg [] [] [1, 2, 5] [pl 1 (.int .i64 plies1), pl 2 (.pointer (some ⟨g1, 0, none⟩)), pl 5 (.slice none 0 0)] hF hS Fol (by kernel_rfl) (by kernel_rfl) (by kernel_rfl) ?_ (fun a w hF hS => ?_)
  · exact obs_nil
  refine seq_cut (fun a w => ∃ (l1 : List (Int × Int × Int)) (A3 : Option Addr) (c3 : Nat), Fr 36 [pl 1 (.int .i64 plies1), pl 2 (.pointer (some ⟨g1, 0, none⟩)), pl 5 (.slice A3 l1.length c3)] a ∧ Sep w0 B w (blk g1 75 #[.slice A1 p1.length c1, .int .i64 p2, .int .i64 p3, .int .i64 p4, .int .i64 p5, .int .i64 p6] :: ownK 88 3 A3 l1.length c3 (List.flatMap enc88 l1) :: fs) ∧ ((moves_count_J1 rec_moves_count p1 p2 p3 p4 p5 p6 plies1) l1).bind some = some r) ?_ ?_
  · rintro a w ⟨l1, A3, c3, hF, hS, hm⟩
    unfold moves_count_J1 at hm
    refine seq_cut (fun a w => Fr 36 [pl 1 (.int .i64 plies1), pl 2 (.pointer (some ⟨g1, 0, none⟩)), pl 5 (.slice A3 l1.length c3)] a ∧ Sep w0 B w (blk g1 75 #[.slice A1 p1.length c1, .int .i64 p2, .int .i64 p3, .int .i64 p4, .int .i64 p5, .int .i64 p6] :: ownK 88 3 A3 l1.length c3 (List.flatMap enc88 l1) :: fs) ∧ ((moves_count_J2 rec_moves_count p1 p2 p3 p4 p5 p6 plies1 l1)).bind some = some r) ?_ ?_
    · rintro a w ⟨hF, hS, hm⟩
      unfold moves_count_J2 at hm
      refine reg [] [] [1, 2, 5, 6] [pl 1 (.int .i64 plies1), pl 2 (.pointer (some ⟨g1, 0, none⟩)), pl 5 (.slice A3 l1.length c3), pl 6 (.int .i64 0)] hF hS Fol (by kernel_rfl) (by kernel_rfl) (by kernel_rfl) ?_ (fun a w hF hS => ?_)
      · exact obs_nil
      refine seq_cut (fun a w => ∃ (n3 : Int), Fr 36 [pl 6 (.int .i64 n3)] a ∧ Sep w0 B w (fs) ∧ (moves_count_J3 n3).bind some = some r) ?_ ?_
      · rintro a w ⟨n3, hF, hS, hm⟩
        unfold moves_count_J3 at hm
        refine reg [] [] [4] [pl 4 (.int .i64 n3)] hF hS Fol (by kernel_rfl) (by kernel_rfl) (by kernel_rfl) ?_ (fun a w hF hS => ?_)
        · exact obs_nil
        refine wpIn_ret ?_
        have hm : some n3 = some r := hm
        obtain rfl := Option.some.inj hm
        exact retV (rs := [.tmp 4]) (vs := [.int .i64 n3]) hF rfl (rv_t (by kernel_rfl) <| rv_nil) rfl ⟨rfl, hS⟩
      · refine reg [] [] [1, 2, 6, 20, 21, 22] [pl 1 (.int .i64 plies1), pl 2 (.pointer (some ⟨g1, 0, none⟩)), pl 6 (.int .i64 0), pl 20 (.slice A3 l1.length c3), pl 21 (.int .i64 (l1.length : Int)), pl 22 (.int .i64 0)] hF hS Fol (by kernel_rfl) (by kernel_rfl) (by kernel_rfl) ?_ (fun a w hF hS => ?_)
        · exact obs_nil
        refine wpIn_block ?_
        refine wp_loop_model (S := (Int × Int)) (R := Int) (moves_count_L1 rec_moves_count p1 p2 p3 p4 p5 p6 plies1 l1) (fun x => (moves_count_K1 x).bind some) r (fun (x : (Int × Int)) a w => Fr 36 [pl 1 (.int .i64 plies1), pl 2 (.pointer (some ⟨g1, 0, none⟩)), pl 6 (.int .i64 x.1), pl 20 (.slice A3 l1.length c3), pl 21 (.int .i64 (l1.length : Int)), pl 22 (.int .i64 x.2)] a ∧ Sep w0 B w (blk g1 75 #[.slice A1 p1.length c1, .int .i64 p2, .int .i64 p3, .int .i64 p4, .int .i64 p5, .int .i64 p6] :: ownK 88 3 A3 l1.length c3 (List.flatMap enc88 l1) :: fs)) (assoc_b hm) ⟨hF.weak [1, 2, 6, 20, 21, 22] (by kernel_rfl), hS⟩ ?_
        clear hF hS hm
        rintro nn1 ⟨n2, z1⟩ a w ⟨hF, hS⟩ hm
        generalize hφ1 : stK (moves_count_L1 rec_moves_count p1 p2 p3 p4 p5 p6 plies1 l1) nn1 (fun x => (moves_count_K1 x).bind some) = φ1 at hm
        unfold moves_count_L1 at hm
        dsimp only at hF hS hm
        refine reg [] [] [1, 2, 6, 20, 21, 22, 23] [pl 1 (.int .i64 plies1), pl 2 (.pointer (some ⟨g1, 0, none⟩)), pl 6 (.int .i64 n2), pl 20 (.slice A3 l1.length c3), pl 21 (.int .i64 (l1.length : Int)), pl 22 (.int .i64 z1), pl 23 (.bool (decide (z1 < (l1.length : Int))))] hF hS Fol (by kernel_rfl) (by kernel_rfl) (by kernel_rfl) ?_ (fun a w hF hS => ?_)
        · exact obs_nil
        refine seq_cut (fun a w => Fr 36 [pl 1 (.int .i64 plies1), pl 2 (.pointer (some ⟨g1, 0, none⟩)), pl 6 (.int .i64 n2), pl 20 (.slice A3 l1.length c3), pl 21 (.int .i64 (l1.length : Int)), pl 22 (.int .i64 z1)] a ∧ Sep w0 B w (blk g1 75 #[.slice A1 p1.length c1, .int .i64 p2, .int .i64 p3, .int .i64 p4, .int .i64 p5, .int .i64 p6] :: ownK 88 3 A3 l1.length c3 (List.flatMap enc88 l1) :: fs) ∧ ((moves_count_J4 rec_moves_count p1 p2 p3 p4 p5 p6 plies1 l1 n2 z1)).bind φ1 = some r) ?_ ?_
        · rintro a w ⟨hF, hS, hm⟩
          unfold moves_count_J4 at hm
          refine seq_cut (fun a w => ∃ (n4 : Int), Fr 36 [pl 1 (.int .i64 plies1), pl 2 (.pointer (some ⟨g1, 0, none⟩)), pl 6 (.int .i64 n4), pl 20 (.slice A3 l1.length c3), pl 21 (.int .i64 (l1.length : Int)), pl 22 (.int .i64 z1)] a ∧ Sep w0 B w (blk g1 75 #[.slice A1 p1.length c1, .int .i64 p2, .int .i64 p3, .int .i64 p4, .int .i64 p5, .int .i64 p6] :: ownK 88 3 A3 l1.length c3 (List.flatMap enc88 l1) :: fs) ∧ ((moves_count_J5 z1) n4).bind φ1 = some r) ?_ ?_
          · rintro a w ⟨n4, hF, hS, hm⟩
            unfold moves_count_J5 at hm
            refine reg1 [] [] [1, 2, 6, 20, 21, 22] [pl 1 (.int .i64 plies1), pl 2 (.pointer (some ⟨g1, 0, none⟩)), pl 6 (.int .i64 n4), pl 20 (.slice A3 l1.length c3), pl 21 (.int .i64 (l1.length : Int)), pl 22 (.int .i64 (w64 (z1 + 1)))] hF hS Fol (by kernel_rfl) (by kernel_rfl) (by kernel_rfl) ?_ (fun a w hF hS => ?_)
            · exact obs_nil
            refine then_n ?_
            rw [← hφ1] at hm
            exact ⟨(n4, (w64 (z1 + 1))), ⟨hF.weak [1, 2, 6, 20, 21, 22] (by kernel_rfl), hS⟩, hm⟩
          · refine wpIn_block ?_
            refine seqR ?_
            obtain ⟨hp1, hm⟩ := asrt_b hm
            refine at_run 2 [⟨true, [], vS (Instr.indexAt 81 (.slice A3 l1.length c3) (.int .i64 z1)), .pointer (some (sAddrK A3 3 z1))⟩, ⟨false, [], vS (Instr.loadAt 88 (.pointer (some (sAddrK A3 3 z1)))), .agg #[.int .i64 ((getd ((0, 0, 0) : (Int × Int × Int)) l1 z1).1), .int .i64 ((getd ((0, 0, 0) : (Int × Int × Int)) l1 z1).2.1), .int .i64 ((getd ((0, 0, 0) : (Int × Int × Int)) l1 z1).2.2)]⟩] [some (.pointer (some (sAddrK A3 3 z1))), some (.agg #[.int .i64 ((getd ((0, 0, 0) : (Int × Int × Int)) l1 z1).1), .int .i64 ((getd ((0, 0, 0) : (Int × Int × Int)) l1 z1).2.1), .int .i64 ((getd ((0, 0, 0) : (Int × Int × Int)) l1 z1).2.2)])] [1, 2, 6, 20, 21, 22, 25] [pl 1 (.int .i64 plies1), pl 2 (.pointer (some ⟨g1, 0, none⟩)), pl 6 (.int .i64 n2), pl 20 (.slice A3 l1.length c3), pl 21 (.int .i64 (l1.length : Int)), pl 22 (.int .i64 z1), pl 25 (.agg #[.int .i64 ((getd ((0, 0, 0) : (Int × Int × Int)) l1 z1).1), .int .i64 ((getd ((0, 0, 0) : (Int × Int × Int)) l1 z1).2.1), .int .i64 ((getd ((0, 0, 0) : (Int × Int × Int)) l1 z1).2.2)])] hF hS (by kernel_rfl) (by kernel_rfl) ?_ (fun a w hF hS => ?_)
            · exact obs_cons (ob_ixK (m := l1) encK88 Und81 hi88 hs88 (hS.at_ 1 rfl).rdK rfl (fun _ => hp1)) <| obs_cons (ob_getK (n := l1.length) (m := l1) encK88 ((0, 0, 0) : (Int × Int × Int)) (by kernel_rfl) (by kernel_rfl) (fun _ hS => ⟨_, (hS.at_ 1 rfl).rdK⟩) (fun _ hS => rfl) (fun _ => hp1)) <| obs_nil
            refine at_do (d := 8) (s := vS (Instr.alloc 88 true (.tuple #[]))) (v := .pointer (some ⟨w.heap.size, 0, none⟩)) (w' := w.alloc (.cells #[.int .i64 0, .int .i64 0, .int .i64 0] 88)) hF (by kernel_rfl) (by kernel_rfl) (by kernel_rfl) (fun a hF => ?_)
            have hS : Sep w0 B (w.alloc (.cells #[.int .i64 0, .int .i64 0, .int .i64 0] 88)) (blk w.heap.size 88 #[.int .i64 0, .int .i64 0, .int .i64 0] :: (blk g1 75 #[.slice A1 p1.length c1, .int .i64 p2, .int .i64 p3, .int .i64 p4, .int .i64 p5, .int .i64 p6] :: ownK 88 3 A3 l1.length c3 (List.flatMap enc88 l1) :: fs)) := hS.box 88 #[.int .i64 0, .int .i64 0, .int .i64 0]
            generalize w.heap.size = g2 at hF hS
            generalize w.alloc (.cells #[.int .i64 0, .int .i64 0, .int .i64 0] 88) = w at hS ⊢
            obtain ⟨w, hrun, hS⟩ := run_putA (P := Try.prog) (t := 88) (us := #[.int .i64 ((getd ((0, 0, 0) : (Int × Int × Int)) l1 z1).1), .int .i64 ((getd ((0, 0, 0) : (Int × Int × Int)) l1 z1).2.1), .int .i64 ((getd ((0, 0, 0) : (Int × Int × Int)) l1 z1).2.2)]) (o := 0) (hS.at_ 0 rfl) (by kernel_rfl) (all_one (by kernel_rfl)) (Nat.le_of_ble_eq_true (by kernel_rfl))
            refine at_skip hF (by kernel_rfl) hrun ?_
            have hS : Sep w0 B w (blk g2 88 #[.int .i64 ((getd ((0, 0, 0) : (Int × Int × Int)) l1 z1).1), .int .i64 ((getd ((0, 0, 0) : (Int × Int × Int)) l1 z1).2.1), .int .i64 ((getd ((0, 0, 0) : (Int × Int × Int)) l1 z1).2.2)] :: blk g1 75 #[.slice A1 p1.length c1, .int .i64 p2, .int .i64 p3, .int .i64 p4, .int .i64 p5, .int .i64 p6] :: ownK 88 3 A3 l1.length c3 (List.flatMap enc88 l1) :: fs) := hS
            refine at_end [1, 2, 6, 8, 20, 21, 22] [pl 1 (.int .i64 plies1), pl 2 (.pointer (some ⟨g1, 0, none⟩)), pl 6 (.int .i64 n2), pl 8 (.pointer (some ⟨g2, 0, none⟩)), pl 20 (.slice A3 l1.length c3), pl 21 (.int .i64 (l1.length : Int)), pl 22 (.int .i64 z1)] hF rfl (by kernel_rfl) (fun hF => ?_)
            refine then_n ?_
            refine oneR ?_
            obtain ⟨r2, hr2, hm⟩ := call_b hm
            obtain ⟨r3, hr3, hm⟩ := call_b hm
            refine at_run 3 [⟨false, [], vS (Instr.loadAt 75 (.pointer (some ⟨g1, 0, none⟩))), .agg #[.slice A1 p1.length c1, .int .i64 p2, .int .i64 p3, .int .i64 p4, .int .i64 p5, .int .i64 p6]⟩, ⟨false, [], vS (Instr.loadAt 88 (.pointer (some ⟨g2, 0, none⟩))), .agg #[.int .i64 ((getd ((0, 0, 0) : (Int × Int × Int)) l1 z1).1), .int .i64 ((getd ((0, 0, 0) : (Int × Int × Int)) l1 z1).2.1), .int .i64 ((getd ((0, 0, 0) : (Int × Int × Int)) l1 z1).2.2)]⟩] [none, some (.agg #[.slice A1 p1.length c1, .int .i64 p2, .int .i64 p3, .int .i64 p4, .int .i64 p5, .int .i64 p6]), some (.agg #[.int .i64 ((getd ((0, 0, 0) : (Int × Int × Int)) l1 z1).1), .int .i64 ((getd ((0, 0, 0) : (Int × Int × Int)) l1 z1).2.1), .int .i64 ((getd ((0, 0, 0) : (Int × Int × Int)) l1 z1).2.2)])] [1, 2, 20, 21, 22, 26, 27, 28] [pl 1 (.int .i64 plies1), pl 2 (.pointer (some ⟨g1, 0, none⟩)), pl 20 (.slice A3 l1.length c3), pl 21 (.int .i64 (l1.length : Int)), pl 22 (.int .i64 z1), pl 26 (.int .i64 n2), pl 27 (.agg #[.slice A1 p1.length c1, .int .i64 p2, .int .i64 p3, .int .i64 p4, .int .i64 p5, .int .i64 p6]), pl 28 (.agg #[.int .i64 ((getd ((0, 0, 0) : (Int × Int × Int)) l1 z1).1), .int .i64 ((getd ((0, 0, 0) : (Int × Int × Int)) l1 z1).2.1), .int .i64 ((getd ((0, 0, 0) : (Int × Int × Int)) l1 z1).2.2)])] hF hS (by kernel_rfl) (by kernel_rfl) ?_ (fun a w hF hS => ?_)
            · exact obs_cons (ob_loadA (cs := #[.slice A1 p1.length c1, .int .i64 p2, .int .i64 p3, .int .i64 p4, .int .i64 p5, .int .i64 p6]) (by kernel_rfl) (by kernel_rfl) (fun _ _ hS => (hS.at_ 1 rfl).cellsAt 0 (by rfl))) <| obs_cons (ob_loadA (cs := #[.int .i64 ((getd ((0, 0, 0) : (Int × Int × Int)) l1 z1).1), .int .i64 ((getd ((0, 0, 0) : (Int × Int × Int)) l1 z1).2.1), .int .i64 ((getd ((0, 0, 0) : (Int × Int × Int)) l1 z1).2.2)]) (by kernel_rfl) (by kernel_rfl) (fun _ _ hS => (hS.at_ 0 rfl).cellsAt 0 (by rfl))) <| obs_nil
            refine at_call (f := 135) (args := #[.agg #[.slice A1 p1.length c1, .int .i64 p2, .int .i64 p3, .int .i64 p4, .int .i64 p5, .int .i64 p6], .agg #[.int .i64 ((getd ((0, 0, 0) : (Int × Int × Int)) l1 z1).1), .int .i64 ((getd ((0, 0, 0) : (Int × Int × Int)) l1 z1).2.1), .int .i64 ((getd ((0, 0, 0) : (Int × Int × Int)) l1 z1).2.2)]]) (d := 29) hF (by kernel_rfl) (by kernel_rfl) Try.func135 (by kernel_rfl) rfl (board_After_w hr2 hS (fun _ hS => (hr_p1 _ (hS.dropN 3))) _hc_p1 rfl) (fun v a w hR hF => ?_)
            clear hS
            obtain ⟨A4, c4, rfl, hS⟩ := hR
            have hS : Sep w0 B w (own 3 (.slice A4 r2.1.length c4) (vI r2.1) :: blk g2 88 #[.int .i64 ((getd ((0, 0, 0) : (Int × Int × Int)) l1 z1).1), .int .i64 ((getd ((0, 0, 0) : (Int × Int × Int)) l1 z1).2.1), .int .i64 ((getd ((0, 0, 0) : (Int × Int × Int)) l1 z1).2.2)] :: blk g1 75 #[.slice A1 p1.length c1, .int .i64 p2, .int .i64 p3, .int .i64 p4, .int .i64 p5, .int .i64 p6] :: ownK 88 3 A3 l1.length c3 (List.flatMap enc88 l1) :: fs) := hS
            refine at_run 5 [⟨false, [], callFunc 128 #[.agg #[.slice A4 r2.1.length c4, .int .i64 r2.2.1, .int .i64 r2.2.2.1, .int .i64 r2.2.2.2.1, .int .i64 r2.2.2.2.2.1, .int .i64 r2.2.2.2.2.2], .int .i64 (w64 (plies1 - 1))], .int .i64 r3⟩] [none, none, some (.int .i64 r3), none, none] [1, 2, 6, 20, 21, 22] [pl 1 (.int .i64 plies1), pl 2 (.pointer (some ⟨g1, 0, none⟩)), pl 6 (.int .i64 (w64 (n2 + r3))), pl 20 (.slice A3 l1.length c3), pl 21 (.int .i64 (l1.length : Int)), pl 22 (.int .i64 z1)] hF hS (by kernel_rfl) (by kernel_rfl) ?_ (fun a w hF hS => ?_)
            · exact obs_cons (ob_call Try.func128 (by kernel_rfl) rfl (fun _ _ hS => ih_moves_count hr3 hS (fun _ hS => (hS.at_ 0 rfl).rd) ((hS.at_ 0 rfl).cap1) rfl)) <| obs_nil
            refine at_end [1, 2, 6, 20, 21, 22] [pl 1 (.int .i64 plies1), pl 2 (.pointer (some ⟨g1, 0, none⟩)), pl 6 (.int .i64 (w64 (n2 + r3))), pl 20 (.slice A3 l1.length c3), pl 21 (.int .i64 (l1.length : Int)), pl 22 (.int .i64 z1)] hF rfl (by kernel_rfl) (fun hF => ?_)
            refine block_n ?_
            refine then_n ?_
            have hS := hS.pickN 4 [2, 3] (by decide)
            exact ⟨(w64 (n2 + r3)), hF.weak [1, 2, 6, 20, 21, 22] (by kernel_rfl), hS, hm⟩
        · refine cond_ev (t := 23) (b := decide (z1 < (l1.length : Int))) hF (by kernel_rfl) (fun hb => ?_) (fun hb => ?_)
          · replace hm := if_t hm hb
            refine wpIn_skip ?_
            refine then_n ?_
            exact ⟨hF.weak [1, 2, 6, 20, 21, 22] (by kernel_rfl), hS, hm⟩
          · replace hm := if_f hm hb
            refine wpIn_exit ?_
            refine then_e (then_e (block_e (then_n ?_)))
            have hS := hS.pickN 2 [] (by decide)
            rw [← hφ1] at hm
            replace hm := done_b hm
            unfold moves_count_K1 at hm
            try dsimp only at hm
            have hm : (moves_count_J3 n2).bind some = some r := hm
            exact ⟨n2, hF.weak [6] (by kernel_rfl), hS, hm⟩
    · refine reg [] [] [1, 2, 5, 13] [pl 1 (.int .i64 plies1), pl 2 (.pointer (some ⟨g1, 0, none⟩)), pl 5 (.slice A3 l1.length c3), pl 13 (.int .i64 plies1)] hF hS Fol (by kernel_rfl) (by kernel_rfl) (by kernel_rfl) ?_ (fun a w hF hS => ?_)
      · exact obs_nil
      refine wpIn_block ?_
      refine reg [] [] [1, 2, 5, 13, 14] [pl 1 (.int .i64 plies1), pl 2 (.pointer (some ⟨g1, 0, none⟩)), pl 5 (.slice A3 l1.length c3), pl 13 (.int .i64 plies1), pl 14 (.bool (plies1 == 0))] hF hS Fol (by kernel_rfl) (by kernel_rfl) (by kernel_rfl) ?_ (fun a w hF hS => ?_)
      · exact obs_nil
      refine cond_ev (t := 14) (b := (plies1 == 0)) hF (by kernel_rfl) (fun hb => ?_) (fun hb => ?_)
      · replace hm := if_t hm hb
        refine reg [] [] [4] [pl 4 (.int .i64 1)] hF hS Fol (by kernel_rfl) (by kernel_rfl) (by kernel_rfl) ?_ (fun a w hF hS => ?_)
        · exact obs_nil
        refine wpIn_ret ?_
        refine block_r (then_r ?_)
        have hS := hS.pickN 2 [] (by decide)
        have hm : some 1 = some r := hm
        obtain rfl := Option.some.inj hm
        exact retV (rs := [.tmp 4]) (vs := [.int .i64 1]) hF rfl (rv_t (by kernel_rfl) <| rv_nil) rfl ⟨rfl, hS⟩
      · replace hm := if_f hm hb
        refine reg [] [] [1, 2, 5, 16] [pl 1 (.int .i64 plies1), pl 2 (.pointer (some ⟨g1, 0, none⟩)), pl 5 (.slice A3 l1.length c3), pl 16 (.bool (plies1 == 1))] hF hS Fol (by kernel_rfl) (by kernel_rfl) (by kernel_rfl) ?_ (fun a w hF hS => ?_)
        · exact obs_nil
        refine cond_ev (t := 16) (b := (plies1 == 1)) hF (by kernel_rfl) (fun hb => ?_) (fun hb => ?_)
        · replace hm := if_t hm hb
          refine reg [] [] [4] [pl 4 (.int .i64 (l1.length : Int))] hF hS Fol (by kernel_rfl) (by kernel_rfl) (by kernel_rfl) ?_ (fun a w hF hS => ?_)
          · exact obs_nil
          refine wpIn_ret ?_
          refine block_r (then_r ?_)
          have hS := hS.pickN 2 [] (by decide)
          have hm : some (l1.length : Int) = some r := hm
          obtain rfl := Option.some.inj hm
          exact retV (rs := [.tmp 4]) (vs := [.int .i64 (l1.length : Int)]) hF rfl (rv_t (by kernel_rfl) <| rv_nil) rfl ⟨rfl, hS⟩
        · replace hm := if_f hm hb
          refine wpIn_skip ?_
          refine block_n ?_
          refine then_n ?_
          exact ⟨hF.weak [1, 2, 5] (by kernel_rfl), hS, hm⟩
  · refine reg [] [] [1, 2, 5, 10] [pl 1 (.int .i64 plies1), pl 2 (.pointer (some ⟨g1, 0, none⟩)), pl 5 (.slice none 0 0), pl 10 (.bool (decide ((0 : Int) < plies1)))] hF hS Fol (by kernel_rfl) (by kernel_rfl) (by kernel_rfl) ?_ (fun a w hF hS => ?_)
    · exact obs_nil
    refine cond_ev (t := 10) (b := decide ((0 : Int) < plies1)) hF (by kernel_rfl) (fun hb => ?_) (fun hb => ?_)
    · replace hm := if_t hm hb
      refine oneR ?_
      obtain ⟨r1, hr1, hm⟩ := call_b hm
      refine at_run 1 [⟨false, [], vS (Instr.loadAt 75 (.pointer (some ⟨g1, 0, none⟩))), .agg #[.slice A1 p1.length c1, .int .i64 p2, .int .i64 p3, .int .i64 p4, .int .i64 p5, .int .i64 p6]⟩] [some (.agg #[.slice A1 p1.length c1, .int .i64 p2, .int .i64 p3, .int .i64 p4, .int .i64 p5, .int .i64 p6])] [1, 2, 11] [pl 1 (.int .i64 plies1), pl 2 (.pointer (some ⟨g1, 0, none⟩)), pl 11 (.agg #[.slice A1 p1.length c1, .int .i64 p2, .int .i64 p3, .int .i64 p4, .int .i64 p5, .int .i64 p6])] hF hS (by kernel_rfl) (by kernel_rfl) ?_ (fun a w hF hS => ?_)
      · exact obs_cons (ob_loadA (cs := #[.slice A1 p1.length c1, .int .i64 p2, .int .i64 p3, .int .i64 p4, .int .i64 p5, .int .i64 p6]) (by kernel_rfl) (by kernel_rfl) (fun _ _ hS => (hS.at_ 0 rfl).cellsAt 0 (by rfl))) <| obs_nil
      refine at_call (f := 133) (args := #[.agg #[.slice A1 p1.length c1, .int .i64 p2, .int .i64 p3, .int .i64 p4, .int .i64 p5, .int .i64 p6]]) (d := 12) hF (by kernel_rfl) (by kernel_rfl) Try.func133 (by kernel_rfl) rfl (board_Moves_w hr1 hS (fun _ hS => (hr_p1 _ (hS.dropN 1))) _hc_p1 rfl) (fun v a w hR hF => ?_)
      clear hS
      obtain ⟨A2, c2, rfl, hS⟩ := hR
      have hS : Sep w0 B w (ownK 88 3 A2 r1.length c2 (List.flatMap enc88 r1) :: blk g1 75 #[.slice A1 p1.length c1, .int .i64 p2, .int .i64 p3, .int .i64 p4, .int .i64 p5, .int .i64 p6] :: fs) := hS
      refine at_run 1 [] [] [1, 2, 5] [pl 1 (.int .i64 plies1), pl 2 (.pointer (some ⟨g1, 0, none⟩)), pl 5 (.slice A2 r1.length c2)] hF hS (by kernel_rfl) (by kernel_rfl) ?_ (fun a w hF hS => ?_)
      · exact obs_nil
      refine at_end [1, 2, 5] [pl 1 (.int .i64 plies1), pl 2 (.pointer (some ⟨g1, 0, none⟩)), pl 5 (.slice A2 r1.length c2)] hF rfl (by kernel_rfl) (fun hF => ?_)
      refine then_n ?_
      have hS := hS.pickN 2 [1, 0] (by decide)
      exact ⟨r1, A2, c2, hF.weak [1, 2, 5] (by kernel_rfl), hS, hm⟩
    · replace hm := if_f hm hb
      refine wpIn_skip ?_
      refine then_n ?_
      have hS : Sep w0 B w (ownK 88 3 none 0 0 (List.flatMap enc88 ([] : List (Int × Int × Int))) :: blk g1 75 #[.slice A1 p1.length c1, .int .i64 p2, .int .i64 p3, .int .i64 p4, .int .i64 p5, .int .i64 p6] :: fs) := hS.nilK 88 3 enc88
      have hl1 := (hS.at_ 0 rfl).lenK encK88
      have hS := (hS.at_ 0 rfl).reNK hl1
      have hS : Sep w0 B w (ownK 88 3 none (([] : List (Int × Int × Int)).length) 0 (List.flatMap enc88 ([] : List (Int × Int × Int))) :: blk g1 75 #[.slice A1 p1.length c1, .int .i64 p2, .int .i64 p3, .int .i64 p4, .int .i64 p5, .int .i64 p6] :: fs) := hS
      have hF := hF.cast (t := 5) (v := .slice none 0 0) (v' := .slice none (([] : List (Int × Int × Int)).length) 0) rfl rfl (congrArg (fun k => Value.slice none k 0) hl1)
      have hS := hS.pickN 2 [1, 0] (by decide)
      exact ⟨([] : List (Int × Int × Int)), none, 0, hF.weak [1, 2, 5] (by kernel_rfl), hS, hm⟩

theorem moves_count_w {A1 : Option Addr} {c1 : Nat} {n1 : Nat} {p1 : List Int} {p2 : Int} {p3 : Int} {p4 : Int} {p5 : Int} {p6 : Int} {plies1 : Int} {r : Int} {w0 w : World} {B : Nat} {fs : List HP} (hm : moves_count_m p1 p2 p3 p4 p5 p6 plies1 = some r) (hS : Sep w0 B w (fs)) (hr_p1 : RdF w0 B fs A1 (vI p1)) (_hc_p1 : p1.length ≤ c1) (_hn_p1 : n1 = p1.length) :
    Calls Try.prog 128 #[.agg #[.slice A1 n1 c1, .int .i64 p2, .int .i64 p3, .int .i64 p4, .int .i64 p5, .int .i64 p6], .int .i64 plies1] w fun e w' => e = .returned (.int .i64 r) ∧ Sep w0 B w' (fs) := by
  have key : ∀ (n : Nat) {A1 : Option Addr} {c1 : Nat} {n1 : Nat} {p1 : List Int} {p2 : Int} {p3 : Int} {p4 : Int} {p5 : Int} {p6 : Int} {plies1 : Int} {r : Int} {w0 w : World} {B : Nat} {fs : List HP} (_ : moves_count_mF n p1 p2 p3 p4 p5 p6 plies1 = some r) (_ : Sep w0 B w (fs)) (hr_p1 : RdF w0 B fs A1 (vI p1)) (_hc_p1 : p1.length ≤ c1) (_hn_p1 : n1 = p1.length), Calls Try.prog 128 #[.agg #[.slice A1 n1 c1, .int .i64 p2, .int .i64 p3, .int .i64 p4, .int .i64 p5, .int .i64 p6], .int .i64 plies1] w fun e w' => e = .returned (.int .i64 r) ∧ Sep w0 B w' (fs) := by
    intro n
    induction n with
    | zero => intros; rename_i hm0 _ _ _ _; cases hm0
    | succ n ih => intros; rename_i hm0 hS0 h0 h1 h2; exact moves_count_wB (rec_moves_count := moves_count_mF n) (fun hm hS h0 h1 h2 => ih hm hS h0 h1 h2) hm0 hS0 h0 h1 h2
  obtain ⟨n, hn⟩ := recM_some hm
  exact key n hn hS hr_p1 _hc_p1 _hn_p1

set_option maxRecDepth 100000 in
theorem moves_count_J4_le_moves_count {rec_moves_count1 rec_moves_count2 : List Int → Int → Int → Int → Int → Int → Int → Option Int} (h_rec_moves_count : ∀ a0 a1 a2 a3 a4 a5 a6, Le (rec_moves_count1 a0 a1 a2 a3 a4 a5 a6) (rec_moves_count2 a0 a1 a2 a3 a4 a5 a6)) (p1 : List Int) (p2 : Int) (p3 : Int) (p4 : Int) (p5 : Int) (p6 : Int) (plies1 : Int) (l1 : List (Int × Int × Int)) (n2 : Int) (z1 : Int) : Le (moves_count_J4 rec_moves_count1 p1 p2 p3 p4 p5 p6 plies1 l1 n2 z1) (moves_count_J4 rec_moves_count2 p1 p2 p3 p4 p5 p6 plies1 l1 n2 z1) := by
  unfold moves_count_J4
  repeat' (first | with_reducible exact Le.refl _ | with_reducible exact h_rec_moves_count _ _ _ _ _ _ _ | with_reducible refine Le.asrt ?_ | with_reducible refine Le.ite ?_ ?_ | refine Le.bind ?_ (fun _ => ?_) | refine Le.loop2 (fun _ => ?_) | refine Le.elim2 (fun _ => ?_) (fun _ => ?_))

set_option maxRecDepth 100000 in
theorem moves_count_L1_le_moves_count {rec_moves_count1 rec_moves_count2 : List Int → Int → Int → Int → Int → Int → Int → Option Int} (h_rec_moves_count : ∀ a0 a1 a2 a3 a4 a5 a6, Le (rec_moves_count1 a0 a1 a2 a3 a4 a5 a6) (rec_moves_count2 a0 a1 a2 a3 a4 a5 a6)) (p1 : List Int) (p2 : Int) (p3 : Int) (p4 : Int) (p5 : Int) (p6 : Int) (plies1 : Int) (l1 : List (Int × Int × Int)) (x : (Int × Int)) : Le (moves_count_L1 rec_moves_count1 p1 p2 p3 p4 p5 p6 plies1 l1 x) (moves_count_L1 rec_moves_count2 p1 p2 p3 p4 p5 p6 plies1 l1 x) := by
  rcases x with ⟨n2, z1⟩
  all_goals
    unfold moves_count_L1
    try dsimp only
    repeat' (first | with_reducible exact Le.refl _ | with_reducible exact h_rec_moves_count _ _ _ _ _ _ _ | with_reducible exact moves_count_J4_le_moves_count h_rec_moves_count _ _ _ _ _ _ _ _ _ _ | with_reducible refine Le.asrt ?_ | with_reducible refine Le.ite ?_ ?_ | refine Le.bind ?_ (fun _ => ?_) | refine Le.loop2 (fun _ => ?_) | refine Le.elim2 (fun _ => ?_) (fun _ => ?_))

set_option maxRecDepth 100000 in
theorem moves_count_J2_le_moves_count {rec_moves_count1 rec_moves_count2 : List Int → Int → Int → Int → Int → Int → Int → Option Int} (h_rec_moves_count : ∀ a0 a1 a2 a3 a4 a5 a6, Le (rec_moves_count1 a0 a1 a2 a3 a4 a5 a6) (rec_moves_count2 a0 a1 a2 a3 a4 a5 a6)) (p1 : List Int) (p2 : Int) (p3 : Int) (p4 : Int) (p5 : Int) (p6 : Int) (plies1 : Int) (l1 : List (Int × Int × Int)) : Le (moves_count_J2 rec_moves_count1 p1 p2 p3 p4 p5 p6 plies1 l1) (moves_count_J2 rec_moves_count2 p1 p2 p3 p4 p5 p6 plies1 l1) := by
  unfold moves_count_J2
  repeat' (first | with_reducible exact Le.refl _ | with_reducible exact h_rec_moves_count _ _ _ _ _ _ _ | with_reducible exact moves_count_L1_le_moves_count h_rec_moves_count _ _ _ _ _ _ _ _ _ | with_reducible refine Le.asrt ?_ | with_reducible refine Le.ite ?_ ?_ | refine Le.bind ?_ (fun _ => ?_) | refine Le.loop2 (fun _ => ?_) | refine Le.elim2 (fun _ => ?_) (fun _ => ?_))

set_option maxRecDepth 100000 in
theorem moves_count_J1_le_moves_count {rec_moves_count1 rec_moves_count2 : List Int → Int → Int → Int → Int → Int → Int → Option Int} (h_rec_moves_count : ∀ a0 a1 a2 a3 a4 a5 a6, Le (rec_moves_count1 a0 a1 a2 a3 a4 a5 a6) (rec_moves_count2 a0 a1 a2 a3 a4 a5 a6)) (p1 : List Int) (p2 : Int) (p3 : Int) (p4 : Int) (p5 : Int) (p6 : Int) (plies1 : Int) (l1 : List (Int × Int × Int)) : Le (moves_count_J1 rec_moves_count1 p1 p2 p3 p4 p5 p6 plies1 l1) (moves_count_J1 rec_moves_count2 p1 p2 p3 p4 p5 p6 plies1 l1) := by
  unfold moves_count_J1
  repeat' (first | with_reducible exact Le.refl _ | with_reducible exact h_rec_moves_count _ _ _ _ _ _ _ | with_reducible exact moves_count_J2_le_moves_count h_rec_moves_count _ _ _ _ _ _ _ _ | with_reducible refine Le.asrt ?_ | with_reducible refine Le.ite ?_ ?_ | refine Le.bind ?_ (fun _ => ?_) | refine Le.loop2 (fun _ => ?_) | refine Le.elim2 (fun _ => ?_) (fun _ => ?_))

set_option maxRecDepth 100000 in
theorem moves_count_B_le {rec_moves_count1 rec_moves_count2 : List Int → Int → Int → Int → Int → Int → Int → Option Int} (h_rec_moves_count : ∀ a0 a1 a2 a3 a4 a5 a6, Le (rec_moves_count1 a0 a1 a2 a3 a4 a5 a6) (rec_moves_count2 a0 a1 a2 a3 a4 a5 a6)) (p1 : List Int) (p2 : Int) (p3 : Int) (p4 : Int) (p5 : Int) (p6 : Int) (plies1 : Int) : Le (moves_count_B rec_moves_count1 p1 p2 p3 p4 p5 p6 plies1) (moves_count_B rec_moves_count2 p1 p2 p3 p4 p5 p6 plies1) := by
  unfold moves_count_B
  repeat' (first | with_reducible exact Le.refl _ | with_reducible exact h_rec_moves_count _ _ _ _ _ _ _ | with_reducible exact moves_count_J1_le_moves_count h_rec_moves_count _ _ _ _ _ _ _ _ | with_reducible refine Le.asrt ?_ | with_reducible refine Le.ite ?_ ?_ | refine Le.bind ?_ (fun _ => ?_) | refine Le.loop2 (fun _ => ?_) | refine Le.elim2 (fun _ => ?_) (fun _ => ?_))

set_option maxRecDepth 100000 in
theorem moves_count_mF_le : ∀ (n : Nat) (p1 : List Int) (p2 : Int) (p3 : Int) (p4 : Int) (p5 : Int) (p6 : Int) (plies1 : Int), Le (moves_count_mF n p1 p2 p3 p4 p5 p6 plies1) (moves_count_mF (n + 1) p1 p2 p3 p4 p5 p6 plies1)
  | 0, _, _, _, _, _, _, _ => fun _ h => by cases h
  | n + 1, _, _, _, _, _, _, _ => moves_count_B_le (fun a0 a1 a2 a3 a4 a5 a6 => moves_count_mF_le n a0 a1 a2 a3 a4 a5 a6) _ _ _ _ _ _ _

set_option maxRecDepth 100000 in
theorem moves_count_m_of (N : Nat) (p1 : List Int) (p2 : Int) (p3 : Int) (p4 : Int) (p5 : Int) (p6 : Int) (plies1 : Int) {r : Int} (h : moves_count_mF N p1 p2 p3 p4 p5 p6 plies1 = some r) : moves_count_m p1 p2 p3 p4 p5 p6 plies1 = some r :=
  recM_mono (fun n => moves_count_mF_le n _ _ _ _ _ _ _) h

noncomputable def moves_Count_J1  (p1 : List Int) (p2 : Int) (p3 : Int) (p4 : Int) (p5 : Int) (p6 : Int) (plies1 : Int) : Option (Int × Int) :=
  (moves_count_m p1 p2 p3 p4 p5 p6 plies1).bind fun r2 => some (r2, 0)

noncomputable def moves_Count_m  (p1 : List Int) (p2 : Int) (p3 : Int) (p4 : Int) (p5 : Int) (p6 : Int) (plies1 : Int) : Option (Int × Int) :=
  (board_May_m p1 p2 p3 p4 p5 p6).bind fun r1 => if (!r1) then (some (0, 12)) else (if ((decide (plies1 < 0)) || (decide ((3 : Int) < plies1))) then (some (0, 3)) else ((moves_Count_J1 p1 p2 p3 p4 p5 p6 plies1)))

set_option maxRecDepth 100000 in
set_option maxHeartbeats 4000000 in
theorem moves_Count_w {A1 : Option Addr} {c1 : Nat} {n1 : Nat} {p1 : List Int} {p2 : Int} {p3 : Int} {p4 : Int} {p5 : Int} {p6 : Int} {plies1 : Int} {r : (Int × Int)} {w0 w : World} {B : Nat} {fs : List HP} (hm : moves_Count_m p1 p2 p3 p4 p5 p6 plies1 = some r) (hS : Sep w0 B w (fs)) (hr_p1 : RdF w0 B fs A1 (vI p1)) (_hc_p1 : p1.length ≤ c1) (_hn_p1 : n1 = p1.length) :
    Calls Try.prog 46 #[.agg #[.slice A1 n1 c1, .int .i64 p2, .int .i64 p3, .int .i64 p4, .int .i64 p5, .int .i64 p6], .int .i64 plies1] w fun e w' => e = .returned (.tuple #[.int .i64 r.1, .int .i64 r.2]) ∧ Sep w0 B w' (fs) := by
  obtain ⟨i3, hi3, hz3, hs3, hb3⟩ := info_parts Info3
  obtain rfl := _hn_p1
  unfold moves_Count_m at hm
  replace hm := start_b hm
  refine enter (l := [.agg #[.slice A1 p1.length c1, .int .i64 p2, .int .i64 p3, .int .i64 p4, .int .i64 p5, .int .i64 p6], .int .i64 plies1]) (n := 20) Try.func46 rfl rfl (by simp) (fun a hF => ?_)
  refine seqR ?_
  refine at_do (d := 2) (s := vS (Instr.box 75 (.agg #[.slice A1 p1.length c1, .int .i64 p2, .int .i64 p3, .int .i64 p4, .int .i64 p5, .int .i64 p6]))) (v := .pointer (some ⟨w.heap.size, 0, none⟩)) (w' := w.alloc (.cells #[.slice A1 p1.length c1, .int .i64 p2, .int .i64 p3, .int .i64 p4, .int .i64 p5, .int .i64 p6] 75)) hF (by kernel_rfl) (by kernel_rfl) (by kernel_rfl) (fun a hF => ?_)
  have hS : Sep w0 B (w.alloc (.cells #[.slice A1 p1.length c1, .int .i64 p2, .int .i64 p3, .int .i64 p4, .int .i64 p5, .int .i64 p6] 75)) (blk w.heap.size 75 #[.slice A1 p1.length c1, .int .i64 p2, .int .i64 p3, .int .i64 p4, .int .i64 p5, .int .i64 p6] :: (fs)) := hS.box 75 #[.slice A1 p1.length c1, .int .i64 p2, .int .i64 p3, .int .i64 p4, .int .i64 p5, .int .i64 p6]
  generalize w.heap.size = g1 at hF hS
  generalize w.alloc (.cells #[.slice A1 p1.length c1, .int .i64 p2, .int .i64 p3, .int .i64 p4, .int .i64 p5, .int .i64 p6] 75) = w at hS ⊢
  refine at_run 2 [] [] [1, 2] [pl 1 (.int .i64 plies1), pl 2 (.pointer (some ⟨g1, 0, none⟩))] hF hS (by kernel_rfl) (by kernel_rfl) ?_ (fun a w hF hS => ?_)
  · exact obs_nil
  refine at_end [1, 2] [pl 1 (.int .i64 plies1), pl 2 (.pointer (some ⟨g1, 0, none⟩))] hF rfl (by kernel_rfl) (fun hF => ?_)
  refine then_n ?_
  refine seq_cut (fun a w => Fr 20 [pl 1 (.int .i64 plies1), pl 2 (.pointer (some ⟨g1, 0, none⟩))] a ∧ Sep w0 B w (blk g1 75 #[.slice A1 p1.length c1, .int .i64 p2, .int .i64 p3, .int .i64 p4, .int .i64 p5, .int .i64 p6] :: fs) ∧ ((moves_Count_J1 p1 p2 p3 p4 p5 p6 plies1)).bind some = some r) ?_ ?_
  · rintro a w ⟨hF, hS, hm⟩
    unfold moves_Count_J1 at hm
    obtain ⟨r2, hr2, hm⟩ := call_b hm
    refine reg [⟨false, [], vS (Instr.loadAt 75 (.pointer (some ⟨g1, 0, none⟩))), .agg #[.slice A1 p1.length c1, .int .i64 p2, .int .i64 p3, .int .i64 p4, .int .i64 p5, .int .i64 p6]⟩, ⟨false, [], callFunc 128 #[.agg #[.slice A1 p1.length c1, .int .i64 p2, .int .i64 p3, .int .i64 p4, .int .i64 p5, .int .i64 p6], .int .i64 plies1], .int .i64 r2⟩] [some (.agg #[.slice A1 p1.length c1, .int .i64 p2, .int .i64 p3, .int .i64 p4, .int .i64 p5, .int .i64 p6]), none, some (.int .i64 r2), none, none] [4, 5] [pl 4 (.int .i64 r2), pl 5 (.int .i64 0)] hF hS Fol (by kernel_rfl) (by kernel_rfl) (by kernel_rfl) ?_ (fun a w hF hS => ?_)
    · exact obs_cons (ob_loadA (cs := #[.slice A1 p1.length c1, .int .i64 p2, .int .i64 p3, .int .i64 p4, .int .i64 p5, .int .i64 p6]) (by kernel_rfl) (by kernel_rfl) (fun _ _ hS => (hS.at_ 0 rfl).cellsAt 0 (by rfl))) <| obs_cons (ob_call Try.func128 (by kernel_rfl) rfl (fun _ _ hS => moves_count_w hr2 hS (fun _ hS => (hr_p1 _ (hS.dropN 1))) _hc_p1 rfl)) <| obs_nil
    refine wpIn_ret ?_
    have hS := hS.pickN 1 [] (by decide)
    have hm : some (r2, 0) = some r := hm
    obtain rfl := Option.some.inj hm
    exact retV (rs := [.tmp 4, .tmp 5]) (vs := [.int .i64 r2, .int .i64 0]) hF rfl (rv_t (by kernel_rfl) <| rv_t (by kernel_rfl) <| rv_nil) rfl ⟨rfl, hS⟩
  · refine wpIn_block ?_
    obtain ⟨r1, hr1, hm⟩ := call_b hm
    refine reg [⟨false, [], vS (Instr.loadAt 75 (.pointer (some ⟨g1, 0, none⟩))), .agg #[.slice A1 p1.length c1, .int .i64 p2, .int .i64 p3, .int .i64 p4, .int .i64 p5, .int .i64 p6]⟩, ⟨false, [], callFunc 127 #[.agg #[.slice A1 p1.length c1, .int .i64 p2, .int .i64 p3, .int .i64 p4, .int .i64 p5, .int .i64 p6]], .bool r1⟩] [some (.agg #[.slice A1 p1.length c1, .int .i64 p2, .int .i64 p3, .int .i64 p4, .int .i64 p5, .int .i64 p6]), some (.bool r1), none, none] [1, 2, 6] [pl 1 (.int .i64 plies1), pl 2 (.pointer (some ⟨g1, 0, none⟩)), pl 6 (.bool (!r1))] hF hS Fol (by kernel_rfl) (by kernel_rfl) (by kernel_rfl) ?_ (fun a w hF hS => ?_)
    · exact obs_cons (ob_loadA (cs := #[.slice A1 p1.length c1, .int .i64 p2, .int .i64 p3, .int .i64 p4, .int .i64 p5, .int .i64 p6]) (by kernel_rfl) (by kernel_rfl) (fun _ _ hS => (hS.at_ 0 rfl).cellsAt 0 (by rfl))) <| obs_cons (ob_call Try.func127 (by kernel_rfl) rfl (fun _ _ hS => board_May_w hr1 hS (fun _ hS => (hr_p1 _ (hS.dropN 1))) _hc_p1 rfl)) <| obs_nil
    refine cond_ev (t := 6) (b := !r1) hF (by kernel_rfl) (fun hb => ?_) (fun hb => ?_)
    · replace hm := if_t hm hb
      refine reg [] [] [4, 5] [pl 4 (.int .i64 0), pl 5 (.int .i64 12)] hF hS Fol (by kernel_rfl) (by kernel_rfl) (by kernel_rfl) ?_ (fun a w hF hS => ?_)
      · exact obs_nil
      refine wpIn_ret ?_
      refine block_r (then_r ?_)
      have hS := hS.pickN 1 [] (by decide)
      have hm : some (0, 12) = some r := hm
      obtain rfl := Option.some.inj hm
      exact retV (rs := [.tmp 4, .tmp 5]) (vs := [.int .i64 0, .int .i64 12]) hF rfl (rv_t (by kernel_rfl) <| rv_t (by kernel_rfl) <| rv_nil) rfl ⟨rfl, hS⟩
    · replace hm := if_f hm hb
      refine reg [] [] [1, 2, 10] [pl 1 (.int .i64 plies1), pl 2 (.pointer (some ⟨g1, 0, none⟩)), pl 10 (.bool ((decide (plies1 < 0)) || (decide ((3 : Int) < plies1))))] hF hS Fol (by kernel_rfl) (by kernel_rfl) (by kernel_rfl) ?_ (fun a w hF hS => ?_)
      · exact obs_nil
      refine cond_ev (t := 10) (b := (decide (plies1 < 0)) || (decide ((3 : Int) < plies1))) hF (by kernel_rfl) (fun hb => ?_) (fun hb => ?_)
      · replace hm := if_t hm hb
        refine reg [] [] [4, 5] [pl 4 (.int .i64 0), pl 5 (.int .i64 3)] hF hS Fol (by kernel_rfl) (by kernel_rfl) (by kernel_rfl) ?_ (fun a w hF hS => ?_)
        · exact obs_nil
        refine wpIn_ret ?_
        refine block_r (then_r ?_)
        have hS := hS.pickN 1 [] (by decide)
        have hm : some (0, 3) = some r := hm
        obtain rfl := Option.some.inj hm
        exact retV (rs := [.tmp 4, .tmp 5]) (vs := [.int .i64 0, .int .i64 3]) hF rfl (rv_t (by kernel_rfl) <| rv_t (by kernel_rfl) <| rv_nil) rfl ⟨rfl, hS⟩
      · replace hm := if_f hm hb
        refine wpIn_skip ?_
        refine block_n ?_
        refine then_n ?_
        exact ⟨hF.weak [1, 2] (by kernel_rfl), hS, hm⟩

noncomputable def gameroomref_within_m  (n1 : Int) (low1 : Int) (high1 : Int) : Option Bool :=
  some ((decide (low1 ≤ n1)) && (decide (n1 ≤ high1)))

set_option maxRecDepth 100000 in
set_option maxHeartbeats 4000000 in
theorem gameroomref_within_w {n1 : Int} {low1 : Int} {high1 : Int} {r : Bool} {w0 w : World} {B : Nat} {fs : List HP} (hm : gameroomref_within_m n1 low1 high1 = some r) (hS : Sep w0 B w (fs)) :
    Calls Try.prog 74 #[.int .i64 n1, .int .i64 low1, .int .i64 high1] w fun e w' => e = .returned (.bool r) ∧ Sep w0 B w' (fs) := by
  unfold gameroomref_within_m at hm
  replace hm := start_b hm
  refine enter (l := [.int .i64 n1, .int .i64 low1, .int .i64 high1]) (n := 15) Try.func74 rfl rfl (by simp) (fun a hF => ?_)
  refine reg [] [] [0, 1, 2] [pl 0 (.int .i64 n1), pl 1 (.int .i64 low1), pl 2 (.int .i64 high1)] hF hS Fol (by kernel_rfl) (by kernel_rfl) (by kernel_rfl) ?_ (fun a w hF hS => ?_)
  · exact obs_nil
  refine reg [] [] [6] [pl 6 (.bool ((decide (low1 ≤ n1)) && (decide (n1 ≤ high1))))] hF hS Fol (by kernel_rfl) (by kernel_rfl) (by kernel_rfl) ?_ (fun a w hF hS => ?_)
  · exact obs_nil
  refine wpIn_ret ?_
  have hm : some ((decide (low1 ≤ n1)) && (decide (n1 ≤ high1))) = some r := hm
  obtain rfl := Option.some.inj hm
  exact retV (rs := [.tmp 6]) (vs := [.bool ((decide (low1 ≤ n1)) && (decide (n1 ≤ high1)))]) hF rfl (rv_t (by kernel_rfl) <| rv_nil) rfl ⟨rfl, hS⟩

noncomputable def gameroomref_size_J1  (n1 : Int) : Option Int :=
  some n1

noncomputable def gameroomref_size_m  (n1 : Int) : Option Int :=
  if (decide (n1 < 0)) then (some (w64 (0 - n1))) else ((gameroomref_size_J1 n1))

set_option maxRecDepth 100000 in
set_option maxHeartbeats 4000000 in
theorem gameroomref_size_w {n1 : Int} {r : Int} {w0 w : World} {B : Nat} {fs : List HP} (hm : gameroomref_size_m n1 = some r) (hS : Sep w0 B w (fs)) :
    Calls Try.prog 129 #[.int .i64 n1] w fun e w' => e = .returned (.int .i64 r) ∧ Sep w0 B w' (fs) := by
  unfold gameroomref_size_m at hm
  replace hm := start_b hm
  refine enter (l := [.int .i64 n1]) (n := 8) Try.func129 rfl rfl (by simp) (fun a hF => ?_)
  refine reg [] [] [0] [pl 0 (.int .i64 n1)] hF hS Fol (by kernel_rfl) (by kernel_rfl) (by kernel_rfl) ?_ (fun a w hF hS => ?_)
  · exact obs_nil
  refine seq_cut (fun a w => Fr 8 [pl 0 (.int .i64 n1)] a ∧ Sep w0 B w (fs) ∧ ((gameroomref_size_J1 n1)).bind some = some r) ?_ ?_
  · rintro a w ⟨hF, hS, hm⟩
    unfold gameroomref_size_J1 at hm
    refine reg [] [] [2] [pl 2 (.int .i64 n1)] hF hS Fol (by kernel_rfl) (by kernel_rfl) (by kernel_rfl) ?_ (fun a w hF hS => ?_)
    · exact obs_nil
    refine wpIn_ret ?_
    have hm : some n1 = some r := hm
    obtain rfl := Option.some.inj hm
    exact retV (rs := [.tmp 2]) (vs := [.int .i64 n1]) hF rfl (rv_t (by kernel_rfl) <| rv_nil) rfl ⟨rfl, hS⟩
  · refine reg [] [] [0, 4] [pl 0 (.int .i64 n1), pl 4 (.bool (decide (n1 < 0)))] hF hS Fol (by kernel_rfl) (by kernel_rfl) (by kernel_rfl) ?_ (fun a w hF hS => ?_)
    · exact obs_nil
    refine cond_ev (t := 4) (b := decide (n1 < 0)) hF (by kernel_rfl) (fun hb => ?_) (fun hb => ?_)
    · replace hm := if_t hm hb
      refine reg [] [] [2] [pl 2 (.int .i64 (w64 (0 - n1)))] hF hS Fol (by kernel_rfl) (by kernel_rfl) (by kernel_rfl) ?_ (fun a w hF hS => ?_)
      · exact obs_nil
      refine wpIn_ret ?_
      refine then_r ?_
      have hm : some (w64 (0 - n1)) = some r := hm
      obtain rfl := Option.some.inj hm
      exact retV (rs := [.tmp 2]) (vs := [.int .i64 (w64 (0 - n1))]) hF rfl (rv_t (by kernel_rfl) <| rv_nil) rfl ⟨rfl, hS⟩
    · replace hm := if_f hm hb
      refine wpIn_skip ?_
      refine then_n ?_
      exact ⟨hF.weak [0] (by kernel_rfl), hS, hm⟩

noncomputable def gameroomref_at_J3  (i1 : Int) : Option (St Int (Fl Unit Int)) :=
  some (.next (w64 (i1 + 1)))

noncomputable def gameroomref_at_J2  (l1 : List Int) (n2 : Int) (i1 : Int) : Option (St Int (Fl Unit Int)) :=
  asrt (0 ≤ i1 ∧ i1 < (l1.length : Int)) <| if ((geti l1 i1) == n2) then (some (.done (.ret i1))) else ((gameroomref_at_J3 i1))

noncomputable def gameroomref_at_J1  : Option Int :=
  some (-1)

noncomputable def gameroomref_at_K1  : (Fl Unit Int) → Option Int :=
  fun (x : (Fl Unit Int)) => match x with | .go _ => gameroomref_at_J1 | .ret x => some x

noncomputable def gameroomref_at_L1  (l1 : List Int) (n2 : Int) : Int → Option (St Int (Fl Unit Int)) :=
  fun (x : Int) => match x with | i1 => if (decide (i1 < (l1.length : Int))) then ((gameroomref_at_J2 l1 n2 i1)) else (some (.done (.go ())))

noncomputable def gameroomref_at_m  (l1 : List Int) (n2 : Int) : Option Int :=
  (loop (gameroomref_at_L1 l1 n2) 0).bind gameroomref_at_K1

set_option maxRecDepth 100000 in
set_option maxHeartbeats 4000000 in
theorem gameroomref_at_w {A1 : Option Addr} {c1 : Nat} {n1 : Nat} {l1 : List Int} {n2 : Int} {r : Int} {w0 w : World} {B : Nat} {fs : List HP} (hm : gameroomref_at_m l1 n2 = some r) (hS : Sep w0 B w (fs)) (hr_l1 : RdF w0 B fs A1 (vI l1)) (_hc_l1 : l1.length ≤ c1) (_hn_l1 : n1 = l1.length) :
    Calls Try.prog 75 #[.slice A1 n1 c1, .int .i64 n2] w fun e w' => e = .returned (.int .i64 r) ∧ Sep w0 B w' (fs) := by
  obtain ⟨i3, hi3, hz3, hs3, hb3⟩ := info_parts Info3
  obtain rfl := _hn_l1
  unfold gameroomref_at_m at hm
  replace hm := start_b hm
  refine enter (l := [.slice A1 l1.length c1, .int .i64 n2]) (n := 19) Try.func75 rfl rfl (by simp) (fun a hF => ?_)
  refine reg [] [] [0, 1] [pl 0 (.slice A1 l1.length c1), pl 1 (.int .i64 n2)] hF hS Fol (by kernel_rfl) (by kernel_rfl) (by kernel_rfl) ?_ (fun a w hF hS => ?_)
  · exact obs_nil
  refine seq_cut (fun a w => Fr 19 [] a ∧ Sep w0 B w (fs) ∧ (gameroomref_at_J1).bind some = some r) ?_ ?_
  · rintro a w ⟨hF, hS, hm⟩
    unfold gameroomref_at_J1 at hm
    refine reg [] [] [4] [pl 4 (.int .i64 (-1))] hF hS Fol (by kernel_rfl) (by kernel_rfl) (by kernel_rfl) ?_ (fun a w hF hS => ?_)
    · exact obs_nil
    refine wpIn_ret ?_
    have hm : some (-1) = some r := hm
    obtain rfl := Option.some.inj hm
    exact retV (rs := [.tmp 4]) (vs := [.int .i64 (-1)]) hF rfl (rv_t (by kernel_rfl) <| rv_nil) rfl ⟨rfl, hS⟩
  · refine reg [] [] [0, 1, 5] [pl 0 (.slice A1 l1.length c1), pl 1 (.int .i64 n2), pl 5 (.int .i64 0)] hF hS Fol (by kernel_rfl) (by kernel_rfl) (by kernel_rfl) ?_ (fun a w hF hS => ?_)
    · exact obs_nil
    refine wpIn_block ?_
    refine wp_loop_model (S := Int) (R := (Fl Unit Int)) (gameroomref_at_L1 l1 n2) (fun x => (gameroomref_at_K1 x).bind some) r (fun (x : Int) a w => Fr 19 [pl 0 (.slice A1 l1.length c1), pl 1 (.int .i64 n2), pl 5 (.int .i64 x)] a ∧ Sep w0 B w (fs)) (assoc_b hm) ⟨hF.weak [0, 1, 5] (by kernel_rfl), hS⟩ ?_
    clear hF hS hm
    rintro nn1 i1 a w ⟨hF, hS⟩ hm
    generalize hφ1 : stK (gameroomref_at_L1 l1 n2) nn1 (fun x => (gameroomref_at_K1 x).bind some) = φ1 at hm
    unfold gameroomref_at_L1 at hm
    dsimp only at hm
    refine seq_cut (fun a w => Fr 19 [pl 0 (.slice A1 l1.length c1), pl 1 (.int .i64 n2), pl 5 (.int .i64 i1)] a ∧ Sep w0 B w (fs) ∧ ((gameroomref_at_J2 l1 n2 i1)).bind φ1 = some r) ?_ ?_
    · rintro a w ⟨hF, hS, hm⟩
      unfold gameroomref_at_J2 at hm
      refine seq_cut (fun a w => Fr 19 [pl 0 (.slice A1 l1.length c1), pl 1 (.int .i64 n2), pl 5 (.int .i64 i1)] a ∧ Sep w0 B w (fs) ∧ ((gameroomref_at_J3 i1)).bind φ1 = some r) ?_ ?_
      · rintro a w ⟨hF, hS, hm⟩
        unfold gameroomref_at_J3 at hm
        refine reg1 [] [] [0, 1, 5] [pl 0 (.slice A1 l1.length c1), pl 1 (.int .i64 n2), pl 5 (.int .i64 (w64 (i1 + 1)))] hF hS Fol (by kernel_rfl) (by kernel_rfl) (by kernel_rfl) ?_ (fun a w hF hS => ?_)
        · exact obs_nil
        refine then_n ?_
        rw [← hφ1] at hm
        exact ⟨(w64 (i1 + 1)), ⟨hF.weak [0, 1, 5] (by kernel_rfl), hS⟩, hm⟩
      · refine wpIn_block ?_
        obtain ⟨hp1, hm⟩ := asrt_b hm
        refine reg [⟨true, [], vS (Instr.indexAt 27 (.slice A1 l1.length c1) (.int .i64 i1)), .pointer (some (sAddr A1 i1))⟩, ⟨false, [], vS (Instr.loadAt 3 (.pointer (some (sAddr A1 i1)))), .int .i64 (geti l1 i1)⟩] [none, none, some (.pointer (some (sAddr A1 i1))), some (.int .i64 (geti l1 i1)), none, none] [0, 1, 5, 17] [pl 0 (.slice A1 l1.length c1), pl 1 (.int .i64 n2), pl 5 (.int .i64 i1), pl 17 (.bool ((geti l1 i1) == n2))] hF hS Fol (by kernel_rfl) (by kernel_rfl) (by kernel_rfl) ?_ (fun a w hF hS => ?_)
        · exact obs_cons (ob_ix1 (f := (Value.int .i64)) (m := l1) Und27 hi3 hs3 (hr_l1 _ (hS.dropN 0)) rfl (fun _ => hp1)) <| obs_cons (ob_get1 (n := l1.length) (m := l1) (Value.int .i64) (0 : Int) Agg3 (fun _ hS => ⟨_, (hr_l1 _ (hS.dropN 0))⟩) (fun _ hS => rfl) (fun _ => hp1)) <| obs_nil
        refine cond_ev (t := 17) (b := ((geti l1 i1) == n2)) hF (by kernel_rfl) (fun hb => ?_) (fun hb => ?_)
        · replace hm := if_t hm hb
          refine reg [] [] [4] [pl 4 (.int .i64 i1)] hF hS Fol (by kernel_rfl) (by kernel_rfl) (by kernel_rfl) ?_ (fun a w hF hS => ?_)
          · exact obs_nil
          refine wpIn_ret ?_
          refine block_r (then_r (then_r (block_r (then_r ?_))))
          rw [← hφ1] at hm
          replace hm := done_b hm
          unfold gameroomref_at_K1 at hm
          try dsimp only at hm
          have hm : some i1 = some r := hm
          obtain rfl := Option.some.inj hm
          exact retV (rs := [.tmp 4]) (vs := [.int .i64 i1]) hF rfl (rv_t (by kernel_rfl) <| rv_nil) rfl ⟨rfl, hS⟩
        · replace hm := if_f hm hb
          refine wpIn_skip ?_
          refine block_n ?_
          refine then_n ?_
          exact ⟨hF.weak [0, 1, 5] (by kernel_rfl), hS, hm⟩
    · refine reg [] [] [0, 1, 5, 9] [pl 0 (.slice A1 l1.length c1), pl 1 (.int .i64 n2), pl 5 (.int .i64 i1), pl 9 (.bool (decide (i1 < (l1.length : Int))))] hF hS Fol (by kernel_rfl) (by kernel_rfl) (by kernel_rfl) ?_ (fun a w hF hS => ?_)
      · exact obs_nil
      refine cond_ev (t := 9) (b := decide (i1 < (l1.length : Int))) hF (by kernel_rfl) (fun hb => ?_) (fun hb => ?_)
      · replace hm := if_t hm hb
        refine wpIn_skip ?_
        refine then_n ?_
        exact ⟨hF.weak [0, 1, 5] (by kernel_rfl), hS, hm⟩
      · replace hm := if_f hm hb
        refine wpIn_exit ?_
        refine then_e (then_e (block_e (then_n ?_)))
        rw [← hφ1] at hm
        replace hm := done_b hm
        unfold gameroomref_at_K1 at hm
        try dsimp only at hm
        have hm : (gameroomref_at_J1).bind some = some r := hm
        exact ⟨hF.weak [] (by kernel_rfl), hS, hm⟩

noncomputable def gameroomref_pieceSide_J2  : Option Int :=
  some (-1)

noncomputable def gameroomref_pieceSide_J1  (x1 : Int) : Option Int :=
  if (decide (x1 < 0)) then (some 1) else (gameroomref_pieceSide_J2)

noncomputable def gameroomref_pieceSide_m  (x1 : Int) : Option Int :=
  if (decide ((0 : Int) < x1)) then (some 0) else ((gameroomref_pieceSide_J1 x1))

set_option maxRecDepth 100000 in
set_option maxHeartbeats 4000000 in
theorem gameroomref_pieceSide_w {x1 : Int} {r : Int} {w0 w : World} {B : Nat} {fs : List HP} (hm : gameroomref_pieceSide_m x1 = some r) (hS : Sep w0 B w (fs)) :
    Calls Try.prog 138 #[.int .i64 x1] w fun e w' => e = .returned (.int .i64 r) ∧ Sep w0 B w' (fs) := by
  unfold gameroomref_pieceSide_m at hm
  replace hm := start_b hm
  refine enter (l := [.int .i64 x1]) (n := 7) Try.func138 rfl rfl (by simp) (fun a hF => ?_)
  refine reg [] [] [0] [pl 0 (.int .i64 x1)] hF hS Fol (by kernel_rfl) (by kernel_rfl) (by kernel_rfl) ?_ (fun a w hF hS => ?_)
  · exact obs_nil
  refine seq_cut (fun a w => Fr 7 [pl 0 (.int .i64 x1)] a ∧ Sep w0 B w (fs) ∧ ((gameroomref_pieceSide_J1 x1)).bind some = some r) ?_ ?_
  · rintro a w ⟨hF, hS, hm⟩
    unfold gameroomref_pieceSide_J1 at hm
    refine seq_cut (fun a w => Fr 7 [] a ∧ Sep w0 B w (fs) ∧ (gameroomref_pieceSide_J2).bind some = some r) ?_ ?_
    · rintro a w ⟨hF, hS, hm⟩
      unfold gameroomref_pieceSide_J2 at hm
      refine reg [] [] [2] [pl 2 (.int .i64 (-1))] hF hS Fol (by kernel_rfl) (by kernel_rfl) (by kernel_rfl) ?_ (fun a w hF hS => ?_)
      · exact obs_nil
      refine wpIn_ret ?_
      have hm : some (-1) = some r := hm
      obtain rfl := Option.some.inj hm
      exact retV (rs := [.tmp 2]) (vs := [.int .i64 (-1)]) hF rfl (rv_t (by kernel_rfl) <| rv_nil) rfl ⟨rfl, hS⟩
    · refine reg [] [] [6] [pl 6 (.bool (decide (x1 < 0)))] hF hS Fol (by kernel_rfl) (by kernel_rfl) (by kernel_rfl) ?_ (fun a w hF hS => ?_)
      · exact obs_nil
      refine cond_ev (t := 6) (b := decide (x1 < 0)) hF (by kernel_rfl) (fun hb => ?_) (fun hb => ?_)
      · replace hm := if_t hm hb
        refine reg [] [] [2] [pl 2 (.int .i64 1)] hF hS Fol (by kernel_rfl) (by kernel_rfl) (by kernel_rfl) ?_ (fun a w hF hS => ?_)
        · exact obs_nil
        refine wpIn_ret ?_
        refine then_r ?_
        have hm : some 1 = some r := hm
        obtain rfl := Option.some.inj hm
        exact retV (rs := [.tmp 2]) (vs := [.int .i64 1]) hF rfl (rv_t (by kernel_rfl) <| rv_nil) rfl ⟨rfl, hS⟩
      · replace hm := if_f hm hb
        refine wpIn_skip ?_
        refine then_n ?_
        exact ⟨hF.weak [] (by kernel_rfl), hS, hm⟩
  · refine reg [] [] [0, 4] [pl 0 (.int .i64 x1), pl 4 (.bool (decide ((0 : Int) < x1)))] hF hS Fol (by kernel_rfl) (by kernel_rfl) (by kernel_rfl) ?_ (fun a w hF hS => ?_)
    · exact obs_nil
    refine cond_ev (t := 4) (b := decide ((0 : Int) < x1)) hF (by kernel_rfl) (fun hb => ?_) (fun hb => ?_)
    · replace hm := if_t hm hb
      refine reg [] [] [2] [pl 2 (.int .i64 0)] hF hS Fol (by kernel_rfl) (by kernel_rfl) (by kernel_rfl) ?_ (fun a w hF hS => ?_)
      · exact obs_nil
      refine wpIn_ret ?_
      refine then_r ?_
      have hm : some 0 = some r := hm
      obtain rfl := Option.some.inj hm
      exact retV (rs := [.tmp 2]) (vs := [.int .i64 0]) hF rfl (rv_t (by kernel_rfl) <| rv_nil) rfl ⟨rfl, hS⟩
    · replace hm := if_f hm hb
      refine wpIn_skip ?_
      refine then_n ?_
      exact ⟨hF.weak [0] (by kernel_rfl), hS, hm⟩

noncomputable def gameroomref_signOf_J2  : Option Int :=
  some 0

noncomputable def gameroomref_signOf_J1  (n1 : Int) : Option Int :=
  if (decide (n1 < 0)) then (some (-1)) else (gameroomref_signOf_J2)

noncomputable def gameroomref_signOf_m  (n1 : Int) : Option Int :=
  if (decide ((0 : Int) < n1)) then (some 1) else ((gameroomref_signOf_J1 n1))

set_option maxRecDepth 100000 in
set_option maxHeartbeats 4000000 in
theorem gameroomref_signOf_w {n1 : Int} {r : Int} {w0 w : World} {B : Nat} {fs : List HP} (hm : gameroomref_signOf_m n1 = some r) (hS : Sep w0 B w (fs)) :
    Calls Try.prog 208 #[.int .i64 n1] w fun e w' => e = .returned (.int .i64 r) ∧ Sep w0 B w' (fs) := by
  unfold gameroomref_signOf_m at hm
  replace hm := start_b hm
  refine enter (l := [.int .i64 n1]) (n := 7) Try.func208 rfl rfl (by simp) (fun a hF => ?_)
  refine reg [] [] [0] [pl 0 (.int .i64 n1)] hF hS Fol (by kernel_rfl) (by kernel_rfl) (by kernel_rfl) ?_ (fun a w hF hS => ?_)
  · exact obs_nil
  refine seq_cut (fun a w => Fr 7 [pl 0 (.int .i64 n1)] a ∧ Sep w0 B w (fs) ∧ ((gameroomref_signOf_J1 n1)).bind some = some r) ?_ ?_
  · rintro a w ⟨hF, hS, hm⟩
    unfold gameroomref_signOf_J1 at hm
    refine seq_cut (fun a w => Fr 7 [] a ∧ Sep w0 B w (fs) ∧ (gameroomref_signOf_J2).bind some = some r) ?_ ?_
    · rintro a w ⟨hF, hS, hm⟩
      unfold gameroomref_signOf_J2 at hm
      refine reg [] [] [2] [pl 2 (.int .i64 0)] hF hS Fol (by kernel_rfl) (by kernel_rfl) (by kernel_rfl) ?_ (fun a w hF hS => ?_)
      · exact obs_nil
      refine wpIn_ret ?_
      have hm : some 0 = some r := hm
      obtain rfl := Option.some.inj hm
      exact retV (rs := [.tmp 2]) (vs := [.int .i64 0]) hF rfl (rv_t (by kernel_rfl) <| rv_nil) rfl ⟨rfl, hS⟩
    · refine reg [] [] [6] [pl 6 (.bool (decide (n1 < 0)))] hF hS Fol (by kernel_rfl) (by kernel_rfl) (by kernel_rfl) ?_ (fun a w hF hS => ?_)
      · exact obs_nil
      refine cond_ev (t := 6) (b := decide (n1 < 0)) hF (by kernel_rfl) (fun hb => ?_) (fun hb => ?_)
      · replace hm := if_t hm hb
        refine reg [] [] [2] [pl 2 (.int .i64 (-1))] hF hS Fol (by kernel_rfl) (by kernel_rfl) (by kernel_rfl) ?_ (fun a w hF hS => ?_)
        · exact obs_nil
        refine wpIn_ret ?_
        refine then_r ?_
        have hm : some (-1) = some r := hm
        obtain rfl := Option.some.inj hm
        exact retV (rs := [.tmp 2]) (vs := [.int .i64 (-1)]) hF rfl (rv_t (by kernel_rfl) <| rv_nil) rfl ⟨rfl, hS⟩
      · replace hm := if_f hm hb
        refine wpIn_skip ?_
        refine then_n ?_
        exact ⟨hF.weak [] (by kernel_rfl), hS, hm⟩
  · refine reg [] [] [0, 4] [pl 0 (.int .i64 n1), pl 4 (.bool (decide ((0 : Int) < n1)))] hF hS Fol (by kernel_rfl) (by kernel_rfl) (by kernel_rfl) ?_ (fun a w hF hS => ?_)
    · exact obs_nil
    refine cond_ev (t := 4) (b := decide ((0 : Int) < n1)) hF (by kernel_rfl) (fun hb => ?_) (fun hb => ?_)
    · replace hm := if_t hm hb
      refine reg [] [] [2] [pl 2 (.int .i64 1)] hF hS Fol (by kernel_rfl) (by kernel_rfl) (by kernel_rfl) ?_ (fun a w hF hS => ?_)
      · exact obs_nil
      refine wpIn_ret ?_
      refine then_r ?_
      have hm : some 1 = some r := hm
      obtain rfl := Option.some.inj hm
      exact retV (rs := [.tmp 2]) (vs := [.int .i64 1]) hF rfl (rv_t (by kernel_rfl) <| rv_nil) rfl ⟨rfl, hS⟩
    · replace hm := if_f hm hb
      refine wpIn_skip ?_
      refine then_n ?_
      exact ⟨hF.weak [0] (by kernel_rfl), hS, hm⟩

noncomputable def gameroomref_Attacks_J6  (from1 : Int) (to1 : Int) (k1 : Int) : Option (St Int (Fl Unit Bool)) :=
  (gameroomref_signOf_m (w64 ((Int.tmod to1 8) - (Int.tmod from1 8)))).bind fun r12 => (gameroomref_signOf_m (w64 ((w64 (Int.tdiv to1 8)) - (w64 (Int.tdiv from1 8))))).bind fun r13 => some (.next (w64 (k1 + (w64 (r12 + (w64 (8 * r13)))))))

noncomputable def gameroomref_Attacks_J5  (places1 : List Int) (from1 : Int) (to1 : Int) (k1 : Int) : Option (St Int (Fl Unit Bool)) :=
  asrt (0 ≤ k1 ∧ k1 < (places1.length : Int)) <| if ((geti places1 k1) != 0) then (some (.done (.ret false))) else ((gameroomref_Attacks_J6 from1 to1 k1))

noncomputable def gameroomref_Attacks_J4  : Option Bool :=
  some true

noncomputable def gameroomref_Attacks_K1  : (Fl Unit Bool) → Option Bool :=
  fun (x : (Fl Unit Bool)) => match x with | .go _ => gameroomref_Attacks_J4 | .ret x => some x

noncomputable def gameroomref_Attacks_L1  (places1 : List Int) (from1 : Int) (to1 : Int) : Int → Option (St Int (Fl Unit Bool)) :=
  fun (x : Int) => match x with | k1 => if (k1 != to1) then ((gameroomref_Attacks_J5 places1 from1 to1 k1)) else (some (.done (.go ())))

noncomputable def gameroomref_Attacks_J3  (places1 : List Int) (from1 : Int) (to1 : Int) : Option Bool :=
  (gameroomref_signOf_m (w64 ((Int.tmod to1 8) - (Int.tmod from1 8)))).bind fun r10 => (gameroomref_signOf_m (w64 ((w64 (Int.tdiv to1 8)) - (w64 (Int.tdiv from1 8))))).bind fun r11 => (loop (gameroomref_Attacks_L1 places1 from1 to1) (w64 ((w64 (from1 + r10)) + (w64 (8 * r11))))).bind gameroomref_Attacks_K1

noncomputable def gameroomref_Attacks_J2  (places1 : List Int) (from1 : Int) (to1 : Int) : Option Bool :=
  (gameroomref_size_m (w64 ((Int.tmod to1 8) - (Int.tmod from1 8)))).bind fun r6 => (gameroomref_size_m (w64 ((w64 (Int.tdiv to1 8)) - (w64 (Int.tdiv from1 8))))).bind fun r7 => ((if (!(((geti places1 from1) == 0) || ((!(r6 == r7)) && (!(((w64 ((Int.tmod to1 8) - (Int.tmod from1 8))) == 0) || ((w64 ((w64 (Int.tdiv to1 8)) - (w64 (Int.tdiv from1 8)))) == 0)))))) then gameroomref_size_m (geti places1 from1) else some 0)).bind fun r8 => ((if (!((((geti places1 from1) == 0) || ((!(r6 == r7)) && (!(((w64 ((Int.tmod to1 8) - (Int.tmod from1 8))) == 0) || ((w64 ((w64 (Int.tdiv to1 8)) - (w64 (Int.tdiv from1 8)))) == 0))))) || ((r8 == 3) && (!(r6 == r7))))) then gameroomref_size_m (geti places1 from1) else some 0)).bind fun r9 => if (((((geti places1 from1) == 0) || ((!(r6 == r7)) && (!(((w64 ((Int.tmod to1 8) - (Int.tmod from1 8))) == 0) || ((w64 ((w64 (Int.tdiv to1 8)) - (w64 (Int.tdiv from1 8)))) == 0))))) || ((r8 == 3) && (!(r6 == r7)))) || ((r9 == 4) && (!(((w64 ((Int.tmod to1 8) - (Int.tmod from1 8))) == 0) || ((w64 ((w64 (Int.tdiv to1 8)) - (w64 (Int.tdiv from1 8)))) == 0))))) then (some false) else ((gameroomref_Attacks_J3 places1 from1 to1))

noncomputable def gameroomref_Attacks_J1  (places1 : List Int) (from1 : Int) (to1 : Int) : Option Bool :=
  (gameroomref_size_m (geti places1 from1)).bind fun r1 => if (r1 == 1) then ((gameroomref_size_m (w64 ((Int.tmod to1 8) - (Int.tmod from1 8)))).bind fun r2 => some ((r2 == 1) && ((w64 ((w64 (Int.tdiv to1 8)) - (w64 (Int.tdiv from1 8)))) == (geti places1 from1)))) else (if (r1 == 2) then ((gameroomref_size_m (w64 ((w64 ((Int.tmod to1 8) - (Int.tmod from1 8))) * (w64 ((w64 (Int.tdiv to1 8)) - (w64 (Int.tdiv from1 8))))))).bind fun r3 => some (r3 == 2)) else (if (r1 == 6) then ((gameroomref_size_m (w64 ((Int.tmod to1 8) - (Int.tmod from1 8)))).bind fun r4 => ((if (decide (r4 ≤ 1)) then gameroomref_size_m (w64 ((w64 (Int.tdiv to1 8)) - (w64 (Int.tdiv from1 8)))) else some 0)).bind fun r5 => some ((decide (r4 ≤ 1)) && (decide (r5 ≤ 1)))) else ((gameroomref_Attacks_J2 places1 from1 to1))))

noncomputable def gameroomref_Attacks_m  (places1 : List Int) (from1 : Int) (to1 : Int) : Option Bool :=
  asrt (0 ≤ from1 ∧ from1 < (places1.length : Int)) <| if (((w64 ((Int.tmod to1 8) - (Int.tmod from1 8))) == 0) && ((w64 ((w64 (Int.tdiv to1 8)) - (w64 (Int.tdiv from1 8)))) == 0)) then (some false) else ((gameroomref_Attacks_J1 places1 from1 to1))

set_option maxRecDepth 100000 in
set_option maxHeartbeats 4000000 in
theorem gameroomref_Attacks_w {A1 : Option Addr} {c1 : Nat} {n1 : Nat} {places1 : List Int} {from1 : Int} {to1 : Int} {r : Bool} {w0 w : World} {B : Nat} {fs : List HP} (hm : gameroomref_Attacks_m places1 from1 to1 = some r) (hS : Sep w0 B w (fs)) (hr_places1 : RdF w0 B fs A1 (vI places1)) (_hc_places1 : places1.length ≤ c1) (_hn_places1 : n1 = places1.length) :
    Calls Try.prog 207 #[.slice A1 n1 c1, .int .i64 from1, .int .i64 to1] w fun e w' => e = .returned (.bool r) ∧ Sep w0 B w' (fs) := by
  obtain ⟨i3, hi3, hz3, hs3, hb3⟩ := info_parts Info3
  obtain rfl := _hn_places1
  unfold gameroomref_Attacks_m at hm
  replace hm := start_b hm
  refine enter (l := [.slice A1 places1.length c1, .int .i64 from1, .int .i64 to1]) (n := 125) Try.func207 rfl rfl (by simp) (fun a hF => ?_)
  refine reg [] [] [0, 1, 2] [pl 0 (.slice A1 places1.length c1), pl 1 (.int .i64 from1), pl 2 (.int .i64 to1)] hF hS Fol (by kernel_rfl) (by kernel_rfl) (by kernel_rfl) ?_ (fun a w hF hS => ?_)
  · exact obs_nil
  refine reg [] [] [0, 1, 2, 7, 8] [pl 0 (.slice A1 places1.length c1), pl 1 (.int .i64 from1), pl 2 (.int .i64 to1), pl 7 (.int .i64 (w64 ((Int.tmod to1 8) - (Int.tmod from1 8)))), pl 8 (.int .i64 (w64 ((w64 (Int.tdiv to1 8)) - (w64 (Int.tdiv from1 8)))))] hF hS Fol (by kernel_rfl) (by kernel_rfl) (by kernel_rfl) ?_ (fun a w hF hS => ?_)
  · exact obs_nil
  obtain ⟨hp1, hm⟩ := asrt_b hm
  refine reg [⟨true, [], vS (Instr.indexAt 27 (.slice A1 places1.length c1) (.int .i64 from1)), .pointer (some (sAddr A1 from1))⟩, ⟨false, [], vS (Instr.loadAt 3 (.pointer (some (sAddr A1 from1)))), .int .i64 (geti places1 from1)⟩] [none, none, some (.pointer (some (sAddr A1 from1))), some (.int .i64 (geti places1 from1)), none] [0, 1, 2, 7, 8, 9] [pl 0 (.slice A1 places1.length c1), pl 1 (.int .i64 from1), pl 2 (.int .i64 to1), pl 7 (.int .i64 (w64 ((Int.tmod to1 8) - (Int.tmod from1 8)))), pl 8 (.int .i64 (w64 ((w64 (Int.tdiv to1 8)) - (w64 (Int.tdiv from1 8))))), pl 9 (.int .i64 (geti places1 from1))] hF hS Fol (by kernel_rfl) (by kernel_rfl) (by kernel_rfl) ?_ (fun a w hF hS => ?_)
  · exact obs_cons (ob_ix1 (f := (Value.int .i64)) (m := places1) Und27 hi3 hs3 (hr_places1 _ (hS.dropN 0)) rfl (fun _ => hp1)) <| obs_cons (ob_get1 (n := places1.length) (m := places1) (Value.int .i64) (0 : Int) Agg3 (fun _ hS => ⟨_, (hr_places1 _ (hS.dropN 0))⟩) (fun _ hS => rfl) (fun _ => hp1)) <| obs_nil
  refine seq_cut (fun a w => Fr 125 [pl 0 (.slice A1 places1.length c1), pl 1 (.int .i64 from1), pl 2 (.int .i64 to1), pl 7 (.int .i64 (w64 ((Int.tmod to1 8) - (Int.tmod from1 8)))), pl 8 (.int .i64 (w64 ((w64 (Int.tdiv to1 8)) - (w64 (Int.tdiv from1 8))))), pl 9 (.int .i64 (geti places1 from1))] a ∧ Sep w0 B w (fs) ∧ ((gameroomref_Attacks_J1 places1 from1 to1)).bind some = some r) ?_ ?_
  · rintro a w ⟨hF, hS, hm⟩
    unfold gameroomref_Attacks_J1 at hm
    refine seq_cut (fun a w => Fr 125 [pl 0 (.slice A1 places1.length c1), pl 1 (.int .i64 from1), pl 2 (.int .i64 to1), pl 7 (.int .i64 (w64 ((Int.tmod to1 8) - (Int.tmod from1 8)))), pl 8 (.int .i64 (w64 ((w64 (Int.tdiv to1 8)) - (w64 (Int.tdiv from1 8))))), pl 9 (.int .i64 (geti places1 from1))] a ∧ Sep w0 B w (fs) ∧ ((gameroomref_Attacks_J2 places1 from1 to1)).bind some = some r) ?_ ?_
    · rintro a w ⟨hF, hS, hm⟩
      unfold gameroomref_Attacks_J2 at hm
      obtain ⟨r6, hr6, hm⟩ := call_b hm
      obtain ⟨r7, hr7, hm⟩ := call_b hm
      refine reg [⟨false, [], callFunc 129 #[.int .i64 (w64 ((Int.tmod to1 8) - (Int.tmod from1 8)))], .int .i64 r6⟩, ⟨false, [], callFunc 129 #[.int .i64 (w64 ((w64 (Int.tdiv to1 8)) - (w64 (Int.tdiv from1 8))))], .int .i64 r7⟩] [none, some (.int .i64 r6), none, some (.int .i64 r7), none, none, none, none, none, none, none, none, none] [0, 1, 2, 7, 8, 9, 10, 11] [pl 0 (.slice A1 places1.length c1), pl 1 (.int .i64 from1), pl 2 (.int .i64 to1), pl 7 (.int .i64 (w64 ((Int.tmod to1 8) - (Int.tmod from1 8)))), pl 8 (.int .i64 (w64 ((w64 (Int.tdiv to1 8)) - (w64 (Int.tdiv from1 8))))), pl 9 (.int .i64 (geti places1 from1)), pl 10 (.bool (r6 == r7)), pl 11 (.bool (((w64 ((Int.tmod to1 8) - (Int.tmod from1 8))) == 0) || ((w64 ((w64 (Int.tdiv to1 8)) - (w64 (Int.tdiv from1 8)))) == 0)))] hF hS Fol (by kernel_rfl) (by kernel_rfl) (by kernel_rfl) ?_ (fun a w hF hS => ?_)
      · exact obs_cons (ob_call Try.func129 (by kernel_rfl) rfl (fun _ _ hS => gameroomref_size_w hr6 hS )) <| obs_cons (ob_call Try.func129 (by kernel_rfl) rfl (fun _ _ hS => gameroomref_size_w hr7 hS )) <| obs_nil
      refine seq_cut (fun a w => Fr 125 [pl 0 (.slice A1 places1.length c1), pl 1 (.int .i64 from1), pl 2 (.int .i64 to1), pl 7 (.int .i64 (w64 ((Int.tmod to1 8) - (Int.tmod from1 8)))), pl 8 (.int .i64 (w64 ((w64 (Int.tdiv to1 8)) - (w64 (Int.tdiv from1 8)))))] a ∧ Sep w0 B w (fs) ∧ ((gameroomref_Attacks_J3 places1 from1 to1)).bind some = some r) ?_ ?_
      · rintro a w ⟨hF, hS, hm⟩
        unfold gameroomref_Attacks_J3 at hm
        refine seq_cut (fun a w => Fr 125 [] a ∧ Sep w0 B w (fs) ∧ (gameroomref_Attacks_J4).bind some = some r) ?_ ?_
        · rintro a w ⟨hF, hS, hm⟩
          unfold gameroomref_Attacks_J4 at hm
          refine reg [] [] [6] [pl 6 (.bool true)] hF hS Fol (by kernel_rfl) (by kernel_rfl) (by kernel_rfl) ?_ (fun a w hF hS => ?_)
          · exact obs_nil
          refine wpIn_ret ?_
          have hm : some true = some r := hm
          obtain rfl := Option.some.inj hm
          exact retV (rs := [.tmp 6]) (vs := [.bool true]) hF rfl (rv_t (by kernel_rfl) <| rv_nil) rfl ⟨rfl, hS⟩
        · obtain ⟨r10, hr10, hm⟩ := call_b hm
          obtain ⟨r11, hr11, hm⟩ := call_b hm
          refine reg [⟨false, [], callFunc 208 #[.int .i64 (w64 ((Int.tmod to1 8) - (Int.tmod from1 8)))], .int .i64 r10⟩, ⟨false, [], callFunc 208 #[.int .i64 (w64 ((w64 (Int.tdiv to1 8)) - (w64 (Int.tdiv from1 8))))], .int .i64 r11⟩] [none, none, some (.int .i64 r10), none, none, some (.int .i64 r11), none, none, none] [0, 2, 7, 8, 12] [pl 0 (.slice A1 places1.length c1), pl 2 (.int .i64 to1), pl 7 (.int .i64 (w64 ((Int.tmod to1 8) - (Int.tmod from1 8)))), pl 8 (.int .i64 (w64 ((w64 (Int.tdiv to1 8)) - (w64 (Int.tdiv from1 8))))), pl 12 (.int .i64 (w64 ((w64 (from1 + r10)) + (w64 (8 * r11)))))] hF hS Fol (by kernel_rfl) (by kernel_rfl) (by kernel_rfl) ?_ (fun a w hF hS => ?_)
          · exact obs_cons (ob_call Try.func208 (by kernel_rfl) rfl (fun _ _ hS => gameroomref_signOf_w hr10 hS )) <| obs_cons (ob_call Try.func208 (by kernel_rfl) rfl (fun _ _ hS => gameroomref_signOf_w hr11 hS )) <| obs_nil
          refine wpIn_block ?_
          refine wp_loop_model (S := Int) (R := (Fl Unit Bool)) (gameroomref_Attacks_L1 places1 from1 to1) (fun x => (gameroomref_Attacks_K1 x).bind some) r (fun (x : Int) a w => Fr 125 [pl 0 (.slice A1 places1.length c1), pl 2 (.int .i64 to1), pl 7 (.int .i64 (w64 ((Int.tmod to1 8) - (Int.tmod from1 8)))), pl 8 (.int .i64 (w64 ((w64 (Int.tdiv to1 8)) - (w64 (Int.tdiv from1 8))))), pl 12 (.int .i64 x)] a ∧ Sep w0 B w (fs)) (assoc_b hm) ⟨hF.weak [0, 2, 7, 8, 12] (by kernel_rfl), hS⟩ ?_
          clear hF hS hm
          rintro nn1 k1 a w ⟨hF, hS⟩ hm
          generalize hφ1 : stK (gameroomref_Attacks_L1 places1 from1 to1) nn1 (fun x => (gameroomref_Attacks_K1 x).bind some) = φ1 at hm
          unfold gameroomref_Attacks_L1 at hm
          dsimp only at hm
          refine seq_cut (fun a w => Fr 125 [pl 0 (.slice A1 places1.length c1), pl 2 (.int .i64 to1), pl 7 (.int .i64 (w64 ((Int.tmod to1 8) - (Int.tmod from1 8)))), pl 8 (.int .i64 (w64 ((w64 (Int.tdiv to1 8)) - (w64 (Int.tdiv from1 8))))), pl 12 (.int .i64 k1)] a ∧ Sep w0 B w (fs) ∧ ((gameroomref_Attacks_J5 places1 from1 to1 k1)).bind φ1 = some r) ?_ ?_
          · rintro a w ⟨hF, hS, hm⟩
            unfold gameroomref_Attacks_J5 at hm
            refine seq_cut (fun a w => Fr 125 [pl 0 (.slice A1 places1.length c1), pl 2 (.int .i64 to1), pl 7 (.int .i64 (w64 ((Int.tmod to1 8) - (Int.tmod from1 8)))), pl 8 (.int .i64 (w64 ((w64 (Int.tdiv to1 8)) - (w64 (Int.tdiv from1 8))))), pl 12 (.int .i64 k1)] a ∧ Sep w0 B w (fs) ∧ ((gameroomref_Attacks_J6 from1 to1 k1)).bind φ1 = some r) ?_ ?_
            · rintro a w ⟨hF, hS, hm⟩
              unfold gameroomref_Attacks_J6 at hm
              obtain ⟨r12, hr12, hm⟩ := call_b hm
              obtain ⟨r13, hr13, hm⟩ := call_b hm
              refine reg1 [⟨false, [], callFunc 208 #[.int .i64 (w64 ((Int.tmod to1 8) - (Int.tmod from1 8)))], .int .i64 r12⟩, ⟨false, [], callFunc 208 #[.int .i64 (w64 ((w64 (Int.tdiv to1 8)) - (w64 (Int.tdiv from1 8))))], .int .i64 r13⟩] [none, none, some (.int .i64 r12), none, some (.int .i64 r13), none, none, none, none] [0, 2, 7, 8, 12] [pl 0 (.slice A1 places1.length c1), pl 2 (.int .i64 to1), pl 7 (.int .i64 (w64 ((Int.tmod to1 8) - (Int.tmod from1 8)))), pl 8 (.int .i64 (w64 ((w64 (Int.tdiv to1 8)) - (w64 (Int.tdiv from1 8))))), pl 12 (.int .i64 (w64 (k1 + (w64 (r12 + (w64 (8 * r13)))))))] hF hS Fol (by kernel_rfl) (by kernel_rfl) (by kernel_rfl) ?_ (fun a w hF hS => ?_)
              · exact obs_cons (ob_call Try.func208 (by kernel_rfl) rfl (fun _ _ hS => gameroomref_signOf_w hr12 hS )) <| obs_cons (ob_call Try.func208 (by kernel_rfl) rfl (fun _ _ hS => gameroomref_signOf_w hr13 hS )) <| obs_nil
              refine then_n ?_
              rw [← hφ1] at hm
              exact ⟨(w64 (k1 + (w64 (r12 + (w64 (8 * r13)))))), ⟨hF.weak [0, 2, 7, 8, 12] (by kernel_rfl), hS⟩, hm⟩
            · refine wpIn_block ?_
              obtain ⟨hp2, hm⟩ := asrt_b hm
              refine reg [⟨true, [], vS (Instr.indexAt 27 (.slice A1 places1.length c1) (.int .i64 k1)), .pointer (some (sAddr A1 k1))⟩, ⟨false, [], vS (Instr.loadAt 3 (.pointer (some (sAddr A1 k1)))), .int .i64 (geti places1 k1)⟩] [none, none, some (.pointer (some (sAddr A1 k1))), some (.int .i64 (geti places1 k1)), none] [0, 2, 7, 8, 12, 124] [pl 0 (.slice A1 places1.length c1), pl 2 (.int .i64 to1), pl 7 (.int .i64 (w64 ((Int.tmod to1 8) - (Int.tmod from1 8)))), pl 8 (.int .i64 (w64 ((w64 (Int.tdiv to1 8)) - (w64 (Int.tdiv from1 8))))), pl 12 (.int .i64 k1), pl 124 (.bool ((geti places1 k1) != 0))] hF hS Fol (by kernel_rfl) (by kernel_rfl) (by kernel_rfl) ?_ (fun a w hF hS => ?_)
              · exact obs_cons (ob_ix1 (f := (Value.int .i64)) (m := places1) Und27 hi3 hs3 (hr_places1 _ (hS.dropN 0)) rfl (fun _ => hp2)) <| obs_cons (ob_get1 (n := places1.length) (m := places1) (Value.int .i64) (0 : Int) Agg3 (fun _ hS => ⟨_, (hr_places1 _ (hS.dropN 0))⟩) (fun _ hS => rfl) (fun _ => hp2)) <| obs_nil
              refine cond_ev (t := 124) (b := ((geti places1 k1) != 0)) hF (by kernel_rfl) (fun hb => ?_) (fun hb => ?_)
              · replace hm := if_t hm hb
                refine reg [] [] [6] [pl 6 (.bool false)] hF hS Fol (by kernel_rfl) (by kernel_rfl) (by kernel_rfl) ?_ (fun a w hF hS => ?_)
                · exact obs_nil
                refine wpIn_ret ?_
                refine block_r (then_r (then_r (block_r (then_r ?_))))
                rw [← hφ1] at hm
                replace hm := done_b hm
                unfold gameroomref_Attacks_K1 at hm
                try dsimp only at hm
                have hm : some false = some r := hm
                obtain rfl := Option.some.inj hm
                exact retV (rs := [.tmp 6]) (vs := [.bool false]) hF rfl (rv_t (by kernel_rfl) <| rv_nil) rfl ⟨rfl, hS⟩
              · replace hm := if_f hm hb
                refine wpIn_skip ?_
                refine block_n ?_
                refine then_n ?_
                exact ⟨hF.weak [0, 2, 7, 8, 12] (by kernel_rfl), hS, hm⟩
          · refine reg [] [] [0, 2, 7, 8, 12, 111] [pl 0 (.slice A1 places1.length c1), pl 2 (.int .i64 to1), pl 7 (.int .i64 (w64 ((Int.tmod to1 8) - (Int.tmod from1 8)))), pl 8 (.int .i64 (w64 ((w64 (Int.tdiv to1 8)) - (w64 (Int.tdiv from1 8))))), pl 12 (.int .i64 k1), pl 111 (.bool (k1 != to1))] hF hS Fol (by kernel_rfl) (by kernel_rfl) (by kernel_rfl) ?_ (fun a w hF hS => ?_)
            · exact obs_nil
            refine cond_ev (t := 111) (b := (k1 != to1)) hF (by kernel_rfl) (fun hb => ?_) (fun hb => ?_)
            · replace hm := if_t hm hb
              refine wpIn_skip ?_
              refine then_n ?_
              exact ⟨hF.weak [0, 2, 7, 8, 12] (by kernel_rfl), hS, hm⟩
            · replace hm := if_f hm hb
              refine wpIn_exit ?_
              refine then_e (then_e (block_e (then_n ?_)))
              rw [← hφ1] at hm
              replace hm := done_b hm
              unfold gameroomref_Attacks_K1 at hm
              try dsimp only at hm
              have hm : (gameroomref_Attacks_J4).bind some = some r := hm
              exact ⟨hF.weak [] (by kernel_rfl), hS, hm⟩
      · obtain ⟨r8, hr8, hm⟩ := call_b hm
        obtain ⟨r9, hr9, hm⟩ := call_b hm
        refine reg [⟨false, [(((geti places1 from1) == 0) || ((!(r6 == r7)) && (!(((w64 ((Int.tmod to1 8) - (Int.tmod from1 8))) == 0) || ((w64 ((w64 (Int.tdiv to1 8)) - (w64 (Int.tdiv from1 8)))) == 0)))), false)], callFunc 129 #[.int .i64 (geti places1 from1)], .int .i64 r8⟩, ⟨false, [((((geti places1 from1) == 0) || ((!(r6 == r7)) && (!(((w64 ((Int.tmod to1 8) - (Int.tmod from1 8))) == 0) || ((w64 ((w64 (Int.tdiv to1 8)) - (w64 (Int.tdiv from1 8)))) == 0))))) || ((r8 == 3) && (!(r6 == r7))), false)], callFunc 129 #[.int .i64 (geti places1 from1)], .int .i64 r9⟩] [none, none, none, none, none, none, none, none, none, none, none, none, some (.int .i64 r8), none, none, none, none, none, none, none, none, some (.int .i64 r9), none, none, none, none, none, none] [0, 1, 2, 7, 8, 100] [pl 0 (.slice A1 places1.length c1), pl 1 (.int .i64 from1), pl 2 (.int .i64 to1), pl 7 (.int .i64 (w64 ((Int.tmod to1 8) - (Int.tmod from1 8)))), pl 8 (.int .i64 (w64 ((w64 (Int.tdiv to1 8)) - (w64 (Int.tdiv from1 8))))), pl 100 (.bool (((((geti places1 from1) == 0) || ((!(r6 == r7)) && (!(((w64 ((Int.tmod to1 8) - (Int.tmod from1 8))) == 0) || ((w64 ((w64 (Int.tdiv to1 8)) - (w64 (Int.tdiv from1 8)))) == 0))))) || ((r8 == 3) && (!(r6 == r7)))) || ((r9 == 4) && (!(((w64 ((Int.tmod to1 8) - (Int.tmod from1 8))) == 0) || ((w64 ((w64 (Int.tdiv to1 8)) - (w64 (Int.tdiv from1 8)))) == 0))))))] hF hS Fol (by kernel_rfl) (by kernel_rfl) (by kernel_rfl) ?_ (fun a w hF hS => ?_)
        · exact obs_cons (ob_call Try.func129 (by kernel_rfl) rfl (fun hy _ hS => gameroomref_size_w (ite_some hr8 (by rw [show (((geti places1 from1) == 0) || ((!(r6 == r7)) && (!(((w64 ((Int.tmod to1 8) - (Int.tmod from1 8))) == 0) || ((w64 ((w64 (Int.tdiv to1 8)) - (w64 (Int.tdiv from1 8)))) == 0))))) = false from hy (((geti places1 from1) == 0) || ((!(r6 == r7)) && (!(((w64 ((Int.tmod to1 8) - (Int.tmod from1 8))) == 0) || ((w64 ((w64 (Int.tdiv to1 8)) - (w64 (Int.tdiv from1 8)))) == 0)))), false) (by simp)]; try rfl)) hS )) <| obs_cons (ob_call Try.func129 (by kernel_rfl) rfl (fun hy _ hS => gameroomref_size_w (ite_some hr9 (by rw [show ((((geti places1 from1) == 0) || ((!(r6 == r7)) && (!(((w64 ((Int.tmod to1 8) - (Int.tmod from1 8))) == 0) || ((w64 ((w64 (Int.tdiv to1 8)) - (w64 (Int.tdiv from1 8)))) == 0))))) || ((r8 == 3) && (!(r6 == r7)))) = false from hy ((((geti places1 from1) == 0) || ((!(r6 == r7)) && (!(((w64 ((Int.tmod to1 8) - (Int.tmod from1 8))) == 0) || ((w64 ((w64 (Int.tdiv to1 8)) - (w64 (Int.tdiv from1 8)))) == 0))))) || ((r8 == 3) && (!(r6 == r7))), false) (by simp)]; try rfl)) hS )) <| obs_nil
        refine cond_ev (t := 100) (b := ((((geti places1 from1) == 0) || ((!(r6 == r7)) && (!(((w64 ((Int.tmod to1 8) - (Int.tmod from1 8))) == 0) || ((w64 ((w64 (Int.tdiv to1 8)) - (w64 (Int.tdiv from1 8)))) == 0))))) || ((r8 == 3) && (!(r6 == r7)))) || ((r9 == 4) && (!(((w64 ((Int.tmod to1 8) - (Int.tmod from1 8))) == 0) || ((w64 ((w64 (Int.tdiv to1 8)) - (w64 (Int.tdiv from1 8)))) == 0))))) hF (by kernel_rfl) (fun hb => ?_) (fun hb => ?_)
        · replace hm := if_t hm hb
          refine reg [] [] [6] [pl 6 (.bool false)] hF hS Fol (by kernel_rfl) (by kernel_rfl) (by kernel_rfl) ?_ (fun a w hF hS => ?_)
          · exact obs_nil
          refine wpIn_ret ?_
          refine then_r ?_
          have hm : some false = some r := hm
          obtain rfl := Option.some.inj hm
          exact retV (rs := [.tmp 6]) (vs := [.bool false]) hF rfl (rv_t (by kernel_rfl) <| rv_nil) rfl ⟨rfl, hS⟩
        · replace hm := if_f hm hb
          refine wpIn_skip ?_
          refine then_n ?_
          exact ⟨hF.weak [0, 1, 2, 7, 8] (by kernel_rfl), hS, hm⟩
    · obtain ⟨r1, hr1, hm⟩ := call_b hm
      refine reg [⟨false, [], callFunc 129 #[.int .i64 (geti places1 from1)], .int .i64 r1⟩] [none, some (.int .i64 r1)] [0, 1, 2, 7, 8, 9, 34] [pl 0 (.slice A1 places1.length c1), pl 1 (.int .i64 from1), pl 2 (.int .i64 to1), pl 7 (.int .i64 (w64 ((Int.tmod to1 8) - (Int.tmod from1 8)))), pl 8 (.int .i64 (w64 ((w64 (Int.tdiv to1 8)) - (w64 (Int.tdiv from1 8))))), pl 9 (.int .i64 (geti places1 from1)), pl 34 (.int .i64 r1)] hF hS Fol (by kernel_rfl) (by kernel_rfl) (by kernel_rfl) ?_ (fun a w hF hS => ?_)
      · exact obs_cons (ob_call Try.func129 (by kernel_rfl) rfl (fun _ _ hS => gameroomref_size_w hr1 hS )) <| obs_nil
      refine wpIn_block ?_
      refine reg [] [] [0, 1, 2, 7, 8, 9, 34, 35] [pl 0 (.slice A1 places1.length c1), pl 1 (.int .i64 from1), pl 2 (.int .i64 to1), pl 7 (.int .i64 (w64 ((Int.tmod to1 8) - (Int.tmod from1 8)))), pl 8 (.int .i64 (w64 ((w64 (Int.tdiv to1 8)) - (w64 (Int.tdiv from1 8))))), pl 9 (.int .i64 (geti places1 from1)), pl 34 (.int .i64 r1), pl 35 (.bool (r1 == 1))] hF hS Fol (by kernel_rfl) (by kernel_rfl) (by kernel_rfl) ?_ (fun a w hF hS => ?_)
      · exact obs_nil
      refine cond_ev (t := 35) (b := (r1 == 1)) hF (by kernel_rfl) (fun hb => ?_) (fun hb => ?_)
      · replace hm := if_t hm hb
        obtain ⟨r2, hr2, hm⟩ := call_b hm
        refine reg [⟨false, [], callFunc 129 #[.int .i64 (w64 ((Int.tmod to1 8) - (Int.tmod from1 8)))], .int .i64 r2⟩] [none, some (.int .i64 r2), none, none, none, none, none, none, none] [6] [pl 6 (.bool ((r2 == 1) && ((w64 ((w64 (Int.tdiv to1 8)) - (w64 (Int.tdiv from1 8)))) == (geti places1 from1))))] hF hS Fol (by kernel_rfl) (by kernel_rfl) (by kernel_rfl) ?_ (fun a w hF hS => ?_)
        · exact obs_cons (ob_call Try.func129 (by kernel_rfl) rfl (fun _ _ hS => gameroomref_size_w hr2 hS )) <| obs_nil
        refine wpIn_ret ?_
        refine block_r (then_r ?_)
        have hm : some ((r2 == 1) && ((w64 ((w64 (Int.tdiv to1 8)) - (w64 (Int.tdiv from1 8)))) == (geti places1 from1))) = some r := hm
        obtain rfl := Option.some.inj hm
        exact retV (rs := [.tmp 6]) (vs := [.bool ((r2 == 1) && ((w64 ((w64 (Int.tdiv to1 8)) - (w64 (Int.tdiv from1 8)))) == (geti places1 from1)))]) hF rfl (rv_t (by kernel_rfl) <| rv_nil) rfl ⟨rfl, hS⟩
      · replace hm := if_f hm hb
        refine reg [] [] [0, 1, 2, 7, 8, 9, 34, 45] [pl 0 (.slice A1 places1.length c1), pl 1 (.int .i64 from1), pl 2 (.int .i64 to1), pl 7 (.int .i64 (w64 ((Int.tmod to1 8) - (Int.tmod from1 8)))), pl 8 (.int .i64 (w64 ((w64 (Int.tdiv to1 8)) - (w64 (Int.tdiv from1 8))))), pl 9 (.int .i64 (geti places1 from1)), pl 34 (.int .i64 r1), pl 45 (.bool (r1 == 2))] hF hS Fol (by kernel_rfl) (by kernel_rfl) (by kernel_rfl) ?_ (fun a w hF hS => ?_)
        · exact obs_nil
        refine cond_ev (t := 45) (b := (r1 == 2)) hF (by kernel_rfl) (fun hb => ?_) (fun hb => ?_)
        · replace hm := if_t hm hb
          obtain ⟨r3, hr3, hm⟩ := call_b hm
          refine reg [⟨false, [], callFunc 129 #[.int .i64 (w64 ((w64 ((Int.tmod to1 8) - (Int.tmod from1 8))) * (w64 ((w64 (Int.tdiv to1 8)) - (w64 (Int.tdiv from1 8))))))], .int .i64 r3⟩] [none, none, none, some (.int .i64 r3), none, none] [6] [pl 6 (.bool (r3 == 2))] hF hS Fol (by kernel_rfl) (by kernel_rfl) (by kernel_rfl) ?_ (fun a w hF hS => ?_)
          · exact obs_cons (ob_call Try.func129 (by kernel_rfl) rfl (fun _ _ hS => gameroomref_size_w hr3 hS )) <| obs_nil
          refine wpIn_ret ?_
          refine block_r (then_r ?_)
          have hm : some (r3 == 2) = some r := hm
          obtain rfl := Option.some.inj hm
          exact retV (rs := [.tmp 6]) (vs := [.bool (r3 == 2)]) hF rfl (rv_t (by kernel_rfl) <| rv_nil) rfl ⟨rfl, hS⟩
        · replace hm := if_f hm hb
          refine reg [] [] [0, 1, 2, 7, 8, 9, 52] [pl 0 (.slice A1 places1.length c1), pl 1 (.int .i64 from1), pl 2 (.int .i64 to1), pl 7 (.int .i64 (w64 ((Int.tmod to1 8) - (Int.tmod from1 8)))), pl 8 (.int .i64 (w64 ((w64 (Int.tdiv to1 8)) - (w64 (Int.tdiv from1 8))))), pl 9 (.int .i64 (geti places1 from1)), pl 52 (.bool (r1 == 6))] hF hS Fol (by kernel_rfl) (by kernel_rfl) (by kernel_rfl) ?_ (fun a w hF hS => ?_)
          · exact obs_nil
          refine cond_ev (t := 52) (b := (r1 == 6)) hF (by kernel_rfl) (fun hb => ?_) (fun hb => ?_)
          · replace hm := if_t hm hb
            obtain ⟨r4, hr4, hm⟩ := call_b hm
            obtain ⟨r5, hr5, hm⟩ := call_b hm
            refine reg [⟨false, [], callFunc 129 #[.int .i64 (w64 ((Int.tmod to1 8) - (Int.tmod from1 8)))], .int .i64 r4⟩, ⟨false, [(decide (r4 ≤ 1), true)], callFunc 129 #[.int .i64 (w64 ((w64 (Int.tdiv to1 8)) - (w64 (Int.tdiv from1 8))))], .int .i64 r5⟩] [none, some (.int .i64 r4), none, none, none, some (.int .i64 r5), none, none, none] [6] [pl 6 (.bool ((decide (r4 ≤ 1)) && (decide (r5 ≤ 1))))] hF hS Fol (by kernel_rfl) (by kernel_rfl) (by kernel_rfl) ?_ (fun a w hF hS => ?_)
            · exact obs_cons (ob_call Try.func129 (by kernel_rfl) rfl (fun _ _ hS => gameroomref_size_w hr4 hS )) <| obs_cons (ob_call Try.func129 (by kernel_rfl) rfl (fun hy _ hS => gameroomref_size_w (ite_some hr5 (by rw [show (decide (r4 ≤ 1)) = true from hy (decide (r4 ≤ 1), true) (by simp)]; try rfl)) hS )) <| obs_nil
            refine wpIn_ret ?_
            refine block_r (then_r ?_)
            have hm : some ((decide (r4 ≤ 1)) && (decide (r5 ≤ 1))) = some r := hm
            obtain rfl := Option.some.inj hm
            exact retV (rs := [.tmp 6]) (vs := [.bool ((decide (r4 ≤ 1)) && (decide (r5 ≤ 1)))]) hF rfl (rv_t (by kernel_rfl) <| rv_nil) rfl ⟨rfl, hS⟩
          · replace hm := if_f hm hb
            refine wpIn_skip ?_
            refine block_n ?_
            refine then_n ?_
            exact ⟨hF.weak [0, 1, 2, 7, 8, 9] (by kernel_rfl), hS, hm⟩
  · refine reg [] [] [0, 1, 2, 7, 8, 9, 32] [pl 0 (.slice A1 places1.length c1), pl 1 (.int .i64 from1), pl 2 (.int .i64 to1), pl 7 (.int .i64 (w64 ((Int.tmod to1 8) - (Int.tmod from1 8)))), pl 8 (.int .i64 (w64 ((w64 (Int.tdiv to1 8)) - (w64 (Int.tdiv from1 8))))), pl 9 (.int .i64 (geti places1 from1)), pl 32 (.bool (((w64 ((Int.tmod to1 8) - (Int.tmod from1 8))) == 0) && ((w64 ((w64 (Int.tdiv to1 8)) - (w64 (Int.tdiv from1 8)))) == 0)))] hF hS Fol (by kernel_rfl) (by kernel_rfl) (by kernel_rfl) ?_ (fun a w hF hS => ?_)
    · exact obs_nil
    refine cond_ev (t := 32) (b := ((w64 ((Int.tmod to1 8) - (Int.tmod from1 8))) == 0) && ((w64 ((w64 (Int.tdiv to1 8)) - (w64 (Int.tdiv from1 8)))) == 0)) hF (by kernel_rfl) (fun hb => ?_) (fun hb => ?_)
    · replace hm := if_t hm hb
      refine reg [] [] [6] [pl 6 (.bool false)] hF hS Fol (by kernel_rfl) (by kernel_rfl) (by kernel_rfl) ?_ (fun a w hF hS => ?_)
      · exact obs_nil
      refine wpIn_ret ?_
      refine then_r ?_
      have hm : some false = some r := hm
      obtain rfl := Option.some.inj hm
      exact retV (rs := [.tmp 6]) (vs := [.bool false]) hF rfl (rv_t (by kernel_rfl) <| rv_nil) rfl ⟨rfl, hS⟩
    · replace hm := if_f hm hb
      refine wpIn_skip ?_
      refine then_n ?_
      exact ⟨hF.weak [0, 1, 2, 7, 8, 9] (by kernel_rfl), hS, hm⟩

noncomputable def gameroomref_AttackersOf_J3  (i1 : Int) (l3 : List Int) : Option (St (List Int × Int) (List Int)) :=
  some (.next (l3, (w64 (i1 + 1))))

noncomputable def gameroomref_AttackersOf_J2  (places1 : List Int) (to1 : Int) (by1 : Int) (l1 : List Int) (i1 : Int) : Option (St (List Int × Int) (List Int)) :=
  asrt (0 ≤ i1 ∧ i1 < (places1.length : Int)) <| (gameroomref_pieceSide_m (geti places1 i1)).bind fun r1 => ((if (r1 == by1) then gameroomref_Attacks_m places1 i1 to1 else some false)).bind fun r2 => if ((r1 == by1) && r2) then (asrt ((l1.length : Int) + 1 ≤ bigN) <| (gameroomref_AttackersOf_J3 i1) (l1 ++ ([i1] : List Int))) else ((gameroomref_AttackersOf_J3 i1) l1)

noncomputable def gameroomref_AttackersOf_J1  (l2 : List Int) : Option (List Int) :=
  some l2

noncomputable def gameroomref_AttackersOf_K1  : (List Int) → Option (List Int) :=
  fun (x : (List Int)) => match x with | l2 => gameroomref_AttackersOf_J1 l2

noncomputable def gameroomref_AttackersOf_L1  (places1 : List Int) (to1 : Int) (by1 : Int) : (List Int × Int) → Option (St (List Int × Int) (List Int)) :=
  fun (x : (List Int × Int)) => match x with | (l1, i1) => if (decide (i1 < 64)) then ((gameroomref_AttackersOf_J2 places1 to1 by1 l1 i1)) else (some (.done l1))

noncomputable def gameroomref_AttackersOf_m  (places1 : List Int) (to1 : Int) (by1 : Int) : Option (List Int) :=
  (loop (gameroomref_AttackersOf_L1 places1 to1 by1) (([] : List Int), 0)).bind gameroomref_AttackersOf_K1

set_option maxRecDepth 100000 in
set_option maxHeartbeats 4000000 in
theorem gameroomref_AttackersOf_w {A1 : Option Addr} {c1 : Nat} {n1 : Nat} {places1 : List Int} {to1 : Int} {by1 : Int} {r : (List Int)} {w0 w : World} {B : Nat} {fs : List HP} (hm : gameroomref_AttackersOf_m places1 to1 by1 = some r) (hS : Sep w0 B w (fs)) (hr_places1 : RdF w0 B fs A1 (vI places1)) (_hc_places1 : places1.length ≤ c1) (_hn_places1 : n1 = places1.length) :
    Calls Try.prog 146 #[.slice A1 n1 c1, .int .i64 to1, .int .i64 by1] w fun e w' => ∃ v, e = .returned v ∧ ∃ (A6 : Option Addr) (c6 : Nat), v = .slice A6 r.length c6 ∧ Sep w0 B w' (own 3 (.slice A6 r.length c6) (vI r) :: fs) := by
  obtain ⟨i3, hi3, hz3, hs3, hb3⟩ := info_parts Info3
  obtain rfl := _hn_places1
  unfold gameroomref_AttackersOf_m at hm
  replace hm := start_b hm
  refine enter (l := [.slice A1 places1.length c1, .int .i64 to1, .int .i64 by1]) (n := 31) Try.func146 rfl rfl (by simp) (fun a hF => ?_)
  refine reg [] [] [0, 1, 2] [pl 0 (.slice A1 places1.length c1), pl 1 (.int .i64 to1), pl 2 (.int .i64 by1)] hF hS Fol (by kernel_rfl) (by kernel_rfl) (by kernel_rfl) ?_ (fun a w hF hS => ?_)
  · exact obs_nil
  refine reg [] [] [0, 1, 2, 7] [pl 0 (.slice A1 places1.length c1), pl 1 (.int .i64 to1), pl 2 (.int .i64 by1), pl 7 (.slice none 0 0)] hF hS Fol (by kernel_rfl) (by kernel_rfl) (by kernel_rfl) ?_ (fun a w hF hS => ?_)
  · exact obs_nil
  refine seq_cut (fun a w => ∃ (l2 : List Int) (A3 : Option Addr) (c3 : Nat), Fr 31 [pl 7 (.slice A3 l2.length c3)] a ∧ Sep w0 B w (own 3 (.slice A3 l2.length c3) (vI l2) :: fs) ∧ (gameroomref_AttackersOf_J1 l2).bind some = some r) ?_ ?_
  · rintro a w ⟨l2, A3, c3, hF, hS, hm⟩
    unfold gameroomref_AttackersOf_J1 at hm
    refine reg [] [] [6] [pl 6 (.slice A3 l2.length c3)] hF hS Fol (by kernel_rfl) (by kernel_rfl) (by kernel_rfl) ?_ (fun a w hF hS => ?_)
    · exact obs_nil
    refine wpIn_ret ?_
    have hm : some l2 = some r := hm
    obtain rfl := Option.some.inj hm
    exact retV (rs := [.tmp 6]) (vs := [.slice A3 l2.length c3]) hF rfl (rv_t (by kernel_rfl) <| rv_nil) rfl ⟨_, rfl, A3, c3, rfl, hS⟩
  · refine reg [] [] [0, 1, 2, 7, 8] [pl 0 (.slice A1 places1.length c1), pl 1 (.int .i64 to1), pl 2 (.int .i64 by1), pl 7 (.slice none 0 0), pl 8 (.int .i64 0)] hF hS Fol (by kernel_rfl) (by kernel_rfl) (by kernel_rfl) ?_ (fun a w hF hS => ?_)
    · exact obs_nil
    refine wpIn_block ?_
    have hS : Sep w0 B w (own 3 (.slice none 0 0) (vI ([] : List Int)) :: fs) := hS.nil 3
    have hl1 := (hS.at_ 0 rfl).len1
    have hS := (hS.at_ 0 rfl).reN hl1
    have hS : Sep w0 B w (own 3 (.slice none (([] : List Int).length) 0) (vI ([] : List Int)) :: fs) := hS
    have hF := hF.cast (t := 7) (v := .slice none 0 0) (v' := .slice none (([] : List Int).length) 0) rfl rfl (congrArg (fun k => Value.slice none k 0) hl1)
    refine wp_loop_model (S := (List Int × Int)) (R := (List Int)) (gameroomref_AttackersOf_L1 places1 to1 by1) (fun x => (gameroomref_AttackersOf_K1 x).bind some) r (fun (x : (List Int × Int)) a w => ∃ (A2 : Option Addr) (c2 : Nat), Fr 31 [pl 0 (.slice A1 places1.length c1), pl 1 (.int .i64 to1), pl 2 (.int .i64 by1), pl 7 (.slice A2 x.1.length c2), pl 8 (.int .i64 x.2)] a ∧ Sep w0 B w (own 3 (.slice A2 x.1.length c2) (vI x.1) :: fs)) (assoc_b hm) ⟨none, 0, hF.weak [0, 1, 2, 7, 8] (by kernel_rfl), hS⟩ ?_
    clear hF hS hm
    rintro nn1 ⟨l1, i1⟩ a w ⟨A2, c2, hF, hS⟩ hm
    generalize hφ1 : stK (gameroomref_AttackersOf_L1 places1 to1 by1) nn1 (fun x => (gameroomref_AttackersOf_K1 x).bind some) = φ1 at hm
    unfold gameroomref_AttackersOf_L1 at hm
    dsimp only at hF hS hm
    refine seq_cut (fun a w => Fr 31 [pl 0 (.slice A1 places1.length c1), pl 1 (.int .i64 to1), pl 2 (.int .i64 by1), pl 7 (.slice A2 l1.length c2), pl 8 (.int .i64 i1)] a ∧ Sep w0 B w (own 3 (.slice A2 l1.length c2) (vI l1) :: fs) ∧ ((gameroomref_AttackersOf_J2 places1 to1 by1 l1 i1)).bind φ1 = some r) ?_ ?_
    · rintro a w ⟨hF, hS, hm⟩
      unfold gameroomref_AttackersOf_J2 at hm
      refine seq_cut (fun a w => ∃ (l3 : List Int) (A5 : Option Addr) (c5 : Nat), Fr 31 [pl 0 (.slice A1 places1.length c1), pl 1 (.int .i64 to1), pl 2 (.int .i64 by1), pl 7 (.slice A5 l3.length c5), pl 8 (.int .i64 i1)] a ∧ Sep w0 B w (own 3 (.slice A5 l3.length c5) (vI l3) :: fs) ∧ ((gameroomref_AttackersOf_J3 i1) l3).bind φ1 = some r) ?_ ?_
      · rintro a w ⟨l3, A5, c5, hF, hS, hm⟩
        unfold gameroomref_AttackersOf_J3 at hm
        refine reg1 [] [] [0, 1, 2, 7, 8] [pl 0 (.slice A1 places1.length c1), pl 1 (.int .i64 to1), pl 2 (.int .i64 by1), pl 7 (.slice A5 l3.length c5), pl 8 (.int .i64 (w64 (i1 + 1)))] hF hS Fol (by kernel_rfl) (by kernel_rfl) (by kernel_rfl) ?_ (fun a w hF hS => ?_)
        · exact obs_nil
        refine then_n ?_
        rw [← hφ1] at hm
        exact ⟨(l3, (w64 (i1 + 1))), ⟨A5, c5, hF.weak [0, 1, 2, 7, 8] (by kernel_rfl), hS⟩, hm⟩
      · refine wpIn_block ?_
        obtain ⟨hp1, hm⟩ := asrt_b hm
        obtain ⟨r1, hr1, hm⟩ := call_b hm
        obtain ⟨r2, hr2, hm⟩ := call_b hm
        refine reg [⟨true, [], vS (Instr.indexAt 27 (.slice A1 places1.length c1) (.int .i64 i1)), .pointer (some (sAddr A1 i1))⟩, ⟨false, [], vS (Instr.loadAt 3 (.pointer (some (sAddr A1 i1)))), .int .i64 (geti places1 i1)⟩, ⟨false, [], callFunc 138 #[.int .i64 (geti places1 i1)], .int .i64 r1⟩, ⟨false, [((r1 == by1), true)], callFunc 207 #[.slice A1 places1.length c1, .int .i64 i1, .int .i64 to1], .bool r2⟩] [none, none, some (.pointer (some (sAddr A1 i1))), some (.int .i64 (geti places1 i1)), some (.int .i64 r1), none, none, none, none, none, none, some (.bool r2), none] [0, 1, 2, 7, 8, 25] [pl 0 (.slice A1 places1.length c1), pl 1 (.int .i64 to1), pl 2 (.int .i64 by1), pl 7 (.slice A2 l1.length c2), pl 8 (.int .i64 i1), pl 25 (.bool ((r1 == by1) && r2))] hF hS Fol (by kernel_rfl) (by kernel_rfl) (by kernel_rfl) ?_ (fun a w hF hS => ?_)
        · exact obs_cons (ob_ix1 (f := (Value.int .i64)) (m := places1) Und27 hi3 hs3 (hr_places1 _ (hS.dropN 1)) rfl (fun _ => hp1)) <| obs_cons (ob_get1 (n := places1.length) (m := places1) (Value.int .i64) (0 : Int) Agg3 (fun _ hS => ⟨_, (hr_places1 _ (hS.dropN 1))⟩) (fun _ hS => rfl) (fun _ => hp1)) <| obs_cons (ob_call Try.func138 (by kernel_rfl) rfl (fun _ _ hS => gameroomref_pieceSide_w hr1 hS )) <| obs_cons (ob_call Try.func207 (by kernel_rfl) rfl (fun hy _ hS => gameroomref_Attacks_w (ite_some hr2 (by rw [show (r1 == by1) = true from hy ((r1 == by1), true) (by simp)]; try rfl)) hS (fun _ hS => (hr_places1 _ (hS.dropN 1))) _hc_places1 rfl)) <| obs_nil
        refine cond_ev (t := 25) (b := (r1 == by1) && r2) hF (by kernel_rfl) (fun hb => ?_) (fun hb => ?_)
        · replace hm := if_t hm hb
          refine oneR ?_
          obtain ⟨hp2, hm⟩ := asrt_b hm
          refine at_run 2 [] [] [0, 1, 2, 8, 26, 27] [pl 0 (.slice A1 places1.length c1), pl 1 (.int .i64 to1), pl 2 (.int .i64 by1), pl 8 (.int .i64 i1), pl 26 (.slice A2 l1.length c2), pl 27 (.int .i64 i1)] hF hS (by kernel_rfl) (by kernel_rfl) ?_ (fun a w hF hS => ?_)
          · exact obs_nil
          refine at_do (d := 28) (s := vS (Instr.buildSlice 27 1 #[(0, .int .i64 i1)])) (v := .slice (some ⟨w.heap.size, 0, none⟩) 1 1) (w' := w.alloc (.cells #[.int .i64 i1] 3)) hF (by kernel_rfl) (by kernel_rfl) (by kernel_rfl) (fun a hF => ?_)
          have hS : Sep w0 B (w.alloc (.cells #[.int .i64 i1] 3)) (own 3 (.slice (some (⟨w.heap.size, 0, none⟩ : Addr)) 1 1) (vI ([i1] : List Int)) :: (own 3 (.slice A2 l1.length c2) (vI l1) :: fs)) := hS.lit 3 #[.int .i64 i1] 1 rfl (by omega)
          generalize (some (⟨w.heap.size, 0, none⟩ : Addr)) = g1 at hF hS
          generalize w.alloc (.cells #[.int .i64 i1] 3) = w at hS ⊢
          obtain ⟨A4, c4, w, hrun, hS⟩ := run_app1 (P := Try.prog) (t := 27) (m := l1) (ys := ([i1] : List Int)) (A2 := g1) (m2 := 1) (c2 := 1) (Value.int .i64) (0 : Int) (hS.at_ 1 rfl) (hS.at_ 0 rfl).rd ((hS.at_ 0 rfl).len1) 27 Und27 hi3 hz3 hs3 (by omega) rfl (fun _ => rfl) hp2
          have hS : Sep w0 B w (own 3 (.slice g1 1 1) (vI ([i1] : List Int)) :: own 3 (.slice A4 ((l1 ++ ([i1] : List Int)).length) c4) (vI (l1 ++ ([i1] : List Int))) :: fs) := hS
          refine at_do (d := 29) hF (by kernel_rfl) (by kernel_rfl) hrun (fun a hF => ?_)
          refine at_run 1 [] [] [0, 1, 2, 7, 8] [pl 0 (.slice A1 places1.length c1), pl 1 (.int .i64 to1), pl 2 (.int .i64 by1), pl 7 (.slice A4 ((l1 ++ ([i1] : List Int)).length) c4), pl 8 (.int .i64 i1)] hF hS (by kernel_rfl) (by kernel_rfl) ?_ (fun a w hF hS => ?_)
          · exact obs_nil
          refine at_end [0, 1, 2, 7, 8] [pl 0 (.slice A1 places1.length c1), pl 1 (.int .i64 to1), pl 2 (.int .i64 by1), pl 7 (.slice A4 ((l1 ++ ([i1] : List Int)).length) c4), pl 8 (.int .i64 i1)] hF rfl (by kernel_rfl) (fun hF => ?_)
          refine block_n ?_
          refine then_n ?_
          have hS := hS.pickN 2 [1] (by decide)
          exact ⟨(l1 ++ ([i1] : List Int)), A4, c4, hF.weak [0, 1, 2, 7, 8] (by kernel_rfl), hS, hm⟩
        · replace hm := if_f hm hb
          refine wpIn_skip ?_
          refine block_n ?_
          refine then_n ?_
          exact ⟨l1, A2, c2, hF.weak [0, 1, 2, 7, 8] (by kernel_rfl), hS, hm⟩
    · refine reg [] [] [0, 1, 2, 7, 8, 10] [pl 0 (.slice A1 places1.length c1), pl 1 (.int .i64 to1), pl 2 (.int .i64 by1), pl 7 (.slice A2 l1.length c2), pl 8 (.int .i64 i1), pl 10 (.bool (decide (i1 < 64)))] hF hS Fol (by kernel_rfl) (by kernel_rfl) (by kernel_rfl) ?_ (fun a w hF hS => ?_)
      · exact obs_nil
      refine cond_ev (t := 10) (b := decide (i1 < 64)) hF (by kernel_rfl) (fun hb => ?_) (fun hb => ?_)
      · replace hm := if_t hm hb
        refine wpIn_skip ?_
        refine then_n ?_
        exact ⟨hF.weak [0, 1, 2, 7, 8] (by kernel_rfl), hS, hm⟩
      · replace hm := if_f hm hb
        refine wpIn_exit ?_
        refine then_e (then_e (block_e (then_n ?_)))
        rw [← hφ1] at hm
        replace hm := done_b hm
        unfold gameroomref_AttackersOf_K1 at hm
        try dsimp only at hm
        have hm : (gameroomref_AttackersOf_J1 l1).bind some = some r := hm
        exact ⟨l1, A2, c2, hF.weak [7] (by kernel_rfl), hS, hm⟩

noncomputable def gameroomref_InCheck_J1  (places1 : List Int) (side1 : Int) (king1 : Int) : Option Bool :=
  (gameroomref_at_m places1 king1).bind fun r1 => (gameroomref_AttackersOf_m places1 r1 (w64 (1 - side1))).bind fun r2 => some (decide ((0 : Int) < (r2.length : Int)))

noncomputable def gameroomref_InCheck_m  (places1 : List Int) (side1 : Int) : Option Bool :=
  if (side1 == 1) then ((gameroomref_InCheck_J1 places1 side1) (w64 (0 - 6))) else ((gameroomref_InCheck_J1 places1 side1) 6)

set_option maxRecDepth 100000 in
set_option maxHeartbeats 4000000 in
theorem gameroomref_InCheck_w {A1 : Option Addr} {c1 : Nat} {n1 : Nat} {places1 : List Int} {side1 : Int} {r : Bool} {w0 w : World} {B : Nat} {fs : List HP} (hm : gameroomref_InCheck_m places1 side1 = some r) (hS : Sep w0 B w (fs)) (hr_places1 : RdF w0 B fs A1 (vI places1)) (_hc_places1 : places1.length ≤ c1) (_hn_places1 : n1 = places1.length) :
    Calls Try.prog 130 #[.slice A1 n1 c1, .int .i64 side1] w fun e w' => e = .returned (.bool r) ∧ Sep w0 B w' (fs) := by
  obtain ⟨i3, hi3, hz3, hs3, hb3⟩ := info_parts Info3
  obtain rfl := _hn_places1
  unfold gameroomref_InCheck_m at hm
  replace hm := start_b hm
  refine enter (l := [.slice A1 places1.length c1, .int .i64 side1]) (n := 19) Try.func130 rfl rfl (by simp) (fun a hF => ?_)
  refine reg [] [] [0, 1] [pl 0 (.slice A1 places1.length c1), pl 1 (.int .i64 side1)] hF hS Fol (by kernel_rfl) (by kernel_rfl) (by kernel_rfl) ?_ (fun a w hF hS => ?_)
  · exact obs_nil
  refine reg [] [] [0, 1, 5] [pl 0 (.slice A1 places1.length c1), pl 1 (.int .i64 side1), pl 5 (.int .i64 6)] hF hS Fol (by kernel_rfl) (by kernel_rfl) (by kernel_rfl) ?_ (fun a w hF hS => ?_)
  · exact obs_nil
  refine seq_cut (fun a w => ∃ (king1 : Int), Fr 19 [pl 0 (.slice A1 places1.length c1), pl 1 (.int .i64 side1), pl 5 (.int .i64 king1)] a ∧ Sep w0 B w (fs) ∧ ((gameroomref_InCheck_J1 places1 side1) king1).bind some = some r) ?_ ?_
  · rintro a w ⟨king1, hF, hS, hm⟩
    unfold gameroomref_InCheck_J1 at hm
    refine seqR ?_
    obtain ⟨r1, hr1, hm⟩ := call_b hm
    obtain ⟨r2, hr2, hm⟩ := call_b hm
    refine at_run 6 [⟨false, [], callFunc 75 #[.slice A1 places1.length c1, .int .i64 king1], .int .i64 r1⟩] [none, none, none, some (.int .i64 r1), none, none] [10, 13, 15] [pl 10 (.slice A1 places1.length c1), pl 13 (.int .i64 r1), pl 15 (.int .i64 (w64 (1 - side1)))] hF hS (by kernel_rfl) (by kernel_rfl) ?_ (fun a w hF hS => ?_)
    · exact obs_cons (ob_call Try.func75 (by kernel_rfl) rfl (fun _ _ hS => gameroomref_at_w hr1 hS (fun _ hS => (hr_places1 _ (hS.dropN 0))) _hc_places1 rfl)) <| obs_nil
    refine at_call (f := 146) (args := #[.slice A1 places1.length c1, .int .i64 r1, .int .i64 (w64 (1 - side1))]) (d := 16) hF (by kernel_rfl) (by kernel_rfl) Try.func146 (by kernel_rfl) rfl (gameroomref_AttackersOf_w hr2 hS (fun _ hS => (hr_places1 _ (hS.dropN 0))) _hc_places1 rfl) (fun v a w hR hF => ?_)
    clear hS
    obtain ⟨A2, c2, rfl, hS⟩ := hR
    have hS : Sep w0 B w (own 3 (.slice A2 r2.length c2) (vI r2) :: fs) := hS
    refine at_run 3 [] [] [4] [pl 4 (.bool (decide ((0 : Int) < (r2.length : Int))))] hF hS (by kernel_rfl) (by kernel_rfl) ?_ (fun a w hF hS => ?_)
    · exact obs_nil
    refine at_end [4] [pl 4 (.bool (decide ((0 : Int) < (r2.length : Int))))] hF rfl (by kernel_rfl) (fun hF => ?_)
    refine then_n ?_
    refine wpIn_ret ?_
    have hS := hS.pickN 1 [] (by decide)
    have hm : some (decide ((0 : Int) < (r2.length : Int))) = some r := hm
    obtain rfl := Option.some.inj hm
    exact retV (rs := [.tmp 4]) (vs := [.bool (decide ((0 : Int) < (r2.length : Int)))]) hF rfl (rv_t (by kernel_rfl) <| rv_nil) rfl ⟨rfl, hS⟩
  · refine reg [] [] [0, 1, 5, 7] [pl 0 (.slice A1 places1.length c1), pl 1 (.int .i64 side1), pl 5 (.int .i64 6), pl 7 (.bool (side1 == 1))] hF hS Fol (by kernel_rfl) (by kernel_rfl) (by kernel_rfl) ?_ (fun a w hF hS => ?_)
    · exact obs_nil
    refine cond_ev (t := 7) (b := (side1 == 1)) hF (by kernel_rfl) (fun hb => ?_) (fun hb => ?_)
    · replace hm := if_t hm hb
      refine reg1 [] [] [0, 1, 5] [pl 0 (.slice A1 places1.length c1), pl 1 (.int .i64 side1), pl 5 (.int .i64 (w64 (0 - 6)))] hF hS Fol (by kernel_rfl) (by kernel_rfl) (by kernel_rfl) ?_ (fun a w hF hS => ?_)
      · exact obs_nil
      refine then_n ?_
      exact ⟨(w64 (0 - 6)), hF.weak [0, 1, 5] (by kernel_rfl), hS, hm⟩
    · replace hm := if_f hm hb
      refine wpIn_skip ?_
      refine then_n ?_
      exact ⟨6, hF.weak [0, 1, 5] (by kernel_rfl), hS, hm⟩

noncomputable def gameroomref_ChessMay_J4  (i1 : Int) (white4 : Int) (black3 : Int) : Option (St (Int × Int × Int) (Fl (Int × Int) Bool)) :=
  some (.next (white4, black3, (w64 (i1 + 1))))

noncomputable def gameroomref_ChessMay_J6  (p1 : List Int) (black1 : Int) (i1 : Int) (white3 : Int) : Option (St (Int × Int × Int) (Fl (Int × Int) Bool)) :=
  if ((geti p1 i1) == (-6)) then ((gameroomref_ChessMay_J4 i1) white3 (w64 (black1 + 1))) else ((gameroomref_ChessMay_J4 i1) white3 black1)

noncomputable def gameroomref_ChessMay_J5  (p1 : List Int) (white1 : Int) (black1 : Int) (i1 : Int) : Option (St (Int × Int × Int) (Fl (Int × Int) Bool)) :=
  if ((geti p1 i1) == 6) then ((gameroomref_ChessMay_J6 p1 black1 i1) (w64 (white1 + 1))) else ((gameroomref_ChessMay_J6 p1 black1 i1) white1)

noncomputable def gameroomref_ChessMay_J3  (p1 : List Int) (white1 : Int) (black1 : Int) (i1 : Int) : Option (St (Int × Int × Int) (Fl (Int × Int) Bool)) :=
  asrt (0 ≤ i1 ∧ i1 < (p1.length : Int)) <| (gameroomref_within_m (geti p1 i1) (-6) 6).bind fun r5 => ((if (!(!r5)) then gameroomref_size_m (geti p1 i1) else some 0)).bind fun r6 => if ((!r5) || ((r6 == 1) && ((decide (i1 < 8)) || (decide ((55 : Int) < i1))))) then (some (.done (.ret false))) else ((gameroomref_ChessMay_J5 p1 white1 black1 i1))

noncomputable def gameroomref_ChessMay_J10  (n2 : Int) : Option (St Int (Fl Unit Bool)) :=
  some (.next (w64 (n2 + 1)))

noncomputable def gameroomref_ChessMay_J11  (p1 : List Int) (p3 : Int) (n2 : Int) (c2 : Int) : Option (St Int (Fl Unit Bool)) :=
  asrt ((0 : Int) ≤ n2) <| asrt (((bAnd (shrK .i64 p3 n2) 1) == 1) = true → 0 ≤ n2 ∧ n2 < 4) <| asrt (((bAnd (shrK .i64 p3 n2) 1) == 1) = true → 0 ≤ (geti ([4, 4, 60, 60] : List Int) n2) ∧ (geti ([4, 4, 60, 60] : List Int) n2) < (p1.length : Int)) <| asrt (((geti p1 (geti ([4, 4, 60, 60] : List Int) n2)) != (w64 (c2 * 6))) = false → ((bAnd (shrK .i64 p3 n2) 1) == 1) = true → 0 ≤ n2 ∧ n2 < 4) <| asrt (((geti p1 (geti ([4, 4, 60, 60] : List Int) n2)) != (w64 (c2 * 6))) = false → ((bAnd (shrK .i64 p3 n2) 1) == 1) = true → 0 ≤ (geti ([7, 0, 63, 56] : List Int) n2) ∧ (geti ([7, 0, 63, 56] : List Int) n2) < (p1.length : Int)) <| if (((bAnd (shrK .i64 p3 n2) 1) == 1) && (((geti p1 (geti ([4, 4, 60, 60] : List Int) n2)) != (w64 (c2 * 6))) || ((geti p1 (geti ([7, 0, 63, 56] : List Int) n2)) != (w64 (c2 * 4))))) then (some (.done (.ret false))) else ((gameroomref_ChessMay_J10 n2))

noncomputable def gameroomref_ChessMay_J9  (p1 : List Int) (p3 : Int) (n2 : Int) : Option (St Int (Fl Unit Bool)) :=
  if (decide ((2 : Int) ≤ n2)) then ((gameroomref_ChessMay_J11 p1 p3 n2) (-1)) else ((gameroomref_ChessMay_J11 p1 p3 n2) 1)

noncomputable def gameroomref_ChessMay_L2  (p1 : List Int) (p3 : Int) : Int → Option (St Int (Fl Unit Bool)) :=
  fun (x : Int) => match x with | n2 => if (decide (n2 < 4)) then ((gameroomref_ChessMay_J9 p1 p3 n2)) else (some (.done (.go ())))

noncomputable def gameroomref_ChessMay_J13  (p1 : List Int) (p4 : Int) : Option Bool :=
  (gameroomref_within_m p4 16 23).bind fun r9 => asrt (r9 = true → 0 ≤ p4 ∧ p4 < (p1.length : Int)) <| asrt ((r9 && ((geti p1 p4) == 0)) = true → 0 ≤ (w64 (p4 + 8)) ∧ (w64 (p4 + 8)) < (p1.length : Int)) <| asrt (((r9 && ((geti p1 p4) == 0)) && ((geti p1 (w64 (p4 + 8))) == 1)) = true → 0 ≤ (w64 (p4 - 8)) ∧ (w64 (p4 - 8)) < (p1.length : Int)) <| some (((r9 && ((geti p1 p4) == 0)) && ((geti p1 (w64 (p4 + 8))) == 1)) && ((geti p1 (w64 (p4 - 8))) == 0))

noncomputable def gameroomref_ChessMay_J12  (p1 : List Int) (p2 : Int) (p4 : Int) : Option Bool :=
  if (p2 == 0) then ((gameroomref_within_m p4 40 47).bind fun r8 => asrt (r8 = true → 0 ≤ p4 ∧ p4 < (p1.length : Int)) <| asrt ((r8 && ((geti p1 p4) == 0)) = true → 0 ≤ (w64 (p4 - 8)) ∧ (w64 (p4 - 8)) < (p1.length : Int)) <| asrt (((r8 && ((geti p1 p4) == 0)) && ((geti p1 (w64 (p4 - 8))) == (-1))) = true → 0 ≤ (w64 (p4 + 8)) ∧ (w64 (p4 + 8)) < (p1.length : Int)) <| some (((r8 && ((geti p1 p4) == 0)) && ((geti p1 (w64 (p4 - 8))) == (-1))) && ((geti p1 (w64 (p4 + 8))) == 0))) else ((gameroomref_ChessMay_J13 p1 p4))

noncomputable def gameroomref_ChessMay_J8  (p1 : List Int) (p2 : Int) (p4 : Int) : Option Bool :=
  if (p4 == (-1)) then (some true) else ((gameroomref_ChessMay_J12 p1 p2 p4))

noncomputable def gameroomref_ChessMay_K2  (p1 : List Int) (p2 : Int) (p4 : Int) : (Fl Unit Bool) → Option Bool :=
  fun (x : (Fl Unit Bool)) => match x with | .go _ => (gameroomref_ChessMay_J8 p1 p2 p4) | .ret x => some x

noncomputable def gameroomref_ChessMay_J7  (p1 : List Int) (p2 : Int) (p3 : Int) (p4 : Int) : Option Bool :=
  (loop (gameroomref_ChessMay_L2 p1 p3) 0).bind (gameroomref_ChessMay_K2 p1 p2 p4)

noncomputable def gameroomref_ChessMay_J2  (p1 : List Int) (p2 : Int) (p3 : Int) (p4 : Int) (white2 : Int) (black2 : Int) : Option Bool :=
  ((if (!((white2 != 1) || (black2 != 1))) then gameroomref_InCheck_m p1 (w64 (1 - p2)) else some false)).bind fun r7 => if (((white2 != 1) || (black2 != 1)) || r7) then (some false) else ((gameroomref_ChessMay_J7 p1 p2 p3 p4))

noncomputable def gameroomref_ChessMay_K1  (p1 : List Int) (p2 : Int) (p3 : Int) (p4 : Int) : (Fl (Int × Int) Bool) → Option Bool :=
  fun (x : (Fl (Int × Int) Bool)) => match x with | .go (white2, black2) => (gameroomref_ChessMay_J2 p1 p2 p3 p4) white2 black2 | .ret x => some x

noncomputable def gameroomref_ChessMay_L1  (p1 : List Int) : (Int × Int × Int) → Option (St (Int × Int × Int) (Fl (Int × Int) Bool)) :=
  fun (x : (Int × Int × Int)) => match x with | (white1, black1, i1) => if (decide (i1 < 64)) then ((gameroomref_ChessMay_J3 p1 white1 black1 i1)) else (some (.done (.go (white1, black1))))

noncomputable def gameroomref_ChessMay_J1  (p1 : List Int) (p2 : Int) (p3 : Int) (p4 : Int) : Option Bool :=
  (loop (gameroomref_ChessMay_L1 p1) (0, 0, 0)).bind (gameroomref_ChessMay_K1 p1 p2 p3 p4)

noncomputable def gameroomref_ChessMay_m  (p1 : List Int) (p2 : Int) (p3 : Int) (p4 : Int) (p5 : Int) (p6 : Int) : Option Bool :=
  ((if (!((p1.length : Int) != 64)) then gameroomref_within_m p2 0 1 else some false)).bind fun r1 => ((if (!(((p1.length : Int) != 64) || (!r1))) then gameroomref_within_m p3 0 15 else some false)).bind fun r2 => ((if (!((((p1.length : Int) != 64) || (!r1)) || (!r2))) then gameroomref_within_m p5 0 999 else some false)).bind fun r3 => ((if (!(((((p1.length : Int) != 64) || (!r1)) || (!r2)) || (!r3))) then gameroomref_within_m p6 1 999 else some false)).bind fun r4 => if ((((((p1.length : Int) != 64) || (!r1)) || (!r2)) || (!r3)) || (!r4)) then (some false) else ((gameroomref_ChessMay_J1 p1 p2 p3 p4))

set_option maxRecDepth 100000 in
set_option maxHeartbeats 4000000 in
theorem gameroomref_ChessMay_w {A1 : Option Addr} {c1 : Nat} {n1 : Nat} {p1 : List Int} {p2 : Int} {p3 : Int} {p4 : Int} {p5 : Int} {p6 : Int} {r : Bool} {w0 w : World} {B : Nat} {fs : List HP} (hm : gameroomref_ChessMay_m p1 p2 p3 p4 p5 p6 = some r) (hS : Sep w0 B w (fs)) (hr_p1 : RdF w0 B fs A1 (vI p1)) (_hc_p1 : p1.length ≤ c1) (_hn_p1 : n1 = p1.length) :
    Calls Try.prog 48 #[.agg #[.slice A1 n1 c1, .int .i64 p2, .int .i64 p3, .int .i64 p4, .int .i64 p5, .int .i64 p6]] w fun e w' => e = .returned (.bool r) ∧ Sep w0 B w' (fs) := by
  obtain ⟨i3, hi3, hz3, hs3, hb3⟩ := info_parts Info3
  obtain rfl := _hn_p1
  unfold gameroomref_ChessMay_m at hm
  replace hm := start_b hm
  refine enter (l := [.agg #[.slice A1 p1.length c1, .int .i64 p2, .int .i64 p3, .int .i64 p4, .int .i64 p5, .int .i64 p6]]) (n := 190) Try.func48 rfl rfl (by simp) (fun a hF => ?_)
  refine seqR ?_
  refine at_do (d := 1) (s := vS (Instr.box 75 (.agg #[.slice A1 p1.length c1, .int .i64 p2, .int .i64 p3, .int .i64 p4, .int .i64 p5, .int .i64 p6]))) (v := .pointer (some ⟨w.heap.size, 0, none⟩)) (w' := w.alloc (.cells #[.slice A1 p1.length c1, .int .i64 p2, .int .i64 p3, .int .i64 p4, .int .i64 p5, .int .i64 p6] 75)) hF (by kernel_rfl) (by kernel_rfl) (by kernel_rfl) (fun a hF => ?_)
  have hS : Sep w0 B (w.alloc (.cells #[.slice A1 p1.length c1, .int .i64 p2, .int .i64 p3, .int .i64 p4, .int .i64 p5, .int .i64 p6] 75)) (blk w.heap.size 75 #[.slice A1 p1.length c1, .int .i64 p2, .int .i64 p3, .int .i64 p4, .int .i64 p5, .int .i64 p6] :: (fs)) := hS.box 75 #[.slice A1 p1.length c1, .int .i64 p2, .int .i64 p3, .int .i64 p4, .int .i64 p5, .int .i64 p6]
  generalize w.heap.size = g1 at hF hS
  generalize w.alloc (.cells #[.slice A1 p1.length c1, .int .i64 p2, .int .i64 p3, .int .i64 p4, .int .i64 p5, .int .i64 p6] 75) = w at hS ⊢
  refine at_run 1 [] [] [1] [pl 1 (.pointer (some ⟨g1, 0, none⟩))] hF hS (by kernel_rfl) (by kernel_rfl) ?_ (fun a w hF hS => ?_)
  · exact obs_nil
  refine at_end [1] [pl 1 (.pointer (some ⟨g1, 0, none⟩))] hF rfl (by kernel_rfl) (fun hF => ?_)
  refine then_n ?_
  refine seq_cut (fun a w => Fr 190 [pl 1 (.pointer (some ⟨g1, 0, none⟩))] a ∧ Sep w0 B w (blk g1 75 #[.slice A1 p1.length c1, .int .i64 p2, .int .i64 p3, .int .i64 p4, .int .i64 p5, .int .i64 p6] :: fs) ∧ ((gameroomref_ChessMay_J1 p1 p2 p3 p4)).bind some = some r) ?_ ?_
  · rintro a w ⟨hF, hS, hm⟩
    unfold gameroomref_ChessMay_J1 at hm
    refine reg [] [] [1, 3, 4] [pl 1 (.pointer (some ⟨g1, 0, none⟩)), pl 3 (.int .i64 0), pl 4 (.int .i64 0)] hF hS Fol (by kernel_rfl) (by kernel_rfl) (by kernel_rfl) ?_ (fun a w hF hS => ?_)
    · exact obs_nil
    refine seq_cut (fun a w => ∃ (white2 : Int) (black2 : Int), Fr 190 [pl 1 (.pointer (some ⟨g1, 0, none⟩)), pl 3 (.int .i64 white2), pl 4 (.int .i64 black2)] a ∧ Sep w0 B w (blk g1 75 #[.slice A1 p1.length c1, .int .i64 p2, .int .i64 p3, .int .i64 p4, .int .i64 p5, .int .i64 p6] :: fs) ∧ ((gameroomref_ChessMay_J2 p1 p2 p3 p4) white2 black2).bind some = some r) ?_ ?_
    · rintro a w ⟨white2, black2, hF, hS, hm⟩
      unfold gameroomref_ChessMay_J2 at hm
      refine seq_cut (fun a w => Fr 190 [pl 1 (.pointer (some ⟨g1, 0, none⟩))] a ∧ Sep w0 B w (blk g1 75 #[.slice A1 p1.length c1, .int .i64 p2, .int .i64 p3, .int .i64 p4, .int .i64 p5, .int .i64 p6] :: fs) ∧ ((gameroomref_ChessMay_J7 p1 p2 p3 p4)).bind some = some r) ?_ ?_
      · rintro a w ⟨hF, hS, hm⟩
        unfold gameroomref_ChessMay_J7 at hm
        refine seqR ?_
        refine at_do (d := 87) (s := vS (Instr.buildSlice 27 4 #[(0, .int .i64 4), (1, .int .i64 4), (2, .int .i64 60), (3, .int .i64 60)])) (v := .slice (some ⟨w.heap.size, 0, none⟩) 4 4) (w' := w.alloc (.cells #[.int .i64 4, .int .i64 4, .int .i64 60, .int .i64 60] 3)) hF (by kernel_rfl) (by kernel_rfl) (by kernel_rfl) (fun a hF => ?_)
        have hS : Sep w0 B (w.alloc (.cells #[.int .i64 4, .int .i64 4, .int .i64 60, .int .i64 60] 3)) (own 3 (.slice (some (⟨w.heap.size, 0, none⟩ : Addr)) 4 4) (vI ([4, 4, 60, 60] : List Int)) :: (blk g1 75 #[.slice A1 p1.length c1, .int .i64 p2, .int .i64 p3, .int .i64 p4, .int .i64 p5, .int .i64 p6] :: fs)) := hS.lit 3 #[.int .i64 4, .int .i64 4, .int .i64 60, .int .i64 60] 4 rfl (by omega)
        generalize (some (⟨w.heap.size, 0, none⟩ : Addr)) = g2 at hF hS
        generalize w.alloc (.cells #[.int .i64 4, .int .i64 4, .int .i64 60, .int .i64 60] 3) = w at hS ⊢
        refine at_do (d := 88) (s := vS (Instr.buildSlice 27 4 #[(0, .int .i64 7), (1, .int .i64 0), (2, .int .i64 63), (3, .int .i64 56)])) (v := .slice (some ⟨w.heap.size, 0, none⟩) 4 4) (w' := w.alloc (.cells #[.int .i64 7, .int .i64 0, .int .i64 63, .int .i64 56] 3)) hF (by kernel_rfl) (by kernel_rfl) (by kernel_rfl) (fun a hF => ?_)
        have hS : Sep w0 B (w.alloc (.cells #[.int .i64 7, .int .i64 0, .int .i64 63, .int .i64 56] 3)) (own 3 (.slice (some (⟨w.heap.size, 0, none⟩ : Addr)) 4 4) (vI ([7, 0, 63, 56] : List Int)) :: (own 3 (.slice g2 4 4) (vI ([4, 4, 60, 60] : List Int)) :: blk g1 75 #[.slice A1 p1.length c1, .int .i64 p2, .int .i64 p3, .int .i64 p4, .int .i64 p5, .int .i64 p6] :: fs)) := hS.lit 3 #[.int .i64 7, .int .i64 0, .int .i64 63, .int .i64 56] 4 rfl (by omega)
        generalize (some (⟨w.heap.size, 0, none⟩ : Addr)) = g3 at hF hS
        generalize w.alloc (.cells #[.int .i64 7, .int .i64 0, .int .i64 63, .int .i64 56] 3) = w at hS ⊢
        refine at_run 2 [] [] [1, 7, 8] [pl 1 (.pointer (some ⟨g1, 0, none⟩)), pl 7 (.slice g2 4 4), pl 8 (.slice g3 4 4)] hF hS (by kernel_rfl) (by kernel_rfl) ?_ (fun a w hF hS => ?_)
        · exact obs_nil
        refine at_end [1, 7, 8] [pl 1 (.pointer (some ⟨g1, 0, none⟩)), pl 7 (.slice g2 4 4), pl 8 (.slice g3 4 4)] hF rfl (by kernel_rfl) (fun hF => ?_)
        refine then_n ?_
        refine seq_cut (fun a w => Fr 190 [pl 1 (.pointer (some ⟨g1, 0, none⟩))] a ∧ Sep w0 B w (blk g1 75 #[.slice A1 p1.length c1, .int .i64 p2, .int .i64 p3, .int .i64 p4, .int .i64 p5, .int .i64 p6] :: fs) ∧ ((gameroomref_ChessMay_J8 p1 p2 p4)).bind some = some r) ?_ ?_
        · rintro a w ⟨hF, hS, hm⟩
          unfold gameroomref_ChessMay_J8 at hm
          refine reg [⟨false, [], vS (Instr.loadAt 3 (.pointer (some ⟨g1, 3, none⟩))), .int .i64 p4⟩] [none, some (.int .i64 p4), none] [1, 11] [pl 1 (.pointer (some ⟨g1, 0, none⟩)), pl 11 (.int .i64 p4)] hF hS Fol (by kernel_rfl) (by kernel_rfl) (by kernel_rfl) ?_ (fun a w hF hS => ?_)
          · exact obs_cons (ob_load Agg3 (fun _ _ hS => (hS.at_ 0 rfl).cell rfl)) <| obs_nil
          refine seq_cut (fun a w => Fr 190 [pl 1 (.pointer (some ⟨g1, 0, none⟩)), pl 11 (.int .i64 p4)] a ∧ Sep w0 B w (blk g1 75 #[.slice A1 p1.length c1, .int .i64 p2, .int .i64 p3, .int .i64 p4, .int .i64 p5, .int .i64 p6] :: fs) ∧ ((gameroomref_ChessMay_J12 p1 p2 p4)).bind some = some r) ?_ ?_
          · rintro a w ⟨hF, hS, hm⟩
            unfold gameroomref_ChessMay_J12 at hm
            refine seq_cut (fun a w => Fr 190 [pl 1 (.pointer (some ⟨g1, 0, none⟩)), pl 11 (.int .i64 p4)] a ∧ Sep w0 B w (blk g1 75 #[.slice A1 p1.length c1, .int .i64 p2, .int .i64 p3, .int .i64 p4, .int .i64 p5, .int .i64 p6] :: fs) ∧ ((gameroomref_ChessMay_J13 p1 p4)).bind some = some r) ?_ ?_
            · rintro a w ⟨hF, hS, hm⟩
              unfold gameroomref_ChessMay_J13 at hm
              obtain ⟨r9, hr9, hm⟩ := call_b hm
              obtain ⟨hp10, hm⟩ := asrt_b hm
              obtain ⟨hp11, hm⟩ := asrt_b hm
              obtain ⟨hp12, hm⟩ := asrt_b hm
              refine reg [⟨false, [], callFunc 74 #[.int .i64 p4, .int .i64 16, .int .i64 23], .bool r9⟩, ⟨false, [(r9, true)], vS (Instr.loadAt 27 (.pointer (some ⟨g1, 0, none⟩))), .slice A1 p1.length c1⟩, ⟨true, [(r9, true)], vS (Instr.indexAt 27 (.slice A1 p1.length c1) (.int .i64 p4)), .pointer (some (sAddr A1 p4))⟩, ⟨false, [(r9, true)], vS (Instr.loadAt 3 (.pointer (some (sAddr A1 p4)))), .int .i64 (geti p1 p4)⟩, ⟨false, [(r9 && ((geti p1 p4) == 0), true)], vS (Instr.loadAt 27 (.pointer (some ⟨g1, 0, none⟩))), .slice A1 p1.length c1⟩, ⟨true, [(r9 && ((geti p1 p4) == 0), true)], vS (Instr.indexAt 27 (.slice A1 p1.length c1) (.int .i64 (w64 (p4 + 8)))), .pointer (some (sAddr A1 (w64 (p4 + 8))))⟩, ⟨false, [(r9 && ((geti p1 p4) == 0), true)], vS (Instr.loadAt 3 (.pointer (some (sAddr A1 (w64 (p4 + 8)))))), .int .i64 (geti p1 (w64 (p4 + 8)))⟩, ⟨false, [((r9 && ((geti p1 p4) == 0)) && ((geti p1 (w64 (p4 + 8))) == 1), true)], vS (Instr.loadAt 27 (.pointer (some ⟨g1, 0, none⟩))), .slice A1 p1.length c1⟩, ⟨true, [((r9 && ((geti p1 p4) == 0)) && ((geti p1 (w64 (p4 + 8))) == 1), true)], vS (Instr.indexAt 27 (.slice A1 p1.length c1) (.int .i64 (w64 (p4 - 8)))), .pointer (some (sAddr A1 (w64 (p4 - 8))))⟩, ⟨false, [((r9 && ((geti p1 p4) == 0)) && ((geti p1 (w64 (p4 + 8))) == 1), true)], vS (Instr.loadAt 3 (.pointer (some (sAddr A1 (w64 (p4 - 8)))))), .int .i64 (geti p1 (w64 (p4 - 8)))⟩] [none, some (.bool r9), none, none, some (.slice A1 p1.length c1), none, some (.pointer (some (sAddr A1 p4))), some (.int .i64 (geti p1 p4)), none, none, none, none, some (.slice A1 p1.length c1), none, none, some (.pointer (some (sAddr A1 (w64 (p4 + 8))))), some (.int .i64 (geti p1 (w64 (p4 + 8)))), none, none, none, none, some (.slice A1 p1.length c1), none, none, some (.pointer (some (sAddr A1 (w64 (p4 - 8))))), some (.int .i64 (geti p1 (w64 (p4 - 8)))), none, none, none] [2] [pl 2 (.bool (((r9 && ((geti p1 p4) == 0)) && ((geti p1 (w64 (p4 + 8))) == 1)) && ((geti p1 (w64 (p4 - 8))) == 0)))] hF hS Fol (by kernel_rfl) (by kernel_rfl) (by kernel_rfl) ?_ (fun a w hF hS => ?_)
              · exact obs_cons (ob_call Try.func74 (by kernel_rfl) rfl (fun _ _ hS => gameroomref_within_w hr9 hS )) <| obs_cons (ob_load Agg27 (fun _ _ hS => (hS.at_ 0 rfl).cell rfl)) <| obs_cons (ob_ix1 (f := (Value.int .i64)) (m := p1) Und27 hi3 hs3 (hr_p1 _ (hS.dropN 1)) rfl (fun hy => hp10 (hy (r9, true) (by simp)))) <| obs_cons (ob_get1 (n := p1.length) (m := p1) (Value.int .i64) (0 : Int) Agg3 (fun _ hS => ⟨_, (hr_p1 _ (hS.dropN 1))⟩) (fun _ hS => rfl) (fun hy => hp10 (hy (r9, true) (by simp)))) <| obs_cons (ob_load Agg27 (fun _ _ hS => (hS.at_ 0 rfl).cell rfl)) <| obs_cons (ob_ix1 (f := (Value.int .i64)) (m := p1) Und27 hi3 hs3 (hr_p1 _ (hS.dropN 1)) rfl (fun hy => hp11 (hy (r9 && ((geti p1 p4) == 0), true) (by simp)))) <| obs_cons (ob_get1 (n := p1.length) (m := p1) (Value.int .i64) (0 : Int) Agg3 (fun _ hS => ⟨_, (hr_p1 _ (hS.dropN 1))⟩) (fun _ hS => rfl) (fun hy => hp11 (hy (r9 && ((geti p1 p4) == 0), true) (by simp)))) <| obs_cons (ob_load Agg27 (fun _ _ hS => (hS.at_ 0 rfl).cell rfl)) <| obs_cons (ob_ix1 (f := (Value.int .i64)) (m := p1) Und27 hi3 hs3 (hr_p1 _ (hS.dropN 1)) rfl (fun hy => hp12 (hy ((r9 && ((geti p1 p4) == 0)) && ((geti p1 (w64 (p4 + 8))) == 1), true) (by simp)))) <| obs_cons (ob_get1 (n := p1.length) (m := p1) (Value.int .i64) (0 : Int) Agg3 (fun _ hS => ⟨_, (hr_p1 _ (hS.dropN 1))⟩) (fun _ hS => rfl) (fun hy => hp12 (hy ((r9 && ((geti p1 p4) == 0)) && ((geti p1 (w64 (p4 + 8))) == 1), true) (by simp)))) <| obs_nil
              refine wpIn_ret ?_
              have hS := hS.pickN 1 [] (by decide)
              have hm : some (((r9 && ((geti p1 p4) == 0)) && ((geti p1 (w64 (p4 + 8))) == 1)) && ((geti p1 (w64 (p4 - 8))) == 0)) = some r := hm
              obtain rfl := Option.some.inj hm
              exact retV (rs := [.tmp 2]) (vs := [.bool (((r9 && ((geti p1 p4) == 0)) && ((geti p1 (w64 (p4 + 8))) == 1)) && ((geti p1 (w64 (p4 - 8))) == 0))]) hF rfl (rv_t (by kernel_rfl) <| rv_nil) rfl ⟨rfl, hS⟩
            · refine reg [⟨false, [], vS (Instr.loadAt 3 (.pointer (some ⟨g1, 1, none⟩))), .int .i64 p2⟩] [none, some (.int .i64 p2), none] [1, 11, 133] [pl 1 (.pointer (some ⟨g1, 0, none⟩)), pl 11 (.int .i64 p4), pl 133 (.bool (p2 == 0))] hF hS Fol (by kernel_rfl) (by kernel_rfl) (by kernel_rfl) ?_ (fun a w hF hS => ?_)
              · exact obs_cons (ob_load Agg3 (fun _ _ hS => (hS.at_ 0 rfl).cell rfl)) <| obs_nil
              refine cond_ev (t := 133) (b := (p2 == 0)) hF (by kernel_rfl) (fun hb => ?_) (fun hb => ?_)
              · replace hm := if_t hm hb
                obtain ⟨r8, hr8, hm⟩ := call_b hm
                obtain ⟨hp7, hm⟩ := asrt_b hm
                obtain ⟨hp8, hm⟩ := asrt_b hm
                obtain ⟨hp9, hm⟩ := asrt_b hm
                refine reg [⟨false, [], callFunc 74 #[.int .i64 p4, .int .i64 40, .int .i64 47], .bool r8⟩, ⟨false, [(r8, true)], vS (Instr.loadAt 27 (.pointer (some ⟨g1, 0, none⟩))), .slice A1 p1.length c1⟩, ⟨true, [(r8, true)], vS (Instr.indexAt 27 (.slice A1 p1.length c1) (.int .i64 p4)), .pointer (some (sAddr A1 p4))⟩, ⟨false, [(r8, true)], vS (Instr.loadAt 3 (.pointer (some (sAddr A1 p4)))), .int .i64 (geti p1 p4)⟩, ⟨false, [(r8 && ((geti p1 p4) == 0), true)], vS (Instr.loadAt 27 (.pointer (some ⟨g1, 0, none⟩))), .slice A1 p1.length c1⟩, ⟨true, [(r8 && ((geti p1 p4) == 0), true)], vS (Instr.indexAt 27 (.slice A1 p1.length c1) (.int .i64 (w64 (p4 - 8)))), .pointer (some (sAddr A1 (w64 (p4 - 8))))⟩, ⟨false, [(r8 && ((geti p1 p4) == 0), true)], vS (Instr.loadAt 3 (.pointer (some (sAddr A1 (w64 (p4 - 8)))))), .int .i64 (geti p1 (w64 (p4 - 8)))⟩, ⟨false, [((r8 && ((geti p1 p4) == 0)) && ((geti p1 (w64 (p4 - 8))) == (-1)), true)], vS (Instr.loadAt 27 (.pointer (some ⟨g1, 0, none⟩))), .slice A1 p1.length c1⟩, ⟨true, [((r8 && ((geti p1 p4) == 0)) && ((geti p1 (w64 (p4 - 8))) == (-1)), true)], vS (Instr.indexAt 27 (.slice A1 p1.length c1) (.int .i64 (w64 (p4 + 8)))), .pointer (some (sAddr A1 (w64 (p4 + 8))))⟩, ⟨false, [((r8 && ((geti p1 p4) == 0)) && ((geti p1 (w64 (p4 - 8))) == (-1)), true)], vS (Instr.loadAt 3 (.pointer (some (sAddr A1 (w64 (p4 + 8)))))), .int .i64 (geti p1 (w64 (p4 + 8)))⟩] [none, some (.bool r8), none, none, some (.slice A1 p1.length c1), none, some (.pointer (some (sAddr A1 p4))), some (.int .i64 (geti p1 p4)), none, none, none, none, some (.slice A1 p1.length c1), none, none, some (.pointer (some (sAddr A1 (w64 (p4 - 8))))), some (.int .i64 (geti p1 (w64 (p4 - 8)))), none, none, none, none, some (.slice A1 p1.length c1), none, none, some (.pointer (some (sAddr A1 (w64 (p4 + 8))))), some (.int .i64 (geti p1 (w64 (p4 + 8)))), none, none, none] [2] [pl 2 (.bool (((r8 && ((geti p1 p4) == 0)) && ((geti p1 (w64 (p4 - 8))) == (-1))) && ((geti p1 (w64 (p4 + 8))) == 0)))] hF hS Fol (by kernel_rfl) (by kernel_rfl) (by kernel_rfl) ?_ (fun a w hF hS => ?_)
                · exact obs_cons (ob_call Try.func74 (by kernel_rfl) rfl (fun _ _ hS => gameroomref_within_w hr8 hS )) <| obs_cons (ob_load Agg27 (fun _ _ hS => (hS.at_ 0 rfl).cell rfl)) <| obs_cons (ob_ix1 (f := (Value.int .i64)) (m := p1) Und27 hi3 hs3 (hr_p1 _ (hS.dropN 1)) rfl (fun hy => hp7 (hy (r8, true) (by simp)))) <| obs_cons (ob_get1 (n := p1.length) (m := p1) (Value.int .i64) (0 : Int) Agg3 (fun _ hS => ⟨_, (hr_p1 _ (hS.dropN 1))⟩) (fun _ hS => rfl) (fun hy => hp7 (hy (r8, true) (by simp)))) <| obs_cons (ob_load Agg27 (fun _ _ hS => (hS.at_ 0 rfl).cell rfl)) <| obs_cons (ob_ix1 (f := (Value.int .i64)) (m := p1) Und27 hi3 hs3 (hr_p1 _ (hS.dropN 1)) rfl (fun hy => hp8 (hy (r8 && ((geti p1 p4) == 0), true) (by simp)))) <| obs_cons (ob_get1 (n := p1.length) (m := p1) (Value.int .i64) (0 : Int) Agg3 (fun _ hS => ⟨_, (hr_p1 _ (hS.dropN 1))⟩) (fun _ hS => rfl) (fun hy => hp8 (hy (r8 && ((geti p1 p4) == 0), true) (by simp)))) <| obs_cons (ob_load Agg27 (fun _ _ hS => (hS.at_ 0 rfl).cell rfl)) <| obs_cons (ob_ix1 (f := (Value.int .i64)) (m := p1) Und27 hi3 hs3 (hr_p1 _ (hS.dropN 1)) rfl (fun hy => hp9 (hy ((r8 && ((geti p1 p4) == 0)) && ((geti p1 (w64 (p4 - 8))) == (-1)), true) (by simp)))) <| obs_cons (ob_get1 (n := p1.length) (m := p1) (Value.int .i64) (0 : Int) Agg3 (fun _ hS => ⟨_, (hr_p1 _ (hS.dropN 1))⟩) (fun _ hS => rfl) (fun hy => hp9 (hy ((r8 && ((geti p1 p4) == 0)) && ((geti p1 (w64 (p4 - 8))) == (-1)), true) (by simp)))) <| obs_nil
                refine wpIn_ret ?_
                refine then_r ?_
                have hS := hS.pickN 1 [] (by decide)
                have hm : some (((r8 && ((geti p1 p4) == 0)) && ((geti p1 (w64 (p4 - 8))) == (-1))) && ((geti p1 (w64 (p4 + 8))) == 0)) = some r := hm
                obtain rfl := Option.some.inj hm
                exact retV (rs := [.tmp 2]) (vs := [.bool (((r8 && ((geti p1 p4) == 0)) && ((geti p1 (w64 (p4 - 8))) == (-1))) && ((geti p1 (w64 (p4 + 8))) == 0))]) hF rfl (rv_t (by kernel_rfl) <| rv_nil) rfl ⟨rfl, hS⟩
              · replace hm := if_f hm hb
                refine wpIn_skip ?_
                refine then_n ?_
                exact ⟨hF.weak [1, 11] (by kernel_rfl), hS, hm⟩
          · refine reg [] [] [1, 11, 130] [pl 1 (.pointer (some ⟨g1, 0, none⟩)), pl 11 (.int .i64 p4), pl 130 (.bool (p4 == (-1)))] hF hS Fol (by kernel_rfl) (by kernel_rfl) (by kernel_rfl) ?_ (fun a w hF hS => ?_)
            · exact obs_nil
            refine cond_ev (t := 130) (b := (p4 == (-1))) hF (by kernel_rfl) (fun hb => ?_) (fun hb => ?_)
            · replace hm := if_t hm hb
              refine reg [] [] [2] [pl 2 (.bool true)] hF hS Fol (by kernel_rfl) (by kernel_rfl) (by kernel_rfl) ?_ (fun a w hF hS => ?_)
              · exact obs_nil
              refine wpIn_ret ?_
              refine then_r ?_
              have hS := hS.pickN 1 [] (by decide)
              have hm : some true = some r := hm
              obtain rfl := Option.some.inj hm
              exact retV (rs := [.tmp 2]) (vs := [.bool true]) hF rfl (rv_t (by kernel_rfl) <| rv_nil) rfl ⟨rfl, hS⟩
            · replace hm := if_f hm hb
              refine wpIn_skip ?_
              refine then_n ?_
              exact ⟨hF.weak [1, 11] (by kernel_rfl), hS, hm⟩
        · refine reg [] [] [1, 7, 8, 9] [pl 1 (.pointer (some ⟨g1, 0, none⟩)), pl 7 (.slice g2 4 4), pl 8 (.slice g3 4 4), pl 9 (.int .i64 0)] hF hS Fol (by kernel_rfl) (by kernel_rfl) (by kernel_rfl) ?_ (fun a w hF hS => ?_)
          · exact obs_nil
          refine wpIn_block ?_
          have hS := hS.pickN 3 [2, 1, 0] (by decide)
          refine wp_loop_model (S := Int) (R := (Fl Unit Bool)) (gameroomref_ChessMay_L2 p1 p3) (fun x => ((gameroomref_ChessMay_K2 p1 p2 p4) x).bind some) r (fun (x : Int) a w => Fr 190 [pl 1 (.pointer (some ⟨g1, 0, none⟩)), pl 7 (.slice g2 4 4), pl 8 (.slice g3 4 4), pl 9 (.int .i64 x)] a ∧ Sep w0 B w (blk g1 75 #[.slice A1 p1.length c1, .int .i64 p2, .int .i64 p3, .int .i64 p4, .int .i64 p5, .int .i64 p6] :: own 3 (.slice g2 4 4) (vI ([4, 4, 60, 60] : List Int)) :: own 3 (.slice g3 4 4) (vI ([7, 0, 63, 56] : List Int)) :: fs)) (assoc_b hm) ⟨hF.weak [1, 7, 8, 9] (by kernel_rfl), hS⟩ ?_
          clear hF hS hm
          rintro nn2 n2 a w ⟨hF, hS⟩ hm
          generalize hφ2 : stK (gameroomref_ChessMay_L2 p1 p3) nn2 (fun x => ((gameroomref_ChessMay_K2 p1 p2 p4) x).bind some) = φ2 at hm
          unfold gameroomref_ChessMay_L2 at hm
          dsimp only at hm
          refine seq_cut (fun a w => Fr 190 [pl 1 (.pointer (some ⟨g1, 0, none⟩)), pl 7 (.slice g2 4 4), pl 8 (.slice g3 4 4), pl 9 (.int .i64 n2)] a ∧ Sep w0 B w (blk g1 75 #[.slice A1 p1.length c1, .int .i64 p2, .int .i64 p3, .int .i64 p4, .int .i64 p5, .int .i64 p6] :: own 3 (.slice g2 4 4) (vI ([4, 4, 60, 60] : List Int)) :: own 3 (.slice g3 4 4) (vI ([7, 0, 63, 56] : List Int)) :: fs) ∧ ((gameroomref_ChessMay_J9 p1 p3 n2)).bind φ2 = some r) ?_ ?_
          · rintro a w ⟨hF, hS, hm⟩
            unfold gameroomref_ChessMay_J9 at hm
            refine seq_cut (fun a w => Fr 190 [pl 1 (.pointer (some ⟨g1, 0, none⟩)), pl 7 (.slice g2 4 4), pl 8 (.slice g3 4 4), pl 9 (.int .i64 n2)] a ∧ Sep w0 B w (blk g1 75 #[.slice A1 p1.length c1, .int .i64 p2, .int .i64 p3, .int .i64 p4, .int .i64 p5, .int .i64 p6] :: own 3 (.slice g2 4 4) (vI ([4, 4, 60, 60] : List Int)) :: own 3 (.slice g3 4 4) (vI ([7, 0, 63, 56] : List Int)) :: fs) ∧ ((gameroomref_ChessMay_J10 n2)).bind φ2 = some r) ?_ ?_
            · rintro a w ⟨hF, hS, hm⟩
              unfold gameroomref_ChessMay_J10 at hm
              refine reg1 [] [] [1, 7, 8, 9] [pl 1 (.pointer (some ⟨g1, 0, none⟩)), pl 7 (.slice g2 4 4), pl 8 (.slice g3 4 4), pl 9 (.int .i64 (w64 (n2 + 1)))] hF hS Fol (by kernel_rfl) (by kernel_rfl) (by kernel_rfl) ?_ (fun a w hF hS => ?_)
              · exact obs_nil
              refine then_n ?_
              rw [← hφ2] at hm
              exact ⟨(w64 (n2 + 1)), ⟨hF.weak [1, 7, 8, 9] (by kernel_rfl), hS⟩, hm⟩
            · refine wpIn_block ?_
              refine reg [] [] [1, 7, 8, 9, 10] [pl 1 (.pointer (some ⟨g1, 0, none⟩)), pl 7 (.slice g2 4 4), pl 8 (.slice g3 4 4), pl 9 (.int .i64 n2), pl 10 (.int .i64 1)] hF hS Fol (by kernel_rfl) (by kernel_rfl) (by kernel_rfl) ?_ (fun a w hF hS => ?_)
              · exact obs_nil
              refine seq_cut (fun a w => ∃ (c2 : Int), Fr 190 [pl 1 (.pointer (some ⟨g1, 0, none⟩)), pl 7 (.slice g2 4 4), pl 8 (.slice g3 4 4), pl 9 (.int .i64 n2), pl 10 (.int .i64 c2)] a ∧ Sep w0 B w (blk g1 75 #[.slice A1 p1.length c1, .int .i64 p2, .int .i64 p3, .int .i64 p4, .int .i64 p5, .int .i64 p6] :: own 3 (.slice g2 4 4) (vI ([4, 4, 60, 60] : List Int)) :: own 3 (.slice g3 4 4) (vI ([7, 0, 63, 56] : List Int)) :: fs) ∧ ((gameroomref_ChessMay_J11 p1 p3 n2) c2).bind φ2 = some r) ?_ ?_
              · rintro a w ⟨c2, hF, hS, hm⟩
                unfold gameroomref_ChessMay_J11 at hm
                obtain ⟨hp2, hm⟩ := asrt_b hm
                obtain ⟨hp3, hm⟩ := asrt_b hm
                obtain ⟨hp4, hm⟩ := asrt_b hm
                obtain ⟨hp5, hm⟩ := asrt_b hm
                obtain ⟨hp6, hm⟩ := asrt_b hm
                refine reg [⟨false, [], vS (Instr.loadAt 3 (.pointer (some ⟨g1, 2, none⟩))), .int .i64 p3⟩, ⟨true, [], vS (Op.shift .shr .i64 p3 .i64 n2), .int .i64 (shrK .i64 p3 n2)⟩, ⟨false, [(((bAnd (shrK .i64 p3 n2) 1) == 1), true)], vS (Instr.loadAt 27 (.pointer (some ⟨g1, 0, none⟩))), .slice A1 p1.length c1⟩, ⟨true, [(((bAnd (shrK .i64 p3 n2) 1) == 1), true)], vS (Instr.indexAt 27 (.slice g2 4 4) (.int .i64 n2)), .pointer (some (sAddr g2 n2))⟩, ⟨false, [(((bAnd (shrK .i64 p3 n2) 1) == 1), true)], vS (Instr.loadAt 3 (.pointer (some (sAddr g2 n2)))), .int .i64 (geti ([4, 4, 60, 60] : List Int) n2)⟩, ⟨true, [(((bAnd (shrK .i64 p3 n2) 1) == 1), true)], vS (Instr.indexAt 27 (.slice A1 p1.length c1) (.int .i64 (geti ([4, 4, 60, 60] : List Int) n2))), .pointer (some (sAddr A1 (geti ([4, 4, 60, 60] : List Int) n2)))⟩, ⟨false, [(((bAnd (shrK .i64 p3 n2) 1) == 1), true)], vS (Instr.loadAt 3 (.pointer (some (sAddr A1 (geti ([4, 4, 60, 60] : List Int) n2))))), .int .i64 (geti p1 (geti ([4, 4, 60, 60] : List Int) n2))⟩, ⟨false, [(((geti p1 (geti ([4, 4, 60, 60] : List Int) n2)) != (w64 (c2 * 6))), false), (((bAnd (shrK .i64 p3 n2) 1) == 1), true)], vS (Instr.loadAt 27 (.pointer (some ⟨g1, 0, none⟩))), .slice A1 p1.length c1⟩, ⟨true, [(((geti p1 (geti ([4, 4, 60, 60] : List Int) n2)) != (w64 (c2 * 6))), false), (((bAnd (shrK .i64 p3 n2) 1) == 1), true)], vS (Instr.indexAt 27 (.slice g3 4 4) (.int .i64 n2)), .pointer (some (sAddr g3 n2))⟩, ⟨false, [(((geti p1 (geti ([4, 4, 60, 60] : List Int) n2)) != (w64 (c2 * 6))), false), (((bAnd (shrK .i64 p3 n2) 1) == 1), true)], vS (Instr.loadAt 3 (.pointer (some (sAddr g3 n2)))), .int .i64 (geti ([7, 0, 63, 56] : List Int) n2)⟩, ⟨true, [(((geti p1 (geti ([4, 4, 60, 60] : List Int) n2)) != (w64 (c2 * 6))), false), (((bAnd (shrK .i64 p3 n2) 1) == 1), true)], vS (Instr.indexAt 27 (.slice A1 p1.length c1) (.int .i64 (geti ([7, 0, 63, 56] : List Int) n2))), .pointer (some (sAddr A1 (geti ([7, 0, 63, 56] : List Int) n2)))⟩, ⟨false, [(((geti p1 (geti ([4, 4, 60, 60] : List Int) n2)) != (w64 (c2 * 6))), false), (((bAnd (shrK .i64 p3 n2) 1) == 1), true)], vS (Instr.loadAt 3 (.pointer (some (sAddr A1 (geti ([7, 0, 63, 56] : List Int) n2))))), .int .i64 (geti p1 (geti ([7, 0, 63, 56] : List Int) n2))⟩] [none, some (.int .i64 p3), none, some (.int .i64 (shrK .i64 p3 n2)), none, none, none, none, some (.slice A1 p1.length c1), none, none, some (.pointer (some (sAddr g2 n2))), some (.int .i64 (geti ([4, 4, 60, 60] : List Int) n2)), some (.pointer (some (sAddr A1 (geti ([4, 4, 60, 60] : List Int) n2)))), some (.int .i64 (geti p1 (geti ([4, 4, 60, 60] : List Int) n2))), none, none, none, none, none, some (.slice A1 p1.length c1), none, none, some (.pointer (some (sAddr g3 n2))), some (.int .i64 (geti ([7, 0, 63, 56] : List Int) n2)), some (.pointer (some (sAddr A1 (geti ([7, 0, 63, 56] : List Int) n2)))), some (.int .i64 (geti p1 (geti ([7, 0, 63, 56] : List Int) n2))), none, none, none, none, none] [1, 7, 8, 9, 126] [pl 1 (.pointer (some ⟨g1, 0, none⟩)), pl 7 (.slice g2 4 4), pl 8 (.slice g3 4 4), pl 9 (.int .i64 n2), pl 126 (.bool (((bAnd (shrK .i64 p3 n2) 1) == 1) && (((geti p1 (geti ([4, 4, 60, 60] : List Int) n2)) != (w64 (c2 * 6))) || ((geti p1 (geti ([7, 0, 63, 56] : List Int) n2)) != (w64 (c2 * 4))))))] hF hS Fol (by kernel_rfl) (by kernel_rfl) (by kernel_rfl) ?_ (fun a w hF hS => ?_)
                · exact obs_cons (ob_load Agg3 (fun _ _ hS => (hS.at_ 0 rfl).cell rfl)) <| obs_cons (ob_shr (fun _ => hp2)) <| obs_cons (ob_load Agg27 (fun _ _ hS => (hS.at_ 0 rfl).cell rfl)) <| obs_cons (ob_ix1 (f := (Value.int .i64)) (m := ([4, 4, 60, 60] : List Int)) Und27 hi3 hs3 (hS.at_ 1 rfl).rd ((hS.at_ 1 rfl).len1) (fun hy => hp3 (hy (((bAnd (shrK .i64 p3 n2) 1) == 1), true) (by simp)))) <| obs_cons (ob_get1 (n := 4) (m := ([4, 4, 60, 60] : List Int)) (Value.int .i64) (0 : Int) Agg3 (fun _ hS => ⟨_, (hS.at_ 1 rfl).rd⟩) (fun _ hS => ((hS.at_ 1 rfl).len1)) (fun hy => hp3 (hy (((bAnd (shrK .i64 p3 n2) 1) == 1), true) (by simp)))) <| obs_cons (ob_ix1 (f := (Value.int .i64)) (m := p1) Und27 hi3 hs3 (hr_p1 _ (hS.dropN 3)) rfl (fun hy => hp4 (hy (((bAnd (shrK .i64 p3 n2) 1) == 1), true) (by simp)))) <| obs_cons (ob_get1 (n := p1.length) (m := p1) (Value.int .i64) (0 : Int) Agg3 (fun _ hS => ⟨_, (hr_p1 _ (hS.dropN 3))⟩) (fun _ hS => rfl) (fun hy => hp4 (hy (((bAnd (shrK .i64 p3 n2) 1) == 1), true) (by simp)))) <| obs_cons (ob_load Agg27 (fun _ _ hS => (hS.at_ 0 rfl).cell rfl)) <| obs_cons (ob_ix1 (f := (Value.int .i64)) (m := ([7, 0, 63, 56] : List Int)) Und27 hi3 hs3 (hS.at_ 2 rfl).rd ((hS.at_ 2 rfl).len1) (fun hy => hp5 (hy (((geti p1 (geti ([4, 4, 60, 60] : List Int) n2)) != (w64 (c2 * 6))), false) (by simp)) (hy (((bAnd (shrK .i64 p3 n2) 1) == 1), true) (by simp)))) <| obs_cons (ob_get1 (n := 4) (m := ([7, 0, 63, 56] : List Int)) (Value.int .i64) (0 : Int) Agg3 (fun _ hS => ⟨_, (hS.at_ 2 rfl).rd⟩) (fun _ hS => ((hS.at_ 2 rfl).len1)) (fun hy => hp5 (hy (((geti p1 (geti ([4, 4, 60, 60] : List Int) n2)) != (w64 (c2 * 6))), false) (by simp)) (hy (((bAnd (shrK .i64 p3 n2) 1) == 1), true) (by simp)))) <| obs_cons (ob_ix1 (f := (Value.int .i64)) (m := p1) Und27 hi3 hs3 (hr_p1 _ (hS.dropN 3)) rfl (fun hy => hp6 (hy (((geti p1 (geti ([4, 4, 60, 60] : List Int) n2)) != (w64 (c2 * 6))), false) (by simp)) (hy (((bAnd (shrK .i64 p3 n2) 1) == 1), true) (by simp)))) <| obs_cons (ob_get1 (n := p1.length) (m := p1) (Value.int .i64) (0 : Int) Agg3 (fun _ hS => ⟨_, (hr_p1 _ (hS.dropN 3))⟩) (fun _ hS => rfl) (fun hy => hp6 (hy (((geti p1 (geti ([4, 4, 60, 60] : List Int) n2)) != (w64 (c2 * 6))), false) (by simp)) (hy (((bAnd (shrK .i64 p3 n2) 1) == 1), true) (by simp)))) <| obs_nil
                refine cond_ev (t := 126) (b := ((bAnd (shrK .i64 p3 n2) 1) == 1) && (((geti p1 (geti ([4, 4, 60, 60] : List Int) n2)) != (w64 (c2 * 6))) || ((geti p1 (geti ([7, 0, 63, 56] : List Int) n2)) != (w64 (c2 * 4))))) hF (by kernel_rfl) (fun hb => ?_) (fun hb => ?_)
                · replace hm := if_t hm hb
                  refine reg [] [] [2] [pl 2 (.bool false)] hF hS Fol (by kernel_rfl) (by kernel_rfl) (by kernel_rfl) ?_ (fun a w hF hS => ?_)
                  · exact obs_nil
                  refine wpIn_ret ?_
                  refine block_r (then_r (then_r (block_r (then_r ?_))))
                  rw [← hφ2] at hm
                  replace hm := done_b hm
                  unfold gameroomref_ChessMay_K2 at hm
                  try dsimp only at hm
                  have hS := hS.pickN 3 [] (by decide)
                  have hm : some false = some r := hm
                  obtain rfl := Option.some.inj hm
                  exact retV (rs := [.tmp 2]) (vs := [.bool false]) hF rfl (rv_t (by kernel_rfl) <| rv_nil) rfl ⟨rfl, hS⟩
                · replace hm := if_f hm hb
                  refine wpIn_skip ?_
                  refine block_n ?_
                  refine then_n ?_
                  exact ⟨hF.weak [1, 7, 8, 9] (by kernel_rfl), hS, hm⟩
              · refine reg [] [] [1, 7, 8, 9, 10, 94] [pl 1 (.pointer (some ⟨g1, 0, none⟩)), pl 7 (.slice g2 4 4), pl 8 (.slice g3 4 4), pl 9 (.int .i64 n2), pl 10 (.int .i64 1), pl 94 (.bool (decide ((2 : Int) ≤ n2)))] hF hS Fol (by kernel_rfl) (by kernel_rfl) (by kernel_rfl) ?_ (fun a w hF hS => ?_)
                · exact obs_nil
                refine cond_ev (t := 94) (b := decide ((2 : Int) ≤ n2)) hF (by kernel_rfl) (fun hb => ?_) (fun hb => ?_)
                · replace hm := if_t hm hb
                  refine reg1 [] [] [1, 7, 8, 9, 10] [pl 1 (.pointer (some ⟨g1, 0, none⟩)), pl 7 (.slice g2 4 4), pl 8 (.slice g3 4 4), pl 9 (.int .i64 n2), pl 10 (.int .i64 (-1))] hF hS Fol (by kernel_rfl) (by kernel_rfl) (by kernel_rfl) ?_ (fun a w hF hS => ?_)
                  · exact obs_nil
                  refine then_n ?_
                  exact ⟨(-1), hF.weak [1, 7, 8, 9, 10] (by kernel_rfl), hS, hm⟩
                · replace hm := if_f hm hb
                  refine wpIn_skip ?_
                  refine then_n ?_
                  exact ⟨1, hF.weak [1, 7, 8, 9, 10] (by kernel_rfl), hS, hm⟩
          · refine reg [] [] [1, 7, 8, 9, 90] [pl 1 (.pointer (some ⟨g1, 0, none⟩)), pl 7 (.slice g2 4 4), pl 8 (.slice g3 4 4), pl 9 (.int .i64 n2), pl 90 (.bool (decide (n2 < 4)))] hF hS Fol (by kernel_rfl) (by kernel_rfl) (by kernel_rfl) ?_ (fun a w hF hS => ?_)
            · exact obs_nil
            refine cond_ev (t := 90) (b := decide (n2 < 4)) hF (by kernel_rfl) (fun hb => ?_) (fun hb => ?_)
            · replace hm := if_t hm hb
              refine wpIn_skip ?_
              refine then_n ?_
              exact ⟨hF.weak [1, 7, 8, 9] (by kernel_rfl), hS, hm⟩
            · replace hm := if_f hm hb
              refine wpIn_exit ?_
              refine then_e (then_e (block_e (then_n ?_)))
              have hS := hS.pickN 3 [0] (by decide)
              rw [← hφ2] at hm
              replace hm := done_b hm
              unfold gameroomref_ChessMay_K2 at hm
              try dsimp only at hm
              have hm : ((gameroomref_ChessMay_J8 p1 p2 p4)).bind some = some r := hm
              exact ⟨hF.weak [1] (by kernel_rfl), hS, hm⟩
      · obtain ⟨r7, hr7, hm⟩ := call_b hm
        refine reg [⟨false, [((white2 != 1) || (black2 != 1), false)], vS (Instr.loadAt 27 (.pointer (some ⟨g1, 0, none⟩))), .slice A1 p1.length c1⟩, ⟨false, [((white2 != 1) || (black2 != 1), false)], vS (Instr.loadAt 3 (.pointer (some ⟨g1, 1, none⟩))), .int .i64 p2⟩, ⟨false, [((white2 != 1) || (black2 != 1), false)], callFunc 130 #[.slice A1 p1.length c1, .int .i64 (w64 (1 - p2))], .bool r7⟩] [none, none, none, none, none, none, none, none, some (.slice A1 p1.length c1), none, some (.int .i64 p2), none, some (.bool r7), none] [1, 86] [pl 1 (.pointer (some ⟨g1, 0, none⟩)), pl 86 (.bool (((white2 != 1) || (black2 != 1)) || r7))] hF hS Fol (by kernel_rfl) (by kernel_rfl) (by kernel_rfl) ?_ (fun a w hF hS => ?_)
        · exact obs_cons (ob_load Agg27 (fun _ _ hS => (hS.at_ 0 rfl).cell rfl)) <| obs_cons (ob_load Agg3 (fun _ _ hS => (hS.at_ 0 rfl).cell rfl)) <| obs_cons (ob_call Try.func130 (by kernel_rfl) rfl (fun hy _ hS => gameroomref_InCheck_w (ite_some hr7 (by rw [show ((white2 != 1) || (black2 != 1)) = false from hy ((white2 != 1) || (black2 != 1), false) (by simp)]; try rfl)) hS (fun _ hS => (hr_p1 _ (hS.dropN 1))) _hc_p1 rfl)) <| obs_nil
        refine cond_ev (t := 86) (b := ((white2 != 1) || (black2 != 1)) || r7) hF (by kernel_rfl) (fun hb => ?_) (fun hb => ?_)
        · replace hm := if_t hm hb
          refine reg [] [] [2] [pl 2 (.bool false)] hF hS Fol (by kernel_rfl) (by kernel_rfl) (by kernel_rfl) ?_ (fun a w hF hS => ?_)
          · exact obs_nil
          refine wpIn_ret ?_
          refine then_r ?_
          have hS := hS.pickN 1 [] (by decide)
          have hm : some false = some r := hm
          obtain rfl := Option.some.inj hm
          exact retV (rs := [.tmp 2]) (vs := [.bool false]) hF rfl (rv_t (by kernel_rfl) <| rv_nil) rfl ⟨rfl, hS⟩
        · replace hm := if_f hm hb
          refine wpIn_skip ?_
          refine then_n ?_
          exact ⟨hF.weak [1] (by kernel_rfl), hS, hm⟩
    · refine reg [] [] [1, 3, 4, 5] [pl 1 (.pointer (some ⟨g1, 0, none⟩)), pl 3 (.int .i64 0), pl 4 (.int .i64 0), pl 5 (.int .i64 0)] hF hS Fol (by kernel_rfl) (by kernel_rfl) (by kernel_rfl) ?_ (fun a w hF hS => ?_)
      · exact obs_nil
      refine wpIn_block ?_
      refine wp_loop_model (S := (Int × Int × Int)) (R := (Fl (Int × Int) Bool)) (gameroomref_ChessMay_L1 p1) (fun x => ((gameroomref_ChessMay_K1 p1 p2 p3 p4) x).bind some) r (fun (x : (Int × Int × Int)) a w => Fr 190 [pl 1 (.pointer (some ⟨g1, 0, none⟩)), pl 3 (.int .i64 x.1), pl 4 (.int .i64 x.2.1), pl 5 (.int .i64 x.2.2)] a ∧ Sep w0 B w (blk g1 75 #[.slice A1 p1.length c1, .int .i64 p2, .int .i64 p3, .int .i64 p4, .int .i64 p5, .int .i64 p6] :: fs)) (assoc_b hm) ⟨hF.weak [1, 3, 4, 5] (by kernel_rfl), hS⟩ ?_
      clear hF hS hm
      rintro nn1 ⟨white1, black1, i1⟩ a w ⟨hF, hS⟩ hm
      generalize hφ1 : stK (gameroomref_ChessMay_L1 p1) nn1 (fun x => ((gameroomref_ChessMay_K1 p1 p2 p3 p4) x).bind some) = φ1 at hm
      unfold gameroomref_ChessMay_L1 at hm
      dsimp only at hF hS hm
      refine seq_cut (fun a w => Fr 190 [pl 1 (.pointer (some ⟨g1, 0, none⟩)), pl 3 (.int .i64 white1), pl 4 (.int .i64 black1), pl 5 (.int .i64 i1)] a ∧ Sep w0 B w (blk g1 75 #[.slice A1 p1.length c1, .int .i64 p2, .int .i64 p3, .int .i64 p4, .int .i64 p5, .int .i64 p6] :: fs) ∧ ((gameroomref_ChessMay_J3 p1 white1 black1 i1)).bind φ1 = some r) ?_ ?_
      · rintro a w ⟨hF, hS, hm⟩
        unfold gameroomref_ChessMay_J3 at hm
        refine seq_cut (fun a w => ∃ (white4 : Int) (black3 : Int), Fr 190 [pl 1 (.pointer (some ⟨g1, 0, none⟩)), pl 3 (.int .i64 white4), pl 4 (.int .i64 black3), pl 5 (.int .i64 i1)] a ∧ Sep w0 B w (blk g1 75 #[.slice A1 p1.length c1, .int .i64 p2, .int .i64 p3, .int .i64 p4, .int .i64 p5, .int .i64 p6] :: fs) ∧ ((gameroomref_ChessMay_J4 i1) white4 black3).bind φ1 = some r) ?_ ?_
        · rintro a w ⟨white4, black3, hF, hS, hm⟩
          unfold gameroomref_ChessMay_J4 at hm
          refine reg1 [] [] [1, 3, 4, 5] [pl 1 (.pointer (some ⟨g1, 0, none⟩)), pl 3 (.int .i64 white4), pl 4 (.int .i64 black3), pl 5 (.int .i64 (w64 (i1 + 1)))] hF hS Fol (by kernel_rfl) (by kernel_rfl) (by kernel_rfl) ?_ (fun a w hF hS => ?_)
          · exact obs_nil
          refine then_n ?_
          rw [← hφ1] at hm
          exact ⟨(white4, black3, (w64 (i1 + 1))), ⟨hF.weak [1, 3, 4, 5] (by kernel_rfl), hS⟩, hm⟩
        · refine wpIn_block ?_
          obtain ⟨hp1, hm⟩ := asrt_b hm
          refine reg [⟨false, [], vS (Instr.loadAt 27 (.pointer (some ⟨g1, 0, none⟩))), .slice A1 p1.length c1⟩, ⟨true, [], vS (Instr.indexAt 27 (.slice A1 p1.length c1) (.int .i64 i1)), .pointer (some (sAddr A1 i1))⟩, ⟨false, [], vS (Instr.loadAt 3 (.pointer (some (sAddr A1 i1)))), .int .i64 (geti p1 i1)⟩] [none, some (.slice A1 p1.length c1), none, some (.pointer (some (sAddr A1 i1))), some (.int .i64 (geti p1 i1)), none] [1, 3, 4, 5, 6] [pl 1 (.pointer (some ⟨g1, 0, none⟩)), pl 3 (.int .i64 white1), pl 4 (.int .i64 black1), pl 5 (.int .i64 i1), pl 6 (.int .i64 (geti p1 i1))] hF hS Fol (by kernel_rfl) (by kernel_rfl) (by kernel_rfl) ?_ (fun a w hF hS => ?_)
          · exact obs_cons (ob_load Agg27 (fun _ _ hS => (hS.at_ 0 rfl).cell rfl)) <| obs_cons (ob_ix1 (f := (Value.int .i64)) (m := p1) Und27 hi3 hs3 (hr_p1 _ (hS.dropN 1)) rfl (fun _ => hp1)) <| obs_cons (ob_get1 (n := p1.length) (m := p1) (Value.int .i64) (0 : Int) Agg3 (fun _ hS => ⟨_, (hr_p1 _ (hS.dropN 1))⟩) (fun _ hS => rfl) (fun _ => hp1)) <| obs_nil
          refine seq_cut (fun a w => Fr 190 [pl 1 (.pointer (some ⟨g1, 0, none⟩)), pl 3 (.int .i64 white1), pl 4 (.int .i64 black1), pl 5 (.int .i64 i1), pl 6 (.int .i64 (geti p1 i1))] a ∧ Sep w0 B w (blk g1 75 #[.slice A1 p1.length c1, .int .i64 p2, .int .i64 p3, .int .i64 p4, .int .i64 p5, .int .i64 p6] :: fs) ∧ ((gameroomref_ChessMay_J5 p1 white1 black1 i1)).bind φ1 = some r) ?_ ?_
          · rintro a w ⟨hF, hS, hm⟩
            unfold gameroomref_ChessMay_J5 at hm
            refine seq_cut (fun a w => ∃ (white3 : Int), Fr 190 [pl 1 (.pointer (some ⟨g1, 0, none⟩)), pl 3 (.int .i64 white3), pl 4 (.int .i64 black1), pl 5 (.int .i64 i1), pl 6 (.int .i64 (geti p1 i1))] a ∧ Sep w0 B w (blk g1 75 #[.slice A1 p1.length c1, .int .i64 p2, .int .i64 p3, .int .i64 p4, .int .i64 p5, .int .i64 p6] :: fs) ∧ ((gameroomref_ChessMay_J6 p1 black1 i1) white3).bind φ1 = some r) ?_ ?_
            · rintro a w ⟨white3, hF, hS, hm⟩
              unfold gameroomref_ChessMay_J6 at hm
              refine reg [] [] [1, 3, 4, 5, 70] [pl 1 (.pointer (some ⟨g1, 0, none⟩)), pl 3 (.int .i64 white3), pl 4 (.int .i64 black1), pl 5 (.int .i64 i1), pl 70 (.bool ((geti p1 i1) == (-6)))] hF hS Fol (by kernel_rfl) (by kernel_rfl) (by kernel_rfl) ?_ (fun a w hF hS => ?_)
              · exact obs_nil
              refine cond_ev (t := 70) (b := ((geti p1 i1) == (-6))) hF (by kernel_rfl) (fun hb => ?_) (fun hb => ?_)
              · replace hm := if_t hm hb
                refine reg1 [] [] [1, 3, 4, 5] [pl 1 (.pointer (some ⟨g1, 0, none⟩)), pl 3 (.int .i64 white3), pl 4 (.int .i64 (w64 (black1 + 1))), pl 5 (.int .i64 i1)] hF hS Fol (by kernel_rfl) (by kernel_rfl) (by kernel_rfl) ?_ (fun a w hF hS => ?_)
                · exact obs_nil
                refine block_n ?_
                refine then_n ?_
                exact ⟨white3, (w64 (black1 + 1)), hF.weak [1, 3, 4, 5] (by kernel_rfl), hS, hm⟩
              · replace hm := if_f hm hb
                refine wpIn_skip ?_
                refine block_n ?_
                refine then_n ?_
                exact ⟨white3, black1, hF.weak [1, 3, 4, 5] (by kernel_rfl), hS, hm⟩
            · refine reg [] [] [1, 3, 4, 5, 6, 66] [pl 1 (.pointer (some ⟨g1, 0, none⟩)), pl 3 (.int .i64 white1), pl 4 (.int .i64 black1), pl 5 (.int .i64 i1), pl 6 (.int .i64 (geti p1 i1)), pl 66 (.bool ((geti p1 i1) == 6))] hF hS Fol (by kernel_rfl) (by kernel_rfl) (by kernel_rfl) ?_ (fun a w hF hS => ?_)
              · exact obs_nil
              refine cond_ev (t := 66) (b := ((geti p1 i1) == 6)) hF (by kernel_rfl) (fun hb => ?_) (fun hb => ?_)
              · replace hm := if_t hm hb
                refine reg1 [] [] [1, 3, 4, 5, 6] [pl 1 (.pointer (some ⟨g1, 0, none⟩)), pl 3 (.int .i64 (w64 (white1 + 1))), pl 4 (.int .i64 black1), pl 5 (.int .i64 i1), pl 6 (.int .i64 (geti p1 i1))] hF hS Fol (by kernel_rfl) (by kernel_rfl) (by kernel_rfl) ?_ (fun a w hF hS => ?_)
                · exact obs_nil
                refine then_n ?_
                exact ⟨(w64 (white1 + 1)), hF.weak [1, 3, 4, 5, 6] (by kernel_rfl), hS, hm⟩
              · replace hm := if_f hm hb
                refine wpIn_skip ?_
                refine then_n ?_
                exact ⟨white1, hF.weak [1, 3, 4, 5, 6] (by kernel_rfl), hS, hm⟩
          · obtain ⟨r5, hr5, hm⟩ := call_b hm
            obtain ⟨r6, hr6, hm⟩ := call_b hm
            refine reg [⟨false, [], callFunc 74 #[.int .i64 (geti p1 i1), .int .i64 (-6), .int .i64 6], .bool r5⟩, ⟨false, [(!r5, false)], callFunc 129 #[.int .i64 (geti p1 i1)], .int .i64 r6⟩] [none, some (.bool r5), none, none, none, some (.int .i64 r6), none, none, none, none, none, none, none, none, none, none] [1, 3, 4, 5, 6, 64] [pl 1 (.pointer (some ⟨g1, 0, none⟩)), pl 3 (.int .i64 white1), pl 4 (.int .i64 black1), pl 5 (.int .i64 i1), pl 6 (.int .i64 (geti p1 i1)), pl 64 (.bool ((!r5) || ((r6 == 1) && ((decide (i1 < 8)) || (decide ((55 : Int) < i1))))))] hF hS Fol (by kernel_rfl) (by kernel_rfl) (by kernel_rfl) ?_ (fun a w hF hS => ?_)
            · exact obs_cons (ob_call Try.func74 (by kernel_rfl) rfl (fun _ _ hS => gameroomref_within_w hr5 hS )) <| obs_cons (ob_call Try.func129 (by kernel_rfl) rfl (fun hy _ hS => gameroomref_size_w (ite_some hr6 (by rw [show (!r5) = false from hy (!r5, false) (by simp)]; try rfl)) hS )) <| obs_nil
            refine cond_ev (t := 64) (b := (!r5) || ((r6 == 1) && ((decide (i1 < 8)) || (decide ((55 : Int) < i1))))) hF (by kernel_rfl) (fun hb => ?_) (fun hb => ?_)
            · replace hm := if_t hm hb
              refine reg [] [] [2] [pl 2 (.bool false)] hF hS Fol (by kernel_rfl) (by kernel_rfl) (by kernel_rfl) ?_ (fun a w hF hS => ?_)
              · exact obs_nil
              refine wpIn_ret ?_
              refine then_r (block_r (then_r (then_r (block_r (then_r ?_)))))
              rw [← hφ1] at hm
              replace hm := done_b hm
              unfold gameroomref_ChessMay_K1 at hm
              try dsimp only at hm
              have hS := hS.pickN 1 [] (by decide)
              have hm : some false = some r := hm
              obtain rfl := Option.some.inj hm
              exact retV (rs := [.tmp 2]) (vs := [.bool false]) hF rfl (rv_t (by kernel_rfl) <| rv_nil) rfl ⟨rfl, hS⟩
            · replace hm := if_f hm hb
              refine wpIn_skip ?_
              refine then_n ?_
              exact ⟨hF.weak [1, 3, 4, 5, 6] (by kernel_rfl), hS, hm⟩
      · refine reg [] [] [1, 3, 4, 5, 41] [pl 1 (.pointer (some ⟨g1, 0, none⟩)), pl 3 (.int .i64 white1), pl 4 (.int .i64 black1), pl 5 (.int .i64 i1), pl 41 (.bool (decide (i1 < 64)))] hF hS Fol (by kernel_rfl) (by kernel_rfl) (by kernel_rfl) ?_ (fun a w hF hS => ?_)
        · exact obs_nil
        refine cond_ev (t := 41) (b := decide (i1 < 64)) hF (by kernel_rfl) (fun hb => ?_) (fun hb => ?_)
        · replace hm := if_t hm hb
          refine wpIn_skip ?_
          refine then_n ?_
          exact ⟨hF.weak [1, 3, 4, 5] (by kernel_rfl), hS, hm⟩
        · replace hm := if_f hm hb
          refine wpIn_exit ?_
          refine then_e (then_e (block_e (then_n ?_)))
          rw [← hφ1] at hm
          replace hm := done_b hm
          unfold gameroomref_ChessMay_K1 at hm
          try dsimp only at hm
          have hm : ((gameroomref_ChessMay_J2 p1 p2 p3 p4) white1 black1).bind some = some r := hm
          exact ⟨white1, black1, hF.weak [1, 3, 4] (by kernel_rfl), hS, hm⟩
  · obtain ⟨r1, hr1, hm⟩ := call_b hm
    obtain ⟨r2, hr2, hm⟩ := call_b hm
    obtain ⟨r3, hr3, hm⟩ := call_b hm
    obtain ⟨r4, hr4, hm⟩ := call_b hm
    refine reg [⟨false, [], vS (Instr.loadAt 27 (.pointer (some ⟨g1, 0, none⟩))), .slice A1 p1.length c1⟩, ⟨false, [(((p1.length : Int) != 64), false)], vS (Instr.loadAt 3 (.pointer (some ⟨g1, 1, none⟩))), .int .i64 p2⟩, ⟨false, [(((p1.length : Int) != 64), false)], callFunc 74 #[.int .i64 p2, .int .i64 0, .int .i64 1], .bool r1⟩, ⟨false, [(((p1.length : Int) != 64) || (!r1), false)], vS (Instr.loadAt 3 (.pointer (some ⟨g1, 2, none⟩))), .int .i64 p3⟩, ⟨false, [(((p1.length : Int) != 64) || (!r1), false)], callFunc 74 #[.int .i64 p3, .int .i64 0, .int .i64 15], .bool r2⟩, ⟨false, [((((p1.length : Int) != 64) || (!r1)) || (!r2), false)], vS (Instr.loadAt 3 (.pointer (some ⟨g1, 4, none⟩))), .int .i64 p5⟩, ⟨false, [((((p1.length : Int) != 64) || (!r1)) || (!r2), false)], callFunc 74 #[.int .i64 p5, .int .i64 0, .int .i64 999], .bool r3⟩, ⟨false, [(((((p1.length : Int) != 64) || (!r1)) || (!r2)) || (!r3), false)], vS (Instr.loadAt 3 (.pointer (some ⟨g1, 5, none⟩))), .int .i64 p6⟩, ⟨false, [(((((p1.length : Int) != 64) || (!r1)) || (!r2)) || (!r3), false)], callFunc 74 #[.int .i64 p6, .int .i64 1, .int .i64 999], .bool r4⟩] [none, some (.slice A1 p1.length c1), none, none, none, none, some (.int .i64 p2), some (.bool r1), none, none, none, none, some (.int .i64 p3), some (.bool r2), none, none, none, none, some (.int .i64 p5), some (.bool r3), none, none, none, none, some (.int .i64 p6), some (.bool r4), none, none] [1, 39] [pl 1 (.pointer (some ⟨g1, 0, none⟩)), pl 39 (.bool ((((((p1.length : Int) != 64) || (!r1)) || (!r2)) || (!r3)) || (!r4)))] hF hS Fol (by kernel_rfl) (by kernel_rfl) (by kernel_rfl) ?_ (fun a w hF hS => ?_)
    · exact obs_cons (ob_load Agg27 (fun _ _ hS => (hS.at_ 0 rfl).cell rfl)) <| obs_cons (ob_load Agg3 (fun _ _ hS => (hS.at_ 0 rfl).cell rfl)) <| obs_cons (ob_call Try.func74 (by kernel_rfl) rfl (fun hy _ hS => gameroomref_within_w (ite_some hr1 (by rw [show ((p1.length : Int) != 64) = false from hy (((p1.length : Int) != 64), false) (by simp)]; try rfl)) hS )) <| obs_cons (ob_load Agg3 (fun _ _ hS => (hS.at_ 0 rfl).cell rfl)) <| obs_cons (ob_call Try.func74 (by kernel_rfl) rfl (fun hy _ hS => gameroomref_within_w (ite_some hr2 (by rw [show (((p1.length : Int) != 64) || (!r1)) = false from hy (((p1.length : Int) != 64) || (!r1), false) (by simp)]; try rfl)) hS )) <| obs_cons (ob_load Agg3 (fun _ _ hS => (hS.at_ 0 rfl).cell rfl)) <| obs_cons (ob_call Try.func74 (by kernel_rfl) rfl (fun hy _ hS => gameroomref_within_w (ite_some hr3 (by rw [show ((((p1.length : Int) != 64) || (!r1)) || (!r2)) = false from hy ((((p1.length : Int) != 64) || (!r1)) || (!r2), false) (by simp)]; try rfl)) hS )) <| obs_cons (ob_load Agg3 (fun _ _ hS => (hS.at_ 0 rfl).cell rfl)) <| obs_cons (ob_call Try.func74 (by kernel_rfl) rfl (fun hy _ hS => gameroomref_within_w (ite_some hr4 (by rw [show (((((p1.length : Int) != 64) || (!r1)) || (!r2)) || (!r3)) = false from hy (((((p1.length : Int) != 64) || (!r1)) || (!r2)) || (!r3), false) (by simp)]; try rfl)) hS )) <| obs_nil
    refine cond_ev (t := 39) (b := (((((p1.length : Int) != 64) || (!r1)) || (!r2)) || (!r3)) || (!r4)) hF (by kernel_rfl) (fun hb => ?_) (fun hb => ?_)
    · replace hm := if_t hm hb
      refine reg [] [] [2] [pl 2 (.bool false)] hF hS Fol (by kernel_rfl) (by kernel_rfl) (by kernel_rfl) ?_ (fun a w hF hS => ?_)
      · exact obs_nil
      refine wpIn_ret ?_
      refine then_r ?_
      have hS := hS.pickN 1 [] (by decide)
      have hm : some false = some r := hm
      obtain rfl := Option.some.inj hm
      exact retV (rs := [.tmp 2]) (vs := [.bool false]) hF rfl (rv_t (by kernel_rfl) <| rv_nil) rfl ⟨rfl, hS⟩
    · replace hm := if_f hm hb
      refine wpIn_skip ?_
      refine then_n ?_
      exact ⟨hF.weak [1] (by kernel_rfl), hS, hm⟩

noncomputable def gameroomref_SideSign_m  (side1 : Int) : Option Int :=
  some (w64 (1 - (w64 (2 * side1))))

set_option maxRecDepth 100000 in
set_option maxHeartbeats 4000000 in
theorem gameroomref_SideSign_w {side1 : Int} {r : Int} {w0 w : World} {B : Nat} {fs : List HP} (hm : gameroomref_SideSign_m side1 = some r) (hS : Sep w0 B w (fs)) :
    Calls Try.prog 142 #[.int .i64 side1] w fun e w' => e = .returned (.int .i64 r) ∧ Sep w0 B w' (fs) := by
  unfold gameroomref_SideSign_m at hm
  replace hm := start_b hm
  refine enter (l := [.int .i64 side1]) (n := 6) Try.func142 rfl rfl (by simp) (fun a hF => ?_)
  refine reg [] [] [0] [pl 0 (.int .i64 side1)] hF hS Fol (by kernel_rfl) (by kernel_rfl) (by kernel_rfl) ?_ (fun a w hF hS => ?_)
  · exact obs_nil
  refine reg [] [] [2] [pl 2 (.int .i64 (w64 (1 - (w64 (2 * side1)))))] hF hS Fol (by kernel_rfl) (by kernel_rfl) (by kernel_rfl) ?_ (fun a w hF hS => ?_)
  · exact obs_nil
  refine wpIn_ret ?_
  have hm : some (w64 (1 - (w64 (2 * side1)))) = some r := hm
  obtain rfl := Option.some.inj hm
  exact retV (rs := [.tmp 2]) (vs := [.int .i64 (w64 (1 - (w64 (2 * side1))))]) hF rfl (rv_t (by kernel_rfl) <| rv_nil) rfl ⟨rfl, hS⟩

noncomputable def gameroomref_mayGo_J5  (p1 : List Int) (from1 : Int) (to1 : Int) (r1 : Int) (first1 : Int) : Option Bool :=
  asrt ((((w64 (Int.tdiv from1 8)) == first1) && (to1 == (w64 (from1 + (w64 (16 * r1)))))) = true → 0 ≤ to1 ∧ to1 < (p1.length : Int)) <| asrt (((((w64 (Int.tdiv from1 8)) == first1) && (to1 == (w64 (from1 + (w64 (16 * r1)))))) && ((geti p1 to1) == 0)) = true → 0 ≤ (w64 (from1 + (w64 (8 * r1)))) ∧ (w64 (from1 + (w64 (8 * r1)))) < (p1.length : Int)) <| some (((((w64 (Int.tdiv from1 8)) == first1) && (to1 == (w64 (from1 + (w64 (16 * r1)))))) && ((geti p1 to1) == 0)) && ((geti p1 (w64 (from1 + (w64 (8 * r1))))) == 0))

noncomputable def gameroomref_mayGo_J4  (p1 : List Int) (from1 : Int) (to1 : Int) (r1 : Int) : Option Bool :=
  if (decide (r1 < 0)) then ((gameroomref_mayGo_J5 p1 from1 to1 r1) 6) else ((gameroomref_mayGo_J5 p1 from1 to1 r1) 1)

noncomputable def gameroomref_mayGo_J3  (p1 : List Int) (from1 : Int) (to1 : Int) (r1 : Int) : Option Bool :=
  if (to1 == (w64 (from1 + (w64 (8 * r1))))) then (asrt (0 ≤ to1 ∧ to1 < (p1.length : Int)) <| some ((geti p1 to1) == 0)) else ((gameroomref_mayGo_J4 p1 from1 to1 r1))

noncomputable def gameroomref_mayGo_J2  (p1 : List Int) (p4 : Int) (from1 : Int) (to1 : Int) (r1 : Int) : Option Bool :=
  (gameroomref_Attacks_m p1 from1 to1).bind fun r3 => if r3 then (asrt (0 ≤ to1 ∧ to1 < (p1.length : Int)) <| some (((geti p1 to1) != 0) || (to1 == p4))) else ((gameroomref_mayGo_J3 p1 from1 to1 r1))

noncomputable def gameroomref_mayGo_J1  (p1 : List Int) (p4 : Int) (from1 : Int) (to1 : Int) (r1 : Int) : Option Bool :=
  if ((w64 ((geti p1 from1) * r1)) != 1) then ((gameroomref_Attacks_m p1 from1 to1).bind fun r2 => some r2) else ((gameroomref_mayGo_J2 p1 p4 from1 to1 r1))

noncomputable def gameroomref_mayGo_m  (p1 : List Int) (p2 : Int) (p3 : Int) (p4 : Int) (p5 : Int) (p6 : Int) (from1 : Int) (to1 : Int) : Option Bool :=
  (gameroomref_SideSign_m p2).bind fun r1 => asrt (0 ≤ from1 ∧ from1 < (p1.length : Int)) <| asrt ((decide ((w64 ((geti p1 from1) * r1)) ≤ 0)) = false → 0 ≤ to1 ∧ to1 < (p1.length : Int)) <| if ((decide ((w64 ((geti p1 from1) * r1)) ≤ 0)) || (decide ((0 : Int) < (w64 ((geti p1 to1) * r1))))) then (some false) else ((gameroomref_mayGo_J1 p1 p4 from1 to1 r1))

set_option maxRecDepth 100000 in
set_option maxHeartbeats 4000000 in
theorem gameroomref_mayGo_w {A1 : Option Addr} {c1 : Nat} {n1 : Nat} {p1 : List Int} {p2 : Int} {p3 : Int} {p4 : Int} {p5 : Int} {p6 : Int} {from1 : Int} {to1 : Int} {r : Bool} {w0 w : World} {B : Nat} {fs : List HP} (hm : gameroomref_mayGo_m p1 p2 p3 p4 p5 p6 from1 to1 = some r) (hS : Sep w0 B w (fs)) (hr_p1 : RdF w0 B fs A1 (vI p1)) (_hc_p1 : p1.length ≤ c1) (_hn_p1 : n1 = p1.length) :
    Calls Try.prog 139 #[.agg #[.slice A1 n1 c1, .int .i64 p2, .int .i64 p3, .int .i64 p4, .int .i64 p5, .int .i64 p6], .int .i64 from1, .int .i64 to1] w fun e w' => e = .returned (.bool r) ∧ Sep w0 B w' (fs) := by
  obtain ⟨i3, hi3, hz3, hs3, hb3⟩ := info_parts Info3
  obtain rfl := _hn_p1
  unfold gameroomref_mayGo_m at hm
  replace hm := start_b hm
  refine enter (l := [.agg #[.slice A1 p1.length c1, .int .i64 p2, .int .i64 p3, .int .i64 p4, .int .i64 p5, .int .i64 p6], .int .i64 from1, .int .i64 to1]) (n := 101) Try.func139 rfl rfl (by simp) (fun a hF => ?_)
  refine seqR ?_
  refine at_do (d := 3) (s := vS (Instr.box 75 (.agg #[.slice A1 p1.length c1, .int .i64 p2, .int .i64 p3, .int .i64 p4, .int .i64 p5, .int .i64 p6]))) (v := .pointer (some ⟨w.heap.size, 0, none⟩)) (w' := w.alloc (.cells #[.slice A1 p1.length c1, .int .i64 p2, .int .i64 p3, .int .i64 p4, .int .i64 p5, .int .i64 p6] 75)) hF (by kernel_rfl) (by kernel_rfl) (by kernel_rfl) (fun a hF => ?_)
  have hS : Sep w0 B (w.alloc (.cells #[.slice A1 p1.length c1, .int .i64 p2, .int .i64 p3, .int .i64 p4, .int .i64 p5, .int .i64 p6] 75)) (blk w.heap.size 75 #[.slice A1 p1.length c1, .int .i64 p2, .int .i64 p3, .int .i64 p4, .int .i64 p5, .int .i64 p6] :: (fs)) := hS.box 75 #[.slice A1 p1.length c1, .int .i64 p2, .int .i64 p3, .int .i64 p4, .int .i64 p5, .int .i64 p6]
  generalize w.heap.size = g1 at hF hS
  generalize w.alloc (.cells #[.slice A1 p1.length c1, .int .i64 p2, .int .i64 p3, .int .i64 p4, .int .i64 p5, .int .i64 p6] 75) = w at hS ⊢
  refine at_run 1 [] [] [1, 2, 3] [pl 1 (.int .i64 from1), pl 2 (.int .i64 to1), pl 3 (.pointer (some ⟨g1, 0, none⟩))] hF hS (by kernel_rfl) (by kernel_rfl) ?_ (fun a w hF hS => ?_)
  · exact obs_nil
  refine at_end [1, 2, 3] [pl 1 (.int .i64 from1), pl 2 (.int .i64 to1), pl 3 (.pointer (some ⟨g1, 0, none⟩))] hF rfl (by kernel_rfl) (fun hF => ?_)
  refine then_n ?_
  obtain ⟨r1, hr1, hm⟩ := call_b hm
  refine reg [⟨false, [], vS (Instr.loadAt 3 (.pointer (some ⟨g1, 1, none⟩))), .int .i64 p2⟩, ⟨false, [], callFunc 142 #[.int .i64 p2], .int .i64 r1⟩] [none, some (.int .i64 p2), some (.int .i64 r1), none] [1, 2, 3, 7] [pl 1 (.int .i64 from1), pl 2 (.int .i64 to1), pl 3 (.pointer (some ⟨g1, 0, none⟩)), pl 7 (.int .i64 r1)] hF hS Fol (by kernel_rfl) (by kernel_rfl) (by kernel_rfl) ?_ (fun a w hF hS => ?_)
  · exact obs_cons (ob_load Agg3 (fun _ _ hS => (hS.at_ 0 rfl).cell rfl)) <| obs_cons (ob_call Try.func142 (by kernel_rfl) rfl (fun _ _ hS => gameroomref_SideSign_w hr1 hS )) <| obs_nil
  obtain ⟨hp1, hm⟩ := asrt_b hm
  refine reg [⟨false, [], vS (Instr.loadAt 27 (.pointer (some ⟨g1, 0, none⟩))), .slice A1 p1.length c1⟩, ⟨true, [], vS (Instr.indexAt 27 (.slice A1 p1.length c1) (.int .i64 from1)), .pointer (some (sAddr A1 from1))⟩, ⟨false, [], vS (Instr.loadAt 3 (.pointer (some (sAddr A1 from1)))), .int .i64 (geti p1 from1)⟩] [none, some (.slice A1 p1.length c1), none, some (.pointer (some (sAddr A1 from1))), some (.int .i64 (geti p1 from1)), none, none, none] [1, 2, 3, 7, 8] [pl 1 (.int .i64 from1), pl 2 (.int .i64 to1), pl 3 (.pointer (some ⟨g1, 0, none⟩)), pl 7 (.int .i64 r1), pl 8 (.int .i64 (w64 ((geti p1 from1) * r1)))] hF hS Fol (by kernel_rfl) (by kernel_rfl) (by kernel_rfl) ?_ (fun a w hF hS => ?_)
  · exact obs_cons (ob_load Agg27 (fun _ _ hS => (hS.at_ 0 rfl).cell rfl)) <| obs_cons (ob_ix1 (f := (Value.int .i64)) (m := p1) Und27 hi3 hs3 (hr_p1 _ (hS.dropN 1)) rfl (fun _ => hp1)) <| obs_cons (ob_get1 (n := p1.length) (m := p1) (Value.int .i64) (0 : Int) Agg3 (fun _ hS => ⟨_, (hr_p1 _ (hS.dropN 1))⟩) (fun _ hS => rfl) (fun _ => hp1)) <| obs_nil
  refine seq_cut (fun a w => Fr 101 [pl 1 (.int .i64 from1), pl 2 (.int .i64 to1), pl 3 (.pointer (some ⟨g1, 0, none⟩)), pl 7 (.int .i64 r1), pl 8 (.int .i64 (w64 ((geti p1 from1) * r1)))] a ∧ Sep w0 B w (blk g1 75 #[.slice A1 p1.length c1, .int .i64 p2, .int .i64 p3, .int .i64 p4, .int .i64 p5, .int .i64 p6] :: fs) ∧ ((gameroomref_mayGo_J1 p1 p4 from1 to1 r1)).bind some = some r) ?_ ?_
  · rintro a w ⟨hF, hS, hm⟩
    unfold gameroomref_mayGo_J1 at hm
    refine seq_cut (fun a w => Fr 101 [pl 1 (.int .i64 from1), pl 2 (.int .i64 to1), pl 3 (.pointer (some ⟨g1, 0, none⟩)), pl 7 (.int .i64 r1)] a ∧ Sep w0 B w (blk g1 75 #[.slice A1 p1.length c1, .int .i64 p2, .int .i64 p3, .int .i64 p4, .int .i64 p5, .int .i64 p6] :: fs) ∧ ((gameroomref_mayGo_J2 p1 p4 from1 to1 r1)).bind some = some r) ?_ ?_
    · rintro a w ⟨hF, hS, hm⟩
      unfold gameroomref_mayGo_J2 at hm
      refine seq_cut (fun a w => Fr 101 [pl 1 (.int .i64 from1), pl 2 (.int .i64 to1), pl 3 (.pointer (some ⟨g1, 0, none⟩)), pl 7 (.int .i64 r1)] a ∧ Sep w0 B w (blk g1 75 #[.slice A1 p1.length c1, .int .i64 p2, .int .i64 p3, .int .i64 p4, .int .i64 p5, .int .i64 p6] :: fs) ∧ ((gameroomref_mayGo_J3 p1 from1 to1 r1)).bind some = some r) ?_ ?_
      · rintro a w ⟨hF, hS, hm⟩
        unfold gameroomref_mayGo_J3 at hm
        refine seq_cut (fun a w => Fr 101 [pl 1 (.int .i64 from1), pl 2 (.int .i64 to1), pl 3 (.pointer (some ⟨g1, 0, none⟩)), pl 7 (.int .i64 r1)] a ∧ Sep w0 B w (blk g1 75 #[.slice A1 p1.length c1, .int .i64 p2, .int .i64 p3, .int .i64 p4, .int .i64 p5, .int .i64 p6] :: fs) ∧ ((gameroomref_mayGo_J4 p1 from1 to1 r1)).bind some = some r) ?_ ?_
        · rintro a w ⟨hF, hS, hm⟩
          unfold gameroomref_mayGo_J4 at hm
          refine reg [] [] [1, 2, 3, 7, 9] [pl 1 (.int .i64 from1), pl 2 (.int .i64 to1), pl 3 (.pointer (some ⟨g1, 0, none⟩)), pl 7 (.int .i64 r1), pl 9 (.int .i64 1)] hF hS Fol (by kernel_rfl) (by kernel_rfl) (by kernel_rfl) ?_ (fun a w hF hS => ?_)
          · exact obs_nil
          refine seq_cut (fun a w => ∃ (first1 : Int), Fr 101 [pl 1 (.int .i64 from1), pl 2 (.int .i64 to1), pl 3 (.pointer (some ⟨g1, 0, none⟩)), pl 7 (.int .i64 r1), pl 9 (.int .i64 first1)] a ∧ Sep w0 B w (blk g1 75 #[.slice A1 p1.length c1, .int .i64 p2, .int .i64 p3, .int .i64 p4, .int .i64 p5, .int .i64 p6] :: fs) ∧ ((gameroomref_mayGo_J5 p1 from1 to1 r1) first1).bind some = some r) ?_ ?_
          · rintro a w ⟨first1, hF, hS, hm⟩
            unfold gameroomref_mayGo_J5 at hm
            obtain ⟨hp5, hm⟩ := asrt_b hm
            obtain ⟨hp6, hm⟩ := asrt_b hm
            refine reg [⟨false, [(((w64 (Int.tdiv from1 8)) == first1) && (to1 == (w64 (from1 + (w64 (16 * r1))))), true)], vS (Instr.loadAt 27 (.pointer (some ⟨g1, 0, none⟩))), .slice A1 p1.length c1⟩, ⟨true, [(((w64 (Int.tdiv from1 8)) == first1) && (to1 == (w64 (from1 + (w64 (16 * r1))))), true)], vS (Instr.indexAt 27 (.slice A1 p1.length c1) (.int .i64 to1)), .pointer (some (sAddr A1 to1))⟩, ⟨false, [(((w64 (Int.tdiv from1 8)) == first1) && (to1 == (w64 (from1 + (w64 (16 * r1))))), true)], vS (Instr.loadAt 3 (.pointer (some (sAddr A1 to1)))), .int .i64 (geti p1 to1)⟩, ⟨false, [((((w64 (Int.tdiv from1 8)) == first1) && (to1 == (w64 (from1 + (w64 (16 * r1)))))) && ((geti p1 to1) == 0), true)], vS (Instr.loadAt 27 (.pointer (some ⟨g1, 0, none⟩))), .slice A1 p1.length c1⟩, ⟨true, [((((w64 (Int.tdiv from1 8)) == first1) && (to1 == (w64 (from1 + (w64 (16 * r1)))))) && ((geti p1 to1) == 0), true)], vS (Instr.indexAt 27 (.slice A1 p1.length c1) (.int .i64 (w64 (from1 + (w64 (8 * r1)))))), .pointer (some (sAddr A1 (w64 (from1 + (w64 (8 * r1))))))⟩, ⟨false, [((((w64 (Int.tdiv from1 8)) == first1) && (to1 == (w64 (from1 + (w64 (16 * r1)))))) && ((geti p1 to1) == 0), true)], vS (Instr.loadAt 3 (.pointer (some (sAddr A1 (w64 (from1 + (w64 (8 * r1)))))))), .int .i64 (geti p1 (w64 (from1 + (w64 (8 * r1)))))⟩] [none, none, none, none, none, none, none, none, none, none, none, none, none, none, some (.slice A1 p1.length c1), none, some (.pointer (some (sAddr A1 to1))), some (.int .i64 (geti p1 to1)), none, none, none, none, some (.slice A1 p1.length c1), none, none, none, none, some (.pointer (some (sAddr A1 (w64 (from1 + (w64 (8 * r1))))))), some (.int .i64 (geti p1 (w64 (from1 + (w64 (8 * r1)))))), none, none, none] [6] [pl 6 (.bool (((((w64 (Int.tdiv from1 8)) == first1) && (to1 == (w64 (from1 + (w64 (16 * r1)))))) && ((geti p1 to1) == 0)) && ((geti p1 (w64 (from1 + (w64 (8 * r1))))) == 0)))] hF hS Fol (by kernel_rfl) (by kernel_rfl) (by kernel_rfl) ?_ (fun a w hF hS => ?_)
            · exact obs_cons (ob_load Agg27 (fun _ _ hS => (hS.at_ 0 rfl).cell rfl)) <| obs_cons (ob_ix1 (f := (Value.int .i64)) (m := p1) Und27 hi3 hs3 (hr_p1 _ (hS.dropN 1)) rfl (fun hy => hp5 (hy (((w64 (Int.tdiv from1 8)) == first1) && (to1 == (w64 (from1 + (w64 (16 * r1))))), true) (by simp)))) <| obs_cons (ob_get1 (n := p1.length) (m := p1) (Value.int .i64) (0 : Int) Agg3 (fun _ hS => ⟨_, (hr_p1 _ (hS.dropN 1))⟩) (fun _ hS => rfl) (fun hy => hp5 (hy (((w64 (Int.tdiv from1 8)) == first1) && (to1 == (w64 (from1 + (w64 (16 * r1))))), true) (by simp)))) <| obs_cons (ob_load Agg27 (fun _ _ hS => (hS.at_ 0 rfl).cell rfl)) <| obs_cons (ob_ix1 (f := (Value.int .i64)) (m := p1) Und27 hi3 hs3 (hr_p1 _ (hS.dropN 1)) rfl (fun hy => hp6 (hy ((((w64 (Int.tdiv from1 8)) == first1) && (to1 == (w64 (from1 + (w64 (16 * r1)))))) && ((geti p1 to1) == 0), true) (by simp)))) <| obs_cons (ob_get1 (n := p1.length) (m := p1) (Value.int .i64) (0 : Int) Agg3 (fun _ hS => ⟨_, (hr_p1 _ (hS.dropN 1))⟩) (fun _ hS => rfl) (fun hy => hp6 (hy ((((w64 (Int.tdiv from1 8)) == first1) && (to1 == (w64 (from1 + (w64 (16 * r1)))))) && ((geti p1 to1) == 0), true) (by simp)))) <| obs_nil
            refine wpIn_ret ?_
            have hS := hS.pickN 1 [] (by decide)
            have hm : some (((((w64 (Int.tdiv from1 8)) == first1) && (to1 == (w64 (from1 + (w64 (16 * r1)))))) && ((geti p1 to1) == 0)) && ((geti p1 (w64 (from1 + (w64 (8 * r1))))) == 0)) = some r := hm
            obtain rfl := Option.some.inj hm
            exact retV (rs := [.tmp 6]) (vs := [.bool (((((w64 (Int.tdiv from1 8)) == first1) && (to1 == (w64 (from1 + (w64 (16 * r1)))))) && ((geti p1 to1) == 0)) && ((geti p1 (w64 (from1 + (w64 (8 * r1))))) == 0))]) hF rfl (rv_t (by kernel_rfl) <| rv_nil) rfl ⟨rfl, hS⟩
          · refine reg [] [] [1, 2, 3, 7, 9, 69] [pl 1 (.int .i64 from1), pl 2 (.int .i64 to1), pl 3 (.pointer (some ⟨g1, 0, none⟩)), pl 7 (.int .i64 r1), pl 9 (.int .i64 1), pl 69 (.bool (decide (r1 < 0)))] hF hS Fol (by kernel_rfl) (by kernel_rfl) (by kernel_rfl) ?_ (fun a w hF hS => ?_)
            · exact obs_nil
            refine cond_ev (t := 69) (b := decide (r1 < 0)) hF (by kernel_rfl) (fun hb => ?_) (fun hb => ?_)
            · replace hm := if_t hm hb
              refine reg1 [] [] [1, 2, 3, 7, 9] [pl 1 (.int .i64 from1), pl 2 (.int .i64 to1), pl 3 (.pointer (some ⟨g1, 0, none⟩)), pl 7 (.int .i64 r1), pl 9 (.int .i64 6)] hF hS Fol (by kernel_rfl) (by kernel_rfl) (by kernel_rfl) ?_ (fun a w hF hS => ?_)
              · exact obs_nil
              refine then_n ?_
              exact ⟨6, hF.weak [1, 2, 3, 7, 9] (by kernel_rfl), hS, hm⟩
            · replace hm := if_f hm hb
              refine wpIn_skip ?_
              refine then_n ?_
              exact ⟨1, hF.weak [1, 2, 3, 7, 9] (by kernel_rfl), hS, hm⟩
        · refine reg [] [] [1, 2, 3, 7, 61] [pl 1 (.int .i64 from1), pl 2 (.int .i64 to1), pl 3 (.pointer (some ⟨g1, 0, none⟩)), pl 7 (.int .i64 r1), pl 61 (.bool (to1 == (w64 (from1 + (w64 (8 * r1))))))] hF hS Fol (by kernel_rfl) (by kernel_rfl) (by kernel_rfl) ?_ (fun a w hF hS => ?_)
          · exact obs_nil
          refine cond_ev (t := 61) (b := (to1 == (w64 (from1 + (w64 (8 * r1)))))) hF (by kernel_rfl) (fun hb => ?_) (fun hb => ?_)
          · replace hm := if_t hm hb
            obtain ⟨hp4, hm⟩ := asrt_b hm
            refine reg [⟨false, [], vS (Instr.loadAt 27 (.pointer (some ⟨g1, 0, none⟩))), .slice A1 p1.length c1⟩, ⟨true, [], vS (Instr.indexAt 27 (.slice A1 p1.length c1) (.int .i64 to1)), .pointer (some (sAddr A1 to1))⟩, ⟨false, [], vS (Instr.loadAt 3 (.pointer (some (sAddr A1 to1)))), .int .i64 (geti p1 to1)⟩] [none, some (.slice A1 p1.length c1), none, some (.pointer (some (sAddr A1 to1))), some (.int .i64 (geti p1 to1)), none, none] [6] [pl 6 (.bool ((geti p1 to1) == 0))] hF hS Fol (by kernel_rfl) (by kernel_rfl) (by kernel_rfl) ?_ (fun a w hF hS => ?_)
            · exact obs_cons (ob_load Agg27 (fun _ _ hS => (hS.at_ 0 rfl).cell rfl)) <| obs_cons (ob_ix1 (f := (Value.int .i64)) (m := p1) Und27 hi3 hs3 (hr_p1 _ (hS.dropN 1)) rfl (fun _ => hp4)) <| obs_cons (ob_get1 (n := p1.length) (m := p1) (Value.int .i64) (0 : Int) Agg3 (fun _ hS => ⟨_, (hr_p1 _ (hS.dropN 1))⟩) (fun _ hS => rfl) (fun _ => hp4)) <| obs_nil
            refine wpIn_ret ?_
            refine then_r ?_
            have hS := hS.pickN 1 [] (by decide)
            have hm : some ((geti p1 to1) == 0) = some r := hm
            obtain rfl := Option.some.inj hm
            exact retV (rs := [.tmp 6]) (vs := [.bool ((geti p1 to1) == 0)]) hF rfl (rv_t (by kernel_rfl) <| rv_nil) rfl ⟨rfl, hS⟩
          · replace hm := if_f hm hb
            refine wpIn_skip ?_
            refine then_n ?_
            exact ⟨hF.weak [1, 2, 3, 7] (by kernel_rfl), hS, hm⟩
      · obtain ⟨r3, hr3, hm⟩ := call_b hm
        refine reg [⟨false, [], vS (Instr.loadAt 27 (.pointer (some ⟨g1, 0, none⟩))), .slice A1 p1.length c1⟩, ⟨false, [], callFunc 207 #[.slice A1 p1.length c1, .int .i64 from1, .int .i64 to1], .bool r3⟩] [none, some (.slice A1 p1.length c1), none, none, some (.bool r3)] [1, 2, 3, 7, 43] [pl 1 (.int .i64 from1), pl 2 (.int .i64 to1), pl 3 (.pointer (some ⟨g1, 0, none⟩)), pl 7 (.int .i64 r1), pl 43 (.bool r3)] hF hS Fol (by kernel_rfl) (by kernel_rfl) (by kernel_rfl) ?_ (fun a w hF hS => ?_)
        · exact obs_cons (ob_load Agg27 (fun _ _ hS => (hS.at_ 0 rfl).cell rfl)) <| obs_cons (ob_call Try.func207 (by kernel_rfl) rfl (fun _ _ hS => gameroomref_Attacks_w hr3 hS (fun _ hS => (hr_p1 _ (hS.dropN 1))) _hc_p1 rfl)) <| obs_nil
        refine cond_ev (t := 43) (b := r3) hF (by kernel_rfl) (fun hb => ?_) (fun hb => ?_)
        · replace hm := if_t hm hb
          obtain ⟨hp3, hm⟩ := asrt_b hm
          refine reg [⟨false, [], vS (Instr.loadAt 27 (.pointer (some ⟨g1, 0, none⟩))), .slice A1 p1.length c1⟩, ⟨true, [], vS (Instr.indexAt 27 (.slice A1 p1.length c1) (.int .i64 to1)), .pointer (some (sAddr A1 to1))⟩, ⟨false, [], vS (Instr.loadAt 3 (.pointer (some (sAddr A1 to1)))), .int .i64 (geti p1 to1)⟩, ⟨false, [(((geti p1 to1) != 0), false)], vS (Instr.loadAt 3 (.pointer (some ⟨g1, 3, none⟩))), .int .i64 p4⟩] [none, some (.slice A1 p1.length c1), none, some (.pointer (some (sAddr A1 to1))), some (.int .i64 (geti p1 to1)), none, none, none, none, some (.int .i64 p4), none, none, none] [6] [pl 6 (.bool (((geti p1 to1) != 0) || (to1 == p4)))] hF hS Fol (by kernel_rfl) (by kernel_rfl) (by kernel_rfl) ?_ (fun a w hF hS => ?_)
          · exact obs_cons (ob_load Agg27 (fun _ _ hS => (hS.at_ 0 rfl).cell rfl)) <| obs_cons (ob_ix1 (f := (Value.int .i64)) (m := p1) Und27 hi3 hs3 (hr_p1 _ (hS.dropN 1)) rfl (fun _ => hp3)) <| obs_cons (ob_get1 (n := p1.length) (m := p1) (Value.int .i64) (0 : Int) Agg3 (fun _ hS => ⟨_, (hr_p1 _ (hS.dropN 1))⟩) (fun _ hS => rfl) (fun _ => hp3)) <| obs_cons (ob_load Agg3 (fun _ _ hS => (hS.at_ 0 rfl).cell rfl)) <| obs_nil
          refine wpIn_ret ?_
          refine then_r ?_
          have hS := hS.pickN 1 [] (by decide)
          have hm : some (((geti p1 to1) != 0) || (to1 == p4)) = some r := hm
          obtain rfl := Option.some.inj hm
          exact retV (rs := [.tmp 6]) (vs := [.bool (((geti p1 to1) != 0) || (to1 == p4))]) hF rfl (rv_t (by kernel_rfl) <| rv_nil) rfl ⟨rfl, hS⟩
        · replace hm := if_f hm hb
          refine wpIn_skip ?_
          refine then_n ?_
          exact ⟨hF.weak [1, 2, 3, 7] (by kernel_rfl), hS, hm⟩
    · refine reg [] [] [1, 2, 3, 7, 33] [pl 1 (.int .i64 from1), pl 2 (.int .i64 to1), pl 3 (.pointer (some ⟨g1, 0, none⟩)), pl 7 (.int .i64 r1), pl 33 (.bool ((w64 ((geti p1 from1) * r1)) != 1))] hF hS Fol (by kernel_rfl) (by kernel_rfl) (by kernel_rfl) ?_ (fun a w hF hS => ?_)
      · exact obs_nil
      refine cond_ev (t := 33) (b := ((w64 ((geti p1 from1) * r1)) != 1)) hF (by kernel_rfl) (fun hb => ?_) (fun hb => ?_)
      · replace hm := if_t hm hb
        obtain ⟨r2, hr2, hm⟩ := call_b hm
        refine reg [⟨false, [], vS (Instr.loadAt 27 (.pointer (some ⟨g1, 0, none⟩))), .slice A1 p1.length c1⟩, ⟨false, [], callFunc 207 #[.slice A1 p1.length c1, .int .i64 from1, .int .i64 to1], .bool r2⟩] [none, some (.slice A1 p1.length c1), none, none, some (.bool r2), none] [6] [pl 6 (.bool r2)] hF hS Fol (by kernel_rfl) (by kernel_rfl) (by kernel_rfl) ?_ (fun a w hF hS => ?_)
        · exact obs_cons (ob_load Agg27 (fun _ _ hS => (hS.at_ 0 rfl).cell rfl)) <| obs_cons (ob_call Try.func207 (by kernel_rfl) rfl (fun _ _ hS => gameroomref_Attacks_w hr2 hS (fun _ hS => (hr_p1 _ (hS.dropN 1))) _hc_p1 rfl)) <| obs_nil
        refine wpIn_ret ?_
        refine then_r ?_
        have hS := hS.pickN 1 [] (by decide)
        have hm : some r2 = some r := hm
        obtain rfl := Option.some.inj hm
        exact retV (rs := [.tmp 6]) (vs := [.bool r2]) hF rfl (rv_t (by kernel_rfl) <| rv_nil) rfl ⟨rfl, hS⟩
      · replace hm := if_f hm hb
        refine wpIn_skip ?_
        refine then_n ?_
        exact ⟨hF.weak [1, 2, 3, 7] (by kernel_rfl), hS, hm⟩
  · obtain ⟨hp2, hm⟩ := asrt_b hm
    refine reg [⟨false, [(decide ((w64 ((geti p1 from1) * r1)) ≤ 0), false)], vS (Instr.loadAt 27 (.pointer (some ⟨g1, 0, none⟩))), .slice A1 p1.length c1⟩, ⟨true, [(decide ((w64 ((geti p1 from1) * r1)) ≤ 0), false)], vS (Instr.indexAt 27 (.slice A1 p1.length c1) (.int .i64 to1)), .pointer (some (sAddr A1 to1))⟩, ⟨false, [(decide ((w64 ((geti p1 from1) * r1)) ≤ 0), false)], vS (Instr.loadAt 3 (.pointer (some (sAddr A1 to1)))), .int .i64 (geti p1 to1)⟩] [none, none, none, none, some (.slice A1 p1.length c1), none, some (.pointer (some (sAddr A1 to1))), some (.int .i64 (geti p1 to1)), none, none, none, none] [1, 2, 3, 7, 8, 31] [pl 1 (.int .i64 from1), pl 2 (.int .i64 to1), pl 3 (.pointer (some ⟨g1, 0, none⟩)), pl 7 (.int .i64 r1), pl 8 (.int .i64 (w64 ((geti p1 from1) * r1))), pl 31 (.bool ((decide ((w64 ((geti p1 from1) * r1)) ≤ 0)) || (decide ((0 : Int) < (w64 ((geti p1 to1) * r1))))))] hF hS Fol (by kernel_rfl) (by kernel_rfl) (by kernel_rfl) ?_ (fun a w hF hS => ?_)
    · exact obs_cons (ob_load Agg27 (fun _ _ hS => (hS.at_ 0 rfl).cell rfl)) <| obs_cons (ob_ix1 (f := (Value.int .i64)) (m := p1) Und27 hi3 hs3 (hr_p1 _ (hS.dropN 1)) rfl (fun hy => hp2 (hy (decide ((w64 ((geti p1 from1) * r1)) ≤ 0), false) (by simp)))) <| obs_cons (ob_get1 (n := p1.length) (m := p1) (Value.int .i64) (0 : Int) Agg3 (fun _ hS => ⟨_, (hr_p1 _ (hS.dropN 1))⟩) (fun _ hS => rfl) (fun hy => hp2 (hy (decide ((w64 ((geti p1 from1) * r1)) ≤ 0), false) (by simp)))) <| obs_nil
    refine cond_ev (t := 31) (b := (decide ((w64 ((geti p1 from1) * r1)) ≤ 0)) || (decide ((0 : Int) < (w64 ((geti p1 to1) * r1))))) hF (by kernel_rfl) (fun hb => ?_) (fun hb => ?_)
    · replace hm := if_t hm hb
      refine reg [] [] [6] [pl 6 (.bool false)] hF hS Fol (by kernel_rfl) (by kernel_rfl) (by kernel_rfl) ?_ (fun a w hF hS => ?_)
      · exact obs_nil
      refine wpIn_ret ?_
      refine then_r ?_
      have hS := hS.pickN 1 [] (by decide)
      have hm : some false = some r := hm
      obtain rfl := Option.some.inj hm
      exact retV (rs := [.tmp 6]) (vs := [.bool false]) hF rfl (rv_t (by kernel_rfl) <| rv_nil) rfl ⟨rfl, hS⟩
    · replace hm := if_f hm hb
      refine wpIn_skip ?_
      refine then_n ?_
      exact ⟨hF.weak [1, 2, 3, 7, 8] (by kernel_rfl), hS, hm⟩

noncomputable def gameroomref_castleTo_J4  (i1 : Int) : Option (St Int (Fl Unit Int)) :=
  some (.next (w64 (i1 + 1)))

noncomputable def gameroomref_castleTo_J3  (p1 : List Int) (n2 : Int) (i1 : Int) : Option (St Int (Fl Unit Int)) :=
  asrt (0 ≤ i1 ∧ i1 < (((geti2 ([([5, 6] : List Int), ([1, 2, 3] : List Int), ([61, 62] : List Int), ([57, 58, 59] : List Int)] : List (List Int)) n2).length : Nat) : Int)) <| asrt (0 ≤ (geti (geti2 ([([5, 6] : List Int), ([1, 2, 3] : List Int), ([61, 62] : List Int), ([57, 58, 59] : List Int)] : List (List Int)) n2) i1) ∧ (geti (geti2 ([([5, 6] : List Int), ([1, 2, 3] : List Int), ([61, 62] : List Int), ([57, 58, 59] : List Int)] : List (List Int)) n2) i1) < (p1.length : Int)) <| if ((geti p1 (geti (geti2 ([([5, 6] : List Int), ([1, 2, 3] : List Int), ([61, 62] : List Int), ([57, 58, 59] : List Int)] : List (List Int)) n2) i1)) != 0) then (some (.done (.ret (-1)))) else ((gameroomref_castleTo_J4 i1))

noncomputable def gameroomref_castleTo_J7  (k1 : Int) : Option (St Int (Fl Unit Int)) :=
  some (.next (w64 (k1 + 1)))

noncomputable def gameroomref_castleTo_J6  (p1 : List Int) (p2 : Int) (n2 : Int) (k1 : Int) : Option (St Int (Fl Unit Int)) :=
  (gameroomref_AttackersOf_m p1 (w64 ((geti ([4, 4, 60, 60] : List Int) n2) + (w64 (k1 * (geti ([1, (-1), 1, (-1)] : List Int) n2))))) (w64 (1 - p2))).bind fun r1 => if (decide ((0 : Int) < (r1.length : Int))) then (some (.done (.ret (-1)))) else ((gameroomref_castleTo_J7 k1))

noncomputable def gameroomref_castleTo_L2  (p1 : List Int) (p2 : Int) (n2 : Int) : Int → Option (St Int (Fl Unit Int)) :=
  fun (x : Int) => match x with | k1 => if (decide (k1 ≤ 2)) then ((gameroomref_castleTo_J6 p1 p2 n2 k1)) else (some (.done (.go ())))

noncomputable def gameroomref_castleTo_J5  (n2 : Int) : Option Int :=
  some (w64 ((geti ([4, 4, 60, 60] : List Int) n2) + (w64 (2 * (geti ([1, (-1), 1, (-1)] : List Int) n2)))))

noncomputable def gameroomref_castleTo_K2  (n2 : Int) : (Fl Unit Int) → Option Int :=
  fun (x : (Fl Unit Int)) => match x with | .go _ => (gameroomref_castleTo_J5 n2) | .ret x => some x

noncomputable def gameroomref_castleTo_J2  (p1 : List Int) (p2 : Int) (n2 : Int) : Option Int :=
  asrt (0 ≤ n2 ∧ n2 < 4) <| (loop (gameroomref_castleTo_L2 p1 p2 n2) 0).bind (gameroomref_castleTo_K2 n2)

noncomputable def gameroomref_castleTo_K1  (p1 : List Int) (p2 : Int) (n2 : Int) : (Fl Unit Int) → Option Int :=
  fun (x : (Fl Unit Int)) => match x with | .go _ => (gameroomref_castleTo_J2 p1 p2 n2) | .ret x => some x

noncomputable def gameroomref_castleTo_L1  (p1 : List Int) (n2 : Int) : Int → Option (St Int (Fl Unit Int)) :=
  fun (x : Int) => match x with | i1 => if (decide (i1 < (((geti2 ([([5, 6] : List Int), ([1, 2, 3] : List Int), ([61, 62] : List Int), ([57, 58, 59] : List Int)] : List (List Int)) n2).length : Nat) : Int))) then ((gameroomref_castleTo_J3 p1 n2 i1)) else (some (.done (.go ())))

noncomputable def gameroomref_castleTo_J1  (p1 : List Int) (p2 : Int) (n2 : Int) : Option Int :=
  asrt (0 ≤ n2 ∧ n2 < 4) <| asrt (0 ≤ n2 ∧ n2 < 4) <| (loop (gameroomref_castleTo_L1 p1 n2) 0).bind (gameroomref_castleTo_K1 p1 p2 n2)
end Go.Proofs.Ytfmmlmiakkjaiaa
