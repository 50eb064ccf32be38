/-
  Models and walks, printed by our own program (wip/gen).
-/
import Derived.Test.YtjfloofoobllaaaFB
import Derived.Test.YtjfloofoobllaaaLibMV
import Derived.Test.YtjfloofoobllaaaLibSk
import Derived.Test.YtjfloofoobllaaaLibSu
import Derived.Test.YtjfloofoobllaaaFM
import Derived.Test.YtjfloofoobllaaaLibSt
import Derived.Test.YtjfloofoobllaaaSF
import Derived.Test.YtjfloofoobllaaaNPSb
namespace Go.Proofs.Ytjfloofoobllaaa
open Go Go.GL Go.RowKit

noncomputable def gameroomref_JumpsOf_m  (g1 : Int) (g2 : Int) (g3 : List Int) : Option (List (Int × Int × Int)) :=
  (loop (gameroomref_JumpsOf_L1 g1 g2 g3) (([] : List (Int × Int × Int)), 0)).bind gameroomref_JumpsOf_K1

set_option maxRecDepth 100000 in
set_option maxHeartbeats 4000000 in
theorem gameroomref_JumpsOf_w  {g1 : Int} {g2 : Int} {A1 : Option Addr} {c1 : Nat} {n1 : Nat} {g3 : List Int} {r : (List (Int × Int × Int))} {w0 w : World} {B : Nat} {fs : List HP} (hm : gameroomref_JumpsOf_m g1 g2 g3 = some r) (hS : Sep w0 B w (fs)) (hr_g3 : RdF w0 B fs A1 (vI g3)) (_hc_g3 : g3.length ≤ c1) (_hn_g3 : n1 = g3.length) :
    Calls Try.prog 74 #[.agg #[.int .i64 g1, .int .i64 g2, .slice A1 n1 c1]] w fun e w' => ∃ v, e = .returned v ∧ ∃ (A8 : Option Addr) (c8 : Nat), v = .slice A8 r.length c8 ∧ Sep w0 B w' (ownK 61 3 A8 r.length c8 (List.flatMap enc61 r) :: fs) := by
  obtain ⟨i3, hi3, hz3, hs3, hb3⟩ := info_parts Info3
  obtain ⟨i61, hi61, hz61, hs61, hb61⟩ := info_parts Info61
  obtain rfl := _hn_g3
  unfold gameroomref_JumpsOf_m at hm
  replace hm := start_b hm
  refine enter (l := [.agg #[.int .i64 g1, .int .i64 g2, .slice A1 g3.length c1]]) (n := 31) Try.func74 rfl rfl (by simp) (fun a hF => ?_)
  refine seqR ?_
  refine at_do (d := 1) (s := vS (Instr.box 24 (.agg #[.int .i64 g1, .int .i64 g2, .slice A1 g3.length c1]))) (v := .pointer (some ⟨w.heap.size, 0, none⟩)) (w' := w.alloc (.cells #[.int .i64 g1, .int .i64 g2, .slice A1 g3.length c1] 24)) hF (by kernel_rfl) (by kernel_rfl) (by kernel_rfl) (fun a hF => ?_)
  have hS : Sep w0 B (w.alloc (.cells #[.int .i64 g1, .int .i64 g2, .slice A1 g3.length c1] 24)) (blk w.heap.size 24 #[.int .i64 g1, .int .i64 g2, .slice A1 g3.length c1] :: (fs)) := hS.box 24 #[.int .i64 g1, .int .i64 g2, .slice A1 g3.length c1]
  generalize w.heap.size = g4 at hF hS
  generalize w.alloc (.cells #[.int .i64 g1, .int .i64 g2, .slice A1 g3.length c1] 24) = w at hS ⊢
  refine at_run 1 [] [] [1] [pl 1 (.pointer (some ⟨g4, 0, none⟩))] hF hS (by kernel_rfl) (by kernel_rfl) ?_ (fun a w hF hS => ?_)
  · exact obs_nil
  refine at_end [1] [pl 1 (.pointer (some ⟨g4, 0, none⟩))] hF rfl (by kernel_rfl) (fun hF => ?_)
  refine then_n ?_
  refine reg [] [] [1, 3] [pl 1 (.pointer (some ⟨g4, 0, none⟩)), pl 3 (.slice none 0 0)] hF hS Fol (by kernel_rfl) (by kernel_rfl) (by kernel_rfl) ?_ (fun a w hF hS => ?_)
  · exact obs_nil
  refine seq_cut (fun a w => ∃ (l2 : List (Int × Int × Int)) (A3 : Option Addr) (c3 : Nat), Fr 31 [pl 3 (.slice A3 l2.length c3)] a ∧ Sep w0 B w (ownK 61 3 A3 l2.length c3 (List.flatMap enc61 l2) :: fs) ∧ (gameroomref_JumpsOf_J1 l2).bind some = some r) ?_ ?_
  · rintro a w ⟨l2, A3, c3, hF, hS, hm⟩
    unfold gameroomref_JumpsOf_J1 at hm
    refine reg [] [] [2] [pl 2 (.slice A3 l2.length c3)] hF hS Fol (by kernel_rfl) (by kernel_rfl) (by kernel_rfl) ?_ (fun a w hF hS => ?_)
    · exact obs_nil
    refine wpIn_ret ?_
    have hm : some l2 = some r := hm
    obtain rfl := Option.some.inj hm
    exact retV (rs := [.tmp 2]) (vs := [.slice A3 l2.length c3]) hF rfl (rv_t (by kernel_rfl) <| rv_nil) rfl ⟨_, rfl, A3, c3, rfl, hS⟩
  · refine reg [] [] [1, 3, 4] [pl 1 (.pointer (some ⟨g4, 0, none⟩)), pl 3 (.slice none 0 0), pl 4 (.int .i64 0)] hF hS Fol (by kernel_rfl) (by kernel_rfl) (by kernel_rfl) ?_ (fun a w hF hS => ?_)
    · exact obs_nil
    refine wpIn_block ?_
    have hS : Sep w0 B w (ownK 61 3 none 0 0 (List.flatMap enc61 ([] : List (Int × Int × Int))) :: blk g4 24 #[.int .i64 g1, .int .i64 g2, .slice A1 g3.length c1] :: fs) := hS.nilK 61 3 enc61
    have hl1 := (hS.at_ 0 rfl).lenK encK61
    have hS := (hS.at_ 0 rfl).reNK hl1
    have hS : Sep w0 B w (ownK 61 3 none (([] : List (Int × Int × Int)).length) 0 (List.flatMap enc61 ([] : List (Int × Int × Int))) :: blk g4 24 #[.int .i64 g1, .int .i64 g2, .slice A1 g3.length c1] :: fs) := hS
    have hF := hF.cast (t := 3) (v := .slice none 0 0) (v' := .slice none (([] : List (Int × Int × Int)).length) 0) rfl rfl (congrArg (fun k => Value.slice none k 0) hl1)
    have hS := hS.pickN 2 [1, 0] (by decide)
    refine wp_loop_model (S := (List (Int × Int × Int) × Int)) (R := (List (Int × Int × Int))) (gameroomref_JumpsOf_L1 g1 g2 g3) (fun x => (gameroomref_JumpsOf_K1 x).bind some) r (fun (x : (List (Int × Int × Int) × Int)) a w => ∃ (A2 : Option Addr) (c2 : Nat), Fr 31 [pl 1 (.pointer (some ⟨g4, 0, none⟩)), pl 3 (.slice A2 x.1.length c2), pl 4 (.int .i64 x.2)] a ∧ Sep w0 B w (blk g4 24 #[.int .i64 g1, .int .i64 g2, .slice A1 g3.length c1] :: ownK 61 3 A2 x.1.length c2 (List.flatMap enc61 x.1) :: fs)) (assoc_b hm) ⟨none, 0, hF.weak [1, 3, 4] (by kernel_rfl), hS⟩ ?_
    clear hF hS hm
    rintro nn1 ⟨l1, a1⟩ a w ⟨A2, c2, hF, hS⟩ hm
    generalize hφ1 : stK (gameroomref_JumpsOf_L1 g1 g2 g3) nn1 (fun x => (gameroomref_JumpsOf_K1 x).bind some) = φ1 at hm
    unfold gameroomref_JumpsOf_L1 at hm
    dsimp only at hF hS hm
    refine seq_cut (fun a w => Fr 31 [pl 1 (.pointer (some ⟨g4, 0, none⟩)), pl 3 (.slice A2 l1.length c2), pl 4 (.int .i64 a1)] a ∧ Sep w0 B w (blk g4 24 #[.int .i64 g1, .int .i64 g2, .slice A1 g3.length c1] :: ownK 61 3 A2 l1.length c2 (List.flatMap enc61 l1) :: fs) ∧ ((gameroomref_JumpsOf_J2 g1 g2 g3 l1 a1)).bind φ1 = some r) ?_ ?_
    · rintro a w ⟨hF, hS, hm⟩
      unfold gameroomref_JumpsOf_J2 at hm
      refine seq_cut (fun a w => ∃ (l4 : List (Int × Int × Int)) (A5 : Option Addr) (c5 : Nat), Fr 31 [pl 1 (.pointer (some ⟨g4, 0, none⟩)), pl 3 (.slice A5 l4.length c5), pl 4 (.int .i64 a1)] a ∧ Sep w0 B w (blk g4 24 #[.int .i64 g1, .int .i64 g2, .slice A1 g3.length c1] :: ownK 61 3 A5 l4.length c5 (List.flatMap enc61 l4) :: fs) ∧ ((gameroomref_JumpsOf_J3 a1) l4).bind φ1 = some r) ?_ ?_
      · rintro a w ⟨l4, A5, c5, hF, hS, hm⟩
        unfold gameroomref_JumpsOf_J3 at hm
        refine reg1 [] [] [1, 3, 4] [pl 1 (.pointer (some ⟨g4, 0, none⟩)), pl 3 (.slice A5 l4.length c5), pl 4 (.int .i64 (w64 (a1 + 1)))] hF hS Fol (by kernel_rfl) (by kernel_rfl) (by kernel_rfl) ?_ (fun a w hF hS => ?_)
        · exact obs_nil
        refine then_n ?_
        rw [← hφ1] at hm
        exact ⟨(l4, (w64 (a1 + 1))), ⟨A5, c5, hF.weak [1, 3, 4] (by kernel_rfl), hS⟩, hm⟩
      · refine wpIn_block ?_
        refine reg [] [] [1, 3, 4, 5] [pl 1 (.pointer (some ⟨g4, 0, none⟩)), pl 3 (.slice A2 l1.length c2), pl 4 (.int .i64 a1), pl 5 (.int .i64 0)] hF hS Fol (by kernel_rfl) (by kernel_rfl) (by kernel_rfl) ?_ (fun a w hF hS => ?_)
        · exact obs_nil
        refine wpIn_block ?_
        refine wp_loop_model (S := (List (Int × Int × Int) × Int)) (R := (List (Int × Int × Int))) (gameroomref_JumpsOf_L2 g1 g2 g3 a1) (fun x => ((gameroomref_JumpsOf_K2 a1) x).bind φ1) r (fun (x : (List (Int × Int × Int) × Int)) a w => ∃ (A4 : Option Addr) (c4 : Nat), Fr 31 [pl 1 (.pointer (some ⟨g4, 0, none⟩)), pl 3 (.slice A4 x.1.length c4), pl 4 (.int .i64 a1), pl 5 (.int .i64 x.2)] a ∧ Sep w0 B w (blk g4 24 #[.int .i64 g1, .int .i64 g2, .slice A1 g3.length c1] :: ownK 61 3 A4 x.1.length c4 (List.flatMap enc61 x.1) :: fs)) (assoc_b hm) ⟨A2, c2, hF.weak [1, 3, 4, 5] (by kernel_rfl), hS⟩ ?_
        clear hF hS hm
        rintro nn2 ⟨l3, b1⟩ a w ⟨A4, c4, hF, hS⟩ hm
        generalize hφ2 : stK (gameroomref_JumpsOf_L2 g1 g2 g3 a1) nn2 (fun x => ((gameroomref_JumpsOf_K2 a1) x).bind φ1) = φ2 at hm
        unfold gameroomref_JumpsOf_L2 at hm
        dsimp only at hF hS hm
        refine seq_cut (fun a w => Fr 31 [pl 1 (.pointer (some ⟨g4, 0, none⟩)), pl 3 (.slice A4 l3.length c4), pl 4 (.int .i64 a1), pl 5 (.int .i64 b1)] a ∧ Sep w0 B w (blk g4 24 #[.int .i64 g1, .int .i64 g2, .slice A1 g3.length c1] :: ownK 61 3 A4 l3.length c4 (List.flatMap enc61 l3) :: fs) ∧ ((gameroomref_JumpsOf_J4 g1 g2 g3 a1 l3 b1)).bind φ2 = some r) ?_ ?_
        · rintro a w ⟨hF, hS, hm⟩
          unfold gameroomref_JumpsOf_J4 at hm
          refine seq_cut (fun a w => ∃ (l5 : List (Int × Int × Int)) (A7 : Option Addr) (c7 : Nat), Fr 31 [pl 1 (.pointer (some ⟨g4, 0, none⟩)), pl 3 (.slice A7 l5.length c7), pl 4 (.int .i64 a1), pl 5 (.int .i64 b1)] a ∧ Sep w0 B w (blk g4 24 #[.int .i64 g1, .int .i64 g2, .slice A1 g3.length c1] :: ownK 61 3 A7 l5.length c7 (List.flatMap enc61 l5) :: fs) ∧ ((gameroomref_JumpsOf_J5 b1) l5).bind φ2 = some r) ?_ ?_
          · rintro a w ⟨l5, A7, c7, hF, hS, hm⟩
            unfold gameroomref_JumpsOf_J5 at hm
            refine reg1 [] [] [1, 3, 4, 5] [pl 1 (.pointer (some ⟨g4, 0, none⟩)), pl 3 (.slice A7 l5.length c7), pl 4 (.int .i64 a1), pl 5 (.int .i64 (w64 (b1 + 1)))] hF hS Fol (by kernel_rfl) (by kernel_rfl) (by kernel_rfl) ?_ (fun a w hF hS => ?_)
            · exact obs_nil
            refine then_n ?_
            rw [← hφ2] at hm
            exact ⟨(l5, (w64 (b1 + 1))), ⟨A7, c7, hF.weak [1, 3, 4, 5] (by kernel_rfl), hS⟩, hm⟩
          · refine wpIn_block ?_
            obtain ⟨r1, hr1, hm⟩ := call_b hm
            refine reg [⟨false, [], vS (Instr.loadAt 24 (.pointer (some ⟨g4, 0, none⟩))), .agg #[.int .i64 g1, .int .i64 g2, .slice A1 g3.length c1]⟩, ⟨false, [], callFunc 30 #[.agg #[.int .i64 g1, .int .i64 g2, .slice A1 g3.length c1], .int .i64 a1, .int .i64 b1], .bool r1⟩] [some (.agg #[.int .i64 g1, .int .i64 g2, .slice A1 g3.length c1]), none, none, some (.bool r1)] [1, 3, 4, 5, 23] [pl 1 (.pointer (some ⟨g4, 0, none⟩)), pl 3 (.slice A4 l3.length c4), pl 4 (.int .i64 a1), pl 5 (.int .i64 b1), pl 23 (.bool r1)] hF hS Fol (by kernel_rfl) (by kernel_rfl) (by kernel_rfl) ?_ (fun a w hF hS => ?_)
            · exact obs_cons (ob_loadA (cs := #[.int .i64 g1, .int .i64 g2, .slice A1 g3.length c1]) (by kernel_rfl) (by kernel_rfl) (fun _ _ hS => (hS.at_ 0 rfl).cellsAt 0 (by rfl))) <| obs_cons (ob_call Try.func30 (by kernel_rfl) rfl (fun _ _ hS => gameroomref_JumpCan_w hr1 hS (fun _ hS => (hr_g3 _ (hS.dropN 2))) _hc_g3 rfl)) <| obs_nil
            refine cond_ev (t := 23) (b := r1) hF (by kernel_rfl) (fun hb => ?_) (fun hb => ?_)
            · replace hm := if_t hm hb
              refine oneR ?_
              obtain ⟨hp1, hm⟩ := asrt_b hm
              refine at_run 4 [] [] [1, 4, 5, 24, 27] [pl 1 (.pointer (some ⟨g4, 0, none⟩)), pl 4 (.int .i64 a1), pl 5 (.int .i64 b1), pl 24 (.slice A4 l3.length c4), pl 27 (.agg #[.int .i64 a1, .int .i64 b1, .int .i64 0])] hF hS (by kernel_rfl) (by kernel_rfl) ?_ (fun a w hF hS => ?_)
              · exact obs_nil
              refine at_do (d := 28) (s := vS (Instr.buildSlice 53 1 #[(0, .agg #[.int .i64 a1, .int .i64 b1, .int .i64 0])])) (v := .slice (some ⟨w.heap.size, 0, none⟩) 1 1) (w' := w.alloc (.cells #[.int .i64 a1, .int .i64 b1, .int .i64 0] 61)) hF (by kernel_rfl) (by kernel_rfl) (by kernel_rfl) (fun a hF => ?_)
              have hS : Sep w0 B (w.alloc (.cells #[.int .i64 a1, .int .i64 b1, .int .i64 0] 61)) (ownK 61 3 (some (⟨w.heap.size, 0, none⟩ : Addr)) 1 1 (List.flatMap enc61 ([(a1, b1, 0)] : List (Int × Int × Int))) :: (blk g4 24 #[.int .i64 g1, .int .i64 g2, .slice A1 g3.length c1] :: ownK 61 3 A4 l3.length c4 (List.flatMap enc61 l3) :: fs)) := hS.litK 61 3 #[.int .i64 a1, .int .i64 b1, .int .i64 0] 1 rfl (by omega)
              generalize (some (⟨w.heap.size, 0, none⟩ : Addr)) = g5 at hF hS
              generalize w.alloc (.cells #[.int .i64 a1, .int .i64 b1, .int .i64 0] 61) = w at hS ⊢
              obtain ⟨A6, c6, w, hrun, hS⟩ := run_appK3 (P := Try.prog) (t := 53) (m := l3) (ys := ([(a1, b1, 0)] : List (Int × Int × Int))) (A2 := g5) (m2 := 1) (c2 := 1) encK61 (hS.at_ 2 rfl) (hS.at_ 0 rfl).rdK ((hS.at_ 0 rfl).lenK encK61) 53 Und53 hi61 hz61 hs61 rfl (by omega) hp1
              have hS : Sep w0 B w (ownK 61 3 g5 1 1 (List.flatMap enc61 ([(a1, b1, 0)] : List (Int × Int × Int))) :: blk g4 24 #[.int .i64 g1, .int .i64 g2, .slice A1 g3.length c1] :: ownK 61 3 A6 ((l3 ++ ([(a1, b1, 0)] : List (Int × Int × Int))).length) c6 (List.flatMap enc61 (l3 ++ ([(a1, b1, 0)] : List (Int × Int × Int)))) :: fs) := hS
              refine at_do (d := 29) hF (by kernel_rfl) (by kernel_rfl) hrun (fun a hF => ?_)
              refine at_run 1 [] [] [1, 3, 4, 5] [pl 1 (.pointer (some ⟨g4, 0, none⟩)), pl 3 (.slice A6 ((l3 ++ ([(a1, b1, 0)] : List (Int × Int × Int))).length) c6), pl 4 (.int .i64 a1), pl 5 (.int .i64 b1)] hF hS (by kernel_rfl) (by kernel_rfl) ?_ (fun a w hF hS => ?_)
              · exact obs_nil
              refine at_end [1, 3, 4, 5] [pl 1 (.pointer (some ⟨g4, 0, none⟩)), pl 3 (.slice A6 ((l3 ++ ([(a1, b1, 0)] : List (Int × Int × Int))).length) c6), pl 4 (.int .i64 a1), pl 5 (.int .i64 b1)] hF rfl (by kernel_rfl) (fun hF => ?_)
              refine block_n ?_
              refine then_n ?_
              have hS := hS.pickN 3 [1, 2] (by decide)
              exact ⟨(l3 ++ ([(a1, b1, 0)] : List (Int × Int × Int))), A6, c6, hF.weak [1, 3, 4, 5] (by kernel_rfl), hS, hm⟩
            · replace hm := if_f hm hb
              refine wpIn_skip ?_
              refine block_n ?_
              refine then_n ?_
              exact ⟨l3, A4, c4, hF.weak [1, 3, 4, 5] (by kernel_rfl), hS, hm⟩
        · refine reg [⟨false, [], vS (Instr.loadAt 22 (.pointer (some ⟨g4, 2, none⟩))), .slice A1 g3.length c1⟩] [none, none, some (.slice A1 g3.length c1), none, none] [1, 3, 4, 5, 17] [pl 1 (.pointer (some ⟨g4, 0, none⟩)), pl 3 (.slice A4 l3.length c4), pl 4 (.int .i64 a1), pl 5 (.int .i64 b1), pl 17 (.bool (decide (b1 < (g3.length : Int))))] hF hS Fol (by kernel_rfl) (by kernel_rfl) (by kernel_rfl) ?_ (fun a w hF hS => ?_)
          · exact obs_cons (ob_load Agg22 (fun _ _ hS => (hS.at_ 0 rfl).cell rfl)) <| obs_nil
          refine cond_ev (t := 17) (b := decide (b1 < (g3.length : Int))) hF (by kernel_rfl) (fun hb => ?_) (fun hb => ?_)
          · replace hm := if_t hm hb
            refine wpIn_skip ?_
            refine then_n ?_
            exact ⟨hF.weak [1, 3, 4, 5] (by kernel_rfl), hS, hm⟩
          · replace hm := if_f hm hb
            refine wpIn_exit ?_
            refine then_e (then_e (block_e (block_n (then_n ?_))))
            rw [← hφ2] at hm
            replace hm := done_b hm
            unfold gameroomref_JumpsOf_K2 at hm
            try dsimp only at hm
            have hm : ((gameroomref_JumpsOf_J3 a1) l3).bind φ1 = some r := hm
            exact ⟨l3, A4, c4, hF.weak [1, 3, 4] (by kernel_rfl), hS, hm⟩
    · refine reg [⟨false, [], vS (Instr.loadAt 22 (.pointer (some ⟨g4, 2, none⟩))), .slice A1 g3.length c1⟩] [none, none, some (.slice A1 g3.length c1), none, none] [1, 3, 4, 10] [pl 1 (.pointer (some ⟨g4, 0, none⟩)), pl 3 (.slice A2 l1.length c2), pl 4 (.int .i64 a1), pl 10 (.bool (decide (a1 < (g3.length : Int))))] hF hS Fol (by kernel_rfl) (by kernel_rfl) (by kernel_rfl) ?_ (fun a w hF hS => ?_)
      · exact obs_cons (ob_load Agg22 (fun _ _ hS => (hS.at_ 0 rfl).cell rfl)) <| obs_nil
      refine cond_ev (t := 10) (b := decide (a1 < (g3.length : Int))) hF (by kernel_rfl) (fun hb => ?_) (fun hb => ?_)
      · replace hm := if_t hm hb
        refine wpIn_skip ?_
        refine then_n ?_
        exact ⟨hF.weak [1, 3, 4] (by kernel_rfl), hS, hm⟩
      · replace hm := if_f hm hb
        refine wpIn_exit ?_
        refine then_e (then_e (block_e (then_n ?_)))
        have hS := hS.pickN 2 [1] (by decide)
        rw [← hφ1] at hm
        replace hm := done_b hm
        unfold gameroomref_JumpsOf_K1 at hm
        try dsimp only at hm
        have hm : (gameroomref_JumpsOf_J1 l1).bind some = some r := hm
        exact ⟨l1, A2, c2, hF.weak [3] (by kernel_rfl), hS, hm⟩

noncomputable def gameroomref_JumpDone_m  (g1 : Int) (g2 : Int) (g3 : List Int) (m1 : Int) (m2 : Int) (m3 : Int) : Option (Int × Int × List Int) :=
  (gameroomref_GridOf_m g1 g2 g3).bind fun r1 => asrt (0 ≤ m1 ∧ m1 < (r1.2.2.length : Int)) <| asrt (0 ≤ (w64 (Int.tdiv (w64 (m1 + m2)) 2)) ∧ (w64 (Int.tdiv (w64 (m1 + m2)) 2)) < (r1.2.2.length : Int)) <| asrt (0 ≤ m2 ∧ m2 < (r1.2.2.length : Int)) <| some (r1.1, r1.2.1, (((r1.2.2.set (Int.toNat m1) 0).set (Int.toNat (w64 (Int.tdiv (w64 (m1 + m2)) 2))) 0).set (Int.toNat m2) 1))

set_option maxRecDepth 100000 in
set_option maxHeartbeats 4000000 in
theorem gameroomref_JumpDone_w  {g1 : Int} {g2 : Int} {A1 : Option Addr} {c1 : Nat} {n1 : Nat} {g3 : List Int} {m1 : Int} {m2 : Int} {m3 : Int} {r : (Int × Int × List Int)} {w0 w : World} {B : Nat} {fs : List HP} (hm : gameroomref_JumpDone_m g1 g2 g3 m1 m2 m3 = some r) (hS : Sep w0 B w (fs)) (hr_g3 : RdF w0 B fs A1 (vI g3)) (_hc_g3 : g3.length ≤ c1) (_hn_g3 : n1 = g3.length) :
    Calls Try.prog 31 #[.agg #[.int .i64 g1, .int .i64 g2, .slice A1 n1 c1], .agg #[.int .i64 m1, .int .i64 m2, .int .i64 m3]] w fun e w' => ∃ v, e = .returned v ∧ ∃ (A3 : Option Addr) (c3 : Nat), v = .agg #[.int .i64 r.1, .int .i64 r.2.1, .slice A3 r.2.2.length c3] ∧ Sep w0 B w' (own 3 (.slice A3 r.2.2.length c3) (vI r.2.2) :: fs) := by
  obtain ⟨i3, hi3, hz3, hs3, hb3⟩ := info_parts Info3
  obtain rfl := _hn_g3
  unfold gameroomref_JumpDone_m at hm
  replace hm := start_b hm
  refine enter (l := [.agg #[.int .i64 g1, .int .i64 g2, .slice A1 g3.length c1], .agg #[.int .i64 m1, .int .i64 m2, .int .i64 m3]]) (n := 28) Try.func31 rfl rfl (by simp) (fun a hF => ?_)
  refine seqR ?_
  refine at_do (d := 2) (s := vS (Instr.box 24 (.agg #[.int .i64 g1, .int .i64 g2, .slice A1 g3.length c1]))) (v := .pointer (some ⟨w.heap.size, 0, none⟩)) (w' := w.alloc (.cells #[.int .i64 g1, .int .i64 g2, .slice A1 g3.length c1] 24)) hF (by kernel_rfl) (by kernel_rfl) (by kernel_rfl) (fun a hF => ?_)
  have hS : Sep w0 B (w.alloc (.cells #[.int .i64 g1, .int .i64 g2, .slice A1 g3.length c1] 24)) (blk w.heap.size 24 #[.int .i64 g1, .int .i64 g2, .slice A1 g3.length c1] :: (fs)) := hS.box 24 #[.int .i64 g1, .int .i64 g2, .slice A1 g3.length c1]
  generalize w.heap.size = g4 at hF hS
  generalize w.alloc (.cells #[.int .i64 g1, .int .i64 g2, .slice A1 g3.length c1] 24) = w at hS ⊢
  refine at_do (d := 3) (s := vS (Instr.box 61 (.agg #[.int .i64 m1, .int .i64 m2, .int .i64 m3]))) (v := .pointer (some ⟨w.heap.size, 0, none⟩)) (w' := w.alloc (.cells #[.int .i64 m1, .int .i64 m2, .int .i64 m3] 61)) hF (by kernel_rfl) (by kernel_rfl) (by kernel_rfl) (fun a hF => ?_)
  have hS : Sep w0 B (w.alloc (.cells #[.int .i64 m1, .int .i64 m2, .int .i64 m3] 61)) (blk w.heap.size 61 #[.int .i64 m1, .int .i64 m2, .int .i64 m3] :: (blk g4 24 #[.int .i64 g1, .int .i64 g2, .slice A1 g3.length c1] :: fs)) := hS.box 61 #[.int .i64 m1, .int .i64 m2, .int .i64 m3]
  generalize w.heap.size = g5 at hF hS
  generalize w.alloc (.cells #[.int .i64 m1, .int .i64 m2, .int .i64 m3] 61) = w at hS ⊢
  refine at_do (d := 4) (s := vS (Instr.alloc 24 true (.tuple #[]))) (v := .pointer (some ⟨w.heap.size, 0, none⟩)) (w' := w.alloc (.cells #[.int .i64 0, .int .i64 0, .slice none 0 0] 24)) hF (by kernel_rfl) (by kernel_rfl) (by kernel_rfl) (fun a hF => ?_)
  have hS : Sep w0 B (w.alloc (.cells #[.int .i64 0, .int .i64 0, .slice none 0 0] 24)) (blk w.heap.size 24 #[.int .i64 0, .int .i64 0, .slice none 0 0] :: (blk g5 61 #[.int .i64 m1, .int .i64 m2, .int .i64 m3] :: blk g4 24 #[.int .i64 g1, .int .i64 g2, .slice A1 g3.length c1] :: fs)) := hS.box 24 #[.int .i64 0, .int .i64 0, .slice none 0 0]
  generalize w.heap.size = g6 at hF hS
  generalize w.alloc (.cells #[.int .i64 0, .int .i64 0, .slice none 0 0] 24) = w at hS ⊢
  refine at_end [2, 3, 4] [pl 2 (.pointer (some ⟨g4, 0, none⟩)), pl 3 (.pointer (some ⟨g5, 0, none⟩)), pl 4 (.pointer (some ⟨g6, 0, none⟩))] hF rfl (by kernel_rfl) (fun hF => ?_)
  refine then_n ?_
  refine seqR ?_
  obtain ⟨r1, hr1, hm⟩ := call_b hm
  refine at_run 1 [⟨false, [], vS (Instr.loadAt 24 (.pointer (some ⟨g4, 0, none⟩))), .agg #[.int .i64 g1, .int .i64 g2, .slice A1 g3.length c1]⟩] [some (.agg #[.int .i64 g1, .int .i64 g2, .slice A1 g3.length c1])] [3, 4, 6] [pl 3 (.pointer (some ⟨g5, 0, none⟩)), pl 4 (.pointer (some ⟨g6, 0, none⟩)), pl 6 (.agg #[.int .i64 g1, .int .i64 g2, .slice A1 g3.length c1])] hF hS (by kernel_rfl) (by kernel_rfl) ?_ (fun a w hF hS => ?_)
  · exact obs_cons (ob_loadA (cs := #[.int .i64 g1, .int .i64 g2, .slice A1 g3.length c1]) (by kernel_rfl) (by kernel_rfl) (fun _ _ hS => (hS.at_ 2 rfl).cellsAt 0 (by rfl))) <| obs_nil
  refine at_call (f := 9) (args := #[.agg #[.int .i64 g1, .int .i64 g2, .slice A1 g3.length c1]]) (d := 7) hF (by kernel_rfl) (by kernel_rfl) Try.func9 (by kernel_rfl) rfl (gameroomref_GridOf_w hr1 hS (fun _ hS => (hr_g3 _ (hS.dropN 3))) _hc_g3 rfl) (fun v a w hR hF => ?_)
  clear hS
  obtain ⟨A2, c2, rfl, hS⟩ := hR
  have hS : Sep w0 B w (own 3 (.slice A2 r1.2.2.length c2) (vI r1.2.2) :: blk g6 24 #[.int .i64 0, .int .i64 0, .slice none 0 0] :: blk g5 61 #[.int .i64 m1, .int .i64 m2, .int .i64 m3] :: blk g4 24 #[.int .i64 g1, .int .i64 g2, .slice A1 g3.length c1] :: fs) := hS
  refine at_do (d := 5) (s := vS (Instr.alloc 24 true (.tuple #[]))) (v := .pointer (some ⟨w.heap.size, 0, none⟩)) (w' := w.alloc (.cells #[.int .i64 0, .int .i64 0, .slice none 0 0] 24)) hF (by kernel_rfl) (by kernel_rfl) (by kernel_rfl) (fun a hF => ?_)
  have hS : Sep w0 B (w.alloc (.cells #[.int .i64 0, .int .i64 0, .slice none 0 0] 24)) (blk w.heap.size 24 #[.int .i64 0, .int .i64 0, .slice none 0 0] :: (own 3 (.slice A2 r1.2.2.length c2) (vI r1.2.2) :: blk g6 24 #[.int .i64 0, .int .i64 0, .slice none 0 0] :: blk g5 61 #[.int .i64 m1, .int .i64 m2, .int .i64 m3] :: blk g4 24 #[.int .i64 g1, .int .i64 g2, .slice A1 g3.length c1] :: fs)) := hS.box 24 #[.int .i64 0, .int .i64 0, .slice none 0 0]
  generalize w.heap.size = g7 at hF hS
  generalize w.alloc (.cells #[.int .i64 0, .int .i64 0, .slice none 0 0] 24) = w at hS ⊢
  obtain ⟨w, hrun, hS⟩ := run_putA (P := Try.prog) (t := 24) (us := #[.int .i64 r1.1, .int .i64 r1.2.1, .slice A2 r1.2.2.length c2]) (o := 0) (hS.at_ 0 rfl) (by kernel_rfl) (all_one (by kernel_rfl)) (Nat.le_of_ble_eq_true (by kernel_rfl))
  refine at_skip hF (by kernel_rfl) hrun ?_
  have hS : Sep w0 B w (blk g7 24 #[.int .i64 r1.1, .int .i64 r1.2.1, .slice A2 r1.2.2.length c2] :: own 3 (.slice A2 r1.2.2.length c2) (vI r1.2.2) :: blk g6 24 #[.int .i64 0, .int .i64 0, .slice none 0 0] :: blk g5 61 #[.int .i64 m1, .int .i64 m2, .int .i64 m3] :: blk g4 24 #[.int .i64 g1, .int .i64 g2, .slice A1 g3.length c1] :: fs) := hS
  refine at_end [3, 4, 5] [pl 3 (.pointer (some ⟨g5, 0, none⟩)), pl 4 (.pointer (some ⟨g6, 0, none⟩)), pl 5 (.pointer (some ⟨g7, 0, none⟩))] hF rfl (by kernel_rfl) (fun hF => ?_)
  refine then_n ?_
  refine seqR ?_
  obtain ⟨hp1, hm⟩ := asrt_b hm
  refine at_run 5 [⟨false, [], vS (Instr.loadAt 22 (.pointer (some ⟨g7, 2, none⟩))), .slice A2 r1.2.2.length c2⟩, ⟨false, [], vS (Instr.loadAt 3 (.pointer (some ⟨g5, 0, none⟩))), .int .i64 m1⟩, ⟨true, [], vS (Instr.indexAt 22 (.slice A2 r1.2.2.length c2) (.int .i64 m1)), .pointer (some (sAddr A2 m1))⟩] [none, some (.slice A2 r1.2.2.length c2), none, some (.int .i64 m1), some (.pointer (some (sAddr A2 m1)))] [3, 4, 5, 12] [pl 3 (.pointer (some ⟨g5, 0, none⟩)), pl 4 (.pointer (some ⟨g6, 0, none⟩)), pl 5 (.pointer (some ⟨g7, 0, none⟩)), pl 12 (.pointer (some (sAddr A2 m1)))] hF hS (by kernel_rfl) (by kernel_rfl) ?_ (fun a w hF hS => ?_)
  · exact obs_cons (ob_load Agg22 (fun _ _ hS => (hS.at_ 0 rfl).cell rfl)) <| obs_cons (ob_load Agg3 (fun _ _ hS => (hS.at_ 3 rfl).cell rfl)) <| obs_cons (ob_ix1 (f := (Value.int .i64)) (m := r1.2.2) Und22 hi3 hs3 (hS.at_ 1 rfl).rd rfl (fun _ => hp1)) <| obs_nil
  obtain ⟨w, hrun, hS⟩ := run_set1 (P := Try.prog) (t := 3) (x := 0) (Value.int .i64) (hS.at_ 1 rfl) hi3 hs3 rfl rfl hp1
  refine at_skip hF (by kernel_rfl) hrun ?_
  have hS : Sep w0 B w (blk g7 24 #[.int .i64 r1.1, .int .i64 r1.2.1, .slice A2 r1.2.2.length c2] :: own 3 (.slice A2 r1.2.2.length c2) (vI (r1.2.2.set (Int.toNat m1) 0)) :: blk g6 24 #[.int .i64 0, .int .i64 0, .slice none 0 0] :: blk g5 61 #[.int .i64 m1, .int .i64 m2, .int .i64 m3] :: blk g4 24 #[.int .i64 g1, .int .i64 g2, .slice A1 g3.length c1] :: fs) := hS
  refine at_end [3, 4, 5] [pl 3 (.pointer (some ⟨g5, 0, none⟩)), pl 4 (.pointer (some ⟨g6, 0, none⟩)), pl 5 (.pointer (some ⟨g7, 0, none⟩))] hF rfl (by kernel_rfl) (fun hF => ?_)
  refine then_n ?_
  refine seqR ?_
  obtain ⟨hp2, hm⟩ := asrt_b hm
  refine at_run 9 [⟨false, [], vS (Instr.loadAt 22 (.pointer (some ⟨g7, 2, none⟩))), .slice A2 r1.2.2.length c2⟩, ⟨false, [], vS (Instr.loadAt 3 (.pointer (some ⟨g5, 0, none⟩))), .int .i64 m1⟩, ⟨false, [], vS (Instr.loadAt 3 (.pointer (some ⟨g5, 1, none⟩))), .int .i64 m2⟩, ⟨true, [], vS (Instr.indexAt 22 (.slice A2 r1.2.2.length c2) (.int .i64 (w64 (Int.tdiv (w64 (m1 + m2)) 2)))), .pointer (some (sAddr A2 (w64 (Int.tdiv (w64 (m1 + m2)) 2))))⟩] [none, some (.slice A2 r1.2.2.length c2), none, some (.int .i64 m1), none, some (.int .i64 m2), none, none, some (.pointer (some (sAddr A2 (w64 (Int.tdiv (w64 (m1 + m2)) 2)))))] [3, 4, 5, 21] [pl 3 (.pointer (some ⟨g5, 0, none⟩)), pl 4 (.pointer (some ⟨g6, 0, none⟩)), pl 5 (.pointer (some ⟨g7, 0, none⟩)), pl 21 (.pointer (some (sAddr A2 (w64 (Int.tdiv (w64 (m1 + m2)) 2)))))] hF hS (by kernel_rfl) (by kernel_rfl) ?_ (fun a w hF hS => ?_)
  · exact obs_cons (ob_load Agg22 (fun _ _ hS => (hS.at_ 0 rfl).cell rfl)) <| obs_cons (ob_load Agg3 (fun _ _ hS => (hS.at_ 3 rfl).cell rfl)) <| obs_cons (ob_load Agg3 (fun _ _ hS => (hS.at_ 3 rfl).cell rfl)) <| obs_cons (ob_ix1 (f := (Value.int .i64)) (m := (r1.2.2.set (Int.toNat m1) 0)) Und22 hi3 hs3 (hS.at_ 1 rfl).rd ((hS.at_ 1 rfl).len1) (fun _ => hp2)) <| obs_nil
  obtain ⟨w, hrun, hS⟩ := run_set1 (P := Try.prog) (t := 3) (x := 0) (Value.int .i64) (hS.at_ 1 rfl) hi3 hs3 rfl rfl hp2
  refine at_skip hF (by kernel_rfl) hrun ?_
  have hS : Sep w0 B w (blk g7 24 #[.int .i64 r1.1, .int .i64 r1.2.1, .slice A2 r1.2.2.length c2] :: own 3 (.slice A2 r1.2.2.length c2) (vI ((r1.2.2.set (Int.toNat m1) 0).set (Int.toNat (w64 (Int.tdiv (w64 (m1 + m2)) 2))) 0)) :: blk g6 24 #[.int .i64 0, .int .i64 0, .slice none 0 0] :: blk g5 61 #[.int .i64 m1, .int .i64 m2, .int .i64 m3] :: blk g4 24 #[.int .i64 g1, .int .i64 g2, .slice A1 g3.length c1] :: fs) := hS
  refine at_end [3, 4, 5] [pl 3 (.pointer (some ⟨g5, 0, none⟩)), pl 4 (.pointer (some ⟨g6, 0, none⟩)), pl 5 (.pointer (some ⟨g7, 0, none⟩))] hF rfl (by kernel_rfl) (fun hF => ?_)
  refine then_n ?_
  refine seqR ?_
  obtain ⟨hp3, hm⟩ := asrt_b hm
  refine at_run 5 [⟨false, [], vS (Instr.loadAt 22 (.pointer (some ⟨g7, 2, none⟩))), .slice A2 r1.2.2.length c2⟩, ⟨false, [], vS (Instr.loadAt 3 (.pointer (some ⟨g5, 1, none⟩))), .int .i64 m2⟩, ⟨true, [], vS (Instr.indexAt 22 (.slice A2 r1.2.2.length c2) (.int .i64 m2)), .pointer (some (sAddr A2 m2))⟩] [none, some (.slice A2 r1.2.2.length c2), none, some (.int .i64 m2), some (.pointer (some (sAddr A2 m2)))] [4, 5, 26] [pl 4 (.pointer (some ⟨g6, 0, none⟩)), pl 5 (.pointer (some ⟨g7, 0, none⟩)), pl 26 (.pointer (some (sAddr A2 m2)))] hF hS (by kernel_rfl) (by kernel_rfl) ?_ (fun a w hF hS => ?_)
  · exact obs_cons (ob_load Agg22 (fun _ _ hS => (hS.at_ 0 rfl).cell rfl)) <| obs_cons (ob_load Agg3 (fun _ _ hS => (hS.at_ 3 rfl).cell rfl)) <| obs_cons (ob_ix1 (f := (Value.int .i64)) (m := ((r1.2.2.set (Int.toNat m1) 0).set (Int.toNat (w64 (Int.tdiv (w64 (m1 + m2)) 2))) 0)) Und22 hi3 hs3 (hS.at_ 1 rfl).rd ((hS.at_ 1 rfl).len1) (fun _ => hp3)) <| obs_nil
  obtain ⟨w, hrun, hS⟩ := run_set1 (P := Try.prog) (t := 3) (x := 1) (Value.int .i64) (hS.at_ 1 rfl) hi3 hs3 rfl rfl hp3
  refine at_skip hF (by kernel_rfl) hrun ?_
  have hS : Sep w0 B w (blk g7 24 #[.int .i64 r1.1, .int .i64 r1.2.1, .slice A2 r1.2.2.length c2] :: own 3 (.slice A2 r1.2.2.length c2) (vI (((r1.2.2.set (Int.toNat m1) 0).set (Int.toNat (w64 (Int.tdiv (w64 (m1 + m2)) 2))) 0).set (Int.toNat m2) 1)) :: blk g6 24 #[.int .i64 0, .int .i64 0, .slice none 0 0] :: blk g5 61 #[.int .i64 m1, .int .i64 m2, .int .i64 m3] :: blk g4 24 #[.int .i64 g1, .int .i64 g2, .slice A1 g3.length c1] :: fs) := hS
  refine at_end [4, 5] [pl 4 (.pointer (some ⟨g6, 0, none⟩)), pl 5 (.pointer (some ⟨g7, 0, none⟩))] hF rfl (by kernel_rfl) (fun hF => ?_)
  refine then_n ?_
  refine seqR ?_
  refine at_run 1 [⟨false, [], vS (Instr.loadAt 24 (.pointer (some ⟨g7, 0, none⟩))), .agg #[.int .i64 r1.1, .int .i64 r1.2.1, .slice A2 r1.2.2.length c2]⟩] [some (.agg #[.int .i64 r1.1, .int .i64 r1.2.1, .slice A2 r1.2.2.length c2])] [4, 27] [pl 4 (.pointer (some ⟨g6, 0, none⟩)), pl 27 (.agg #[.int .i64 r1.1, .int .i64 r1.2.1, .slice A2 r1.2.2.length c2])] hF hS (by kernel_rfl) (by kernel_rfl) ?_ (fun a w hF hS => ?_)
  · exact obs_cons (ob_loadA (cs := #[.int .i64 r1.1, .int .i64 r1.2.1, .slice A2 r1.2.2.length c2]) (by kernel_rfl) (by kernel_rfl) (fun _ _ hS => (hS.at_ 0 rfl).cellsAt 0 (by rfl))) <| obs_nil
  obtain ⟨w, hrun, hS⟩ := run_putA (P := Try.prog) (t := 24) (us := #[.int .i64 r1.1, .int .i64 r1.2.1, .slice A2 r1.2.2.length c2]) (o := 0) (hS.at_ 2 rfl) (by kernel_rfl) (all_one (by kernel_rfl)) (Nat.le_of_ble_eq_true (by kernel_rfl))
  refine at_skip hF (by kernel_rfl) hrun ?_
  have hS : Sep w0 B w (blk g7 24 #[.int .i64 r1.1, .int .i64 r1.2.1, .slice A2 r1.2.2.length c2] :: own 3 (.slice A2 r1.2.2.length c2) (vI (((r1.2.2.set (Int.toNat m1) 0).set (Int.toNat (w64 (Int.tdiv (w64 (m1 + m2)) 2))) 0).set (Int.toNat m2) 1)) :: blk g6 24 #[.int .i64 r1.1, .int .i64 r1.2.1, .slice A2 r1.2.2.length c2] :: blk g5 61 #[.int .i64 m1, .int .i64 m2, .int .i64 m3] :: blk g4 24 #[.int .i64 g1, .int .i64 g2, .slice A1 g3.length c1] :: fs) := hS
  refine at_end [4] [pl 4 (.pointer (some ⟨g6, 0, none⟩))] hF rfl (by kernel_rfl) (fun hF => ?_)
  refine then_n ?_
  refine wpIn_ret ?_
  have hl1 := (hS.at_ 1 rfl).len1
  have hS := (hS.at_ 1 rfl).reN hl1
  have hS := (hS.at_ 0 rfl).reBlk (congrArg (fun k9 => (#[.int .i64 r1.1, .int .i64 r1.2.1, .slice A2 k9 c2] : Array Value)) hl1)
  have hS := (hS.at_ 2 rfl).reBlk (congrArg (fun k9 => (#[.int .i64 r1.1, .int .i64 r1.2.1, .slice A2 k9 c2] : Array Value)) hl1)
  have hS : Sep w0 B w (blk g7 24 #[.int .i64 r1.1, .int .i64 r1.2.1, .slice A2 ((((r1.2.2.set (Int.toNat m1) 0).set (Int.toNat (w64 (Int.tdiv (w64 (m1 + m2)) 2))) 0).set (Int.toNat m2) 1).length) c2] :: own 3 (.slice A2 ((((r1.2.2.set (Int.toNat m1) 0).set (Int.toNat (w64 (Int.tdiv (w64 (m1 + m2)) 2))) 0).set (Int.toNat m2) 1).length) c2) (vI (((r1.2.2.set (Int.toNat m1) 0).set (Int.toNat (w64 (Int.tdiv (w64 (m1 + m2)) 2))) 0).set (Int.toNat m2) 1)) :: blk g6 24 #[.int .i64 r1.1, .int .i64 r1.2.1, .slice A2 ((((r1.2.2.set (Int.toNat m1) 0).set (Int.toNat (w64 (Int.tdiv (w64 (m1 + m2)) 2))) 0).set (Int.toNat m2) 1).length) c2] :: blk g5 61 #[.int .i64 m1, .int .i64 m2, .int .i64 m3] :: blk g4 24 #[.int .i64 g1, .int .i64 g2, .slice A1 g3.length c1] :: fs) := hS
  have hld0 := run_loadVarA (P := Try.prog) (t := 24) (cs := #[.int .i64 r1.1, .int .i64 r1.2.1, .slice A2 ((((r1.2.2.set (Int.toNat m1) 0).set (Int.toNat (w64 (Int.tdiv (w64 (m1 + m2)) 2))) 0).set (Int.toNat m2) 1).length) c2]) (by kernel_rfl) (by kernel_rfl) ((hS.at_ 2 rfl).cellsAt 0 (by rfl))
  have hS := hS.pickN 5 [1] (by decide)
  have hm : some (r1.1, r1.2.1, (((r1.2.2.set (Int.toNat m1) 0).set (Int.toNat (w64 (Int.tdiv (w64 (m1 + m2)) 2))) 0).set (Int.toNat m2) 1)) = some r := hm
  obtain rfl := Option.some.inj hm
  exact retV (rs := [.cell 4 24]) (vs := [.agg #[.int .i64 r1.1, .int .i64 r1.2.1, .slice A2 ((((r1.2.2.set (Int.toNat m1) 0).set (Int.toNat (w64 (Int.tdiv (w64 (m1 + m2)) 2))) 0).set (Int.toNat m2) 1).length) c2]]) hF rfl (rv_c (by kernel_rfl) hld0 <| rv_nil) rfl ⟨_, rfl, A2, c2, rfl, hS⟩

noncomputable def gameroomref_LeastLeft_J3  (i1 : Int) (n5 : Int) (can3 : Bool) : Option (St (Int × Bool × Int) (Int × Bool)) :=
  some (.next (n5, can3, (w64 (i1 + 1))))

noncomputable def gameroomref_LeastLeft_J4  (can1 : Bool) (i1 : Int) (r4 : (Int × Bool)) (n4 : Int) : Option (St (Int × Bool × Int) (Int × Bool)) :=
  (gameroomref_LeastLeft_J3 i1) n4 (can1 || r4.2)

noncomputable def gameroomref_LeastLeft_J2  (rec_gameroomref_LeastLeft : Int → Int → List Int → Int → Option (Int × Bool)) (g1 : Int) (g2 : Int) (g3 : List Int) (last1 : Int) (r2 : (List (Int × Int × Int))) (n2 : Int) (can1 : Bool) (i1 : Int) : Option (St (Int × Bool × Int) (Int × Bool)) :=
  asrt (0 ≤ i1 ∧ i1 < (r2.length : Int)) <| (gameroomref_JumpDone_m g1 g2 g3 ((getd ((0, 0, 0) : (Int × Int × Int)) r2 i1).1) ((getd ((0, 0, 0) : (Int × Int × Int)) r2 i1).2.1) ((getd ((0, 0, 0) : (Int × Int × Int)) r2 i1).2.2)).bind fun r3 => (rec_gameroomref_LeastLeft r3.1 r3.2.1 r3.2.2 last1).bind fun r4 => if (decide (r4.1 < n2)) then ((gameroomref_LeastLeft_J4 can1 i1 r4) r4.1) else ((gameroomref_LeastLeft_J4 can1 i1 r4) n2)

noncomputable def gameroomref_LeastLeft_J1  (n3 : Int) (can2 : Bool) : Option (Int × Bool) :=
  some (n3, can2)

noncomputable def gameroomref_LeastLeft_K1  : (Int × Bool) → Option (Int × Bool) :=
  fun (x : (Int × Bool)) => match x with | (n3, can2) => gameroomref_LeastLeft_J1 n3 can2

noncomputable def gameroomref_LeastLeft_L1  (rec_gameroomref_LeastLeft : Int → Int → List Int → Int → Option (Int × Bool)) (g1 : Int) (g2 : Int) (g3 : List Int) (last1 : Int) (r2 : (List (Int × Int × Int))) : (Int × Bool × Int) → Option (St (Int × Bool × Int) (Int × Bool)) :=
  fun (x : (Int × Bool × Int)) => match x with | (n2, can1, i1) => if (decide (i1 < (r2.length : Int))) then ((gameroomref_LeastLeft_J2 rec_gameroomref_LeastLeft g1 g2 g3 last1 r2 n2 can1 i1)) else (some (.done (n2, can1)))

noncomputable def gameroomref_LeastLeft_B  (rec_gameroomref_LeastLeft : Int → Int → List Int → Int → Option (Int × Bool)) (g1 : Int) (g2 : Int) (g3 : List Int) (last1 : Int) : Option (Int × Bool) :=
  (gameroomref_CountSign_m g1 g2 g3 1).bind fun r1 => asrt ((decide (last1 < 0)) = false → (r1 == 1) = true → 0 ≤ last1 ∧ last1 < (g3.length : Int)) <| (gameroomref_JumpsOf_m g1 g2 g3).bind fun r2 => (loop (gameroomref_LeastLeft_L1 rec_gameroomref_LeastLeft g1 g2 g3 last1 r2) (r1, ((r1 == 1) && ((decide (last1 < 0)) || ((geti g3 last1) == 1))), 0)).bind gameroomref_LeastLeft_K1

noncomputable def gameroomref_LeastLeft_mF  : Nat → Int → Int → List Int → Int → Option (Int × Bool)
  | 0 => fun _ _ _ _ => none
  | n + 1 => fun g1 g2 g3 last1 => gameroomref_LeastLeft_B (gameroomref_LeastLeft_mF n) g1 g2 g3 last1

noncomputable def gameroomref_LeastLeft_m  (g1 : Int) (g2 : Int) (g3 : List Int) (last1 : Int) : Option (Int × Bool) :=
  recM fun n => gameroomref_LeastLeft_mF n g1 g2 g3 last1

set_option maxRecDepth 100000 in
set_option maxHeartbeats 4000000 in
theorem gameroomref_LeastLeft_wB  {rec_gameroomref_LeastLeft : Int → Int → List Int → Int → Option (Int × Bool)} (ih_gameroomref_LeastLeft : ∀ {g1 : Int} {g2 : Int} {A1 : Option Addr} {c1 : Nat} {n1 : Nat} {g3 : List Int} {last1 : Int} {r : (Int × Bool)} {w0 w : World} {B : Nat} {fs : List HP} (_ : rec_gameroomref_LeastLeft g1 g2 g3 last1 = some r) (_ : Sep w0 B w (fs)) (_hr_g3 : RdF w0 B fs A1 (vI g3)) (_hc_g3 : g3.length ≤ c1) (_hn_g3 : n1 = g3.length), Calls Try.prog 29 #[.agg #[.int .i64 g1, .int .i64 g2, .slice A1 n1 c1], .int .i64 last1] w fun e w' => e = .returned (.tuple #[.int .i64 r.1, .bool r.2]) ∧ Sep w0 B w' (fs)) {g1 : Int} {g2 : Int} {A1 : Option Addr} {c1 : Nat} {n1 : Nat} {g3 : List Int} {last1 : Int} {r : (Int × Bool)} {w0 w : World} {B : Nat} {fs : List HP} (hm : gameroomref_LeastLeft_B rec_gameroomref_LeastLeft g1 g2 g3 last1 = some r) (hS : Sep w0 B w (fs)) (hr_g3 : RdF w0 B fs A1 (vI g3)) (_hc_g3 : g3.length ≤ c1) (_hn_g3 : n1 = g3.length) :
    Calls Try.prog 29 #[.agg #[.int .i64 g1, .int .i64 g2, .slice A1 n1 c1], .int .i64 last1] w fun e w' => e = .returned (.tuple #[.int .i64 r.1, .bool r.2]) ∧ Sep w0 B w' (fs) := by
  obtain ⟨i3, hi3, hz3, hs3, hb3⟩ := info_parts Info3
  obtain ⟨i61, hi61, hz61, hs61, hb61⟩ := info_parts Info61
  obtain rfl := _hn_g3
  unfold gameroomref_LeastLeft_B at hm
  replace hm := start_b hm
  refine enter (l := [.agg #[.int .i64 g1, .int .i64 g2, .slice A1 g3.length c1], .int .i64 last1]) (n := 57) Try.func29 rfl rfl (by simp) (fun a hF => ?_)
  refine seqR ?_
  refine at_do (d := 2) (s := vS (Instr.box 24 (.agg #[.int .i64 g1, .int .i64 g2, .slice A1 g3.length c1]))) (v := .pointer (some ⟨w.heap.size, 0, none⟩)) (w' := w.alloc (.cells #[.int .i64 g1, .int .i64 g2, .slice A1 g3.length c1] 24)) hF (by kernel_rfl) (by kernel_rfl) (by kernel_rfl) (fun a hF => ?_)
  have hS : Sep w0 B (w.alloc (.cells #[.int .i64 g1, .int .i64 g2, .slice A1 g3.length c1] 24)) (blk w.heap.size 24 #[.int .i64 g1, .int .i64 g2, .slice A1 g3.length c1] :: (fs)) := hS.box 24 #[.int .i64 g1, .int .i64 g2, .slice A1 g3.length c1]
  generalize w.heap.size = g4 at hF hS
  generalize w.alloc (.cells #[.int .i64 g1, .int .i64 g2, .slice A1 g3.length c1] 24) = w at hS ⊢
  refine at_run 2 [] [] [1, 2] [pl 1 (.int .i64 last1), pl 2 (.pointer (some ⟨g4, 0, none⟩))] hF hS (by kernel_rfl) (by kernel_rfl) ?_ (fun a w hF hS => ?_)
  · exact obs_nil
  refine at_end [1, 2] [pl 1 (.int .i64 last1), pl 2 (.pointer (some ⟨g4, 0, none⟩))] hF rfl (by kernel_rfl) (fun hF => ?_)
  refine then_n ?_
  obtain ⟨r1, hr1, hm⟩ := call_b hm
  refine reg [⟨false, [], vS (Instr.loadAt 24 (.pointer (some ⟨g4, 0, none⟩))), .agg #[.int .i64 g1, .int .i64 g2, .slice A1 g3.length c1]⟩, ⟨false, [], callFunc 32 #[.agg #[.int .i64 g1, .int .i64 g2, .slice A1 g3.length c1], .int .i64 1], .int .i64 r1⟩] [some (.agg #[.int .i64 g1, .int .i64 g2, .slice A1 g3.length c1]), some (.int .i64 r1), none] [1, 2, 6] [pl 1 (.int .i64 last1), pl 2 (.pointer (some ⟨g4, 0, none⟩)), pl 6 (.int .i64 r1)] hF hS Fol (by kernel_rfl) (by kernel_rfl) (by kernel_rfl) ?_ (fun a w hF hS => ?_)
  · exact obs_cons (ob_loadA (cs := #[.int .i64 g1, .int .i64 g2, .slice A1 g3.length c1]) (by kernel_rfl) (by kernel_rfl) (fun _ _ hS => (hS.at_ 0 rfl).cellsAt 0 (by rfl))) <| obs_cons (ob_call Try.func32 (by kernel_rfl) rfl (fun _ _ hS => gameroomref_CountSign_w hr1 hS (fun _ hS => (hr_g3 _ (hS.dropN 1))) _hc_g3 rfl)) <| obs_nil
  obtain ⟨hp1, hm⟩ := asrt_b hm
  refine reg [⟨false, [(decide (last1 < 0), false), ((r1 == 1), true)], vS (Instr.loadAt 22 (.pointer (some ⟨g4, 2, none⟩))), .slice A1 g3.length c1⟩, ⟨true, [(decide (last1 < 0), false), ((r1 == 1), true)], vS (Instr.indexAt 22 (.slice A1 g3.length c1) (.int .i64 last1)), .pointer (some (sAddr A1 last1))⟩, ⟨false, [(decide (last1 < 0), false), ((r1 == 1), true)], vS (Instr.loadAt 3 (.pointer (some (sAddr A1 last1)))), .int .i64 (geti g3 last1)⟩] [none, none, none, none, none, none, none, some (.slice A1 g3.length c1), none, some (.pointer (some (sAddr A1 last1))), some (.int .i64 (geti g3 last1)), none, none, none, none] [1, 2, 6, 7] [pl 1 (.int .i64 last1), pl 2 (.pointer (some ⟨g4, 0, none⟩)), pl 6 (.int .i64 r1), pl 7 (.bool ((r1 == 1) && ((decide (last1 < 0)) || ((geti g3 last1) == 1))))] hF hS Fol (by kernel_rfl) (by kernel_rfl) (by kernel_rfl) ?_ (fun a w hF hS => ?_)
  · exact obs_cons (ob_load Agg22 (fun _ _ hS => (hS.at_ 0 rfl).cell rfl)) <| obs_cons (ob_ix1 (f := (Value.int .i64)) (m := g3) Und22 hi3 hs3 (hr_g3 _ (hS.dropN 1)) rfl (fun hy => hp1 (hy (decide (last1 < 0), false) (by simp)) (hy ((r1 == 1), true) (by simp)))) <| obs_cons (ob_get1 (n := g3.length) (m := g3) (Value.int .i64) (0 : Int) Agg3 (fun _ hS => ⟨_, (hr_g3 _ (hS.dropN 1))⟩) (fun _ hS => rfl) (fun hy => hp1 (hy (decide (last1 < 0), false) (by simp)) (hy ((r1 == 1), true) (by simp)))) <| obs_nil
  refine seqR ?_
  obtain ⟨r2, hr2, hm⟩ := call_b hm
  refine at_run 1 [⟨false, [], vS (Instr.loadAt 24 (.pointer (some ⟨g4, 0, none⟩))), .agg #[.int .i64 g1, .int .i64 g2, .slice A1 g3.length c1]⟩] [some (.agg #[.int .i64 g1, .int .i64 g2, .slice A1 g3.length c1])] [1, 2, 6, 7, 28] [pl 1 (.int .i64 last1), pl 2 (.pointer (some ⟨g4, 0, none⟩)), pl 6 (.int .i64 r1), pl 7 (.bool ((r1 == 1) && ((decide (last1 < 0)) || ((geti g3 last1) == 1)))), pl 28 (.agg #[.int .i64 g1, .int .i64 g2, .slice A1 g3.length c1])] hF hS (by kernel_rfl) (by kernel_rfl) ?_ (fun a w hF hS => ?_)
  · exact obs_cons (ob_loadA (cs := #[.int .i64 g1, .int .i64 g2, .slice A1 g3.length c1]) (by kernel_rfl) (by kernel_rfl) (fun _ _ hS => (hS.at_ 0 rfl).cellsAt 0 (by rfl))) <| obs_nil
  refine at_call (f := 74) (args := #[.agg #[.int .i64 g1, .int .i64 g2, .slice A1 g3.length c1]]) (d := 29) hF (by kernel_rfl) (by kernel_rfl) Try.func74 (by kernel_rfl) rfl (gameroomref_JumpsOf_w hr2 hS (fun _ hS => (hr_g3 _ (hS.dropN 1))) _hc_g3 rfl) (fun v a w hR hF => ?_)
  clear hS
  obtain ⟨A2, c2, rfl, hS⟩ := hR
  have hS : Sep w0 B w (ownK 61 3 A2 r2.length c2 (List.flatMap enc61 r2) :: blk g4 24 #[.int .i64 g1, .int .i64 g2, .slice A1 g3.length c1] :: fs) := hS
  refine at_run 1 [] [] [1, 2, 6, 7, 8] [pl 1 (.int .i64 last1), pl 2 (.pointer (some ⟨g4, 0, none⟩)), pl 6 (.int .i64 r1), pl 7 (.bool ((r1 == 1) && ((decide (last1 < 0)) || ((geti g3 last1) == 1)))), pl 8 (.slice A2 r2.length c2)] hF hS (by kernel_rfl) (by kernel_rfl) ?_ (fun a w hF hS => ?_)
  · exact obs_nil
  refine at_end [1, 2, 6, 7, 8] [pl 1 (.int .i64 last1), pl 2 (.pointer (some ⟨g4, 0, none⟩)), pl 6 (.int .i64 r1), pl 7 (.bool ((r1 == 1) && ((decide (last1 < 0)) || ((geti g3 last1) == 1)))), pl 8 (.slice A2 r2.length c2)] hF rfl (by kernel_rfl) (fun hF => ?_)
  refine then_n ?_
  refine seq_cut (fun a w => ∃ (n3 : Int) (can2 : Bool), Fr 57 [pl 6 (.int .i64 n3), pl 7 (.bool can2)] a ∧ Sep w0 B w (fs) ∧ (gameroomref_LeastLeft_J1 n3 can2).bind some = some r) ?_ ?_
  · rintro a w ⟨n3, can2, hF, hS, hm⟩
    unfold gameroomref_LeastLeft_J1 at hm
    refine reg [] [] [4, 5] [pl 4 (.int .i64 n3), pl 5 (.bool can2)] hF hS Fol (by kernel_rfl) (by kernel_rfl) (by kernel_rfl) ?_ (fun a w hF hS => ?_)
    · exact obs_nil
    refine wpIn_ret ?_
    have hm : some (n3, can2) = some r := hm
    obtain rfl := Option.some.inj hm
    exact retV (rs := [.tmp 4, .tmp 5]) (vs := [.int .i64 n3, .bool can2]) hF rfl (rv_t (by kernel_rfl) <| rv_t (by kernel_rfl) <| rv_nil) rfl ⟨rfl, hS⟩
  · refine reg [] [] [1, 2, 6, 7, 8, 9] [pl 1 (.int .i64 last1), pl 2 (.pointer (some ⟨g4, 0, none⟩)), pl 6 (.int .i64 r1), pl 7 (.bool ((r1 == 1) && ((decide (last1 < 0)) || ((geti g3 last1) == 1)))), pl 8 (.slice A2 r2.length c2), pl 9 (.int .i64 0)] hF hS Fol (by kernel_rfl) (by kernel_rfl) (by kernel_rfl) ?_ (fun a w hF hS => ?_)
    · exact obs_nil
    refine wpIn_block ?_
    have hS := hS.pickN 2 [1, 0] (by decide)
    refine wp_loop_model (S := (Int × Bool × Int)) (R := (Int × Bool)) (gameroomref_LeastLeft_L1 rec_gameroomref_LeastLeft g1 g2 g3 last1 r2) (fun x => (gameroomref_LeastLeft_K1 x).bind some) r (fun (x : (Int × Bool × Int)) a w => Fr 57 [pl 1 (.int .i64 last1), pl 2 (.pointer (some ⟨g4, 0, none⟩)), pl 6 (.int .i64 x.1), pl 7 (.bool x.2.1), pl 8 (.slice A2 r2.length c2), pl 9 (.int .i64 x.2.2)] a ∧ Sep w0 B w (blk g4 24 #[.int .i64 g1, .int .i64 g2, .slice A1 g3.length c1] :: ownK 61 3 A2 r2.length c2 (List.flatMap enc61 r2) :: fs)) (assoc_b hm) ⟨hF.weak [1, 2, 6, 7, 8, 9] (by kernel_rfl), hS⟩ ?_
    clear hF hS hm
    rintro nn1 ⟨n2, can1, i1⟩ a w ⟨hF, hS⟩ hm
    generalize hφ1 : stK (gameroomref_LeastLeft_L1 rec_gameroomref_LeastLeft g1 g2 g3 last1 r2) nn1 (fun x => (gameroomref_LeastLeft_K1 x).bind some) = φ1 at hm
    unfold gameroomref_LeastLeft_L1 at hm
    dsimp only at hF hS hm
    refine seq_cut (fun a w => Fr 57 [pl 1 (.int .i64 last1), pl 2 (.pointer (some ⟨g4, 0, none⟩)), pl 6 (.int .i64 n2), pl 7 (.bool can1), pl 8 (.slice A2 r2.length c2), pl 9 (.int .i64 i1)] a ∧ Sep w0 B w (blk g4 24 #[.int .i64 g1, .int .i64 g2, .slice A1 g3.length c1] :: ownK 61 3 A2 r2.length c2 (List.flatMap enc61 r2) :: fs) ∧ ((gameroomref_LeastLeft_J2 rec_gameroomref_LeastLeft g1 g2 g3 last1 r2 n2 can1 i1)).bind φ1 = some r) ?_ ?_
    · rintro a w ⟨hF, hS, hm⟩
      unfold gameroomref_LeastLeft_J2 at hm
      refine seq_cut (fun a w => ∃ (n5 : Int) (can3 : Bool), Fr 57 [pl 1 (.int .i64 last1), pl 2 (.pointer (some ⟨g4, 0, none⟩)), pl 6 (.int .i64 n5), pl 7 (.bool can3), pl 8 (.slice A2 r2.length c2), pl 9 (.int .i64 i1)] a ∧ Sep w0 B w (blk g4 24 #[.int .i64 g1, .int .i64 g2, .slice A1 g3.length c1] :: ownK 61 3 A2 r2.length c2 (List.flatMap enc61 r2) :: fs) ∧ ((gameroomref_LeastLeft_J3 i1) n5 can3).bind φ1 = some r) ?_ ?_
      · rintro a w ⟨n5, can3, hF, hS, hm⟩
        unfold gameroomref_LeastLeft_J3 at hm
        refine reg1 [] [] [1, 2, 6, 7, 8, 9] [pl 1 (.int .i64 last1), pl 2 (.pointer (some ⟨g4, 0, none⟩)), pl 6 (.int .i64 n5), pl 7 (.bool can3), pl 8 (.slice A2 r2.length c2), pl 9 (.int .i64 (w64 (i1 + 1)))] hF hS Fol (by kernel_rfl) (by kernel_rfl) (by kernel_rfl) ?_ (fun a w hF hS => ?_)
        · exact obs_nil
        refine then_n ?_
        rw [← hφ1] at hm
        exact ⟨(n5, can3, (w64 (i1 + 1))), ⟨hF.weak [1, 2, 6, 7, 8, 9] (by kernel_rfl), hS⟩, hm⟩
      · refine wpIn_block ?_
        refine wpIn_seq ?_
        obtain ⟨hp2, hm⟩ := asrt_b hm
        obtain ⟨r3, hr3, hm⟩ := call_b hm
        obtain ⟨r4, hr4, hm⟩ := call_b hm
        refine regMix4 [0, 1, 2, 3, 4, 6] [5, 7, 8, 9, 10, 11, 12] [⟨false, [], vS (Instr.loadAt 24 (.pointer (some ⟨g4, 0, none⟩))), .agg #[.int .i64 g1, .int .i64 g2, .slice A1 g3.length c1]⟩, ⟨true, [], vS (Instr.indexAt 53 (.slice A2 r2.length c2) (.int .i64 i1)), .pointer (some (sAddrK A2 3 i1))⟩, ⟨false, [], vS (Instr.loadAt 61 (.pointer (some (sAddrK A2 3 i1)))), .agg #[.int .i64 ((getd ((0, 0, 0) : (Int × Int × Int)) r2 i1).1), .int .i64 ((getd ((0, 0, 0) : (Int × Int × Int)) r2 i1).2.1), .int .i64 ((getd ((0, 0, 0) : (Int × Int × Int)) r2 i1).2.2)]⟩] [some (.agg #[.int .i64 g1, .int .i64 g2, .slice A1 g3.length c1]), none, none, some (.pointer (some (sAddrK A2 3 i1))), some (.agg #[.int .i64 ((getd ((0, 0, 0) : (Int × Int × Int)) r2 i1).1), .int .i64 ((getd ((0, 0, 0) : (Int × Int × Int)) r2 i1).2.1), .int .i64 ((getd ((0, 0, 0) : (Int × Int × Int)) r2 i1).2.2)]), none] [1, 2, 6, 7, 8, 9, 37, 41, 43] [pl 1 (.int .i64 last1), pl 2 (.pointer (some ⟨g4, 0, none⟩)), pl 6 (.int .i64 n2), pl 7 (.bool can1), pl 8 (.slice A2 r2.length c2), pl 9 (.int .i64 i1), pl 37 (.agg #[.int .i64 g1, .int .i64 g2, .slice A1 g3.length c1]), pl 41 (.agg #[.int .i64 ((getd ((0, 0, 0) : (Int × Int × Int)) r2 i1).1), .int .i64 ((getd ((0, 0, 0) : (Int × Int × Int)) r2 i1).2.1), .int .i64 ((getd ((0, 0, 0) : (Int × Int × Int)) r2 i1).2.2)]), pl 43 (.int .i64 last1)] hF hS Fol (by kernel_rfl) (by kernel_rfl) (by kernel_rfl) (by kernel_rfl) (by kernel_rfl) ?_ (fun a w hF hS => ?_)
        · exact obs_cons (ob_loadA (cs := #[.int .i64 g1, .int .i64 g2, .slice A1 g3.length c1]) (by kernel_rfl) (by kernel_rfl) (fun _ _ hS => (hS.at_ 0 rfl).cellsAt 0 (by rfl))) <| obs_cons (ob_ixK (m := r2) encK61 Und53 hi61 hs61 (hS.at_ 1 rfl).rdK rfl (fun _ => hp2)) <| obs_cons (ob_getK (n := r2.length) (m := r2) encK61 ((0, 0, 0) : (Int × Int × Int)) (by kernel_rfl) (by kernel_rfl) (fun _ hS => ⟨_, (hS.at_ 1 rfl).rdK⟩) (fun _ hS => rfl) (fun _ => hp2)) <| obs_nil
        refine at_call (f := 31) (args := #[.agg #[.int .i64 g1, .int .i64 g2, .slice A1 g3.length c1], .agg #[.int .i64 ((getd ((0, 0, 0) : (Int × Int × Int)) r2 i1).1), .int .i64 ((getd ((0, 0, 0) : (Int × Int × Int)) r2 i1).2.1), .int .i64 ((getd ((0, 0, 0) : (Int × Int × Int)) r2 i1).2.2)]]) (d := 42) hF (by kernel_rfl) (by kernel_rfl) Try.func31 (by kernel_rfl) rfl (gameroomref_JumpDone_w hr3 hS (fun _ hS => (hr_g3 _ (hS.dropN 2))) _hc_g3 rfl) (fun v a w hR hF => ?_)
        clear hS
        obtain ⟨A3, c3, rfl, hS⟩ := hR
        have hS : Sep w0 B w (own 3 (.slice A3 r3.2.2.length c3) (vI r3.2.2) :: blk g4 24 #[.int .i64 g1, .int .i64 g2, .slice A1 g3.length c1] :: ownK 61 3 A2 r2.length c2 (List.flatMap enc61 r2) :: fs) := hS
        refine at_run 6 [⟨false, [], callFunc 29 #[.agg #[.int .i64 r3.1, .int .i64 r3.2.1, .slice A3 r3.2.2.length c3], .int .i64 last1], .tuple #[.int .i64 r4.1, .bool r4.2]⟩] [some (.tuple #[.int .i64 r4.1, .bool r4.2]), none, none, none, none, none] [1, 2, 6, 7, 8, 9, 10, 11] [pl 1 (.int .i64 last1), pl 2 (.pointer (some ⟨g4, 0, none⟩)), pl 6 (.int .i64 n2), pl 7 (.bool can1), pl 8 (.slice A2 r2.length c2), pl 9 (.int .i64 i1), pl 10 (.int .i64 r4.1), pl 11 (.bool r4.2)] hF hS (by kernel_rfl) (by kernel_rfl) ?_ (fun a w hF hS => ?_)
        · exact obs_cons (ob_call Try.func29 (by kernel_rfl) rfl (fun _ _ hS => ih_gameroomref_LeastLeft hr4 hS (fun _ hS => (hS.at_ 0 rfl).rd) ((hS.at_ 0 rfl).cap1) rfl)) <| obs_nil
        refine at_end [1, 2, 6, 7, 8, 9, 10, 11] [pl 1 (.int .i64 last1), pl 2 (.pointer (some ⟨g4, 0, none⟩)), pl 6 (.int .i64 n2), pl 7 (.bool can1), pl 8 (.slice A2 r2.length c2), pl 9 (.int .i64 i1), pl 10 (.int .i64 r4.1), pl 11 (.bool r4.2)] hF rfl (by kernel_rfl) (fun hF => ?_)
        refine np_n ?_
        refine then_n ?_
        refine seq_cut (fun a w => ∃ (n4 : Int), Fr 57 [pl 1 (.int .i64 last1), pl 2 (.pointer (some ⟨g4, 0, none⟩)), pl 6 (.int .i64 n4), pl 7 (.bool can1), pl 8 (.slice A2 r2.length c2), pl 9 (.int .i64 i1), pl 11 (.bool r4.2)] a ∧ Sep w0 B w (blk g4 24 #[.int .i64 g1, .int .i64 g2, .slice A1 g3.length c1] :: ownK 61 3 A2 r2.length c2 (List.flatMap enc61 r2) :: fs) ∧ ((gameroomref_LeastLeft_J4 can1 i1 r4) n4).bind φ1 = some r) ?_ ?_
        · rintro a w ⟨n4, hF, hS, hm⟩
          unfold gameroomref_LeastLeft_J4 at hm
          refine reg1 [] [] [1, 2, 6, 7, 8, 9] [pl 1 (.int .i64 last1), pl 2 (.pointer (some ⟨g4, 0, none⟩)), pl 6 (.int .i64 n4), pl 7 (.bool (can1 || r4.2)), pl 8 (.slice A2 r2.length c2), pl 9 (.int .i64 i1)] hF hS Fol (by kernel_rfl) (by kernel_rfl) (by kernel_rfl) ?_ (fun a w hF hS => ?_)
          · exact obs_nil
          refine block_n ?_
          refine then_n ?_
          exact ⟨n4, (can1 || r4.2), hF.weak [1, 2, 6, 7, 8, 9] (by kernel_rfl), hS, hm⟩
        · refine reg [] [] [1, 2, 6, 7, 8, 9, 10, 11, 49] [pl 1 (.int .i64 last1), pl 2 (.pointer (some ⟨g4, 0, none⟩)), pl 6 (.int .i64 n2), pl 7 (.bool can1), pl 8 (.slice A2 r2.length c2), pl 9 (.int .i64 i1), pl 10 (.int .i64 r4.1), pl 11 (.bool r4.2), pl 49 (.bool (decide (r4.1 < n2)))] hF hS Fol (by kernel_rfl) (by kernel_rfl) (by kernel_rfl) ?_ (fun a w hF hS => ?_)
          · exact obs_nil
          refine cond_ev (t := 49) (b := decide (r4.1 < n2)) hF (by kernel_rfl) (fun hb => ?_) (fun hb => ?_)
          · replace hm := if_t hm hb
            refine reg1 [] [] [1, 2, 6, 7, 8, 9, 11] [pl 1 (.int .i64 last1), pl 2 (.pointer (some ⟨g4, 0, none⟩)), pl 6 (.int .i64 r4.1), pl 7 (.bool can1), pl 8 (.slice A2 r2.length c2), pl 9 (.int .i64 i1), pl 11 (.bool r4.2)] hF hS Fol (by kernel_rfl) (by kernel_rfl) (by kernel_rfl) ?_ (fun a w hF hS => ?_)
            · exact obs_nil
            refine then_n ?_
            have hS := hS.pickN 3 [1, 2] (by decide)
            exact ⟨r4.1, hF.weak [1, 2, 6, 7, 8, 9, 11] (by kernel_rfl), hS, hm⟩
          · replace hm := if_f hm hb
            refine wpIn_skip ?_
            refine then_n ?_
            have hS := hS.pickN 3 [1, 2] (by decide)
            exact ⟨n2, hF.weak [1, 2, 6, 7, 8, 9, 11] (by kernel_rfl), hS, hm⟩
    · refine reg [] [] [1, 2, 6, 7, 8, 9, 33] [pl 1 (.int .i64 last1), pl 2 (.pointer (some ⟨g4, 0, none⟩)), pl 6 (.int .i64 n2), pl 7 (.bool can1), pl 8 (.slice A2 r2.length c2), pl 9 (.int .i64 i1), pl 33 (.bool (decide (i1 < (r2.length : Int))))] hF hS Fol (by kernel_rfl) (by kernel_rfl) (by kernel_rfl) ?_ (fun a w hF hS => ?_)
      · exact obs_nil
      refine cond_ev (t := 33) (b := decide (i1 < (r2.length : Int))) hF (by kernel_rfl) (fun hb => ?_) (fun hb => ?_)
      · replace hm := if_t hm hb
        refine wpIn_skip ?_
        refine then_n ?_
        exact ⟨hF.weak [1, 2, 6, 7, 8, 9] (by kernel_rfl), hS, hm⟩
      · replace hm := if_f hm hb
        refine wpIn_exit ?_
        refine then_e (then_e (block_e (then_n ?_)))
        have hS := hS.pickN 2 [] (by decide)
        rw [← hφ1] at hm
        replace hm := done_b hm
        unfold gameroomref_LeastLeft_K1 at hm
        try dsimp only at hm
        have hm : (gameroomref_LeastLeft_J1 n2 can1).bind some = some r := hm
        exact ⟨n2, can1, hF.weak [6, 7] (by kernel_rfl), hS, hm⟩

theorem gameroomref_LeastLeft_w  {g1 : Int} {g2 : Int} {A1 : Option Addr} {c1 : Nat} {n1 : Nat} {g3 : List Int} {last1 : Int} {r : (Int × Bool)} {w0 w : World} {B : Nat} {fs : List HP} (hm : gameroomref_LeastLeft_m g1 g2 g3 last1 = some r) (hS : Sep w0 B w (fs)) (hr_g3 : RdF w0 B fs A1 (vI g3)) (_hc_g3 : g3.length ≤ c1) (_hn_g3 : n1 = g3.length) :
    Calls Try.prog 29 #[.agg #[.int .i64 g1, .int .i64 g2, .slice A1 n1 c1], .int .i64 last1] w fun e w' => e = .returned (.tuple #[.int .i64 r.1, .bool r.2]) ∧ Sep w0 B w' (fs) := by
  have key : ∀ (n : Nat) {g1 : Int} {g2 : Int} {A1 : Option Addr} {c1 : Nat} {n1 : Nat} {g3 : List Int} {last1 : Int} {r : (Int × Bool)} {w0 w : World} {B : Nat} {fs : List HP} (_ : gameroomref_LeastLeft_mF n g1 g2 g3 last1 = some r) (_ : Sep w0 B w (fs)) (hr_g3 : RdF w0 B fs A1 (vI g3)) (_hc_g3 : g3.length ≤ c1) (_hn_g3 : n1 = g3.length), Calls Try.prog 29 #[.agg #[.int .i64 g1, .int .i64 g2, .slice A1 n1 c1], .int .i64 last1] w fun e w' => e = .returned (.tuple #[.int .i64 r.1, .bool r.2]) ∧ Sep w0 B w' (fs) := by
    intro n
    induction n with
    | zero => intros; rename_i hm0 _ _ _ _; cases hm0
    | succ n ih => intros; rename_i hm0 hS0 h0 h1 h2; exact gameroomref_LeastLeft_wB (rec_gameroomref_LeastLeft := gameroomref_LeastLeft_mF n) (fun hm hS h0 h1 h2 => ih hm hS h0 h1 h2) hm0 hS0 h0 h1 h2
  obtain ⟨n, hn⟩ := recM_some hm
  exact key n hn hS hr_g3 _hc_g3 _hn_g3

set_option maxRecDepth 100000 in
theorem gameroomref_LeastLeft_J2_le_gameroomref_LeastLeft {rec_gameroomref_LeastLeft1 rec_gameroomref_LeastLeft2 : Int → Int → List Int → Int → Option (Int × Bool)} (h_rec_gameroomref_LeastLeft : ∀ a0 a1 a2 a3, Le (rec_gameroomref_LeastLeft1 a0 a1 a2 a3) (rec_gameroomref_LeastLeft2 a0 a1 a2 a3)) (g1 : Int) (g2 : Int) (g3 : List Int) (last1 : Int) (r2 : (List (Int × Int × Int))) (n2 : Int) (can1 : Bool) (i1 : Int) : Le (gameroomref_LeastLeft_J2 rec_gameroomref_LeastLeft1 g1 g2 g3 last1 r2 n2 can1 i1) (gameroomref_LeastLeft_J2 rec_gameroomref_LeastLeft2 g1 g2 g3 last1 r2 n2 can1 i1) := by
  unfold gameroomref_LeastLeft_J2
  repeat' (first | with_reducible exact Le.refl _ | with_reducible exact h_rec_gameroomref_LeastLeft _ _ _ _ | with_reducible refine Le.asrt ?_ | with_reducible refine Le.ite ?_ ?_ | refine Le.bind ?_ (fun _ => ?_) | refine Le.loop2 (fun _ => ?_) | refine Le.elim2 (fun _ => ?_) (fun _ => ?_))

set_option maxRecDepth 100000 in
theorem gameroomref_LeastLeft_L1_le_gameroomref_LeastLeft {rec_gameroomref_LeastLeft1 rec_gameroomref_LeastLeft2 : Int → Int → List Int → Int → Option (Int × Bool)} (h_rec_gameroomref_LeastLeft : ∀ a0 a1 a2 a3, Le (rec_gameroomref_LeastLeft1 a0 a1 a2 a3) (rec_gameroomref_LeastLeft2 a0 a1 a2 a3)) (g1 : Int) (g2 : Int) (g3 : List Int) (last1 : Int) (r2 : (List (Int × Int × Int))) (x : (Int × Bool × Int)) : Le (gameroomref_LeastLeft_L1 rec_gameroomref_LeastLeft1 g1 g2 g3 last1 r2 x) (gameroomref_LeastLeft_L1 rec_gameroomref_LeastLeft2 g1 g2 g3 last1 r2 x) := by
  rcases x with ⟨n2, can1, i1⟩
  all_goals
    unfold gameroomref_LeastLeft_L1
    try dsimp only
    repeat' (first | with_reducible exact Le.refl _ | with_reducible exact h_rec_gameroomref_LeastLeft _ _ _ _ | with_reducible exact gameroomref_LeastLeft_J2_le_gameroomref_LeastLeft h_rec_gameroomref_LeastLeft _ _ _ _ _ _ _ _ | with_reducible refine Le.asrt ?_ | with_reducible refine Le.ite ?_ ?_ | refine Le.bind ?_ (fun _ => ?_) | refine Le.loop2 (fun _ => ?_) | refine Le.elim2 (fun _ => ?_) (fun _ => ?_))

set_option maxRecDepth 100000 in
theorem gameroomref_LeastLeft_B_le {rec_gameroomref_LeastLeft1 rec_gameroomref_LeastLeft2 : Int → Int → List Int → Int → Option (Int × Bool)} (h_rec_gameroomref_LeastLeft : ∀ a0 a1 a2 a3, Le (rec_gameroomref_LeastLeft1 a0 a1 a2 a3) (rec_gameroomref_LeastLeft2 a0 a1 a2 a3)) (g1 : Int) (g2 : Int) (g3 : List Int) (last1 : Int) : Le (gameroomref_LeastLeft_B rec_gameroomref_LeastLeft1 g1 g2 g3 last1) (gameroomref_LeastLeft_B rec_gameroomref_LeastLeft2 g1 g2 g3 last1) := by
  unfold gameroomref_LeastLeft_B
  repeat' (first | with_reducible exact Le.refl _ | with_reducible exact h_rec_gameroomref_LeastLeft _ _ _ _ | with_reducible exact gameroomref_LeastLeft_L1_le_gameroomref_LeastLeft h_rec_gameroomref_LeastLeft _ _ _ _ _ _ | with_reducible refine Le.asrt ?_ | with_reducible refine Le.ite ?_ ?_ | refine Le.bind ?_ (fun _ => ?_) | refine Le.loop2 (fun _ => ?_) | refine Le.elim2 (fun _ => ?_) (fun _ => ?_))

set_option maxRecDepth 100000 in
theorem gameroomref_LeastLeft_mF_le : ∀ (n : Nat) (g1 : Int) (g2 : Int) (g3 : List Int) (last1 : Int), Le (gameroomref_LeastLeft_mF n g1 g2 g3 last1) (gameroomref_LeastLeft_mF (n + 1) g1 g2 g3 last1)
  | 0, _, _, _, _ => fun _ h => by cases h
  | n + 1, _, _, _, _ => gameroomref_LeastLeft_B_le (fun a0 a1 a2 a3 => gameroomref_LeastLeft_mF_le n a0 a1 a2 a3) _ _ _ _

set_option maxRecDepth 100000 in
theorem gameroomref_LeastLeft_m_of (N : Nat) (g1 : Int) (g2 : Int) (g3 : List Int) (last1 : Int) {r : (Int × Bool)} (h : gameroomref_LeastLeft_mF N g1 g2 g3 last1 = some r) : gameroomref_LeastLeft_m g1 g2 g3 last1 = some r :=
  recM_mono (fun n => gameroomref_LeastLeft_mF_le n _ _ _ _) h

noncomputable def gameroomlaw_PegsSolves_J3  (r2 : (List (Int × Int × Int) × Int)) (r4 : (Int × Int)) : Option Bool :=
  some (((r4.2 == 2) && ((r2.1.length : Int) == 0)) && (r4.1 == 0))

noncomputable def gameroomlaw_PegsSolves_J9  (i1 : Int) (now7 : Int) (now8 : Int) (now9 : List Int) : Option (St (Int × Int × List Int × Int) (Fl (Int × Int × List Int) Bool)) :=
  some (.next (now7, now8, now9, (w64 (i1 + 1))))

noncomputable def gameroomlaw_PegsSolves_J10  (r2 : (List (Int × Int × Int) × Int)) (now1 : Int) (now2 : Int) (now3 : List Int) (i1 : Int) : Option (St (Int × Int × List Int × Int) (Fl (Int × Int × List Int) Bool)) :=
  asrt (0 ≤ i1 ∧ i1 < (r2.1.length : Int)) <| (gameroomref_JumpDone_m now1 now2 now3 ((getd ((0, 0, 0) : (Int × Int × Int)) r2.1 i1).1) ((getd ((0, 0, 0) : (Int × Int × Int)) r2.1 i1).2.1) ((getd ((0, 0, 0) : (Int × Int × Int)) r2.1 i1).2.2)).bind fun r11 => (gameroomlaw_PegsSolves_J9 i1) r11.1 r11.2.1 r11.2.2

noncomputable def gameroomlaw_PegsSolves_J8  (r2 : (List (Int × Int × Int) × Int)) (now1 : Int) (now2 : Int) (now3 : List Int) (i1 : Int) : Option (St (Int × Int × List Int × Int) (Fl (Int × Int × List Int) Bool)) :=
  asrt (0 ≤ i1 ∧ i1 < (r2.1.length : Int)) <| asrt ((((getd ((0, 0, 0) : (Int × Int × Int)) r2.1 i1).2.2) != 0) = false → 0 ≤ i1 ∧ i1 < (r2.1.length : Int)) <| asrt ((((getd ((0, 0, 0) : (Int × Int × Int)) r2.1 i1).2.2) != 0) = false → 0 ≤ i1 ∧ i1 < (r2.1.length : Int)) <| ((if (!(((getd ((0, 0, 0) : (Int × Int × Int)) r2.1 i1).2.2) != 0)) then gameroomref_JumpCan_m now1 now2 now3 ((getd ((0, 0, 0) : (Int × Int × Int)) r2.1 i1).1) ((getd ((0, 0, 0) : (Int × Int × Int)) r2.1 i1).2.1) else some false)).bind fun r10 => if ((((getd ((0, 0, 0) : (Int × Int × Int)) r2.1 i1).2.2) != 0) || (!r10)) then (some (.done (.ret false))) else ((gameroomlaw_PegsSolves_J10 r2 now1 now2 now3 i1))

noncomputable def gameroomlaw_PegsSolves_J7  (last1 : Int) (r2 : (List (Int × Int × Int) × Int)) (now4 : Int) (now5 : Int) (now6 : List Int) : Option Bool :=
  ((if (r2.2 == 0) then gameroomref_CountSign_m now4 now5 now6 1 else some 0)).bind fun r12 => asrt ((decide (last1 < 0)) = false → ((r2.2 == 0) && (r12 == 1)) = true → 0 ≤ last1 ∧ last1 < (now6.length : Int)) <| some (((r2.2 == 0) && (r12 == 1)) && ((decide (last1 < 0)) || ((geti now6 last1) == 1)))

noncomputable def gameroomlaw_PegsSolves_K1  (last1 : Int) (r2 : (List (Int × Int × Int) × Int)) : (Fl (Int × Int × List Int) Bool) → Option Bool :=
  fun (x : (Fl (Int × Int × List Int) Bool)) => match x with | .go (now4, now5, now6) => (gameroomlaw_PegsSolves_J7 last1 r2) now4 now5 now6 | .ret x => some x

noncomputable def gameroomlaw_PegsSolves_L1  (r2 : (List (Int × Int × Int) × Int)) : (Int × Int × List Int × Int) → Option (St (Int × Int × List Int × Int) (Fl (Int × Int × List Int) Bool)) :=
  fun (x : (Int × Int × List Int × Int)) => match x with | (now1, now2, now3, i1) => if (decide (i1 < (r2.1.length : Int))) then ((gameroomlaw_PegsSolves_J8 r2 now1 now2 now3 i1)) else (some (.done (.go (now1, now2, now3))))

noncomputable def gameroomlaw_PegsSolves_J6  (g1 : Int) (g2 : Int) (g3 : List Int) (last1 : Int) (r2 : (List (Int × Int × Int) × Int)) : Option Bool :=
  (gameroomref_GridOf_m g1 g2 g3).bind fun r9 => (loop (gameroomlaw_PegsSolves_L1 r2) (r9.1, r9.2.1, r9.2.2, 0)).bind (gameroomlaw_PegsSolves_K1 last1 r2)

noncomputable def gameroomlaw_PegsSolves_J5  (g1 : Int) (g2 : Int) (g3 : List Int) (last1 : Int) (r2 : (List (Int × Int × Int) × Int)) : Option Bool :=
  (gameroomref_LeastLeft_m g1 g2 g3 last1).bind fun r8 => if (!r8.2) then (some ((r2.2 == 10) && ((r2.1.length : Int) == 0))) else ((gameroomlaw_PegsSolves_J6 g1 g2 g3 last1 r2))

noncomputable def gameroomlaw_PegsSolves_J4  (g1 : Int) (g2 : Int) (g3 : List Int) (last1 : Int) (r2 : (List (Int × Int × Int) × Int)) : Option Bool :=
  if (!((last1 == (-1)) || (((decide ((0 : Int) ≤ last1)) && (decide (last1 < (g3.length : Int)))) && ((geti g3 last1) != 2)))) then (some ((r2.2 == 3) && ((r2.1.length : Int) == 0))) else ((gameroomlaw_PegsSolves_J5 g1 g2 g3 last1 r2))

noncomputable def gameroomlaw_PegsSolves_J2  (g1 : Int) (g2 : Int) (g3 : List Int) (last1 : Int) (r2 : (List (Int × Int × Int) × Int)) (r4 : (Int × Int)) : Option Bool :=
  (gameroomref_LeastLeft_m g1 g2 g3 (-1)).bind fun r7 => if ((r4.2 != 0) || (r4.1 != r7.1)) then (some false) else ((gameroomlaw_PegsSolves_J4 g1 g2 g3 last1 r2))

noncomputable def gameroomlaw_PegsSolves_J1  (g1 : Int) (g2 : Int) (g3 : List Int) (last1 : Int) (r2 : (List (Int × Int × Int) × Int)) (r4 : (Int × Int)) : Option Bool :=
  asrt (((decide ((0 : Int) ≤ last1)) && (decide (last1 < (g3.length : Int)))) = true → (last1 == (-1)) = false → 0 ≤ last1 ∧ last1 < (g3.length : Int)) <| (gameroomref_PegsMay_m g1 g2 g3).bind fun r6 => if (!r6) then (if ((((last1 == (-1)) || (((decide ((0 : Int) ≤ last1)) && (decide (last1 < (g3.length : Int)))) && ((geti g3 last1) != 2))) && (r2.2 != 2)) || ((!((last1 == (-1)) || (((decide ((0 : Int) ≤ last1)) && (decide (last1 < (g3.length : Int)))) && ((geti g3 last1) != 2)))) && (r2.2 != 3))) then (some false) else ((gameroomlaw_PegsSolves_J3 r2 r4))) else ((gameroomlaw_PegsSolves_J2 g1 g2 g3 last1 r2 r4))

noncomputable def gameroomlaw_PegsSolves_m  (g1 : Int) (g2 : Int) (g3 : List Int) (last1 : Int) : Option Bool :=
  (gameroomref_GridOf_m g1 g2 g3).bind fun r1 => (pegs_Solve_m r1.1 r1.2.1 r1.2.2 last1).bind fun r2 => (gameroomref_GridOf_m g1 g2 g3).bind fun r3 => (pegs_Fewest_m r3.1 r3.2.1 r3.2.2).bind fun r4 => (gameroomref_GridMay_m g1 g2 g3).bind fun r5 => if (!r5) then (some ((((r2.2 == 12) && (r4.2 == 12)) && ((r2.1.length : Int) == 0)) && (r4.1 == 0))) else ((gameroomlaw_PegsSolves_J1 g1 g2 g3 last1 r2 r4))

set_option maxRecDepth 100000 in
set_option maxHeartbeats 4000000 in
theorem gameroomlaw_PegsSolves_w  {g1 : Int} {g2 : Int} {A1 : Option Addr} {c1 : Nat} {n1 : Nat} {g3 : List Int} {last1 : Int} {r : Bool} {w0 w : World} {B : Nat} {fs : List HP} (hm : gameroomlaw_PegsSolves_m g1 g2 g3 last1 = some r) (hS : Sep w0 B w (fs)) (hr_g3 : RdF w0 B fs A1 (vI g3)) (_hc_g3 : g3.length ≤ c1) (_hn_g3 : n1 = g3.length) :
    Calls Try.prog 6 #[.agg #[.int .i64 g1, .int .i64 g2, .slice A1 n1 c1], .int .i64 last1] w fun e w' => e = .returned (.bool r) ∧ Sep w0 B w' (fs) := by
  obtain ⟨i3, hi3, hz3, hs3, hb3⟩ := info_parts Info3
  obtain ⟨i61, hi61, hz61, hs61, hb61⟩ := info_parts Info61
  obtain rfl := _hn_g3
  unfold gameroomlaw_PegsSolves_m at hm
  replace hm := start_b hm
  refine enter (l := [.agg #[.int .i64 g1, .int .i64 g2, .slice A1 g3.length c1], .int .i64 last1]) (n := 185) Try.func6 rfl rfl (by simp) (fun a hF => ?_)
  refine seqR ?_
  refine at_do (d := 2) (s := vS (Instr.box 24 (.agg #[.int .i64 g1, .int .i64 g2, .slice A1 g3.length c1]))) (v := .pointer (some ⟨w.heap.size, 0, none⟩)) (w' := w.alloc (.cells #[.int .i64 g1, .int .i64 g2, .slice A1 g3.length c1] 24)) hF (by kernel_rfl) (by kernel_rfl) (by kernel_rfl) (fun a hF => ?_)
  have hS : Sep w0 B (w.alloc (.cells #[.int .i64 g1, .int .i64 g2, .slice A1 g3.length c1] 24)) (blk w.heap.size 24 #[.int .i64 g1, .int .i64 g2, .slice A1 g3.length c1] :: (fs)) := hS.box 24 #[.int .i64 g1, .int .i64 g2, .slice A1 g3.length c1]
  generalize w.heap.size = g4 at hF hS
  generalize w.alloc (.cells #[.int .i64 g1, .int .i64 g2, .slice A1 g3.length c1] 24) = w at hS ⊢
  refine at_run 1 [] [] [1, 2] [pl 1 (.int .i64 last1), pl 2 (.pointer (some ⟨g4, 0, none⟩))] hF hS (by kernel_rfl) (by kernel_rfl) ?_ (fun a w hF hS => ?_)
  · exact obs_nil
  refine at_end [1, 2] [pl 1 (.int .i64 last1), pl 2 (.pointer (some ⟨g4, 0, none⟩))] hF rfl (by kernel_rfl) (fun hF => ?_)
  refine then_n ?_
  refine seqR ?_
  obtain ⟨r1, hr1, hm⟩ := call_b hm
  obtain ⟨r2, hr2, hm⟩ := call_b hm
  refine at_run 1 [⟨false, [], vS (Instr.loadAt 24 (.pointer (some ⟨g4, 0, none⟩))), .agg #[.int .i64 g1, .int .i64 g2, .slice A1 g3.length c1]⟩] [some (.agg #[.int .i64 g1, .int .i64 g2, .slice A1 g3.length c1])] [1, 2, 17] [pl 1 (.int .i64 last1), pl 2 (.pointer (some ⟨g4, 0, none⟩)), pl 17 (.agg #[.int .i64 g1, .int .i64 g2, .slice A1 g3.length c1])] hF hS (by kernel_rfl) (by kernel_rfl) ?_ (fun a w hF hS => ?_)
  · exact obs_cons (ob_loadA (cs := #[.int .i64 g1, .int .i64 g2, .slice A1 g3.length c1]) (by kernel_rfl) (by kernel_rfl) (fun _ _ hS => (hS.at_ 0 rfl).cellsAt 0 (by rfl))) <| obs_nil
  refine at_call (f := 9) (args := #[.agg #[.int .i64 g1, .int .i64 g2, .slice A1 g3.length c1]]) (d := 18) hF (by kernel_rfl) (by kernel_rfl) Try.func9 (by kernel_rfl) rfl (gameroomref_GridOf_w hr1 hS (fun _ hS => (hr_g3 _ (hS.dropN 1))) _hc_g3 rfl) (fun v a w hR hF => ?_)
  clear hS
  obtain ⟨A2, c2, rfl, hS⟩ := hR
  have hS : Sep w0 B w (own 3 (.slice A2 r1.2.2.length c2) (vI r1.2.2) :: blk g4 24 #[.int .i64 g1, .int .i64 g2, .slice A1 g3.length c1] :: fs) := hS
  refine at_run 1 [] [] [1, 2, 18, 19] [pl 1 (.int .i64 last1), pl 2 (.pointer (some ⟨g4, 0, none⟩)), pl 18 (.agg #[.int .i64 r1.1, .int .i64 r1.2.1, .slice A2 r1.2.2.length c2]), pl 19 (.int .i64 last1)] hF hS (by kernel_rfl) (by kernel_rfl) ?_ (fun a w hF hS => ?_)
  · exact obs_nil
  refine at_call (f := 26) (args := #[.agg #[.int .i64 r1.1, .int .i64 r1.2.1, .slice A2 r1.2.2.length c2], .int .i64 last1]) (d := 20) hF (by kernel_rfl) (by kernel_rfl) Try.func26 (by kernel_rfl) rfl (pegs_Solve_w hr2 hS (fun _ hS => (hS.at_ 0 rfl).rd) ((hS.at_ 0 rfl).cap1) rfl) (fun v a w hR hF => ?_)
  clear hS
  obtain ⟨A3, c3, rfl, hS⟩ := hR
  have hS : Sep w0 B w (ownK 61 3 A3 r2.1.length c3 (List.flatMap enc61 r2.1) :: own 3 (.slice A2 r1.2.2.length c2) (vI r1.2.2) :: blk g4 24 #[.int .i64 g1, .int .i64 g2, .slice A1 g3.length c1] :: fs) := hS
  refine at_run 5 [] [] [1, 2, 5, 6] [pl 1 (.int .i64 last1), pl 2 (.pointer (some ⟨g4, 0, none⟩)), pl 5 (.slice A3 r2.1.length c3), pl 6 (.int .i64 r2.2)] hF hS (by kernel_rfl) (by kernel_rfl) ?_ (fun a w hF hS => ?_)
  · exact obs_nil
  refine at_end [1, 2, 5, 6] [pl 1 (.int .i64 last1), pl 2 (.pointer (some ⟨g4, 0, none⟩)), pl 5 (.slice A3 r2.1.length c3), pl 6 (.int .i64 r2.2)] hF rfl (by kernel_rfl) (fun hF => ?_)
  refine then_n ?_
  refine seqR ?_
  obtain ⟨r3, hr3, hm⟩ := call_b hm
  obtain ⟨r4, hr4, hm⟩ := call_b hm
  refine at_run 1 [⟨false, [], vS (Instr.loadAt 24 (.pointer (some ⟨g4, 0, none⟩))), .agg #[.int .i64 g1, .int .i64 g2, .slice A1 g3.length c1]⟩] [some (.agg #[.int .i64 g1, .int .i64 g2, .slice A1 g3.length c1])] [1, 2, 5, 6, 24] [pl 1 (.int .i64 last1), pl 2 (.pointer (some ⟨g4, 0, none⟩)), pl 5 (.slice A3 r2.1.length c3), pl 6 (.int .i64 r2.2), pl 24 (.agg #[.int .i64 g1, .int .i64 g2, .slice A1 g3.length c1])] hF hS (by kernel_rfl) (by kernel_rfl) ?_ (fun a w hF hS => ?_)
  · exact obs_cons (ob_loadA (cs := #[.int .i64 g1, .int .i64 g2, .slice A1 g3.length c1]) (by kernel_rfl) (by kernel_rfl) (fun _ _ hS => (hS.at_ 2 rfl).cellsAt 0 (by rfl))) <| obs_nil
  refine at_call (f := 9) (args := #[.agg #[.int .i64 g1, .int .i64 g2, .slice A1 g3.length c1]]) (d := 25) hF (by kernel_rfl) (by kernel_rfl) Try.func9 (by kernel_rfl) rfl (gameroomref_GridOf_w hr3 hS (fun _ hS => (hr_g3 _ (hS.dropN 3))) _hc_g3 rfl) (fun v a w hR hF => ?_)
  clear hS
  obtain ⟨A4, c4, rfl, hS⟩ := hR
  have hS : Sep w0 B w (own 3 (.slice A4 r3.2.2.length c4) (vI r3.2.2) :: ownK 61 3 A3 r2.1.length c3 (List.flatMap enc61 r2.1) :: own 3 (.slice A2 r1.2.2.length c2) (vI r1.2.2) :: blk g4 24 #[.int .i64 g1, .int .i64 g2, .slice A1 g3.length c1] :: fs) := hS
  refine at_run 6 [⟨false, [], callFunc 27 #[.agg #[.int .i64 r3.1, .int .i64 r3.2.1, .slice A4 r3.2.2.length c4]], .tuple #[.int .i64 r4.1, .int .i64 r4.2]⟩] [some (.tuple #[.int .i64 r4.1, .int .i64 r4.2]), none, none, none, none, none] [1, 2, 5, 6, 7, 8] [pl 1 (.int .i64 last1), pl 2 (.pointer (some ⟨g4, 0, none⟩)), pl 5 (.slice A3 r2.1.length c3), pl 6 (.int .i64 r2.2), pl 7 (.int .i64 r4.1), pl 8 (.int .i64 r4.2)] hF hS (by kernel_rfl) (by kernel_rfl) ?_ (fun a w hF hS => ?_)
  · exact obs_cons (ob_call Try.func27 (by kernel_rfl) rfl (fun _ _ hS => pegs_Fewest_w hr4 hS (fun _ hS => (hS.at_ 0 rfl).rd) ((hS.at_ 0 rfl).cap1) rfl)) <| obs_nil
  refine at_end [1, 2, 5, 6, 7, 8] [pl 1 (.int .i64 last1), pl 2 (.pointer (some ⟨g4, 0, none⟩)), pl 5 (.slice A3 r2.1.length c3), pl 6 (.int .i64 r2.2), pl 7 (.int .i64 r4.1), pl 8 (.int .i64 r4.2)] hF rfl (by kernel_rfl) (fun hF => ?_)
  refine then_n ?_
  refine seq_cut (fun a w => Fr 185 [pl 1 (.int .i64 last1), pl 2 (.pointer (some ⟨g4, 0, none⟩)), pl 5 (.slice A3 r2.1.length c3), pl 6 (.int .i64 r2.2), pl 7 (.int .i64 r4.1), pl 8 (.int .i64 r4.2)] a ∧ Sep w0 B w (blk g4 24 #[.int .i64 g1, .int .i64 g2, .slice A1 g3.length c1] :: ownK 61 3 A3 r2.1.length c3 (List.flatMap enc61 r2.1) :: fs) ∧ ((gameroomlaw_PegsSolves_J1 g1 g2 g3 last1 r2 r4)).bind some = some r) ?_ ?_
  · rintro a w ⟨hF, hS, hm⟩
    unfold gameroomlaw_PegsSolves_J1 at hm
    obtain ⟨hp1, hm⟩ := asrt_b hm
    refine reg [⟨false, [(decide ((0 : Int) ≤ last1), true), ((last1 == (-1)), false)], vS (Instr.loadAt 22 (.pointer (some ⟨g4, 2, none⟩))), .slice A1 g3.length c1⟩, ⟨false, [((decide ((0 : Int) ≤ last1)) && (decide (last1 < (g3.length : Int))), true), ((last1 == (-1)), false)], vS (Instr.loadAt 22 (.pointer (some ⟨g4, 2, none⟩))), .slice A1 g3.length c1⟩, ⟨true, [((decide ((0 : Int) ≤ last1)) && (decide (last1 < (g3.length : Int))), true), ((last1 == (-1)), false)], vS (Instr.indexAt 22 (.slice A1 g3.length c1) (.int .i64 last1)), .pointer (some (sAddr A1 last1))⟩, ⟨false, [((decide ((0 : Int) ≤ last1)) && (decide (last1 < (g3.length : Int))), true), ((last1 == (-1)), false)], vS (Instr.loadAt 3 (.pointer (some (sAddr A1 last1)))), .int .i64 (geti g3 last1)⟩] [none, none, none, none, none, none, none, none, some (.slice A1 g3.length c1), none, none, none, none, none, some (.slice A1 g3.length c1), none, some (.pointer (some (sAddr A1 last1))), some (.int .i64 (geti g3 last1)), none, none, none, none] [1, 2, 5, 6, 7, 8, 9] [pl 1 (.int .i64 last1), pl 2 (.pointer (some ⟨g4, 0, none⟩)), pl 5 (.slice A3 r2.1.length c3), pl 6 (.int .i64 r2.2), pl 7 (.int .i64 r4.1), pl 8 (.int .i64 r4.2), pl 9 (.bool ((last1 == (-1)) || (((decide ((0 : Int) ≤ last1)) && (decide (last1 < (g3.length : Int)))) && ((geti g3 last1) != 2))))] hF hS Fol (by kernel_rfl) (by kernel_rfl) (by kernel_rfl) ?_ (fun a w hF hS => ?_)
    · exact obs_cons (ob_load Agg22 (fun _ _ hS => (hS.at_ 0 rfl).cell rfl)) <| obs_cons (ob_load Agg22 (fun _ _ hS => (hS.at_ 0 rfl).cell rfl)) <| obs_cons (ob_ix1 (f := (Value.int .i64)) (m := g3) Und22 hi3 hs3 (hr_g3 _ (hS.dropN 2)) rfl (fun hy => hp1 (hy ((decide ((0 : Int) ≤ last1)) && (decide (last1 < (g3.length : Int))), true) (by simp)) (hy ((last1 == (-1)), false) (by simp)))) <| obs_cons (ob_get1 (n := g3.length) (m := g3) (Value.int .i64) (0 : Int) Agg3 (fun _ hS => ⟨_, (hr_g3 _ (hS.dropN 2))⟩) (fun _ hS => rfl) (fun hy => hp1 (hy ((decide ((0 : Int) ≤ last1)) && (decide (last1 < (g3.length : Int))), true) (by simp)) (hy ((last1 == (-1)), false) (by simp)))) <| obs_nil
    refine seq_cut (fun a w => Fr 185 [pl 1 (.int .i64 last1), pl 2 (.pointer (some ⟨g4, 0, none⟩)), pl 5 (.slice A3 r2.1.length c3), pl 6 (.int .i64 r2.2), pl 7 (.int .i64 r4.1), pl 8 (.int .i64 r4.2), pl 9 (.bool ((last1 == (-1)) || (((decide ((0 : Int) ≤ last1)) && (decide (last1 < (g3.length : Int)))) && ((geti g3 last1) != 2))))] a ∧ Sep w0 B w (blk g4 24 #[.int .i64 g1, .int .i64 g2, .slice A1 g3.length c1] :: ownK 61 3 A3 r2.1.length c3 (List.flatMap enc61 r2.1) :: fs) ∧ ((gameroomlaw_PegsSolves_J2 g1 g2 g3 last1 r2 r4)).bind some = some r) ?_ ?_
    · rintro a w ⟨hF, hS, hm⟩
      unfold gameroomlaw_PegsSolves_J2 at hm
      obtain ⟨r7, hr7, hm⟩ := call_b hm
      refine reg [⟨false, [], vS (Instr.loadAt 24 (.pointer (some ⟨g4, 0, none⟩))), .agg #[.int .i64 g1, .int .i64 g2, .slice A1 g3.length c1]⟩, ⟨false, [], callFunc 29 #[.agg #[.int .i64 g1, .int .i64 g2, .slice A1 g3.length c1], .int .i64 (-1)], .tuple #[.int .i64 r7.1, .bool r7.2]⟩] [some (.agg #[.int .i64 g1, .int .i64 g2, .slice A1 g3.length c1]), some (.tuple #[.int .i64 r7.1, .bool r7.2]), none, none, none, none, none] [1, 2, 5, 6, 7, 8, 9, 10] [pl 1 (.int .i64 last1), pl 2 (.pointer (some ⟨g4, 0, none⟩)), pl 5 (.slice A3 r2.1.length c3), pl 6 (.int .i64 r2.2), pl 7 (.int .i64 r4.1), pl 8 (.int .i64 r4.2), pl 9 (.bool ((last1 == (-1)) || (((decide ((0 : Int) ≤ last1)) && (decide (last1 < (g3.length : Int)))) && ((geti g3 last1) != 2)))), pl 10 (.int .i64 r7.1)] hF hS Fol (by kernel_rfl) (by kernel_rfl) (by kernel_rfl) ?_ (fun a w hF hS => ?_)
      · exact obs_cons (ob_loadA (cs := #[.int .i64 g1, .int .i64 g2, .slice A1 g3.length c1]) (by kernel_rfl) (by kernel_rfl) (fun _ _ hS => (hS.at_ 0 rfl).cellsAt 0 (by rfl))) <| obs_cons (ob_call Try.func29 (by kernel_rfl) rfl (fun _ _ hS => gameroomref_LeastLeft_w hr7 hS (fun _ hS => (hr_g3 _ (hS.dropN 2))) _hc_g3 rfl)) <| obs_nil
      refine seq_cut (fun a w => Fr 185 [pl 1 (.int .i64 last1), pl 2 (.pointer (some ⟨g4, 0, none⟩)), pl 5 (.slice A3 r2.1.length c3), pl 6 (.int .i64 r2.2), pl 9 (.bool ((last1 == (-1)) || (((decide ((0 : Int) ≤ last1)) && (decide (last1 < (g3.length : Int)))) && ((geti g3 last1) != 2))))] a ∧ Sep w0 B w (blk g4 24 #[.int .i64 g1, .int .i64 g2, .slice A1 g3.length c1] :: ownK 61 3 A3 r2.1.length c3 (List.flatMap enc61 r2.1) :: fs) ∧ ((gameroomlaw_PegsSolves_J4 g1 g2 g3 last1 r2)).bind some = some r) ?_ ?_
      · rintro a w ⟨hF, hS, hm⟩
        unfold gameroomlaw_PegsSolves_J4 at hm
        refine seq_cut (fun a w => Fr 185 [pl 1 (.int .i64 last1), pl 2 (.pointer (some ⟨g4, 0, none⟩)), pl 5 (.slice A3 r2.1.length c3), pl 6 (.int .i64 r2.2)] a ∧ Sep w0 B w (blk g4 24 #[.int .i64 g1, .int .i64 g2, .slice A1 g3.length c1] :: ownK 61 3 A3 r2.1.length c3 (List.flatMap enc61 r2.1) :: fs) ∧ ((gameroomlaw_PegsSolves_J5 g1 g2 g3 last1 r2)).bind some = some r) ?_ ?_
        · rintro a w ⟨hF, hS, hm⟩
          unfold gameroomlaw_PegsSolves_J5 at hm
          obtain ⟨r8, hr8, hm⟩ := call_b hm
          refine reg [⟨false, [], vS (Instr.loadAt 24 (.pointer (some ⟨g4, 0, none⟩))), .agg #[.int .i64 g1, .int .i64 g2, .slice A1 g3.length c1]⟩, ⟨false, [], callFunc 29 #[.agg #[.int .i64 g1, .int .i64 g2, .slice A1 g3.length c1], .int .i64 last1], .tuple #[.int .i64 r8.1, .bool r8.2]⟩] [some (.agg #[.int .i64 g1, .int .i64 g2, .slice A1 g3.length c1]), none, some (.tuple #[.int .i64 r8.1, .bool r8.2]), none, none, none, none, none] [1, 2, 5, 6, 13] [pl 1 (.int .i64 last1), pl 2 (.pointer (some ⟨g4, 0, none⟩)), pl 5 (.slice A3 r2.1.length c3), pl 6 (.int .i64 r2.2), pl 13 (.bool r8.2)] hF hS Fol (by kernel_rfl) (by kernel_rfl) (by kernel_rfl) ?_ (fun a w hF hS => ?_)
          · exact obs_cons (ob_loadA (cs := #[.int .i64 g1, .int .i64 g2, .slice A1 g3.length c1]) (by kernel_rfl) (by kernel_rfl) (fun _ _ hS => (hS.at_ 0 rfl).cellsAt 0 (by rfl))) <| obs_cons (ob_call Try.func29 (by kernel_rfl) rfl (fun _ _ hS => gameroomref_LeastLeft_w hr8 hS (fun _ hS => (hr_g3 _ (hS.dropN 2))) _hc_g3 rfl)) <| obs_nil
          refine seq_cut (fun a w => Fr 185 [pl 1 (.int .i64 last1), pl 2 (.pointer (some ⟨g4, 0, none⟩)), pl 5 (.slice A3 r2.1.length c3), pl 6 (.int .i64 r2.2)] a ∧ Sep w0 B w (blk g4 24 #[.int .i64 g1, .int .i64 g2, .slice A1 g3.length c1] :: ownK 61 3 A3 r2.1.length c3 (List.flatMap enc61 r2.1) :: fs) ∧ ((gameroomlaw_PegsSolves_J6 g1 g2 g3 last1 r2)).bind some = some r) ?_ ?_
          · rintro a w ⟨hF, hS, hm⟩
            unfold gameroomlaw_PegsSolves_J6 at hm
            refine seqR ?_
            obtain ⟨r9, hr9, hm⟩ := call_b hm
            refine at_run 1 [⟨false, [], vS (Instr.loadAt 24 (.pointer (some ⟨g4, 0, none⟩))), .agg #[.int .i64 g1, .int .i64 g2, .slice A1 g3.length c1]⟩] [some (.agg #[.int .i64 g1, .int .i64 g2, .slice A1 g3.length c1])] [1, 5, 6, 131] [pl 1 (.int .i64 last1), pl 5 (.slice A3 r2.1.length c3), pl 6 (.int .i64 r2.2), pl 131 (.agg #[.int .i64 g1, .int .i64 g2, .slice A1 g3.length c1])] hF hS (by kernel_rfl) (by kernel_rfl) ?_ (fun a w hF hS => ?_)
            · exact obs_cons (ob_loadA (cs := #[.int .i64 g1, .int .i64 g2, .slice A1 g3.length c1]) (by kernel_rfl) (by kernel_rfl) (fun _ _ hS => (hS.at_ 0 rfl).cellsAt 0 (by rfl))) <| obs_nil
            refine at_call (f := 9) (args := #[.agg #[.int .i64 g1, .int .i64 g2, .slice A1 g3.length c1]]) (d := 132) hF (by kernel_rfl) (by kernel_rfl) Try.func9 (by kernel_rfl) rfl (gameroomref_GridOf_w hr9 hS (fun _ hS => (hr_g3 _ (hS.dropN 2))) _hc_g3 rfl) (fun v a w hR hF => ?_)
            clear hS
            obtain ⟨A5, c5, rfl, hS⟩ := hR
            have hS : Sep w0 B w (own 3 (.slice A5 r9.2.2.length c5) (vI r9.2.2) :: blk g4 24 #[.int .i64 g1, .int .i64 g2, .slice A1 g3.length c1] :: ownK 61 3 A3 r2.1.length c3 (List.flatMap enc61 r2.1) :: fs) := hS
            refine at_do (d := 14) (s := vS (Instr.alloc 24 true (.tuple #[]))) (v := .pointer (some ⟨w.heap.size, 0, none⟩)) (w' := w.alloc (.cells #[.int .i64 0, .int .i64 0, .slice none 0 0] 24)) hF (by kernel_rfl) (by kernel_rfl) (by kernel_rfl) (fun a hF => ?_)
            have hS : Sep w0 B (w.alloc (.cells #[.int .i64 0, .int .i64 0, .slice none 0 0] 24)) (blk w.heap.size 24 #[.int .i64 0, .int .i64 0, .slice none 0 0] :: (own 3 (.slice A5 r9.2.2.length c5) (vI r9.2.2) :: blk g4 24 #[.int .i64 g1, .int .i64 g2, .slice A1 g3.length c1] :: ownK 61 3 A3 r2.1.length c3 (List.flatMap enc61 r2.1) :: fs)) := hS.box 24 #[.int .i64 0, .int .i64 0, .slice none 0 0]
            generalize w.heap.size = g5 at hF hS
            generalize w.alloc (.cells #[.int .i64 0, .int .i64 0, .slice none 0 0] 24) = w at hS ⊢
            obtain ⟨w, hrun, hS⟩ := run_putA (P := Try.prog) (t := 24) (us := #[.int .i64 r9.1, .int .i64 r9.2.1, .slice A5 r9.2.2.length c5]) (o := 0) (hS.at_ 0 rfl) (by kernel_rfl) (all_one (by kernel_rfl)) (Nat.le_of_ble_eq_true (by kernel_rfl))
            refine at_skip hF (by kernel_rfl) hrun ?_
            have hS : Sep w0 B w (blk g5 24 #[.int .i64 r9.1, .int .i64 r9.2.1, .slice A5 r9.2.2.length c5] :: own 3 (.slice A5 r9.2.2.length c5) (vI r9.2.2) :: blk g4 24 #[.int .i64 g1, .int .i64 g2, .slice A1 g3.length c1] :: ownK 61 3 A3 r2.1.length c3 (List.flatMap enc61 r2.1) :: fs) := hS
            refine at_end [1, 5, 6, 14] [pl 1 (.int .i64 last1), pl 5 (.slice A3 r2.1.length c3), pl 6 (.int .i64 r2.2), pl 14 (.pointer (some ⟨g5, 0, none⟩))] hF rfl (by kernel_rfl) (fun hF => ?_)
            refine then_n ?_
            refine seq_cut (fun a w => ∃ (now4 : Int) (now5 : Int) (now6 : List Int) (A7 : Option Addr) (c7 : Nat), Fr 185 [pl 1 (.int .i64 last1), pl 6 (.int .i64 r2.2), pl 14 (.pointer (some ⟨g5, 0, none⟩))] a ∧ Sep w0 B w (blk g5 24 #[.int .i64 now4, .int .i64 now5, .slice A7 now6.length c7] :: own 3 (.slice A7 now6.length c7) (vI now6) :: fs) ∧ ((gameroomlaw_PegsSolves_J7 last1 r2) now4 now5 now6).bind some = some r) ?_ ?_
            · rintro a w ⟨now4, now5, now6, A7, c7, hF, hS, hm⟩
              unfold gameroomlaw_PegsSolves_J7 at hm
              obtain ⟨r12, hr12, hm⟩ := call_b hm
              obtain ⟨hp6, hm⟩ := asrt_b hm
              refine reg [⟨false, [((r2.2 == 0), true)], vS (Instr.loadAt 24 (.pointer (some ⟨g5, 0, none⟩))), .agg #[.int .i64 now4, .int .i64 now5, .slice A7 now6.length c7]⟩, ⟨false, [((r2.2 == 0), true)], callFunc 32 #[.agg #[.int .i64 now4, .int .i64 now5, .slice A7 now6.length c7], .int .i64 1], .int .i64 r12⟩, ⟨false, [(decide (last1 < 0), false), ((r2.2 == 0) && (r12 == 1), true)], vS (Instr.loadAt 22 (.pointer (some ⟨g5, 2, none⟩))), .slice A7 now6.length c7⟩, ⟨true, [(decide (last1 < 0), false), ((r2.2 == 0) && (r12 == 1), true)], vS (Instr.indexAt 22 (.slice A7 now6.length c7) (.int .i64 last1)), .pointer (some (sAddr A7 last1))⟩, ⟨false, [(decide (last1 < 0), false), ((r2.2 == 0) && (r12 == 1), true)], vS (Instr.loadAt 3 (.pointer (some (sAddr A7 last1)))), .int .i64 (geti now6 last1)⟩] [none, none, none, some (.agg #[.int .i64 now4, .int .i64 now5, .slice A7 now6.length c7]), some (.int .i64 r12), none, none, none, none, none, none, none, some (.slice A7 now6.length c7), none, some (.pointer (some (sAddr A7 last1))), some (.int .i64 (geti now6 last1)), none, none, none, none] [4] [pl 4 (.bool (((r2.2 == 0) && (r12 == 1)) && ((decide (last1 < 0)) || ((geti now6 last1) == 1))))] hF hS Fol (by kernel_rfl) (by kernel_rfl) (by kernel_rfl) ?_ (fun a w hF hS => ?_)
              · exact obs_cons (ob_loadA (cs := #[.int .i64 now4, .int .i64 now5, .slice A7 now6.length c7]) (by kernel_rfl) (by kernel_rfl) (fun _ _ hS => (hS.at_ 0 rfl).cellsAt 0 (by rfl))) <| obs_cons (ob_call Try.func32 (by kernel_rfl) rfl (fun hy _ hS => gameroomref_CountSign_w (ite_some hr12 (by rw [show (r2.2 == 0) = true from hy ((r2.2 == 0), true) (by simp)]; try rfl)) hS (fun _ hS => (hS.at_ 1 rfl).rd) ((hS.at_ 1 rfl).cap1) rfl)) <| obs_cons (ob_load Agg22 (fun _ _ hS => (hS.at_ 0 rfl).cell rfl)) <| obs_cons (ob_ix1 (f := (Value.int .i64)) (m := now6) Und22 hi3 hs3 (hS.at_ 1 rfl).rd rfl (fun hy => hp6 (hy (decide (last1 < 0), false) (by simp)) (hy ((r2.2 == 0) && (r12 == 1), true) (by simp)))) <| obs_cons (ob_get1 (n := now6.length) (m := now6) (Value.int .i64) (0 : Int) Agg3 (fun _ hS => ⟨_, (hS.at_ 1 rfl).rd⟩) (fun _ hS => rfl) (fun hy => hp6 (hy (decide (last1 < 0), false) (by simp)) (hy ((r2.2 == 0) && (r12 == 1), true) (by simp)))) <| obs_nil
              refine wpIn_ret ?_
              have hS := hS.pickN 2 [] (by decide)
              have hm : some (((r2.2 == 0) && (r12 == 1)) && ((decide (last1 < 0)) || ((geti now6 last1) == 1))) = some r := hm
              obtain rfl := Option.some.inj hm
              exact retV (rs := [.tmp 4]) (vs := [.bool (((r2.2 == 0) && (r12 == 1)) && ((decide (last1 < 0)) || ((geti now6 last1) == 1)))]) hF rfl (rv_t (by kernel_rfl) <| rv_nil) rfl ⟨rfl, hS⟩
            · refine reg [] [] [1, 5, 6, 14, 15] [pl 1 (.int .i64 last1), pl 5 (.slice A3 r2.1.length c3), pl 6 (.int .i64 r2.2), pl 14 (.pointer (some ⟨g5, 0, none⟩)), pl 15 (.int .i64 0)] hF hS Fol (by kernel_rfl) (by kernel_rfl) (by kernel_rfl) ?_ (fun a w hF hS => ?_)
              · exact obs_nil
              refine wpIn_block ?_
              have hS := hS.pickN 4 [3, 0, 1] (by decide)
              refine wp_loop_model (S := (Int × Int × List Int × Int)) (R := (Fl (Int × Int × List Int) Bool)) (gameroomlaw_PegsSolves_L1 r2) (fun x => ((gameroomlaw_PegsSolves_K1 last1 r2) x).bind some) r (fun (x : (Int × Int × List Int × Int)) a w => ∃ (A6 : Option Addr) (c6 : Nat), Fr 185 [pl 1 (.int .i64 last1), pl 5 (.slice A3 r2.1.length c3), pl 6 (.int .i64 r2.2), pl 14 (.pointer (some ⟨g5, 0, none⟩)), pl 15 (.int .i64 x.2.2.2)] a ∧ Sep w0 B w (ownK 61 3 A3 r2.1.length c3 (List.flatMap enc61 r2.1) :: blk g5 24 #[.int .i64 x.1, .int .i64 x.2.1, .slice A6 x.2.2.1.length c6] :: own 3 (.slice A6 x.2.2.1.length c6) (vI x.2.2.1) :: fs)) (assoc_b hm) ⟨A5, c5, hF.weak [1, 5, 6, 14, 15] (by kernel_rfl), hS⟩ ?_
              clear hF hS hm
              rintro nn1 ⟨now1, now2, now3, i1⟩ a w ⟨A6, c6, hF, hS⟩ hm
              generalize hφ1 : stK (gameroomlaw_PegsSolves_L1 r2) nn1 (fun x => ((gameroomlaw_PegsSolves_K1 last1 r2) x).bind some) = φ1 at hm
              unfold gameroomlaw_PegsSolves_L1 at hm
              dsimp only at hF hS hm
              refine seq_cut (fun a w => Fr 185 [pl 1 (.int .i64 last1), pl 5 (.slice A3 r2.1.length c3), pl 6 (.int .i64 r2.2), pl 14 (.pointer (some ⟨g5, 0, none⟩)), pl 15 (.int .i64 i1)] a ∧ Sep w0 B w (ownK 61 3 A3 r2.1.length c3 (List.flatMap enc61 r2.1) :: blk g5 24 #[.int .i64 now1, .int .i64 now2, .slice A6 now3.length c6] :: own 3 (.slice A6 now3.length c6) (vI now3) :: fs) ∧ ((gameroomlaw_PegsSolves_J8 r2 now1 now2 now3 i1)).bind φ1 = some r) ?_ ?_
              · rintro a w ⟨hF, hS, hm⟩
                unfold gameroomlaw_PegsSolves_J8 at hm
                refine seq_cut (fun a w => ∃ (now7 : Int) (now8 : Int) (now9 : List Int) (A9 : Option Addr) (c9 : Nat), Fr 185 [pl 1 (.int .i64 last1), pl 5 (.slice A3 r2.1.length c3), pl 6 (.int .i64 r2.2), pl 14 (.pointer (some ⟨g5, 0, none⟩)), pl 15 (.int .i64 i1)] a ∧ Sep w0 B w (ownK 61 3 A3 r2.1.length c3 (List.flatMap enc61 r2.1) :: blk g5 24 #[.int .i64 now7, .int .i64 now8, .slice A9 now9.length c9] :: own 3 (.slice A9 now9.length c9) (vI now9) :: fs) ∧ ((gameroomlaw_PegsSolves_J9 i1) now7 now8 now9).bind φ1 = some r) ?_ ?_
                · rintro a w ⟨now7, now8, now9, A9, c9, hF, hS, hm⟩
                  unfold gameroomlaw_PegsSolves_J9 at hm
                  refine reg1 [] [] [1, 5, 6, 14, 15] [pl 1 (.int .i64 last1), pl 5 (.slice A3 r2.1.length c3), pl 6 (.int .i64 r2.2), pl 14 (.pointer (some ⟨g5, 0, none⟩)), pl 15 (.int .i64 (w64 (i1 + 1)))] hF hS Fol (by kernel_rfl) (by kernel_rfl) (by kernel_rfl) ?_ (fun a w hF hS => ?_)
                  · exact obs_nil
                  refine then_n ?_
                  rw [← hφ1] at hm
                  exact ⟨(now7, now8, now9, (w64 (i1 + 1))), ⟨A9, c9, hF.weak [1, 5, 6, 14, 15] (by kernel_rfl), hS⟩, hm⟩
                · refine wpIn_block ?_
                  refine seq_cut (fun a w => Fr 185 [pl 1 (.int .i64 last1), pl 5 (.slice A3 r2.1.length c3), pl 6 (.int .i64 r2.2), pl 14 (.pointer (some ⟨g5, 0, none⟩)), pl 15 (.int .i64 i1)] a ∧ Sep w0 B w (ownK 61 3 A3 r2.1.length c3 (List.flatMap enc61 r2.1) :: blk g5 24 #[.int .i64 now1, .int .i64 now2, .slice A6 now3.length c6] :: own 3 (.slice A6 now3.length c6) (vI now3) :: fs) ∧ ((gameroomlaw_PegsSolves_J10 r2 now1 now2 now3 i1)).bind φ1 = some r) ?_ ?_
                  · rintro a w ⟨hF, hS, hm⟩
                    unfold gameroomlaw_PegsSolves_J10 at hm
                    obtain ⟨hp5, hm⟩ := asrt_b hm
                    obtain ⟨r11, hr11, hm⟩ := call_b hm
                    refine regMix4 [0, 1, 2, 3, 4] [5, 6] [⟨false, [], vS (Instr.loadAt 24 (.pointer (some ⟨g5, 0, none⟩))), .agg #[.int .i64 now1, .int .i64 now2, .slice A6 now3.length c6]⟩, ⟨true, [], vS (Instr.indexAt 53 (.slice A3 r2.1.length c3) (.int .i64 i1)), .pointer (some (sAddrK A3 3 i1))⟩, ⟨false, [], vS (Instr.loadAt 61 (.pointer (some (sAddrK A3 3 i1)))), .agg #[.int .i64 ((getd ((0, 0, 0) : (Int × Int × Int)) r2.1 i1).1), .int .i64 ((getd ((0, 0, 0) : (Int × Int × Int)) r2.1 i1).2.1), .int .i64 ((getd ((0, 0, 0) : (Int × Int × Int)) r2.1 i1).2.2)]⟩] [some (.agg #[.int .i64 now1, .int .i64 now2, .slice A6 now3.length c6]), none, none, some (.pointer (some (sAddrK A3 3 i1))), some (.agg #[.int .i64 ((getd ((0, 0, 0) : (Int × Int × Int)) r2.1 i1).1), .int .i64 ((getd ((0, 0, 0) : (Int × Int × Int)) r2.1 i1).2.1), .int .i64 ((getd ((0, 0, 0) : (Int × Int × Int)) r2.1 i1).2.2)])] [1, 5, 6, 14, 15, 160, 164] [pl 1 (.int .i64 last1), pl 5 (.slice A3 r2.1.length c3), pl 6 (.int .i64 r2.2), pl 14 (.pointer (some ⟨g5, 0, none⟩)), pl 15 (.int .i64 i1), pl 160 (.agg #[.int .i64 now1, .int .i64 now2, .slice A6 now3.length c6]), pl 164 (.agg #[.int .i64 ((getd ((0, 0, 0) : (Int × Int × Int)) r2.1 i1).1), .int .i64 ((getd ((0, 0, 0) : (Int × Int × Int)) r2.1 i1).2.1), .int .i64 ((getd ((0, 0, 0) : (Int × Int × Int)) r2.1 i1).2.2)])] hF hS Fol (by kernel_rfl) (by kernel_rfl) (by kernel_rfl) (by kernel_rfl) (by kernel_rfl) ?_ (fun a w hF hS => ?_)
                    · exact obs_cons (ob_loadA (cs := #[.int .i64 now1, .int .i64 now2, .slice A6 now3.length c6]) (by kernel_rfl) (by kernel_rfl) (fun _ _ hS => (hS.at_ 1 rfl).cellsAt 0 (by rfl))) <| obs_cons (ob_ixK (m := r2.1) encK61 Und53 hi61 hs61 (hS.at_ 0 rfl).rdK rfl (fun _ => hp5)) <| obs_cons (ob_getK (n := r2.1.length) (m := r2.1) encK61 ((0, 0, 0) : (Int × Int × Int)) (by kernel_rfl) (by kernel_rfl) (fun _ hS => ⟨_, (hS.at_ 0 rfl).rdK⟩) (fun _ hS => rfl) (fun _ => hp5)) <| obs_nil
                    refine at_call (f := 31) (args := #[.agg #[.int .i64 now1, .int .i64 now2, .slice A6 now3.length c6], .agg #[.int .i64 ((getd ((0, 0, 0) : (Int × Int × Int)) r2.1 i1).1), .int .i64 ((getd ((0, 0, 0) : (Int × Int × Int)) r2.1 i1).2.1), .int .i64 ((getd ((0, 0, 0) : (Int × Int × Int)) r2.1 i1).2.2)]]) (d := 165) hF (by kernel_rfl) (by kernel_rfl) Try.func31 (by kernel_rfl) rfl (gameroomref_JumpDone_w hr11 hS (fun _ hS => (hS.at_ 2 rfl).rd) ((hS.at_ 2 rfl).cap1) rfl) (fun v a w hR hF => ?_)
                    clear hS
                    obtain ⟨A8, c8, rfl, hS⟩ := hR
                    have hS : Sep w0 B w (own 3 (.slice A8 r11.2.2.length c8) (vI r11.2.2) :: ownK 61 3 A3 r2.1.length c3 (List.flatMap enc61 r2.1) :: blk g5 24 #[.int .i64 now1, .int .i64 now2, .slice A6 now3.length c6] :: own 3 (.slice A6 now3.length c6) (vI now3) :: fs) := hS
                    obtain ⟨w, hrun, hS⟩ := run_putA (P := Try.prog) (t := 24) (us := #[.int .i64 r11.1, .int .i64 r11.2.1, .slice A8 r11.2.2.length c8]) (o := 0) (hS.at_ 2 rfl) (by kernel_rfl) (all_one (by kernel_rfl)) (Nat.le_of_ble_eq_true (by kernel_rfl))
                    refine at_skip hF (by kernel_rfl) hrun ?_
                    have hS : Sep w0 B w (own 3 (.slice A8 r11.2.2.length c8) (vI r11.2.2) :: ownK 61 3 A3 r2.1.length c3 (List.flatMap enc61 r2.1) :: blk g5 24 #[.int .i64 r11.1, .int .i64 r11.2.1, .slice A8 r11.2.2.length c8] :: own 3 (.slice A6 now3.length c6) (vI now3) :: fs) := hS
                    refine at_end [1, 5, 6, 14, 15] [pl 1 (.int .i64 last1), pl 5 (.slice A3 r2.1.length c3), pl 6 (.int .i64 r2.2), pl 14 (.pointer (some ⟨g5, 0, none⟩)), pl 15 (.int .i64 i1)] hF rfl (by kernel_rfl) (fun hF => ?_)
                    refine np_n ?_
                    refine block_n ?_
                    refine then_n ?_
                    have hS := hS.pickN 4 [1, 2, 0] (by decide)
                    exact ⟨r11.1, r11.2.1, r11.2.2, A8, c8, hF.weak [1, 5, 6, 14, 15] (by kernel_rfl), hS, hm⟩
                  · obtain ⟨hp2, hm⟩ := asrt_b hm
                    obtain ⟨hp3, hm⟩ := asrt_b hm
                    obtain ⟨hp4, hm⟩ := asrt_b hm
                    obtain ⟨r10, hr10, hm⟩ := call_b hm
                    refine reg [⟨true, [], vS (Instr.indexAt 53 (.slice A3 r2.1.length c3) (.int .i64 i1)), .pointer (some (sAddrK A3 3 i1))⟩, ⟨false, [], vS (Instr.loadAt 3 (.pointer (some (Addr.add (sAddrK A3 3 i1) 2)))), .int .i64 ((getd ((0, 0, 0) : (Int × Int × Int)) r2.1 i1).2.2)⟩, ⟨false, [((((getd ((0, 0, 0) : (Int × Int × Int)) r2.1 i1).2.2) != 0), false)], vS (Instr.loadAt 24 (.pointer (some ⟨g5, 0, none⟩))), .agg #[.int .i64 now1, .int .i64 now2, .slice A6 now3.length c6]⟩, ⟨true, [((((getd ((0, 0, 0) : (Int × Int × Int)) r2.1 i1).2.2) != 0), false)], vS (Instr.indexAt 53 (.slice A3 r2.1.length c3) (.int .i64 i1)), .pointer (some (sAddrK A3 3 i1))⟩, ⟨false, [((((getd ((0, 0, 0) : (Int × Int × Int)) r2.1 i1).2.2) != 0), false)], vS (Instr.loadAt 3 (.pointer (some (Addr.add (sAddrK A3 3 i1) 0)))), .int .i64 ((getd ((0, 0, 0) : (Int × Int × Int)) r2.1 i1).1)⟩, ⟨true, [((((getd ((0, 0, 0) : (Int × Int × Int)) r2.1 i1).2.2) != 0), false)], vS (Instr.indexAt 53 (.slice A3 r2.1.length c3) (.int .i64 i1)), .pointer (some (sAddrK A3 3 i1))⟩, ⟨false, [((((getd ((0, 0, 0) : (Int × Int × Int)) r2.1 i1).2.2) != 0), false)], vS (Instr.loadAt 3 (.pointer (some (Addr.add (sAddrK A3 3 i1) 1)))), .int .i64 ((getd ((0, 0, 0) : (Int × Int × Int)) r2.1 i1).2.1)⟩, ⟨false, [((((getd ((0, 0, 0) : (Int × Int × Int)) r2.1 i1).2.2) != 0), false)], callFunc 30 #[.agg #[.int .i64 now1, .int .i64 now2, .slice A6 now3.length c6], .int .i64 ((getd ((0, 0, 0) : (Int × Int × Int)) r2.1 i1).1), .int .i64 ((getd ((0, 0, 0) : (Int × Int × Int)) r2.1 i1).2.1)], .bool r10⟩] [none, none, some (.pointer (some (sAddrK A3 3 i1))), none, some (.int .i64 ((getd ((0, 0, 0) : (Int × Int × Int)) r2.1 i1).2.2)), none, none, some (.agg #[.int .i64 now1, .int .i64 now2, .slice A6 now3.length c6]), none, none, some (.pointer (some (sAddrK A3 3 i1))), none, some (.int .i64 ((getd ((0, 0, 0) : (Int × Int × Int)) r2.1 i1).1)), none, none, some (.pointer (some (sAddrK A3 3 i1))), none, some (.int .i64 ((getd ((0, 0, 0) : (Int × Int × Int)) r2.1 i1).2.1)), some (.bool r10), none, none] [1, 5, 6, 14, 15, 159] [pl 1 (.int .i64 last1), pl 5 (.slice A3 r2.1.length c3), pl 6 (.int .i64 r2.2), pl 14 (.pointer (some ⟨g5, 0, none⟩)), pl 15 (.int .i64 i1), pl 159 (.bool ((((getd ((0, 0, 0) : (Int × Int × Int)) r2.1 i1).2.2) != 0) || (!r10)))] hF hS Fol (by kernel_rfl) (by kernel_rfl) (by kernel_rfl) ?_ (fun a w hF hS => ?_)
                    · exact obs_cons (ob_ixK (m := r2.1) encK61 Und53 hi61 hs61 (hS.at_ 0 rfl).rdK rfl (fun _ => hp2)) <| obs_cons (ob_getF (n := r2.1.length) (m := r2.1) (j := 2) encK61 ((0, 0, 0) : (Int × Int × Int)) Agg3 (fun _ hS => ⟨_, (hS.at_ 0 rfl).rdK⟩) (fun _ hS => rfl) (fun _ => hp2) (by decide) rfl) <| obs_cons (ob_loadA (cs := #[.int .i64 now1, .int .i64 now2, .slice A6 now3.length c6]) (by kernel_rfl) (by kernel_rfl) (fun _ _ hS => (hS.at_ 1 rfl).cellsAt 0 (by rfl))) <| obs_cons (ob_ixK (m := r2.1) encK61 Und53 hi61 hs61 (hS.at_ 0 rfl).rdK rfl (fun hy => hp3 (hy ((((getd ((0, 0, 0) : (Int × Int × Int)) r2.1 i1).2.2) != 0), false) (by simp)))) <| obs_cons (ob_getF (n := r2.1.length) (m := r2.1) (j := 0) encK61 ((0, 0, 0) : (Int × Int × Int)) Agg3 (fun _ hS => ⟨_, (hS.at_ 0 rfl).rdK⟩) (fun _ hS => rfl) (fun hy => hp3 (hy ((((getd ((0, 0, 0) : (Int × Int × Int)) r2.1 i1).2.2) != 0), false) (by simp))) (by decide) rfl) <| obs_cons (ob_ixK (m := r2.1) encK61 Und53 hi61 hs61 (hS.at_ 0 rfl).rdK rfl (fun hy => hp4 (hy ((((getd ((0, 0, 0) : (Int × Int × Int)) r2.1 i1).2.2) != 0), false) (by simp)))) <| obs_cons (ob_getF (n := r2.1.length) (m := r2.1) (j := 1) encK61 ((0, 0, 0) : (Int × Int × Int)) Agg3 (fun _ hS => ⟨_, (hS.at_ 0 rfl).rdK⟩) (fun _ hS => rfl) (fun hy => hp4 (hy ((((getd ((0, 0, 0) : (Int × Int × Int)) r2.1 i1).2.2) != 0), false) (by simp))) (by decide) rfl) <| obs_cons (ob_call Try.func30 (by kernel_rfl) rfl (fun hy _ hS => gameroomref_JumpCan_w (ite_some hr10 (by rw [show (((getd ((0, 0, 0) : (Int × Int × Int)) r2.1 i1).2.2) != 0) = false from hy ((((getd ((0, 0, 0) : (Int × Int × Int)) r2.1 i1).2.2) != 0), false) (by simp)]; try rfl)) hS (fun _ hS => (hS.at_ 2 rfl).rd) ((hS.at_ 2 rfl).cap1) rfl)) <| obs_nil
                    refine cond_ev (t := 159) (b := (((getd ((0, 0, 0) : (Int × Int × Int)) r2.1 i1).2.2) != 0) || (!r10)) hF (by kernel_rfl) (fun hb => ?_) (fun hb => ?_)
                    · replace hm := if_t hm hb
                      refine reg [] [] [4] [pl 4 (.bool false)] hF hS Fol (by kernel_rfl) (by kernel_rfl) (by kernel_rfl) ?_ (fun a w hF hS => ?_)
                      · exact obs_nil
                      refine wpIn_ret ?_
                      refine then_r (block_r (then_r (then_r (block_r (then_r ?_)))))
                      rw [← hφ1] at hm
                      replace hm := done_b hm
                      unfold gameroomlaw_PegsSolves_K1 at hm
                      try dsimp only at hm
                      have hS := hS.pickN 3 [] (by decide)
                      have hm : some false = some r := hm
                      obtain rfl := Option.some.inj hm
                      exact retV (rs := [.tmp 4]) (vs := [.bool false]) hF rfl (rv_t (by kernel_rfl) <| rv_nil) rfl ⟨rfl, hS⟩
                    · replace hm := if_f hm hb
                      refine wpIn_skip ?_
                      refine then_n ?_
                      exact ⟨hF.weak [1, 5, 6, 14, 15] (by kernel_rfl), hS, hm⟩
              · refine reg [] [] [1, 5, 6, 14, 15, 136] [pl 1 (.int .i64 last1), pl 5 (.slice A3 r2.1.length c3), pl 6 (.int .i64 r2.2), pl 14 (.pointer (some ⟨g5, 0, none⟩)), pl 15 (.int .i64 i1), pl 136 (.bool (decide (i1 < (r2.1.length : Int))))] hF hS Fol (by kernel_rfl) (by kernel_rfl) (by kernel_rfl) ?_ (fun a w hF hS => ?_)
                · exact obs_nil
                refine cond_ev (t := 136) (b := decide (i1 < (r2.1.length : Int))) hF (by kernel_rfl) (fun hb => ?_) (fun hb => ?_)
                · replace hm := if_t hm hb
                  refine wpIn_skip ?_
                  refine then_n ?_
                  exact ⟨hF.weak [1, 5, 6, 14, 15] (by kernel_rfl), hS, hm⟩
                · replace hm := if_f hm hb
                  refine wpIn_exit ?_
                  refine then_e (then_e (block_e (then_n ?_)))
                  have hS := hS.pickN 3 [1, 2] (by decide)
                  rw [← hφ1] at hm
                  replace hm := done_b hm
                  unfold gameroomlaw_PegsSolves_K1 at hm
                  try dsimp only at hm
                  have hm : ((gameroomlaw_PegsSolves_J7 last1 r2) now1 now2 now3).bind some = some r := hm
                  exact ⟨now1, now2, now3, A6, c6, hF.weak [1, 6, 14] (by kernel_rfl), hS, hm⟩
          · refine reg [] [] [1, 2, 5, 6, 123] [pl 1 (.int .i64 last1), pl 2 (.pointer (some ⟨g4, 0, none⟩)), pl 5 (.slice A3 r2.1.length c3), pl 6 (.int .i64 r2.2), pl 123 (.bool (!r8.2))] hF hS Fol (by kernel_rfl) (by kernel_rfl) (by kernel_rfl) ?_ (fun a w hF hS => ?_)
            · exact obs_nil
            refine cond_ev (t := 123) (b := !r8.2) hF (by kernel_rfl) (fun hb => ?_) (fun hb => ?_)
            · replace hm := if_t hm hb
              refine reg [] [] [4] [pl 4 (.bool ((r2.2 == 10) && ((r2.1.length : Int) == 0)))] hF hS Fol (by kernel_rfl) (by kernel_rfl) (by kernel_rfl) ?_ (fun a w hF hS => ?_)
              · exact obs_nil
              refine wpIn_ret ?_
              refine then_r ?_
              have hS := hS.pickN 2 [] (by decide)
              have hm : some ((r2.2 == 10) && ((r2.1.length : Int) == 0)) = some r := hm
              obtain rfl := Option.some.inj hm
              exact retV (rs := [.tmp 4]) (vs := [.bool ((r2.2 == 10) && ((r2.1.length : Int) == 0))]) hF rfl (rv_t (by kernel_rfl) <| rv_nil) rfl ⟨rfl, hS⟩
            · replace hm := if_f hm hb
              refine wpIn_skip ?_
              refine then_n ?_
              exact ⟨hF.weak [1, 2, 5, 6] (by kernel_rfl), hS, hm⟩
        · refine reg [] [] [1, 2, 5, 6, 108] [pl 1 (.int .i64 last1), pl 2 (.pointer (some ⟨g4, 0, none⟩)), pl 5 (.slice A3 r2.1.length c3), pl 6 (.int .i64 r2.2), pl 108 (.bool (!((last1 == (-1)) || (((decide ((0 : Int) ≤ last1)) && (decide (last1 < (g3.length : Int)))) && ((geti g3 last1) != 2)))))] hF hS Fol (by kernel_rfl) (by kernel_rfl) (by kernel_rfl) ?_ (fun a w hF hS => ?_)
          · exact obs_nil
          refine cond_ev (t := 108) (b := !((last1 == (-1)) || (((decide ((0 : Int) ≤ last1)) && (decide (last1 < (g3.length : Int)))) && ((geti g3 last1) != 2)))) hF (by kernel_rfl) (fun hb => ?_) (fun hb => ?_)
          · replace hm := if_t hm hb
            refine reg [] [] [4] [pl 4 (.bool ((r2.2 == 3) && ((r2.1.length : Int) == 0)))] hF hS Fol (by kernel_rfl) (by kernel_rfl) (by kernel_rfl) ?_ (fun a w hF hS => ?_)
            · exact obs_nil
            refine wpIn_ret ?_
            refine then_r ?_
            have hS := hS.pickN 2 [] (by decide)
            have hm : some ((r2.2 == 3) && ((r2.1.length : Int) == 0)) = some r := hm
            obtain rfl := Option.some.inj hm
            exact retV (rs := [.tmp 4]) (vs := [.bool ((r2.2 == 3) && ((r2.1.length : Int) == 0))]) hF rfl (rv_t (by kernel_rfl) <| rv_nil) rfl ⟨rfl, hS⟩
          · replace hm := if_f hm hb
            refine wpIn_skip ?_
            refine then_n ?_
            exact ⟨hF.weak [1, 2, 5, 6] (by kernel_rfl), hS, hm⟩
      · refine reg [] [] [1, 2, 5, 6, 9, 106] [pl 1 (.int .i64 last1), pl 2 (.pointer (some ⟨g4, 0, none⟩)), pl 5 (.slice A3 r2.1.length c3), pl 6 (.int .i64 r2.2), pl 9 (.bool ((last1 == (-1)) || (((decide ((0 : Int) ≤ last1)) && (decide (last1 < (g3.length : Int)))) && ((geti g3 last1) != 2)))), pl 106 (.bool ((r4.2 != 0) || (r4.1 != r7.1)))] hF hS Fol (by kernel_rfl) (by kernel_rfl) (by kernel_rfl) ?_ (fun a w hF hS => ?_)
        · exact obs_nil
        refine cond_ev (t := 106) (b := (r4.2 != 0) || (r4.1 != r7.1)) hF (by kernel_rfl) (fun hb => ?_) (fun hb => ?_)
        · replace hm := if_t hm hb
          refine reg [] [] [4] [pl 4 (.bool false)] hF hS Fol (by kernel_rfl) (by kernel_rfl) (by kernel_rfl) ?_ (fun a w hF hS => ?_)
          · exact obs_nil
          refine wpIn_ret ?_
          refine then_r ?_
          have hS := hS.pickN 2 [] (by decide)
          have hm : some false = some r := hm
          obtain rfl := Option.some.inj hm
          exact retV (rs := [.tmp 4]) (vs := [.bool false]) hF rfl (rv_t (by kernel_rfl) <| rv_nil) rfl ⟨rfl, hS⟩
        · replace hm := if_f hm hb
          refine wpIn_skip ?_
          refine then_n ?_
          exact ⟨hF.weak [1, 2, 5, 6, 9] (by kernel_rfl), hS, hm⟩
    · obtain ⟨r6, hr6, hm⟩ := call_b hm
      refine reg [⟨false, [], vS (Instr.loadAt 24 (.pointer (some ⟨g4, 0, none⟩))), .agg #[.int .i64 g1, .int .i64 g2, .slice A1 g3.length c1]⟩, ⟨false, [], callFunc 28 #[.agg #[.int .i64 g1, .int .i64 g2, .slice A1 g3.length c1]], .bool r6⟩] [some (.agg #[.int .i64 g1, .int .i64 g2, .slice A1 g3.length c1]), some (.bool r6), none] [1, 2, 5, 6, 7, 8, 9, 70] [pl 1 (.int .i64 last1), pl 2 (.pointer (some ⟨g4, 0, none⟩)), pl 5 (.slice A3 r2.1.length c3), pl 6 (.int .i64 r2.2), pl 7 (.int .i64 r4.1), pl 8 (.int .i64 r4.2), pl 9 (.bool ((last1 == (-1)) || (((decide ((0 : Int) ≤ last1)) && (decide (last1 < (g3.length : Int)))) && ((geti g3 last1) != 2)))), pl 70 (.bool (!r6))] hF hS Fol (by kernel_rfl) (by kernel_rfl) (by kernel_rfl) ?_ (fun a w hF hS => ?_)
      · exact obs_cons (ob_loadA (cs := #[.int .i64 g1, .int .i64 g2, .slice A1 g3.length c1]) (by kernel_rfl) (by kernel_rfl) (fun _ _ hS => (hS.at_ 0 rfl).cellsAt 0 (by rfl))) <| obs_cons (ob_call Try.func28 (by kernel_rfl) rfl (fun _ _ hS => gameroomref_PegsMay_w hr6 hS (fun _ hS => (hr_g3 _ (hS.dropN 2))) _hc_g3 rfl)) <| obs_nil
      refine cond_ev (t := 70) (b := !r6) hF (by kernel_rfl) (fun hb => ?_) (fun hb => ?_)
      · replace hm := if_t hm hb
        refine seq_cut (fun a w => Fr 185 [pl 5 (.slice A3 r2.1.length c3), pl 7 (.int .i64 r4.1), pl 8 (.int .i64 r4.2)] a ∧ Sep w0 B w (ownK 61 3 A3 r2.1.length c3 (List.flatMap enc61 r2.1) :: fs) ∧ ((gameroomlaw_PegsSolves_J3 r2 r4)).bind some = some r) ?_ ?_
        · rintro a w ⟨hF, hS, hm⟩
          unfold gameroomlaw_PegsSolves_J3 at hm
          refine reg [] [] [4] [pl 4 (.bool (((r4.2 == 2) && ((r2.1.length : Int) == 0)) && (r4.1 == 0)))] hF hS Fol (by kernel_rfl) (by kernel_rfl) (by kernel_rfl) ?_ (fun a w hF hS => ?_)
          · exact obs_nil
          refine wpIn_ret ?_
          refine then_r ?_
          have hS := hS.pickN 1 [] (by decide)
          have hm : some (((r4.2 == 2) && ((r2.1.length : Int) == 0)) && (r4.1 == 0)) = some r := hm
          obtain rfl := Option.some.inj hm
          exact retV (rs := [.tmp 4]) (vs := [.bool (((r4.2 == 2) && ((r2.1.length : Int) == 0)) && (r4.1 == 0))]) hF rfl (rv_t (by kernel_rfl) <| rv_nil) rfl ⟨rfl, hS⟩
        · refine reg [] [] [5, 7, 8, 83] [pl 5 (.slice A3 r2.1.length c3), pl 7 (.int .i64 r4.1), pl 8 (.int .i64 r4.2), pl 83 (.bool ((((last1 == (-1)) || (((decide ((0 : Int) ≤ last1)) && (decide (last1 < (g3.length : Int)))) && ((geti g3 last1) != 2))) && (r2.2 != 2)) || ((!((last1 == (-1)) || (((decide ((0 : Int) ≤ last1)) && (decide (last1 < (g3.length : Int)))) && ((geti g3 last1) != 2)))) && (r2.2 != 3))))] hF hS Fol (by kernel_rfl) (by kernel_rfl) (by kernel_rfl) ?_ (fun a w hF hS => ?_)
          · exact obs_nil
          refine cond_ev (t := 83) (b := (((last1 == (-1)) || (((decide ((0 : Int) ≤ last1)) && (decide (last1 < (g3.length : Int)))) && ((geti g3 last1) != 2))) && (r2.2 != 2)) || ((!((last1 == (-1)) || (((decide ((0 : Int) ≤ last1)) && (decide (last1 < (g3.length : Int)))) && ((geti g3 last1) != 2)))) && (r2.2 != 3))) hF (by kernel_rfl) (fun hb => ?_) (fun hb => ?_)
          · replace hm := if_t hm hb
            refine reg [] [] [4] [pl 4 (.bool false)] hF hS Fol (by kernel_rfl) (by kernel_rfl) (by kernel_rfl) ?_ (fun a w hF hS => ?_)
            · exact obs_nil
            refine wpIn_ret ?_
            refine then_r (then_r ?_)
            have hS := hS.pickN 2 [] (by decide)
            have hm : some false = some r := hm
            obtain rfl := Option.some.inj hm
            exact retV (rs := [.tmp 4]) (vs := [.bool false]) hF rfl (rv_t (by kernel_rfl) <| rv_nil) rfl ⟨rfl, hS⟩
          · replace hm := if_f hm hb
            refine wpIn_skip ?_
            refine then_n ?_
            have hS := hS.pickN 2 [1] (by decide)
            exact ⟨hF.weak [5, 7, 8] (by kernel_rfl), hS, hm⟩
      · replace hm := if_f hm hb
        refine wpIn_skip ?_
        refine then_n ?_
        exact ⟨hF.weak [1, 2, 5, 6, 7, 8, 9] (by kernel_rfl), hS, hm⟩
  · obtain ⟨r5, hr5, hm⟩ := call_b hm
    refine reg [⟨false, [], vS (Instr.loadAt 24 (.pointer (some ⟨g4, 0, none⟩))), .agg #[.int .i64 g1, .int .i64 g2, .slice A1 g3.length c1]⟩, ⟨false, [], callFunc 11 #[.agg #[.int .i64 g1, .int .i64 g2, .slice A1 g3.length c1]], .bool r5⟩] [some (.agg #[.int .i64 g1, .int .i64 g2, .slice A1 g3.length c1]), some (.bool r5), none] [1, 2, 5, 6, 7, 8, 31] [pl 1 (.int .i64 last1), pl 2 (.pointer (some ⟨g4, 0, none⟩)), pl 5 (.slice A3 r2.1.length c3), pl 6 (.int .i64 r2.2), pl 7 (.int .i64 r4.1), pl 8 (.int .i64 r4.2), pl 31 (.bool (!r5))] hF hS Fol (by kernel_rfl) (by kernel_rfl) (by kernel_rfl) ?_ (fun a w hF hS => ?_)
    · exact obs_cons (ob_loadA (cs := #[.int .i64 g1, .int .i64 g2, .slice A1 g3.length c1]) (by kernel_rfl) (by kernel_rfl) (fun _ _ hS => (hS.at_ 3 rfl).cellsAt 0 (by rfl))) <| obs_cons (ob_call Try.func11 (by kernel_rfl) rfl (fun _ _ hS => gameroomref_GridMay_w hr5 hS (fun _ hS => (hr_g3 _ (hS.dropN 4))) _hc_g3 rfl)) <| obs_nil
    refine cond_ev (t := 31) (b := !r5) hF (by kernel_rfl) (fun hb => ?_) (fun hb => ?_)
    · replace hm := if_t hm hb
      refine reg [] [] [4] [pl 4 (.bool ((((r2.2 == 12) && (r4.2 == 12)) && ((r2.1.length : Int) == 0)) && (r4.1 == 0)))] hF hS Fol (by kernel_rfl) (by kernel_rfl) (by kernel_rfl) ?_ (fun a w hF hS => ?_)
      · exact obs_nil
      refine wpIn_ret ?_
      refine then_r ?_
      have hS := hS.pickN 4 [] (by decide)
      have hm : some ((((r2.2 == 12) && (r4.2 == 12)) && ((r2.1.length : Int) == 0)) && (r4.1 == 0)) = some r := hm
      obtain rfl := Option.some.inj hm
      exact retV (rs := [.tmp 4]) (vs := [.bool ((((r2.2 == 12) && (r4.2 == 12)) && ((r2.1.length : Int) == 0)) && (r4.1 == 0))]) hF rfl (rv_t (by kernel_rfl) <| rv_nil) rfl ⟨rfl, hS⟩
    · replace hm := if_f hm hb
      refine wpIn_skip ?_
      refine then_n ?_
      have hS := hS.pickN 4 [3, 1] (by decide)
      exact ⟨hF.weak [1, 2, 5, 6, 7, 8] (by kernel_rfl), hS, hm⟩

end Go.Proofs.Ytjfloofoobllaaa
