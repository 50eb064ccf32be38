/-
  Models and walks, printed by our own program (wip/gen).
-/
import Derived.Test.YtnplejebgbdfpaaFB
import Derived.Test.YtnplejebgbdfpaaLibAQ
import Derived.Test.YtnplejebgbdfpaaLibAP
import Derived.Test.YtnplejebgbdfpaaLibAR
import Derived.Test.YtnplejebgbdfpaaFM
namespace Go.Proofs.Ytnplejebgbdfpaa
open Go Go.GL Go.RowKit




noncomputable def domino_Set_J6 (b1 : Int) (l5 : List (Int × Int)) : Option (St (List (Int × Int) × Int) (List (Int × Int))) :=
  some (.next (l5, (w64 (b1 + 1))))

noncomputable def domino_Set_J5 (z1 : Int) (l3 : List (Int × Int)) (b1 : Int) : Option (St (List (Int × Int) × Int) (List (Int × Int))) :=
  asrt ((l3.length : Int) + 1 ≤ bigP) <| (domino_Set_J6 b1) (l3 ++ ([(z1, b1)] : List (Int × Int)))

noncomputable def domino_Set_J4 (z1 : Int) (l4 : List (Int × Int)) : Option (St (List (Int × Int) × Int) (List (Int × Int))) :=
  some (.next (l4, (w64 (z1 + 1))))

noncomputable def domino_Set_K2 (z1 : Int) : (List (Int × Int)) → Option (St (List (Int × Int) × Int) (List (Int × Int))) :=
  fun (x : (List (Int × Int))) => match x with | l4 => (domino_Set_J4 z1) l4

noncomputable def domino_Set_L2 (most1 : Int) (z1 : Int) : (List (Int × Int) × Int) → Option (St (List (Int × Int) × Int) (List (Int × Int))) :=
  fun (x : (List (Int × Int) × Int)) => match x with | (l3, b1) => if (decide (b1 ≤ most1)) then ((domino_Set_J5 z1 l3 b1)) else (some (.done l3))

noncomputable def domino_Set_J3 (most1 : Int) (l1 : List (Int × Int)) (z1 : Int) : Option (St (List (Int × Int) × Int) (List (Int × Int))) :=
  (loop (domino_Set_L2 most1 z1) (l1, z1)).bind (domino_Set_K2 z1)

noncomputable def domino_Set_J2 (l2 : List (Int × Int)) : Option (List (Int × Int) × Int) :=
  some (l2, 0)

noncomputable def domino_Set_K1 : (List (Int × Int)) → Option (List (Int × Int) × Int) :=
  fun (x : (List (Int × Int))) => match x with | l2 => domino_Set_J2 l2

noncomputable def domino_Set_L1 (most1 : Int) : (List (Int × Int) × Int) → Option (St (List (Int × Int) × Int) (List (Int × Int))) :=
  fun (x : (List (Int × Int) × Int)) => match x with | (l1, z1) => if (decide (z1 < (w64 (most1 + 1)))) then ((domino_Set_J3 most1 l1 z1)) else (some (.done l1))

noncomputable def domino_Set_J1 (most1 : Int) : Option (List (Int × Int) × Int) :=
  (loop (domino_Set_L1 most1) (([] : List (Int × Int)), 0)).bind domino_Set_K1

noncomputable def domino_Set_m (most1 : Int) : Option (List (Int × Int) × Int) :=
  if ((decide (most1 < 0)) || (decide ((9 : Int) < most1))) then (some (([] : List (Int × Int)), 3)) else ((domino_Set_J1 most1))

set_option maxRecDepth 100000 in
set_option maxHeartbeats 4000000 in
theorem domino_Set_w {most1 : Int} {r : (List (Int × Int) × Int)} {w0 w : World} {B : Nat} {fs : List HP} (hm : domino_Set_m most1 = some r) (hS : Sep w0 B w (fs)) :
    Calls Try.prog 35 #[.int .i64 most1] w fun e w' => ∃ v, e = .returned v ∧ ∃ (A7 : Option Addr) (c7 : Nat), v = .tuple #[.slice A7 r.1.length c7, .int .i64 r.2] ∧ Sep w0 B w' (ownK 102 2 A7 r.1.length c7 (List.flatMap enc102 r.1) :: fs) := by
  obtain ⟨i102, hi102, hz102, hs102, hb102⟩ := info_parts Info102
  unfold domino_Set_m at hm
  replace hm := start_b hm
  refine enter (l := [.int .i64 most1]) (n := 32) Try.func35 rfl rfl (by simp) (fun a hF => ?_)
  refine reg [] [] [0] [pl 0 (.int .i64 most1)] hF hS Fol (by kernel_rfl) (by kernel_rfl) (by kernel_rfl) ?_ (fun a w hF hS => ?_)
  · exact obs_nil
  refine seq_cut (fun a w => Fr 32 [pl 0 (.int .i64 most1)] a ∧ Sep w0 B w (fs) ∧ ((domino_Set_J1 most1)).bind some = some r) ?_ ?_
  · rintro a w ⟨hF, hS, hm⟩
    unfold domino_Set_J1 at hm
    refine reg [] [] [0, 4] [pl 0 (.int .i64 most1), pl 4 (.slice none 0 0)] hF hS Fol (by kernel_rfl) (by kernel_rfl) (by kernel_rfl) ?_ (fun a w hF hS => ?_)
    · exact obs_nil
    refine seq_cut (fun a w => ∃ (l2 : List (Int × Int)) (A2 : Option Addr) (c2 : Nat), Fr 32 [pl 4 (.slice A2 l2.length c2)] a ∧ Sep w0 B w (ownK 102 2 A2 l2.length c2 (List.flatMap enc102 l2) :: fs) ∧ (domino_Set_J2 l2).bind some = some r) ?_ ?_
    · rintro a w ⟨l2, A2, c2, hF, hS, hm⟩
      unfold domino_Set_J2 at hm
      refine reg [] [] [2, 3] [pl 2 (.slice A2 l2.length c2), pl 3 (.int .i64 0)] hF hS Fol (by kernel_rfl) (by kernel_rfl) (by kernel_rfl) ?_ (fun a w hF hS => ?_)
      · exact obs_nil
      refine wp_ret ?_
      have hm : some (l2, 0) = some r := hm
      obtain rfl := Option.some.inj hm
      exact retV (rs := [.tmp 2, .tmp 3]) (vs := [.slice A2 l2.length c2, .int .i64 0]) hF rfl (rv_t (by kernel_rfl) <| rv_t (by kernel_rfl) <| rv_nil) rfl ⟨_, rfl, A2, c2, rfl, hS⟩
    · refine reg [] [] [0, 4, 14, 15] [pl 0 (.int .i64 most1), pl 4 (.slice none 0 0), pl 14 (.int .i64 (w64 (most1 + 1))), pl 15 (.int .i64 0)] hF hS Fol (by kernel_rfl) (by kernel_rfl) (by kernel_rfl) ?_ (fun a w hF hS => ?_)
      · exact obs_nil
      refine wp_block ?_
      have hS : Sep w0 B w (ownK 102 2 none 0 0 (List.flatMap enc102 ([] : List (Int × Int))) :: fs) := hS.nilK 102 2 enc102
      have hl2 := (hS.at_ 0 rfl).lenK encK102
      have hS := (hS.at_ 0 rfl).reNK hl2
      have hS : Sep w0 B w (ownK 102 2 none (([] : List (Int × Int)).length) 0 (List.flatMap enc102 ([] : List (Int × Int))) :: fs) := hS
      have hF := hF.cast (t := 4) (v := .slice none 0 0) (v' := .slice none (([] : List (Int × Int)).length) 0) rfl rfl (congrArg (fun k => Value.slice none k 0) hl2)
      refine wp_loop_model (S := (List (Int × Int) × Int)) (R := (List (Int × Int))) (domino_Set_L1 most1) (fun x => (domino_Set_K1 x).bind some) r (fun (x : (List (Int × Int) × Int)) a w => ∃ (A1 : Option Addr) (c1 : Nat), Fr 32 [pl 0 (.int .i64 most1), pl 4 (.slice A1 x.1.length c1), pl 14 (.int .i64 (w64 (most1 + 1))), pl 15 (.int .i64 x.2)] a ∧ Sep w0 B w (ownK 102 2 A1 x.1.length c1 (List.flatMap enc102 x.1) :: fs)) (assoc_b hm) ⟨none, 0, hF.weak [0, 4, 14, 15] (by kernel_rfl), hS⟩ ?_
      clear hF hS hm
      rintro nn1 ⟨l1, z1⟩ a w ⟨A1, c1, hF, hS⟩ hm
      generalize hφ1 : stK (domino_Set_L1 most1) nn1 (fun x => (domino_Set_K1 x).bind some) = φ1 at hm
      unfold domino_Set_L1 at hm
      dsimp only at hF hS hm
      refine reg [] [] [0, 4, 14, 15, 16] [pl 0 (.int .i64 most1), pl 4 (.slice A1 l1.length c1), pl 14 (.int .i64 (w64 (most1 + 1))), pl 15 (.int .i64 z1), pl 16 (.bool (decide (z1 < (w64 (most1 + 1)))))] hF hS Fol (by kernel_rfl) (by kernel_rfl) (by kernel_rfl) ?_ (fun a w hF hS => ?_)
      · exact obs_nil
      refine seq_cut (fun a w => Fr 32 [pl 0 (.int .i64 most1), pl 4 (.slice A1 l1.length c1), pl 14 (.int .i64 (w64 (most1 + 1))), pl 15 (.int .i64 z1)] a ∧ Sep w0 B w (ownK 102 2 A1 l1.length c1 (List.flatMap enc102 l1) :: fs) ∧ ((domino_Set_J3 most1 l1 z1)).bind φ1 = some r) ?_ ?_
      · rintro a w ⟨hF, hS, hm⟩
        unfold domino_Set_J3 at hm
        refine seq_cut (fun a w => ∃ (l4 : List (Int × Int)) (A4 : Option Addr) (c4 : Nat), Fr 32 [pl 0 (.int .i64 most1), pl 4 (.slice A4 l4.length c4), pl 14 (.int .i64 (w64 (most1 + 1))), pl 15 (.int .i64 z1)] a ∧ Sep w0 B w (ownK 102 2 A4 l4.length c4 (List.flatMap enc102 l4) :: fs) ∧ ((domino_Set_J4 z1) l4).bind φ1 = some r) ?_ ?_
        · rintro a w ⟨l4, A4, c4, hF, hS, hm⟩
          unfold domino_Set_J4 at hm
          refine reg1 [] [] [0, 4, 14, 15] [pl 0 (.int .i64 most1), pl 4 (.slice A4 l4.length c4), pl 14 (.int .i64 (w64 (most1 + 1))), pl 15 (.int .i64 (w64 (z1 + 1)))] hF hS Fol (by kernel_rfl) (by kernel_rfl) (by kernel_rfl) ?_ (fun a w hF hS => ?_)
          · exact obs_nil
          refine then_n ?_
          rw [← hφ1] at hm
          exact ⟨(l4, (w64 (z1 + 1))), ⟨A4, c4, hF.weak [0, 4, 14, 15] (by kernel_rfl), hS⟩, hm⟩
        · refine wp_block ?_
          refine reg [] [] [0, 4, 5, 14, 15] [pl 0 (.int .i64 most1), pl 4 (.slice A1 l1.length c1), pl 5 (.int .i64 z1), pl 14 (.int .i64 (w64 (most1 + 1))), pl 15 (.int .i64 z1)] hF hS Fol (by kernel_rfl) (by kernel_rfl) (by kernel_rfl) ?_ (fun a w hF hS => ?_)
          · exact obs_nil
          refine reg [] [] [0, 4, 5, 6, 14, 15] [pl 0 (.int .i64 most1), pl 4 (.slice A1 l1.length c1), pl 5 (.int .i64 z1), pl 6 (.int .i64 z1), pl 14 (.int .i64 (w64 (most1 + 1))), pl 15 (.int .i64 z1)] hF hS Fol (by kernel_rfl) (by kernel_rfl) (by kernel_rfl) ?_ (fun a w hF hS => ?_)
          · exact obs_nil
          refine wp_block ?_
          refine wp_loop_model (S := (List (Int × Int) × Int)) (R := (List (Int × Int))) (domino_Set_L2 most1 z1) (fun x => ((domino_Set_K2 z1) x).bind φ1) r (fun (x : (List (Int × Int) × Int)) a w => ∃ (A3 : Option Addr) (c3 : Nat), Fr 32 [pl 0 (.int .i64 most1), pl 4 (.slice A3 x.1.length c3), pl 5 (.int .i64 z1), pl 6 (.int .i64 x.2), pl 14 (.int .i64 (w64 (most1 + 1))), pl 15 (.int .i64 z1)] a ∧ Sep w0 B w (ownK 102 2 A3 x.1.length c3 (List.flatMap enc102 x.1) :: fs)) (assoc_b hm) ⟨A1, c1, hF.weak [0, 4, 5, 6, 14, 15] (by kernel_rfl), hS⟩ ?_
          clear hF hS hm
          rintro nn2 ⟨l3, b1⟩ a w ⟨A3, c3, hF, hS⟩ hm
          generalize hφ2 : stK (domino_Set_L2 most1 z1) nn2 (fun x => ((domino_Set_K2 z1) x).bind φ1) = φ2 at hm
          unfold domino_Set_L2 at hm
          dsimp only at hF hS hm
          refine seq_cut (fun a w => Fr 32 [pl 0 (.int .i64 most1), pl 4 (.slice A3 l3.length c3), pl 5 (.int .i64 z1), pl 6 (.int .i64 b1), pl 14 (.int .i64 (w64 (most1 + 1))), pl 15 (.int .i64 z1)] a ∧ Sep w0 B w (ownK 102 2 A3 l3.length c3 (List.flatMap enc102 l3) :: fs) ∧ ((domino_Set_J5 z1 l3 b1)).bind φ2 = some r) ?_ ?_
          · rintro a w ⟨hF, hS, hm⟩
            unfold domino_Set_J5 at hm
            refine seq_cut (fun a w => ∃ (l5 : List (Int × Int)) (A6 : Option Addr) (c6 : Nat), Fr 32 [pl 0 (.int .i64 most1), pl 4 (.slice A6 l5.length c6), pl 5 (.int .i64 z1), pl 6 (.int .i64 b1), pl 14 (.int .i64 (w64 (most1 + 1))), pl 15 (.int .i64 z1)] a ∧ Sep w0 B w (ownK 102 2 A6 l5.length c6 (List.flatMap enc102 l5) :: fs) ∧ ((domino_Set_J6 b1) l5).bind φ2 = some r) ?_ ?_
            · rintro a w ⟨l5, A6, c6, hF, hS, hm⟩
              unfold domino_Set_J6 at hm
              refine reg1 [] [] [0, 4, 5, 6, 14, 15] [pl 0 (.int .i64 most1), pl 4 (.slice A6 l5.length c6), pl 5 (.int .i64 z1), pl 6 (.int .i64 (w64 (b1 + 1))), pl 14 (.int .i64 (w64 (most1 + 1))), pl 15 (.int .i64 z1)] hF hS Fol (by kernel_rfl) (by kernel_rfl) (by kernel_rfl) ?_ (fun a w hF hS => ?_)
              · exact obs_nil
              refine then_n ?_
              rw [← hφ2] at hm
              exact ⟨(l5, (w64 (b1 + 1))), ⟨A6, c6, hF.weak [0, 4, 5, 6, 14, 15] (by kernel_rfl), hS⟩, hm⟩
            · refine wp_block ?_
              refine oneR ?_
              obtain ⟨hp1, hm⟩ := asrt_b hm
              refine at_run 4 [] [] [0, 5, 6, 14, 15, 24, 27] [pl 0 (.int .i64 most1), pl 5 (.int .i64 z1), pl 6 (.int .i64 b1), pl 14 (.int .i64 (w64 (most1 + 1))), pl 15 (.int .i64 z1), pl 24 (.slice A3 l3.length c3), pl 27 (.agg #[.int .i64 z1, .int .i64 b1])] hF hS (by kernel_rfl) (by kernel_rfl) ?_ (fun a w hF hS => ?_)
              · exact obs_nil
              refine at_do (d := 28) (s := vS (Instr.buildSlice 61 1 #[(0, .agg #[.int .i64 z1, .int .i64 b1])])) (v := .slice (some ⟨w.heap.size, 0, none⟩) 1 1) (w' := w.alloc (.cells #[.int .i64 z1, .int .i64 b1] 102)) hF (by kernel_rfl) (by kernel_rfl) (by kernel_rfl) (fun a hF => ?_)
              have hS : Sep w0 B (w.alloc (.cells #[.int .i64 z1, .int .i64 b1] 102)) (ownK 102 2 (some (⟨w.heap.size, 0, none⟩ : Addr)) 1 1 (List.flatMap enc102 ([(z1, b1)] : List (Int × Int))) :: (ownK 102 2 A3 l3.length c3 (List.flatMap enc102 l3) :: fs)) := hS.litK 102 2 #[.int .i64 z1, .int .i64 b1] 1 rfl (by omega)
              generalize (some (⟨w.heap.size, 0, none⟩ : Addr)) = g1 at hF hS
              generalize w.alloc (.cells #[.int .i64 z1, .int .i64 b1] 102) = w at hS ⊢
              obtain ⟨A5, c5, w, hrun, hS⟩ := run_appK2 (P := Try.prog) (t := 61) (m := l3) (ys := ([(z1, b1)] : List (Int × Int))) (A2 := g1) (m2 := 1) (c2 := 1) encK102 (hS.at_ 1 rfl) (hS.at_ 0 rfl).rdK ((hS.at_ 0 rfl).lenK encK102) 61 Und61 hi102 hz102 hs102 rfl (by omega) hp1
              have hS : Sep w0 B w (ownK 102 2 g1 1 1 (List.flatMap enc102 ([(z1, b1)] : List (Int × Int))) :: ownK 102 2 A5 ((l3 ++ ([(z1, b1)] : List (Int × Int))).length) c5 (List.flatMap enc102 (l3 ++ ([(z1, b1)] : List (Int × Int)))) :: fs) := hS
              refine at_do (d := 29) hF (by kernel_rfl) (by kernel_rfl) hrun (fun a hF => ?_)
              refine at_run 1 [] [] [0, 4, 5, 6, 14, 15] [pl 0 (.int .i64 most1), pl 4 (.slice A5 ((l3 ++ ([(z1, b1)] : List (Int × Int))).length) c5), pl 5 (.int .i64 z1), pl 6 (.int .i64 b1), pl 14 (.int .i64 (w64 (most1 + 1))), pl 15 (.int .i64 z1)] hF hS (by kernel_rfl) (by kernel_rfl) ?_ (fun a w hF hS => ?_)
              · exact obs_nil
              refine at_end [0, 4, 5, 6, 14, 15] [pl 0 (.int .i64 most1), pl 4 (.slice A5 ((l3 ++ ([(z1, b1)] : List (Int × Int))).length) c5), pl 5 (.int .i64 z1), pl 6 (.int .i64 b1), pl 14 (.int .i64 (w64 (most1 + 1))), pl 15 (.int .i64 z1)] hF rfl (by kernel_rfl) (fun hF => ?_)
              refine block_n ?_
              refine then_n ?_
              have hS := hS.pickN 2 [1] (by decide)
              exact ⟨(l3 ++ ([(z1, b1)] : List (Int × Int))), A5, c5, hF.weak [0, 4, 5, 6, 14, 15] (by kernel_rfl), hS, hm⟩
          · refine reg [] [] [0, 4, 5, 6, 14, 15, 21] [pl 0 (.int .i64 most1), pl 4 (.slice A3 l3.length c3), pl 5 (.int .i64 z1), pl 6 (.int .i64 b1), pl 14 (.int .i64 (w64 (most1 + 1))), pl 15 (.int .i64 z1), pl 21 (.bool (decide (b1 ≤ most1)))] hF hS Fol (by kernel_rfl) (by kernel_rfl) (by kernel_rfl) ?_ (fun a w hF hS => ?_)
            · exact obs_nil
            refine cond_ev (t := 21) (b := decide (b1 ≤ most1)) hF (by kernel_rfl) (fun hb => ?_) (fun hb => ?_)
            · replace hm := if_t hm hb
              refine wp_skip ?_
              refine then_n ?_
              exact ⟨hF.weak [0, 4, 5, 6, 14, 15] (by kernel_rfl), hS, hm⟩
            · replace hm := if_f hm hb
              refine wp_exit ?_
              refine then_e (then_e (block_e (block_n (then_n ?_))))
              rw [← hφ2] at hm
              replace hm := done_b hm
              unfold domino_Set_K2 at hm
              try dsimp only at hm
              have hm : ((domino_Set_J4 z1) l3).bind φ1 = some r := hm
              exact ⟨l3, A3, c3, hF.weak [0, 4, 14, 15] (by kernel_rfl), hS, hm⟩
      · refine cond_ev (t := 16) (b := decide (z1 < (w64 (most1 + 1)))) hF (by kernel_rfl) (fun hb => ?_) (fun hb => ?_)
        · replace hm := if_t hm hb
          refine wp_skip ?_
          refine then_n ?_
          exact ⟨hF.weak [0, 4, 14, 15] (by kernel_rfl), hS, hm⟩
        · replace hm := if_f hm hb
          refine wp_exit ?_
          refine then_e (then_e (block_e (then_n ?_)))
          rw [← hφ1] at hm
          replace hm := done_b hm
          unfold domino_Set_K1 at hm
          try dsimp only at hm
          have hm : (domino_Set_J2 l1).bind some = some r := hm
          exact ⟨l1, A1, c1, hF.weak [4] (by kernel_rfl), hS, hm⟩
  · refine reg [] [] [0, 12] [pl 0 (.int .i64 most1), pl 12 (.bool ((decide (most1 < 0)) || (decide ((9 : Int) < most1))))] hF hS Fol (by kernel_rfl) (by kernel_rfl) (by kernel_rfl) ?_ (fun a w hF hS => ?_)
    · exact obs_nil
    refine cond_ev (t := 12) (b := (decide (most1 < 0)) || (decide ((9 : Int) < most1))) hF (by kernel_rfl) (fun hb => ?_) (fun hb => ?_)
    · replace hm := if_t hm hb
      refine reg [] [] [2, 3] [pl 2 (.slice none 0 0), pl 3 (.int .i64 3)] hF hS Fol (by kernel_rfl) (by kernel_rfl) (by kernel_rfl) ?_ (fun a w hF hS => ?_)
      · exact obs_nil
      refine wp_ret ?_
      refine then_r ?_
      have hS : Sep w0 B w (ownK 102 2 none 0 0 (List.flatMap enc102 ([] : List (Int × Int))) :: fs) := hS.nilK 102 2 enc102
      have hl1 := (hS.at_ 0 rfl).lenK encK102
      have hS := (hS.at_ 0 rfl).reNK hl1
      have hS : Sep w0 B w (ownK 102 2 none (([] : List (Int × Int)).length) 0 (List.flatMap enc102 ([] : List (Int × Int))) :: fs) := hS
      have hm : some (([] : List (Int × Int)), 3) = some r := hm
      obtain rfl := Option.some.inj hm
      exact retV (rs := [.tmp 2, .tmp 3]) (vs := [.slice none (([] : List (Int × Int)).length) 0, .int .i64 3]) hF rfl (rv_t (by kernel_rfl) <| rv_t (by kernel_rfl) <| rv_nil) rfl ⟨_, rfl, none, 0, rfl, hS⟩
    · replace hm := if_f hm hb
      refine wp_skip ?_
      refine then_n ?_
      exact ⟨hF.weak [0] (by kernel_rfl), hS, hm⟩

noncomputable def gameroomlaw_pieces_m (l1 : List (Int × Int)) : Option (List (Int × Int)) :=
  asrt ((0 : Int) + (l1.length : Int) ≤ bigP) <| some (([] : List (Int × Int)) ++ l1)

set_option maxRecDepth 100000 in
set_option maxHeartbeats 4000000 in
theorem gameroomlaw_pieces_w {A1 : Option Addr} {c1 : Nat} {n1 : Nat} {l1 : List (Int × Int)} {r : (List (Int × Int))} {w0 w : World} {B : Nat} {fs : List HP} (hm : gameroomlaw_pieces_m l1 = some r) (hS : Sep w0 B w (fs)) (hr_l1 : RdF w0 B fs A1 ((List.flatMap enc102 l1))) (_hc_l1 : l1.length ≤ c1) (_hn_l1 : n1 = l1.length) :
    Calls Try.prog 37 #[.slice A1 n1 c1] w fun e w' => ∃ v, e = .returned v ∧ ∃ (A3 : Option Addr) (c3 : Nat), v = .slice A3 r.length c3 ∧ Sep w0 B w' (ownK 102 2 A3 r.length c3 (List.flatMap enc102 r) :: fs) := by
  obtain ⟨i102, hi102, hz102, hs102, hb102⟩ := info_parts Info102
  obtain rfl := _hn_l1
  unfold gameroomlaw_pieces_m at hm
  replace hm := start_b hm
  refine enter (l := [.slice A1 l1.length c1]) (n := 5) Try.func37 rfl rfl (by simp) (fun a hF => ?_)
  refine reg [] [] [0] [pl 0 (.slice A1 l1.length c1)] hF hS Fol (by kernel_rfl) (by kernel_rfl) (by kernel_rfl) ?_ (fun a w hF hS => ?_)
  · exact obs_nil
  refine seqR ?_
  obtain ⟨hp1, hm⟩ := asrt_b hm
  refine at_run 1 [] [] [3] [pl 3 (.slice A1 l1.length c1)] hF hS (by kernel_rfl) (by kernel_rfl) ?_ (fun a w hF hS => ?_)
  · exact obs_nil
  have hS : Sep w0 B w (ownK 102 2 none 0 0 (List.flatMap enc102 ([] : List (Int × Int))) :: fs) := hS.nilK 102 2 enc102
  obtain ⟨A2, c2, w, hrun, hS⟩ := run_appK2 (P := Try.prog) (t := 61) (m := ([] : List (Int × Int))) (ys := l1) (A2 := A1) (m2 := l1.length) (c2 := c1) encK102 (hS.at_ 0 rfl) (hr_l1 _ (hS.dropN 1)) rfl 61 Und61 hi102 hz102 hs102 rfl (by omega) hp1
  have hS : Sep w0 B w (ownK 102 2 A2 ((([] : List (Int × Int)) ++ l1).length) c2 (List.flatMap enc102 (([] : List (Int × Int)) ++ l1)) :: fs) := hS
  refine at_do (d := 4) hF (by kernel_rfl) (by kernel_rfl) hrun (fun a hF => ?_)
  refine at_run 1 [] [] [2] [pl 2 (.slice A2 ((([] : List (Int × Int)) ++ l1).length) c2)] hF hS (by kernel_rfl) (by kernel_rfl) ?_ (fun a w hF hS => ?_)
  · exact obs_nil
  refine at_end [2] [pl 2 (.slice A2 ((([] : List (Int × Int)) ++ l1).length) c2)] hF rfl (by kernel_rfl) (fun hF => ?_)
  refine then_n ?_
  refine wp_ret ?_
  have hm : some (([] : List (Int × Int)) ++ l1) = some r := hm
  obtain rfl := Option.some.inj hm
  exact retV (rs := [.tmp 2]) (vs := [.slice A2 ((([] : List (Int × Int)) ++ l1).length) c2]) hF rfl (rv_t (by kernel_rfl) <| rv_nil) rfl ⟨_, rfl, A2, c2, rfl, hS⟩

noncomputable def domino_strange_m (p1 : Int) (p2 : Int) : Option Bool :=
  some ((((decide (p1 < 0)) || (decide ((9 : Int) < p1))) || (decide (p2 < 0))) || (decide ((9 : Int) < p2)))

set_option maxRecDepth 100000 in
set_option maxHeartbeats 4000000 in
theorem domino_strange_w {p1 : Int} {p2 : Int} {r : Bool} {w0 w : World} {B : Nat} {fs : List HP} (hm : domino_strange_m p1 p2 = some r) (hS : Sep w0 B w (fs)) :
    Calls Try.prog 76 #[.agg #[.int .i64 p1, .int .i64 p2]] w fun e w' => e = .returned (.bool r) ∧ Sep w0 B w' (fs) := by
  unfold domino_strange_m at hm
  replace hm := start_b hm
  refine enter (l := [.agg #[.int .i64 p1, .int .i64 p2]]) (n := 21) Try.func76 rfl rfl (by simp) (fun a hF => ?_)
  refine seqR ?_
  refine at_do (d := 1) (s := vS (Instr.box 102 (.agg #[.int .i64 p1, .int .i64 p2]))) (v := .pointer (some ⟨w.heap.size, 0, none⟩)) (w' := w.alloc (.cells #[.int .i64 p1, .int .i64 p2] 102)) hF (by kernel_rfl) (by kernel_rfl) (by kernel_rfl) (fun a hF => ?_)
  have hS : Sep w0 B (w.alloc (.cells #[.int .i64 p1, .int .i64 p2] 102)) (blk w.heap.size 102 #[.int .i64 p1, .int .i64 p2] :: (fs)) := hS.box 102 #[.int .i64 p1, .int .i64 p2]
  generalize w.heap.size = g1 at hF hS
  generalize w.alloc (.cells #[.int .i64 p1, .int .i64 p2] 102) = w at hS ⊢
  refine at_run 1 [] [] [1] [pl 1 (.pointer (some ⟨g1, 0, none⟩))] hF hS (by kernel_rfl) (by kernel_rfl) ?_ (fun a w hF hS => ?_)
  · exact obs_nil
  refine at_end [1] [pl 1 (.pointer (some ⟨g1, 0, none⟩))] hF rfl (by kernel_rfl) (fun hF => ?_)
  refine then_n ?_
  refine reg [⟨false, [], vS (Instr.loadAt 3 (.pointer (some ⟨g1, 0, none⟩))), .int .i64 p1⟩, ⟨false, [(decide (p1 < 0), false)], vS (Instr.loadAt 3 (.pointer (some ⟨g1, 0, none⟩))), .int .i64 p1⟩, ⟨false, [((decide (p1 < 0)) || (decide ((9 : Int) < p1)), false)], vS (Instr.loadAt 3 (.pointer (some ⟨g1, 1, none⟩))), .int .i64 p2⟩, ⟨false, [(((decide (p1 < 0)) || (decide ((9 : Int) < p1))) || (decide (p2 < 0)), false)], vS (Instr.loadAt 3 (.pointer (some ⟨g1, 1, none⟩))), .int .i64 p2⟩] [none, some (.int .i64 p1), none, none, none, some (.int .i64 p1), none, none, none, none, some (.int .i64 p2), none, none, none, none, some (.int .i64 p2), none, none, none] [2] [pl 2 (.bool ((((decide (p1 < 0)) || (decide ((9 : Int) < p1))) || (decide (p2 < 0))) || (decide ((9 : Int) < p2))))] hF hS Fol (by kernel_rfl) (by kernel_rfl) (by kernel_rfl) ?_ (fun a w hF hS => ?_)
  · exact obs_cons (ob_load Agg3 (fun _ _ hS => (hS.at_ 0 rfl).cell rfl)) <| obs_cons (ob_load Agg3 (fun _ _ hS => (hS.at_ 0 rfl).cell rfl)) <| obs_cons (ob_load Agg3 (fun _ _ hS => (hS.at_ 0 rfl).cell rfl)) <| obs_cons (ob_load Agg3 (fun _ _ hS => (hS.at_ 0 rfl).cell rfl)) <| obs_nil
  refine wp_ret ?_
  have hS := hS.pickN 1 [] (by decide)
  have hm : some ((((decide (p1 < 0)) || (decide ((9 : Int) < p1))) || (decide (p2 < 0))) || (decide ((9 : Int) < p2))) = some r := hm
  obtain rfl := Option.some.inj hm
  exact retV (rs := [.tmp 2]) (vs := [.bool ((((decide (p1 < 0)) || (decide ((9 : Int) < p1))) || (decide (p2 < 0))) || (decide ((9 : Int) < p2)))]) hF rfl (rv_t (by kernel_rfl) <| rv_nil) rfl ⟨rfl, hS⟩

noncomputable def slices_IndexFunc_J3 (z1 : Int) : Option (St Int (Fl Unit Int)) :=
  some (.next (w64 (z1 + 1)))

noncomputable def slices_IndexFunc_J2 (s1 : List (Int × Int)) (z1 : Int) : Option (St Int (Fl Unit Int)) :=
  asrt (0 ≤ z1 ∧ z1 < (s1.length : Int)) <| (domino_strange_m ((getd ((0, 0) : (Int × Int)) s1 z1).1) ((getd ((0, 0) : (Int × Int)) s1 z1).2)).bind fun r1 => if r1 then (some (.done (.ret z1))) else ((slices_IndexFunc_J3 z1))

noncomputable def slices_IndexFunc_J1 : Option Int :=
  some (-1)

noncomputable def slices_IndexFunc_K1 : (Fl Unit Int) → Option Int :=
  fun (x : (Fl Unit Int)) => match x with | .go _ => slices_IndexFunc_J1 | .ret x => some x

noncomputable def slices_IndexFunc_L1 (s1 : List (Int × Int)) : Int → Option (St Int (Fl Unit Int)) :=
  fun (x : Int) => match x with | z1 => if (decide (z1 < (s1.length : Int))) then ((slices_IndexFunc_J2 s1 z1)) else (some (.done (.go ())))

noncomputable def slices_IndexFunc_m (s1 : List (Int × Int)) : Option Int :=
  (loop (slices_IndexFunc_L1 s1) 0).bind slices_IndexFunc_K1

set_option maxRecDepth 100000 in
set_option maxHeartbeats 4000000 in
theorem slices_IndexFunc_w {A1 : Option Addr} {c1 : Nat} {n1 : Nat} {s1 : List (Int × Int)} {r : Int} {w0 w : World} {B : Nat} {fs : List HP} (hm : slices_IndexFunc_m s1 = some r) (hS : Sep w0 B w (fs)) (hr_s1 : RdF w0 B fs A1 ((List.flatMap enc102 s1))) (_hc_s1 : s1.length ≤ c1) (_hn_s1 : n1 = s1.length) :
    Calls Try.prog 94 #[.slice A1 n1 c1, .func (.func 76) #[] #[]] w fun e w' => e = .returned (.int .i64 r) ∧ Sep w0 B w' (fs) := by
  obtain ⟨i102, hi102, hz102, hs102, hb102⟩ := info_parts Info102
  obtain rfl := _hn_s1
  unfold slices_IndexFunc_m at hm
  replace hm := start_b hm
  refine enter (l := [.slice A1 s1.length c1, .func (.func 76) #[] #[]]) (n := 19) Try.func94 rfl rfl (by simp) (fun a hF => ?_)
  refine reg [] [] [0, 1] [pl 0 (.slice A1 s1.length c1), pl 1 (.func (.func 76) #[] #[])] hF hS Fol (by kernel_rfl) (by kernel_rfl) (by kernel_rfl) ?_ (fun a w hF hS => ?_)
  · exact obs_nil
  refine seq_cut (fun a w => Fr 19 [] a ∧ Sep w0 B w (fs) ∧ (slices_IndexFunc_J1).bind some = some r) ?_ ?_
  · rintro a w ⟨hF, hS, hm⟩
    unfold slices_IndexFunc_J1 at hm
    refine reg [] [] [4] [pl 4 (.int .i64 (-1))] hF hS Fol (by kernel_rfl) (by kernel_rfl) (by kernel_rfl) ?_ (fun a w hF hS => ?_)
    · exact obs_nil
    refine wp_ret ?_
    have hm : some (-1) = some r := hm
    obtain rfl := Option.some.inj hm
    exact retV (rs := [.tmp 4]) (vs := [.int .i64 (-1)]) hF rfl (rv_t (by kernel_rfl) <| rv_nil) rfl ⟨rfl, hS⟩
  · refine reg [] [] [0, 1, 7, 8] [pl 0 (.slice A1 s1.length c1), pl 1 (.func (.func 76) #[] #[]), pl 7 (.int .i64 (s1.length : Int)), pl 8 (.int .i64 0)] hF hS Fol (by kernel_rfl) (by kernel_rfl) (by kernel_rfl) ?_ (fun a w hF hS => ?_)
    · exact obs_nil
    refine wp_block ?_
    refine wp_loop_model (S := Int) (R := (Fl Unit Int)) (slices_IndexFunc_L1 s1) (fun x => (slices_IndexFunc_K1 x).bind some) r (fun (x : Int) a w => Fr 19 [pl 0 (.slice A1 s1.length c1), pl 1 (.func (.func 76) #[] #[]), pl 7 (.int .i64 (s1.length : Int)), pl 8 (.int .i64 x)] a ∧ Sep w0 B w (fs)) (assoc_b hm) ⟨hF.weak [0, 1, 7, 8] (by kernel_rfl), hS⟩ ?_
    clear hF hS hm
    rintro nn1 z1 a w ⟨hF, hS⟩ hm
    generalize hφ1 : stK (slices_IndexFunc_L1 s1) nn1 (fun x => (slices_IndexFunc_K1 x).bind some) = φ1 at hm
    unfold slices_IndexFunc_L1 at hm
    dsimp only at hm
    refine reg [] [] [0, 1, 7, 8, 9] [pl 0 (.slice A1 s1.length c1), pl 1 (.func (.func 76) #[] #[]), pl 7 (.int .i64 (s1.length : Int)), pl 8 (.int .i64 z1), pl 9 (.bool (decide (z1 < (s1.length : Int))))] hF hS Fol (by kernel_rfl) (by kernel_rfl) (by kernel_rfl) ?_ (fun a w hF hS => ?_)
    · exact obs_nil
    refine seq_cut (fun a w => Fr 19 [pl 0 (.slice A1 s1.length c1), pl 1 (.func (.func 76) #[] #[]), pl 7 (.int .i64 (s1.length : Int)), pl 8 (.int .i64 z1)] a ∧ Sep w0 B w (fs) ∧ ((slices_IndexFunc_J2 s1 z1)).bind φ1 = some r) ?_ ?_
    · rintro a w ⟨hF, hS, hm⟩
      unfold slices_IndexFunc_J2 at hm
      refine seq_cut (fun a w => Fr 19 [pl 0 (.slice A1 s1.length c1), pl 1 (.func (.func 76) #[] #[]), pl 7 (.int .i64 (s1.length : Int)), pl 8 (.int .i64 z1)] a ∧ Sep w0 B w (fs) ∧ ((slices_IndexFunc_J3 z1)).bind φ1 = some r) ?_ ?_
      · rintro a w ⟨hF, hS, hm⟩
        unfold slices_IndexFunc_J3 at hm
        refine reg1 [] [] [0, 1, 7, 8] [pl 0 (.slice A1 s1.length c1), pl 1 (.func (.func 76) #[] #[]), pl 7 (.int .i64 (s1.length : Int)), pl 8 (.int .i64 (w64 (z1 + 1)))] hF hS Fol (by kernel_rfl) (by kernel_rfl) (by kernel_rfl) ?_ (fun a w hF hS => ?_)
        · exact obs_nil
        refine then_n ?_
        rw [← hφ1] at hm
        exact ⟨(w64 (z1 + 1)), ⟨hF.weak [0, 1, 7, 8] (by kernel_rfl), hS⟩, hm⟩
      · refine wp_block ?_
        refine reg [] [] [0, 1, 5, 7, 8] [pl 0 (.slice A1 s1.length c1), pl 1 (.func (.func 76) #[] #[]), pl 5 (.int .i64 z1), pl 7 (.int .i64 (s1.length : Int)), pl 8 (.int .i64 z1)] hF hS Fol (by kernel_rfl) (by kernel_rfl) (by kernel_rfl) ?_ (fun a w hF hS => ?_)
        · exact obs_nil
        obtain ⟨hp1, hm⟩ := asrt_b hm
        obtain ⟨r1, hr1, hm⟩ := call_b hm
        refine reg [⟨true, [], vS (Instr.indexAt 61 (.slice A1 s1.length c1) (.int .i64 z1)), .pointer (some (sAddrK A1 2 z1))⟩, ⟨false, [], vS (Instr.loadAt 102 (.pointer (some (sAddrK A1 2 z1)))), .agg #[.int .i64 ((getd ((0, 0) : (Int × Int)) s1 z1).1), .int .i64 ((getd ((0, 0) : (Int × Int)) s1 z1).2)]⟩, ⟨false, [], callFunc 76 #[.agg #[.int .i64 ((getd ((0, 0) : (Int × Int)) s1 z1).1), .int .i64 ((getd ((0, 0) : (Int × Int)) s1 z1).2)]], .bool r1⟩] [none, none, none, some (.pointer (some (sAddrK A1 2 z1))), some (.agg #[.int .i64 ((getd ((0, 0) : (Int × Int)) s1 z1).1), .int .i64 ((getd ((0, 0) : (Int × Int)) s1 z1).2)]), some (.bool r1)] [0, 1, 5, 7, 8, 16] [pl 0 (.slice A1 s1.length c1), pl 1 (.func (.func 76) #[] #[]), pl 5 (.int .i64 z1), pl 7 (.int .i64 (s1.length : Int)), pl 8 (.int .i64 z1), pl 16 (.bool r1)] hF hS Fol (by kernel_rfl) (by kernel_rfl) (by kernel_rfl) ?_ (fun a w hF hS => ?_)
        · exact obs_cons (ob_ixK (m := s1) encK102 Und61 hi102 hs102 (hr_s1 _ (hS.dropN 0)) rfl (fun _ => hp1)) <| obs_cons (ob_getK (n := s1.length) (m := s1) encK102 ((0, 0) : (Int × Int)) (by kernel_rfl) (by kernel_rfl) (fun _ hS => ⟨_, (hr_s1 _ (hS.dropN 0))⟩) (fun _ hS => rfl) (fun _ => hp1)) <| obs_cons (ob_call Try.func76 (by kernel_rfl) rfl (fun _ _ hS => domino_strange_w hr1 hS )) <| obs_nil
        refine cond_ev (t := 16) (b := r1) hF (by kernel_rfl) (fun hb => ?_) (fun hb => ?_)
        · replace hm := if_t hm hb
          refine reg [] [] [4] [pl 4 (.int .i64 z1)] hF hS Fol (by kernel_rfl) (by kernel_rfl) (by kernel_rfl) ?_ (fun a w hF hS => ?_)
          · exact obs_nil
          refine wp_ret ?_
          refine block_r (then_r (then_r (block_r (then_r ?_))))
          rw [← hφ1] at hm
          replace hm := done_b hm
          unfold slices_IndexFunc_K1 at hm
          try dsimp only at hm
          have hm : some z1 = some r := hm
          obtain rfl := Option.some.inj hm
          exact retV (rs := [.tmp 4]) (vs := [.int .i64 z1]) hF rfl (rv_t (by kernel_rfl) <| rv_nil) rfl ⟨rfl, hS⟩
        · replace hm := if_f hm hb
          refine wp_skip ?_
          refine block_n ?_
          refine then_n ?_
          exact ⟨hF.weak [0, 1, 7, 8] (by kernel_rfl), hS, hm⟩
    · refine cond_ev (t := 9) (b := decide (z1 < (s1.length : Int))) hF (by kernel_rfl) (fun hb => ?_) (fun hb => ?_)
      · replace hm := if_t hm hb
        refine wp_skip ?_
        refine then_n ?_
        exact ⟨hF.weak [0, 1, 7, 8] (by kernel_rfl), hS, hm⟩
      · replace hm := if_f hm hb
        refine wp_exit ?_
        refine then_e (then_e (block_e (then_n ?_)))
        rw [← hφ1] at hm
        replace hm := done_b hm
        unfold slices_IndexFunc_K1 at hm
        try dsimp only at hm
        have hm : (slices_IndexFunc_J1).bind some = some r := hm
        exact ⟨hF.weak [] (by kernel_rfl), hS, hm⟩

noncomputable def slices_ContainsFunc_m (s1 : List (Int × Int)) : Option Bool :=
  (slices_IndexFunc_m s1).bind fun r1 => some (decide ((0 : Int) ≤ r1))

set_option maxRecDepth 100000 in
set_option maxHeartbeats 4000000 in
theorem slices_ContainsFunc_w {A1 : Option Addr} {c1 : Nat} {n1 : Nat} {s1 : List (Int × Int)} {r : Bool} {w0 w : World} {B : Nat} {fs : List HP} (hm : slices_ContainsFunc_m s1 = some r) (hS : Sep w0 B w (fs)) (hr_s1 : RdF w0 B fs A1 ((List.flatMap enc102 s1))) (_hc_s1 : s1.length ≤ c1) (_hn_s1 : n1 = s1.length) :
    Calls Try.prog 75 #[.slice A1 n1 c1, .func (.func 76) #[] #[]] w fun e w' => e = .returned (.bool r) ∧ Sep w0 B w' (fs) := by
  obtain ⟨i102, hi102, hz102, hs102, hb102⟩ := info_parts Info102
  obtain rfl := _hn_s1
  unfold slices_ContainsFunc_m at hm
  replace hm := start_b hm
  refine enter (l := [.slice A1 s1.length c1, .func (.func 76) #[] #[]]) (n := 9) Try.func75 rfl rfl (by simp) (fun a hF => ?_)
  refine reg [] [] [0, 1] [pl 0 (.slice A1 s1.length c1), pl 1 (.func (.func 76) #[] #[])] hF hS Fol (by kernel_rfl) (by kernel_rfl) (by kernel_rfl) ?_ (fun a w hF hS => ?_)
  · exact obs_nil
  obtain ⟨r1, hr1, hm⟩ := call_b hm
  refine reg [⟨false, [], callFunc 94 #[.slice A1 s1.length c1, .func (.func 76) #[] #[]], .int .i64 r1⟩] [none, none, some (.int .i64 r1), none, none] [4] [pl 4 (.bool (decide ((0 : Int) ≤ r1)))] hF hS Fol (by kernel_rfl) (by kernel_rfl) (by kernel_rfl) ?_ (fun a w hF hS => ?_)
  · exact obs_cons (ob_call Try.func94 (by kernel_rfl) rfl (fun _ _ hS => slices_IndexFunc_w hr1 hS (fun _ hS => (hr_s1 _ (hS.dropN 0))) _hc_s1 rfl)) <| obs_nil
  refine wp_ret ?_
  have hm : some (decide ((0 : Int) ≤ r1)) = some r := hm
  obtain rfl := Option.some.inj hm
  exact retV (rs := [.tmp 4]) (vs := [.bool (decide ((0 : Int) ≤ r1))]) hF rfl (rv_t (by kernel_rfl) <| rv_nil) rfl ⟨rfl, hS⟩

noncomputable def domino_Rows_1_J6 (z4 : Int) (z7 : List ((Int × Int) × Int)) (n5 : Int) : Option (St (List ((Int × Int) × Int) × Int × Int) (List ((Int × Int) × Int) × Int)) :=
  some (.next (z7, n5, (w64 (z4 + 1))))

noncomputable def domino_Rows_1_J9 (rec_domino_Rows_1 : Int → Int → List ((Int × Int) × Int) → Option (Int × List ((Int × Int) × Int))) (left1 : Int) (z2 : Int) (z3 : List ((Int × Int) × Int)) (n3 : Int) (z4 : Int) : Option (St (List ((Int × Int) × Int) × Int × Int) (List ((Int × Int) × Int) × Int)) :=
  (rec_domino_Rows_1 z2 (w64 (left1 - 1)) (mput (minI z4 z2, maxI z4 z2) (w64 ((mget (0 : Int) (minI z4 z2, maxI z4 z2) z3) - 1)) z3)).bind fun r1 => (domino_Rows_1_J6 z4) (mput (minI z4 z2, maxI z4 z2) (w64 ((mget (0 : Int) (minI z4 z2, maxI z4 z2) r1.2) + 1)) r1.2) (w64 (n3 + r1.1))

noncomputable def domino_Rows_1_J7 (rec_domino_Rows_1 : Int → Int → List ((Int × Int) × Int) → Option (Int × List ((Int × Int) × Int))) (left1 : Int) (z2 : Int) (z3 : List ((Int × Int) × Int)) (n3 : Int) (z4 : Int) : Option (St (List ((Int × Int) × Int) × Int × Int) (List ((Int × Int) × Int) × Int)) :=
  (domino_Rows_1_J9 rec_domino_Rows_1 left1 z2 z3 n3 z4)

noncomputable def domino_Rows_1_J8 (rec_domino_Rows_1 : Int → Int → List ((Int × Int) × Int) → Option (Int × List ((Int × Int) × Int))) (left1 : Int) (z2 : Int) (z3 : List ((Int × Int) × Int)) (n3 : Int) (z4 : Int) (z6 : Bool) : Option (St (List ((Int × Int) × Int) × Int × Int) (List ((Int × Int) × Int) × Int)) :=
  if z6 then ((domino_Rows_1_J6 z4) z3 n3) else ((domino_Rows_1_J7 rec_domino_Rows_1 left1 z2 z3 n3 z4))

noncomputable def domino_Rows_1_J5 (rec_domino_Rows_1 : Int → Int → List ((Int × Int) × Int) → Option (Int × List ((Int × Int) × Int))) (end1 : Int) (left1 : Int) (z2 : Int) (z3 : List ((Int × Int) × Int)) (n3 : Int) (z4 : Int) : Option (St (List ((Int × Int) × Int) × Int × Int) (List ((Int × Int) × Int) × Int)) :=
  if ((decide ((0 : Int) ≤ end1)) && (z4 != end1)) then ((domino_Rows_1_J8 rec_domino_Rows_1 left1 z2 z3 n3 z4) (((decide ((0 : Int) ≤ end1)) && (z4 != end1)) || ((0 : Int) == 0))) else ((domino_Rows_1_J8 rec_domino_Rows_1 left1 z2 z3 n3 z4) (((decide ((0 : Int) ≤ end1)) && (z4 != end1)) || ((mget (0 : Int) (minI z4 z2, maxI z4 z2) z3) == 0)))

noncomputable def domino_Rows_1_J4 (z2 : Int) (z5 : List ((Int × Int) × Int)) (n4 : Int) : Option (St (List ((Int × Int) × Int) × Int × Int) (Int × List ((Int × Int) × Int))) :=
  some (.next (z5, n4, (w64 (z2 + 1))))

noncomputable def domino_Rows_1_K2 (z2 : Int) : (List ((Int × Int) × Int) × Int) → Option (St (List ((Int × Int) × Int) × Int × Int) (Int × List ((Int × Int) × Int))) :=
  fun (x : (List ((Int × Int) × Int) × Int)) => match x with | (z5, n4) => (domino_Rows_1_J4 z2) z5 n4

noncomputable def domino_Rows_1_L2 (rec_domino_Rows_1 : Int → Int → List ((Int × Int) × Int) → Option (Int × List ((Int × Int) × Int))) (end1 : Int) (left1 : Int) (z2 : Int) : (List ((Int × Int) × Int) × Int × Int) → Option (St (List ((Int × Int) × Int) × Int × Int) (List ((Int × Int) × Int) × Int)) :=
  fun (x : (List ((Int × Int) × Int) × Int × Int)) => match x with | (z3, n3, z4) => if (decide (z4 < 10)) then ((domino_Rows_1_J5 rec_domino_Rows_1 end1 left1 z2 z3 n3 z4)) else (some (.done (z3, n3)))

noncomputable def domino_Rows_1_J3 (rec_domino_Rows_1 : Int → Int → List ((Int × Int) × Int) → Option (Int × List ((Int × Int) × Int))) (end1 : Int) (left1 : Int) (z1 : List ((Int × Int) × Int)) (n1 : Int) (z2 : Int) : Option (St (List ((Int × Int) × Int) × Int × Int) (Int × List ((Int × Int) × Int))) :=
  (loop (domino_Rows_1_L2 rec_domino_Rows_1 end1 left1 z2) (z1, n1, 0)).bind (domino_Rows_1_K2 z2)

noncomputable def domino_Rows_1_J2 (n2 : Int) (p23 : List ((Int × Int) × Int)) : Option (Int × List ((Int × Int) × Int)) :=
  some (n2, p23)

noncomputable def domino_Rows_1_K1 : (Int × List ((Int × Int) × Int)) → Option (Int × List ((Int × Int) × Int)) :=
  fun (x : (Int × List ((Int × Int) × Int))) => match x with | (n2, p23) => domino_Rows_1_J2 n2 p23

noncomputable def domino_Rows_1_L1 (rec_domino_Rows_1 : Int → Int → List ((Int × Int) × Int) → Option (Int × List ((Int × Int) × Int))) (end1 : Int) (left1 : Int) : (List ((Int × Int) × Int) × Int × Int) → Option (St (List ((Int × Int) × Int) × Int × Int) (Int × List ((Int × Int) × Int))) :=
  fun (x : (List ((Int × Int) × Int) × Int × Int)) => match x with | (z1, n1, z2) => if (decide (z2 < 10)) then ((domino_Rows_1_J3 rec_domino_Rows_1 end1 left1 z1 n1 z2)) else (some (.done (n1, z1)))

noncomputable def domino_Rows_1_J1 (rec_domino_Rows_1 : Int → Int → List ((Int × Int) × Int) → Option (Int × List ((Int × Int) × Int))) (end1 : Int) (left1 : Int) (p21 : List ((Int × Int) × Int)) : Option (Int × List ((Int × Int) × Int)) :=
  (loop (domino_Rows_1_L1 rec_domino_Rows_1 end1 left1) (p21, 0, 0)).bind domino_Rows_1_K1

noncomputable def domino_Rows_1_B (rec_domino_Rows_1 : Int → Int → List ((Int × Int) × Int) → Option (Int × List ((Int × Int) × Int))) (end1 : Int) (left1 : Int) (p21 : List ((Int × Int) × Int)) : Option (Int × List ((Int × Int) × Int)) :=
  if (left1 == 0) then (some (1, p21)) else ((domino_Rows_1_J1 rec_domino_Rows_1 end1 left1 p21))

noncomputable def domino_Rows_1_mF : Nat → Int → Int → List ((Int × Int) × Int) → Option (Int × List ((Int × Int) × Int))
  | 0 => fun _ _ _ => none
  | n + 1 => fun end1 left1 p21 => domino_Rows_1_B (domino_Rows_1_mF n) end1 left1 p21

noncomputable def domino_Rows_1_m (end1 : Int) (left1 : Int) (p21 : List ((Int × Int) × Int)) : Option (Int × List ((Int × Int) × Int)) :=
  recM fun n => domino_Rows_1_mF n end1 left1 p21

set_option maxRecDepth 100000 in
set_option maxHeartbeats 4000000 in
theorem domino_Rows_1_wB {rec_domino_Rows_1 : Int → Int → List ((Int × Int) × Int) → Option (Int × List ((Int × Int) × Int))} (ih_domino_Rows_1 : ∀ {end1 : Int} {left1 : Int} {g1 : Nat} {g2 : Nat} {p21 : List ((Int × Int) × Int)} {g3 : Nat} {r : (Int × List ((Int × Int) × Int))} {w0 w : World} {B : Nat} {fs : List HP} (_ : rec_domino_Rows_1 end1 left1 p21 = some r) (_ : Sep w0 B w (blk g1 105 #[.map (some g2)] :: mapH kf102 (Value.int .i64) g2 p21 :: blk g3 86 #[.func (.func 77) #[] #[.pointer (some ⟨g1, 0, none⟩), .pointer (some ⟨g3, 0, none⟩)]] :: fs)), Calls Try.prog 77 #[.int .i64 end1, .int .i64 left1, .pointer (some ⟨g1, 0, none⟩), .pointer (some ⟨g3, 0, none⟩)] w fun e w' => ∃ v, e = .returned v ∧ v = .int .i64 r.1 ∧ Sep w0 B w' (blk g1 105 #[.map (some g2)] :: mapH kf102 (Value.int .i64) g2 r.2 :: blk g3 86 #[.func (.func 77) #[] #[.pointer (some ⟨g1, 0, none⟩), .pointer (some ⟨g3, 0, none⟩)]] :: fs)) {end1 : Int} {left1 : Int} {g1 : Nat} {g2 : Nat} {p21 : List ((Int × Int) × Int)} {g3 : Nat} {r : (Int × List ((Int × Int) × Int))} {w0 w : World} {B : Nat} {fs : List HP} (hm : domino_Rows_1_B rec_domino_Rows_1 end1 left1 p21 = some r) (hS : Sep w0 B w (blk g1 105 #[.map (some g2)] :: mapH kf102 (Value.int .i64) g2 p21 :: blk g3 86 #[.func (.func 77) #[] #[.pointer (some ⟨g1, 0, none⟩), .pointer (some ⟨g3, 0, none⟩)]] :: fs)) :
    Calls Try.prog 77 #[.int .i64 end1, .int .i64 left1, .pointer (some ⟨g1, 0, none⟩), .pointer (some ⟨g3, 0, none⟩)] w fun e w' => ∃ v, e = .returned v ∧ v = .int .i64 r.1 ∧ Sep w0 B w' (blk g1 105 #[.map (some g2)] :: mapH kf102 (Value.int .i64) g2 r.2 :: blk g3 86 #[.func (.func 77) #[] #[.pointer (some ⟨g1, 0, none⟩), .pointer (some ⟨g3, 0, none⟩)]] :: fs) := by
  unfold domino_Rows_1_B at hm
  replace hm := start_b hm
  refine enter (l := [.int .i64 end1, .int .i64 left1, .pointer (some ⟨g1, 0, none⟩), .pointer (some ⟨g3, 0, none⟩)]) (n := 61) Try.func77 rfl rfl (by simp) (fun a hF => ?_)
  refine reg [] [] [0, 1, 2, 3] [pl 0 (.int .i64 end1), pl 1 (.int .i64 left1), pl 2 (.pointer (some ⟨g1, 0, none⟩)), pl 3 (.pointer (some ⟨g3, 0, none⟩))] hF hS Fol (by kernel_rfl) (by kernel_rfl) (by kernel_rfl) ?_ (fun a w hF hS => ?_)
  · exact obs_nil
  refine seq_cut (fun a w => Fr 61 [pl 0 (.int .i64 end1), pl 1 (.int .i64 left1), pl 2 (.pointer (some ⟨g1, 0, none⟩)), pl 3 (.pointer (some ⟨g3, 0, none⟩))] a ∧ Sep w0 B w (blk g1 105 #[.map (some g2)] :: mapH kf102 (Value.int .i64) g2 p21 :: blk g3 86 #[.func (.func 77) #[] #[.pointer (some ⟨g1, 0, none⟩), .pointer (some ⟨g3, 0, none⟩)]] :: fs) ∧ ((domino_Rows_1_J1 rec_domino_Rows_1 end1 left1 p21)).bind some = some r) ?_ ?_
  · rintro a w ⟨hF, hS, hm⟩
    unfold domino_Rows_1_J1 at hm
    refine reg [] [] [0, 1, 2, 3, 7] [pl 0 (.int .i64 end1), pl 1 (.int .i64 left1), pl 2 (.pointer (some ⟨g1, 0, none⟩)), pl 3 (.pointer (some ⟨g3, 0, none⟩)), pl 7 (.int .i64 0)] hF hS Fol (by kernel_rfl) (by kernel_rfl) (by kernel_rfl) ?_ (fun a w hF hS => ?_)
    · exact obs_nil
    refine seq_cut (fun a w => ∃ (n2 : Int) (p23 : List ((Int × Int) × Int)), Fr 61 [pl 7 (.int .i64 n2)] a ∧ Sep w0 B w (blk g1 105 #[.map (some g2)] :: mapH kf102 (Value.int .i64) g2 p23 :: blk g3 86 #[.func (.func 77) #[] #[.pointer (some ⟨g1, 0, none⟩), .pointer (some ⟨g3, 0, none⟩)]] :: fs) ∧ (domino_Rows_1_J2 n2 p23).bind some = some r) ?_ ?_
    · rintro a w ⟨n2, p23, hF, hS, hm⟩
      unfold domino_Rows_1_J2 at hm
      refine reg [] [] [6] [pl 6 (.int .i64 n2)] hF hS Fol (by kernel_rfl) (by kernel_rfl) (by kernel_rfl) ?_ (fun a w hF hS => ?_)
      · exact obs_nil
      refine wp_ret ?_
      have hm : some (n2, p23) = some r := hm
      obtain rfl := Option.some.inj hm
      exact retV (rs := [.tmp 6]) (vs := [.int .i64 n2]) hF rfl (rv_t (by kernel_rfl) <| rv_nil) rfl ⟨_, rfl, rfl, hS⟩
    · refine reg [] [] [0, 1, 2, 3, 7, 13] [pl 0 (.int .i64 end1), pl 1 (.int .i64 left1), pl 2 (.pointer (some ⟨g1, 0, none⟩)), pl 3 (.pointer (some ⟨g3, 0, none⟩)), pl 7 (.int .i64 0), pl 13 (.int .i64 0)] hF hS Fol (by kernel_rfl) (by kernel_rfl) (by kernel_rfl) ?_ (fun a w hF hS => ?_)
      · exact obs_nil
      refine wp_block ?_
      refine wp_loop_model (S := (List ((Int × Int) × Int) × Int × Int)) (R := (Int × List ((Int × Int) × Int))) (domino_Rows_1_L1 rec_domino_Rows_1 end1 left1) (fun x => (domino_Rows_1_K1 x).bind some) r (fun (x : (List ((Int × Int) × Int) × Int × Int)) a w => Fr 61 [pl 0 (.int .i64 end1), pl 1 (.int .i64 left1), pl 2 (.pointer (some ⟨g1, 0, none⟩)), pl 3 (.pointer (some ⟨g3, 0, none⟩)), pl 7 (.int .i64 x.2.1), pl 13 (.int .i64 x.2.2)] a ∧ Sep w0 B w (blk g1 105 #[.map (some g2)] :: mapH kf102 (Value.int .i64) g2 x.1 :: blk g3 86 #[.func (.func 77) #[] #[.pointer (some ⟨g1, 0, none⟩), .pointer (some ⟨g3, 0, none⟩)]] :: fs)) (assoc_b hm) ⟨hF.weak [0, 1, 2, 3, 7, 13] (by kernel_rfl), hS⟩ ?_
      clear hF hS hm
      rintro nn1 ⟨z1, n1, z2⟩ a w ⟨hF, hS⟩ hm
      generalize hφ1 : stK (domino_Rows_1_L1 rec_domino_Rows_1 end1 left1) nn1 (fun x => (domino_Rows_1_K1 x).bind some) = φ1 at hm
      unfold domino_Rows_1_L1 at hm
      dsimp only at hF hS hm
      refine reg [] [] [0, 1, 2, 3, 7, 13, 14] [pl 0 (.int .i64 end1), pl 1 (.int .i64 left1), pl 2 (.pointer (some ⟨g1, 0, none⟩)), pl 3 (.pointer (some ⟨g3, 0, none⟩)), pl 7 (.int .i64 n1), pl 13 (.int .i64 z2), pl 14 (.bool (decide (z2 < 10)))] hF hS Fol (by kernel_rfl) (by kernel_rfl) (by kernel_rfl) ?_ (fun a w hF hS => ?_)
      · exact obs_nil
      refine seq_cut (fun a w => Fr 61 [pl 0 (.int .i64 end1), pl 1 (.int .i64 left1), pl 2 (.pointer (some ⟨g1, 0, none⟩)), pl 3 (.pointer (some ⟨g3, 0, none⟩)), pl 7 (.int .i64 n1), pl 13 (.int .i64 z2)] a ∧ Sep w0 B w (blk g1 105 #[.map (some g2)] :: mapH kf102 (Value.int .i64) g2 z1 :: blk g3 86 #[.func (.func 77) #[] #[.pointer (some ⟨g1, 0, none⟩), .pointer (some ⟨g3, 0, none⟩)]] :: fs) ∧ ((domino_Rows_1_J3 rec_domino_Rows_1 end1 left1 z1 n1 z2)).bind φ1 = some r) ?_ ?_
      · rintro a w ⟨hF, hS, hm⟩
        unfold domino_Rows_1_J3 at hm
        refine seq_cut (fun a w => ∃ (z5 : List ((Int × Int) × Int)) (n4 : Int), Fr 61 [pl 0 (.int .i64 end1), pl 1 (.int .i64 left1), pl 2 (.pointer (some ⟨g1, 0, none⟩)), pl 3 (.pointer (some ⟨g3, 0, none⟩)), pl 7 (.int .i64 n4), pl 13 (.int .i64 z2)] a ∧ Sep w0 B w (blk g1 105 #[.map (some g2)] :: mapH kf102 (Value.int .i64) g2 z5 :: blk g3 86 #[.func (.func 77) #[] #[.pointer (some ⟨g1, 0, none⟩), .pointer (some ⟨g3, 0, none⟩)]] :: fs) ∧ ((domino_Rows_1_J4 z2) z5 n4).bind φ1 = some r) ?_ ?_
        · rintro a w ⟨z5, n4, hF, hS, hm⟩
          unfold domino_Rows_1_J4 at hm
          refine reg1 [] [] [0, 1, 2, 3, 7, 13] [pl 0 (.int .i64 end1), pl 1 (.int .i64 left1), pl 2 (.pointer (some ⟨g1, 0, none⟩)), pl 3 (.pointer (some ⟨g3, 0, none⟩)), pl 7 (.int .i64 n4), pl 13 (.int .i64 (w64 (z2 + 1)))] hF hS Fol (by kernel_rfl) (by kernel_rfl) (by kernel_rfl) ?_ (fun a w hF hS => ?_)
          · exact obs_nil
          refine then_n ?_
          rw [← hφ1] at hm
          exact ⟨(z5, n4, (w64 (z2 + 1))), ⟨hF.weak [0, 1, 2, 3, 7, 13] (by kernel_rfl), hS⟩, hm⟩
        · refine wp_block ?_
          refine reg [] [] [0, 1, 2, 3, 7, 8, 13] [pl 0 (.int .i64 end1), pl 1 (.int .i64 left1), pl 2 (.pointer (some ⟨g1, 0, none⟩)), pl 3 (.pointer (some ⟨g3, 0, none⟩)), pl 7 (.int .i64 n1), pl 8 (.int .i64 z2), pl 13 (.int .i64 z2)] hF hS Fol (by kernel_rfl) (by kernel_rfl) (by kernel_rfl) ?_ (fun a w hF hS => ?_)
          · exact obs_nil
          refine reg [] [] [0, 1, 2, 3, 7, 8, 13, 16] [pl 0 (.int .i64 end1), pl 1 (.int .i64 left1), pl 2 (.pointer (some ⟨g1, 0, none⟩)), pl 3 (.pointer (some ⟨g3, 0, none⟩)), pl 7 (.int .i64 n1), pl 8 (.int .i64 z2), pl 13 (.int .i64 z2), pl 16 (.int .i64 0)] hF hS Fol (by kernel_rfl) (by kernel_rfl) (by kernel_rfl) ?_ (fun a w hF hS => ?_)
          · exact obs_nil
          refine wp_block ?_
          refine wp_loop_model (S := (List ((Int × Int) × Int) × Int × Int)) (R := (List ((Int × Int) × Int) × Int)) (domino_Rows_1_L2 rec_domino_Rows_1 end1 left1 z2) (fun x => ((domino_Rows_1_K2 z2) x).bind φ1) r (fun (x : (List ((Int × Int) × Int) × Int × Int)) a w => Fr 61 [pl 0 (.int .i64 end1), pl 1 (.int .i64 left1), pl 2 (.pointer (some ⟨g1, 0, none⟩)), pl 3 (.pointer (some ⟨g3, 0, none⟩)), pl 7 (.int .i64 x.2.1), pl 8 (.int .i64 z2), pl 13 (.int .i64 z2), pl 16 (.int .i64 x.2.2)] a ∧ Sep w0 B w (blk g1 105 #[.map (some g2)] :: mapH kf102 (Value.int .i64) g2 x.1 :: blk g3 86 #[.func (.func 77) #[] #[.pointer (some ⟨g1, 0, none⟩), .pointer (some ⟨g3, 0, none⟩)]] :: fs)) (assoc_b hm) ⟨hF.weak [0, 1, 2, 3, 7, 8, 13, 16] (by kernel_rfl), hS⟩ ?_
          clear hF hS hm
          rintro nn2 ⟨z3, n3, z4⟩ a w ⟨hF, hS⟩ hm
          generalize hφ2 : stK (domino_Rows_1_L2 rec_domino_Rows_1 end1 left1 z2) nn2 (fun x => ((domino_Rows_1_K2 z2) x).bind φ1) = φ2 at hm
          unfold domino_Rows_1_L2 at hm
          dsimp only at hF hS hm
          refine reg [] [] [0, 1, 2, 3, 7, 8, 13, 16, 17] [pl 0 (.int .i64 end1), pl 1 (.int .i64 left1), pl 2 (.pointer (some ⟨g1, 0, none⟩)), pl 3 (.pointer (some ⟨g3, 0, none⟩)), pl 7 (.int .i64 n3), pl 8 (.int .i64 z2), pl 13 (.int .i64 z2), pl 16 (.int .i64 z4), pl 17 (.bool (decide (z4 < 10)))] hF hS Fol (by kernel_rfl) (by kernel_rfl) (by kernel_rfl) ?_ (fun a w hF hS => ?_)
          · exact obs_nil
          refine seq_cut (fun a w => Fr 61 [pl 0 (.int .i64 end1), pl 1 (.int .i64 left1), pl 2 (.pointer (some ⟨g1, 0, none⟩)), pl 3 (.pointer (some ⟨g3, 0, none⟩)), pl 7 (.int .i64 n3), pl 8 (.int .i64 z2), pl 13 (.int .i64 z2), pl 16 (.int .i64 z4)] a ∧ Sep w0 B w (blk g1 105 #[.map (some g2)] :: mapH kf102 (Value.int .i64) g2 z3 :: blk g3 86 #[.func (.func 77) #[] #[.pointer (some ⟨g1, 0, none⟩), .pointer (some ⟨g3, 0, none⟩)]] :: fs) ∧ ((domino_Rows_1_J5 rec_domino_Rows_1 end1 left1 z2 z3 n3 z4)).bind φ2 = some r) ?_ ?_
          · rintro a w ⟨hF, hS, hm⟩
            unfold domino_Rows_1_J5 at hm
            refine seq_cut (fun a w => ∃ (z7 : List ((Int × Int) × Int)) (n5 : Int), Fr 61 [pl 0 (.int .i64 end1), pl 1 (.int .i64 left1), pl 2 (.pointer (some ⟨g1, 0, none⟩)), pl 3 (.pointer (some ⟨g3, 0, none⟩)), pl 7 (.int .i64 n5), pl 8 (.int .i64 z2), pl 13 (.int .i64 z2), pl 16 (.int .i64 z4)] a ∧ Sep w0 B w (blk g1 105 #[.map (some g2)] :: mapH kf102 (Value.int .i64) g2 z7 :: blk g3 86 #[.func (.func 77) #[] #[.pointer (some ⟨g1, 0, none⟩), .pointer (some ⟨g3, 0, none⟩)]] :: fs) ∧ ((domino_Rows_1_J6 z4) z7 n5).bind φ2 = some r) ?_ ?_
            · rintro a w ⟨z7, n5, hF, hS, hm⟩
              unfold domino_Rows_1_J6 at hm
              refine reg1 [] [] [0, 1, 2, 3, 7, 8, 13, 16] [pl 0 (.int .i64 end1), pl 1 (.int .i64 left1), pl 2 (.pointer (some ⟨g1, 0, none⟩)), pl 3 (.pointer (some ⟨g3, 0, none⟩)), pl 7 (.int .i64 n5), pl 8 (.int .i64 z2), pl 13 (.int .i64 z2), pl 16 (.int .i64 (w64 (z4 + 1)))] hF hS Fol (by kernel_rfl) (by kernel_rfl) (by kernel_rfl) ?_ (fun a w hF hS => ?_)
              · exact obs_nil
              refine then_n ?_
              rw [← hφ2] at hm
              exact ⟨(z7, n5, (w64 (z4 + 1))), ⟨hF.weak [0, 1, 2, 3, 7, 8, 13, 16] (by kernel_rfl), hS⟩, hm⟩
            · refine wp_block ?_
              refine reg [] [] [0, 1, 2, 3, 7, 8, 9, 13, 16] [pl 0 (.int .i64 end1), pl 1 (.int .i64 left1), pl 2 (.pointer (some ⟨g1, 0, none⟩)), pl 3 (.pointer (some ⟨g3, 0, none⟩)), pl 7 (.int .i64 n3), pl 8 (.int .i64 z2), pl 9 (.int .i64 z4), pl 13 (.int .i64 z2), pl 16 (.int .i64 z4)] hF hS Fol (by kernel_rfl) (by kernel_rfl) (by kernel_rfl) ?_ (fun a w hF hS => ?_)
              · exact obs_nil
              refine seqR ?_
              refine at_run 7 [⟨true, [], vS (Builtin.min_ #[3, 3] 3 #[.int .i64 z4, .int .i64 z2]), .int .i64 (minI z4 z2)⟩, ⟨true, [], vS (Builtin.max_ #[3, 3] 3 #[.int .i64 z4, .int .i64 z2]), .int .i64 (maxI z4 z2)⟩] [none, none, some (.int .i64 (minI z4 z2)), none, none, some (.int .i64 (maxI z4 z2)), none] [0, 1, 2, 3, 7, 8, 9, 13, 16, 25] [pl 0 (.int .i64 end1), pl 1 (.int .i64 left1), pl 2 (.pointer (some ⟨g1, 0, none⟩)), pl 3 (.pointer (some ⟨g3, 0, none⟩)), pl 7 (.int .i64 n3), pl 8 (.int .i64 z2), pl 9 (.int .i64 z4), pl 13 (.int .i64 z2), pl 16 (.int .i64 z4), pl 25 (.agg #[.int .i64 (minI z4 z2), .int .i64 (maxI z4 z2)])] hF hS (by kernel_rfl) (by kernel_rfl) ?_ (fun a w hF hS => ?_)
              · exact obs_cons (ob_min rfl) <| obs_cons (ob_max rfl) <| obs_nil
              refine at_do (d := 10) (s := vS (Instr.alloc 102 true (.tuple #[]))) (v := .pointer (some ⟨w.heap.size, 0, none⟩)) (w' := w.alloc (.cells #[.int .i64 0, .int .i64 0] 102)) hF (by kernel_rfl) (by kernel_rfl) (by kernel_rfl) (fun a hF => ?_)
              have hS : Sep w0 B (w.alloc (.cells #[.int .i64 0, .int .i64 0] 102)) (blk w.heap.size 102 #[.int .i64 0, .int .i64 0] :: (blk g1 105 #[.map (some g2)] :: mapH kf102 (Value.int .i64) g2 z3 :: blk g3 86 #[.func (.func 77) #[] #[.pointer (some ⟨g1, 0, none⟩), .pointer (some ⟨g3, 0, none⟩)]] :: fs)) := hS.box 102 #[.int .i64 0, .int .i64 0]
              generalize w.heap.size = g4 at hF hS
              generalize w.alloc (.cells #[.int .i64 0, .int .i64 0] 102) = w at hS ⊢
              obtain ⟨w, hrun, hS⟩ := run_putA (P := Try.prog) (t := 102) (us := #[.int .i64 (minI z4 z2), .int .i64 (maxI z4 z2)]) (o := 0) (hS.at_ 0 rfl) (by kernel_rfl) (all_one (by kernel_rfl)) (Nat.le_of_ble_eq_true (by kernel_rfl))
              refine at_skip hF (by kernel_rfl) hrun ?_
              have hS : Sep w0 B w (blk g4 102 #[.int .i64 (minI z4 z2), .int .i64 (maxI z4 z2)] :: blk g1 105 #[.map (some g2)] :: mapH kf102 (Value.int .i64) g2 z3 :: blk g3 86 #[.func (.func 77) #[] #[.pointer (some ⟨g1, 0, none⟩), .pointer (some ⟨g3, 0, none⟩)]] :: fs) := hS
              refine at_end [0, 1, 2, 3, 7, 8, 9, 10, 13, 16] [pl 0 (.int .i64 end1), pl 1 (.int .i64 left1), pl 2 (.pointer (some ⟨g1, 0, none⟩)), pl 3 (.pointer (some ⟨g3, 0, none⟩)), pl 7 (.int .i64 n3), pl 8 (.int .i64 z2), pl 9 (.int .i64 z4), pl 10 (.pointer (some ⟨g4, 0, none⟩)), pl 13 (.int .i64 z2), pl 16 (.int .i64 z4)] hF rfl (by kernel_rfl) (fun hF => ?_)
              refine then_n ?_
              refine seq_cut (fun a w => Fr 61 [pl 0 (.int .i64 end1), pl 1 (.int .i64 left1), pl 2 (.pointer (some ⟨g1, 0, none⟩)), pl 3 (.pointer (some ⟨g3, 0, none⟩)), pl 7 (.int .i64 n3), pl 8 (.int .i64 z2), pl 10 (.pointer (some ⟨g4, 0, none⟩)), pl 13 (.int .i64 z2), pl 16 (.int .i64 z4)] a ∧ Sep w0 B w (blk g1 105 #[.map (some g2)] :: mapH kf102 (Value.int .i64) g2 z3 :: blk g3 86 #[.func (.func 77) #[] #[.pointer (some ⟨g1, 0, none⟩), .pointer (some ⟨g3, 0, none⟩)]] :: blk g4 102 #[.int .i64 (minI z4 z2), .int .i64 (maxI z4 z2)] :: fs) ∧ ((domino_Rows_1_J7 rec_domino_Rows_1 left1 z2 z3 n3 z4)).bind φ2 = some r) ?_ ?_
              · rintro a w ⟨hF, hS, hm⟩
                unfold domino_Rows_1_J7 at hm
                refine seq_cut (fun a w => Fr 61 [pl 0 (.int .i64 end1), pl 1 (.int .i64 left1), pl 2 (.pointer (some ⟨g1, 0, none⟩)), pl 3 (.pointer (some ⟨g3, 0, none⟩)), pl 7 (.int .i64 n3), pl 8 (.int .i64 z2), pl 10 (.pointer (some ⟨g4, 0, none⟩)), pl 13 (.int .i64 z2), pl 16 (.int .i64 z4)] a ∧ Sep w0 B w (blk g1 105 #[.map (some g2)] :: mapH kf102 (Value.int .i64) g2 (mput (minI z4 z2, maxI z4 z2) (w64 ((mget (0 : Int) (minI z4 z2, maxI z4 z2) z3) - 1)) z3) :: blk g3 86 #[.func (.func 77) #[] #[.pointer (some ⟨g1, 0, none⟩), .pointer (some ⟨g3, 0, none⟩)]] :: blk g4 102 #[.int .i64 (minI z4 z2), .int .i64 (maxI z4 z2)] :: fs) ∧ ((domino_Rows_1_J9 rec_domino_Rows_1 left1 z2 z3 n3 z4)).bind φ2 = some r) ?_ ?_
                · rintro a w ⟨hF, hS, hm⟩
                  unfold domino_Rows_1_J9 at hm
                  refine seqR ?_
                  obtain ⟨r1, hr1, hm⟩ := call_b hm
                  refine at_run 5 [⟨false, [], vS (Instr.loadAt 86 (.pointer (some ⟨g3, 0, none⟩))), .func (.func 77) #[] #[.pointer (some ⟨g1, 0, none⟩), .pointer (some ⟨g3, 0, none⟩)]⟩] [none, some (.func (.func 77) #[] #[.pointer (some ⟨g1, 0, none⟩), .pointer (some ⟨g3, 0, none⟩)]), none, none, none] [0, 1, 2, 3, 8, 10, 13, 16, 45, 46, 47, 49] [pl 0 (.int .i64 end1), pl 1 (.int .i64 left1), pl 2 (.pointer (some ⟨g1, 0, none⟩)), pl 3 (.pointer (some ⟨g3, 0, none⟩)), pl 8 (.int .i64 z2), pl 10 (.pointer (some ⟨g4, 0, none⟩)), pl 13 (.int .i64 z2), pl 16 (.int .i64 z4), pl 45 (.int .i64 n3), pl 46 (.func (.func 77) #[] #[.pointer (some ⟨g1, 0, none⟩), .pointer (some ⟨g3, 0, none⟩)]), pl 47 (.int .i64 z2), pl 49 (.int .i64 (w64 (left1 - 1)))] hF hS (by kernel_rfl) (by kernel_rfl) ?_ (fun a w hF hS => ?_)
                  · exact obs_cons (ob_load Agg86 (fun _ _ hS => (hS.at_ 2 rfl).cell rfl)) <| obs_nil
                  refine at_call (f := 77) (args := #[.int .i64 z2, .int .i64 (w64 (left1 - 1)), .pointer (some ⟨g1, 0, none⟩), .pointer (some ⟨g3, 0, none⟩)]) (d := 50) hF (by kernel_rfl) (by kernel_rfl) Try.func77 (by kernel_rfl) rfl (ih_domino_Rows_1 hr1 hS ) (fun v a w hR hF => ?_)
                  clear hS
                  obtain ⟨rfl, hS⟩ := hR
                  have hS : Sep w0 B w (blk g1 105 #[.map (some g2)] :: mapH kf102 (Value.int .i64) g2 r1.2 :: blk g3 86 #[.func (.func 77) #[] #[.pointer (some ⟨g1, 0, none⟩), .pointer (some ⟨g3, 0, none⟩)]] :: blk g4 102 #[.int .i64 (minI z4 z2), .int .i64 (maxI z4 z2)] :: fs) := hS
                  refine at_run 2 [] [] [0, 1, 2, 3, 7, 8, 10, 13, 16] [pl 0 (.int .i64 end1), pl 1 (.int .i64 left1), pl 2 (.pointer (some ⟨g1, 0, none⟩)), pl 3 (.pointer (some ⟨g3, 0, none⟩)), pl 7 (.int .i64 (w64 (n3 + r1.1))), pl 8 (.int .i64 z2), pl 10 (.pointer (some ⟨g4, 0, none⟩)), pl 13 (.int .i64 z2), pl 16 (.int .i64 z4)] hF hS (by kernel_rfl) (by kernel_rfl) ?_ (fun a w hF hS => ?_)
                  · exact obs_nil
                  refine at_end [0, 1, 2, 3, 7, 8, 10, 13, 16] [pl 0 (.int .i64 end1), pl 1 (.int .i64 left1), pl 2 (.pointer (some ⟨g1, 0, none⟩)), pl 3 (.pointer (some ⟨g3, 0, none⟩)), pl 7 (.int .i64 (w64 (n3 + r1.1))), pl 8 (.int .i64 z2), pl 10 (.pointer (some ⟨g4, 0, none⟩)), pl 13 (.int .i64 z2), pl 16 (.int .i64 z4)] hF rfl (by kernel_rfl) (fun hF => ?_)
                  refine then_n ?_
                  refine regMix5 [0, 1] [4, 6] 5 #[true, true, false, false, false, false, false] [⟨false, [], vS (Instr.loadAt 105 (.pointer (some ⟨g1, 0, none⟩))), .map (some g2)⟩, ⟨false, [], vS (Instr.loadAt 102 (.pointer (some ⟨g4, 0, none⟩))), .agg #[.int .i64 (minI z4 z2), .int .i64 (maxI z4 z2)]⟩] [some (.map (some g2)), some (.agg #[.int .i64 (minI z4 z2), .int .i64 (maxI z4 z2)])] [0, 1, 2, 3, 7, 8, 13, 16, 52, 53] [pl 0 (.int .i64 end1), pl 1 (.int .i64 left1), pl 2 (.pointer (some ⟨g1, 0, none⟩)), pl 3 (.pointer (some ⟨g3, 0, none⟩)), pl 7 (.int .i64 (w64 (n3 + r1.1))), pl 8 (.int .i64 z2), pl 13 (.int .i64 z2), pl 16 (.int .i64 z4), pl 52 (.map (some g2)), pl 53 (.agg #[.int .i64 (minI z4 z2), .int .i64 (maxI z4 z2)])] hF hS Fol (by kernel_rfl) (by kernel_rfl) (by kernel_rfl) (by kernel_rfl) ?_ (fun a w hF hS => ?_)
                  · exact obs_cons (ob_load Agg105 (fun _ _ hS => (hS.at_ 0 rfl).cell rfl)) <| obs_cons (ob_loadA (cs := #[.int .i64 (minI z4 z2), .int .i64 (maxI z4 z2)]) (by kernel_rfl) (by kernel_rfl) (fun _ _ hS => (hS.at_ 3 rfl).cellsAt 0 (by rfl))) <| obs_nil
                  refine any_step [2, 4] (by kernel_rfl) rfl ?_
                  refine (all_cons ?_ (all_cons ?_ all_nil))
                  · refine any_op (listed' := #[true, true, true, false, false, false, false]) (by kernel_rfl) (by kernel_rfl) ?_
                    refine at_runW 1 [⟨false, [], vS (Instr.lookup 105 (.map (some g2)) (.agg #[.int .i64 (minI z4 z2), .int .i64 (maxI z4 z2)]) false), .int .i64 (mget (0 : Int) (minI z4 z2, maxI z4 z2) r1.2)⟩] [some (.int .i64 (mget (0 : Int) (minI z4 z2, maxI z4 z2) r1.2))] [0, 1, 2, 3, 7, 8, 13, 16, 52, 53, 54] [pl 0 (.int .i64 end1), pl 1 (.int .i64 left1), pl 2 (.pointer (some ⟨g1, 0, none⟩)), pl 3 (.pointer (some ⟨g3, 0, none⟩)), pl 7 (.int .i64 (w64 (n3 + r1.1))), pl 8 (.int .i64 z2), pl 13 (.int .i64 z2), pl 16 (.int .i64 z4), pl 52 (.map (some g2)), pl 53 (.agg #[.int .i64 (minI z4 z2), .int .i64 (maxI z4 z2)]), pl 54 (.int .i64 (mget (0 : Int) (minI z4 z2, maxI z4 z2) r1.2))] hF hS (by kernel_rfl) (by kernel_rfl) ?_ (fun a hF => ?_)
                    · exact obs_cons (ob_look (k := (minI z4 z2, maxI z4 z2)) (m := r1.2) MK102 UndM105 (z := (0 : Int)) MZ3 (fun _ hS => ⟨_, _, _, _, hS.at_ 1 rfl⟩)) <| obs_nil
                    refine any_finI rfl (fun h => h) ?_
                    refine any_step [3, 4] (by kernel_rfl) rfl ?_
                    refine (all_cons ?_ (all_cons ?_ all_nil))
                    · refine any_op (listed' := #[true, true, true, true, false, false, false]) (by kernel_rfl) (by kernel_rfl) ?_
                      refine at_runW 1 [] [] [0, 1, 2, 3, 7, 8, 13, 16, 52, 53, 55] [pl 0 (.int .i64 end1), pl 1 (.int .i64 left1), pl 2 (.pointer (some ⟨g1, 0, none⟩)), pl 3 (.pointer (some ⟨g3, 0, none⟩)), pl 7 (.int .i64 (w64 (n3 + r1.1))), pl 8 (.int .i64 z2), pl 13 (.int .i64 z2), pl 16 (.int .i64 z4), pl 52 (.map (some g2)), pl 53 (.agg #[.int .i64 (minI z4 z2), .int .i64 (maxI z4 z2)]), pl 55 (.int .i64 (w64 ((mget (0 : Int) (minI z4 z2, maxI z4 z2) r1.2) + 1)))] hF hS (by kernel_rfl) (by kernel_rfl) ?_ (fun a hF => ?_)
                      · exact obs_nil
                      refine any_finI rfl (fun h => h) ?_
                      refine any_step [4] (by kernel_rfl) rfl ?_
                      refine (all_cons ?_ all_nil)
                      · refine any_op (listed' := #[true, true, true, true, true, false, false]) (by kernel_rfl) (by kernel_rfl) ?_
                        obtain ⟨s2, w, hrun, hS⟩ := run_mentryV (P := Try.prog) (t := 105) (vf := (Value.int .i64)) MK102 UndM105 (z := (0 : Int)) MZ3 (minI z4 z2, maxI z4 z2) (hS.at_ 1 rfl)
                        have hS : Sep w0 B w (blk g1 105 #[.map (some g2)] :: mapHV kf102 (Value.int .i64) g2 r1.2 (minI z4 z2, maxI z4 z2) s2 (mget (0 : Int) (minI z4 z2, maxI z4 z2) r1.2) :: blk g3 86 #[.func (.func 77) #[] #[.pointer (some ⟨g1, 0, none⟩), .pointer (some ⟨g3, 0, none⟩)]] :: blk g4 102 #[.int .i64 (minI z4 z2), .int .i64 (maxI z4 z2)] :: fs) := hS
                        refine at_do (d := 56) hF (by kernel_rfl) (by kernel_rfl) hrun (fun a hF => ?_)
                        refine any_finE rfl (by decide) ?_
                        refine any_step [5] (by kernel_rfl) rfl ?_
                        refine (all_cons ?_ all_nil)
                        · refine any_op (listed' := #[true, true, true, true, true, true, false]) (by kernel_rfl) (by kernel_rfl) ?_
                          refine at_runW 1 [] [] [0, 1, 2, 3, 7, 8, 13, 16, 52, 55, 57] [pl 0 (.int .i64 end1), pl 1 (.int .i64 left1), pl 2 (.pointer (some ⟨g1, 0, none⟩)), pl 3 (.pointer (some ⟨g3, 0, none⟩)), pl 7 (.int .i64 (w64 (n3 + r1.1))), pl 8 (.int .i64 z2), pl 13 (.int .i64 z2), pl 16 (.int .i64 z4), pl 52 (.map (some g2)), pl 55 (.int .i64 (w64 ((mget (0 : Int) (minI z4 z2, maxI z4 z2) r1.2) + 1))), pl 57 (.int .i64 ((s2 : Nat) : Int))] hF hS (by kernel_rfl) (by kernel_rfl) ?_ (fun a hF => ?_)
                          · exact obs_nil
                          refine any_finI rfl (fun h => h) ?_
                          refine any_step [6] (by kernel_rfl) rfl ?_
                          refine (all_cons ?_ all_nil)
                          · refine any_op (listed' := #[true, true, true, true, true, true, true]) (by kernel_rfl) (by kernel_rfl) ?_
                            obtain ⟨w, hrun, hS⟩ := run_mstoreV (P := Try.prog) (t := 105) (vf := (Value.int .i64)) (minI z4 z2, maxI z4 z2) (w64 ((mget (0 : Int) (minI z4 z2, maxI z4 z2) r1.2) + 1)) (hS.at_ 1 rfl)
                            refine at_skip hF (by kernel_rfl) hrun ?_
                            have hS : Sep w0 B w (blk g1 105 #[.map (some g2)] :: mapH kf102 (Value.int .i64) g2 (mput (minI z4 z2, maxI z4 z2) (w64 ((mget (0 : Int) (minI z4 z2, maxI z4 z2) r1.2) + 1)) r1.2) :: blk g3 86 #[.func (.func 77) #[] #[.pointer (some ⟨g1, 0, none⟩), .pointer (some ⟨g3, 0, none⟩)]] :: blk g4 102 #[.int .i64 (minI z4 z2), .int .i64 (maxI z4 z2)] :: fs) := hS
                            refine any_finE rfl (by decide) ?_
                            refine any_end (by kernel_rfl) ?_
                            refine np_n ?_
                            refine block_n ?_
                            refine then_n ?_
                            have hS := hS.pickN 4 [0, 1, 2] (by decide)
                            exact ⟨(mput (minI z4 z2, maxI z4 z2) (w64 ((mget (0 : Int) (minI z4 z2, maxI z4 z2) r1.2) + 1)) r1.2), (w64 (n3 + r1.1)), hF.weak [0, 1, 2, 3, 7, 8, 13, 16] (by kernel_rfl), hS, hm⟩
                    · refine any_op (listed' := #[true, true, true, false, true, false, false]) (by kernel_rfl) (by kernel_rfl) ?_
                      obtain ⟨s2, w, hrun, hS⟩ := run_mentryV (P := Try.prog) (t := 105) (vf := (Value.int .i64)) MK102 UndM105 (z := (0 : Int)) MZ3 (minI z4 z2, maxI z4 z2) (hS.at_ 1 rfl)
                      have hS : Sep w0 B w (blk g1 105 #[.map (some g2)] :: mapHV kf102 (Value.int .i64) g2 r1.2 (minI z4 z2, maxI z4 z2) s2 (mget (0 : Int) (minI z4 z2, maxI z4 z2) r1.2) :: blk g3 86 #[.func (.func 77) #[] #[.pointer (some ⟨g1, 0, none⟩), .pointer (some ⟨g3, 0, none⟩)]] :: blk g4 102 #[.int .i64 (minI z4 z2), .int .i64 (maxI z4 z2)] :: fs) := hS
                      refine at_do (d := 56) hF (by kernel_rfl) (by kernel_rfl) hrun (fun a hF => ?_)
                      refine any_finE rfl (by decide) ?_
                      refine any_step [3, 5] (by kernel_rfl) rfl ?_
                      refine (all_cons ?_ (all_cons ?_ all_nil))
                      · refine any_op (listed' := #[true, true, true, true, true, false, false]) (by kernel_rfl) (by kernel_rfl) ?_
                        refine at_runW 1 [] [] [0, 1, 2, 3, 7, 8, 13, 16, 52, 55, 56] [pl 0 (.int .i64 end1), pl 1 (.int .i64 left1), pl 2 (.pointer (some ⟨g1, 0, none⟩)), pl 3 (.pointer (some ⟨g3, 0, none⟩)), pl 7 (.int .i64 (w64 (n3 + r1.1))), pl 8 (.int .i64 z2), pl 13 (.int .i64 z2), pl 16 (.int .i64 z4), pl 52 (.map (some g2)), pl 55 (.int .i64 (w64 ((mget (0 : Int) (minI z4 z2, maxI z4 z2) r1.2) + 1))), pl 56 (.tuple #[.int .i64 (mget (0 : Int) (minI z4 z2, maxI z4 z2) r1.2), .int .i64 ((s2 : Nat) : Int)])] hF hS (by kernel_rfl) (by kernel_rfl) ?_ (fun a hF => ?_)
                        · exact obs_nil
                        refine any_finI rfl (fun h => h) ?_
                        refine any_step [5] (by kernel_rfl) rfl ?_
                        refine (all_cons ?_ all_nil)
                        · refine any_op (listed' := #[true, true, true, true, true, true, false]) (by kernel_rfl) (by kernel_rfl) ?_
                          refine at_runW 1 [] [] [0, 1, 2, 3, 7, 8, 13, 16, 52, 55, 57] [pl 0 (.int .i64 end1), pl 1 (.int .i64 left1), pl 2 (.pointer (some ⟨g1, 0, none⟩)), pl 3 (.pointer (some ⟨g3, 0, none⟩)), pl 7 (.int .i64 (w64 (n3 + r1.1))), pl 8 (.int .i64 z2), pl 13 (.int .i64 z2), pl 16 (.int .i64 z4), pl 52 (.map (some g2)), pl 55 (.int .i64 (w64 ((mget (0 : Int) (minI z4 z2, maxI z4 z2) r1.2) + 1))), pl 57 (.int .i64 ((s2 : Nat) : Int))] hF hS (by kernel_rfl) (by kernel_rfl) ?_ (fun a hF => ?_)
                          · exact obs_nil
                          refine any_finI rfl (fun h => h) ?_
                          refine any_step [6] (by kernel_rfl) rfl ?_
                          refine (all_cons ?_ all_nil)
                          · refine any_op (listed' := #[true, true, true, true, true, true, true]) (by kernel_rfl) (by kernel_rfl) ?_
                            obtain ⟨w, hrun, hS⟩ := run_mstoreV (P := Try.prog) (t := 105) (vf := (Value.int .i64)) (minI z4 z2, maxI z4 z2) (w64 ((mget (0 : Int) (minI z4 z2, maxI z4 z2) r1.2) + 1)) (hS.at_ 1 rfl)
                            refine at_skip hF (by kernel_rfl) hrun ?_
                            have hS : Sep w0 B w (blk g1 105 #[.map (some g2)] :: mapH kf102 (Value.int .i64) g2 (mput (minI z4 z2, maxI z4 z2) (w64 ((mget (0 : Int) (minI z4 z2, maxI z4 z2) r1.2) + 1)) r1.2) :: blk g3 86 #[.func (.func 77) #[] #[.pointer (some ⟨g1, 0, none⟩), .pointer (some ⟨g3, 0, none⟩)]] :: blk g4 102 #[.int .i64 (minI z4 z2), .int .i64 (maxI z4 z2)] :: fs) := hS
                            refine any_finE rfl (by decide) ?_
                            refine any_end (by kernel_rfl) ?_
                            refine np_n ?_
                            refine block_n ?_
                            refine then_n ?_
                            have hS := hS.pickN 4 [0, 1, 2] (by decide)
                            exact ⟨(mput (minI z4 z2, maxI z4 z2) (w64 ((mget (0 : Int) (minI z4 z2, maxI z4 z2) r1.2) + 1)) r1.2), (w64 (n3 + r1.1)), hF.weak [0, 1, 2, 3, 7, 8, 13, 16] (by kernel_rfl), hS, hm⟩
                      · refine any_op (listed' := #[true, true, true, false, true, true, false]) (by kernel_rfl) (by kernel_rfl) ?_
                        refine at_runW 1 [] [] [0, 1, 2, 3, 7, 8, 13, 16, 52, 54, 57] [pl 0 (.int .i64 end1), pl 1 (.int .i64 left1), pl 2 (.pointer (some ⟨g1, 0, none⟩)), pl 3 (.pointer (some ⟨g3, 0, none⟩)), pl 7 (.int .i64 (w64 (n3 + r1.1))), pl 8 (.int .i64 z2), pl 13 (.int .i64 z2), pl 16 (.int .i64 z4), pl 52 (.map (some g2)), pl 54 (.int .i64 (mget (0 : Int) (minI z4 z2, maxI z4 z2) r1.2)), pl 57 (.int .i64 ((s2 : Nat) : Int))] hF hS (by kernel_rfl) (by kernel_rfl) ?_ (fun a hF => ?_)
                        · exact obs_nil
                        refine any_finI rfl (fun h => h) ?_
                        refine any_step [3] (by kernel_rfl) rfl ?_
                        refine (all_cons ?_ all_nil)
                        · refine any_op (listed' := #[true, true, true, true, true, true, false]) (by kernel_rfl) (by kernel_rfl) ?_
                          refine at_runW 1 [] [] [0, 1, 2, 3, 7, 8, 13, 16, 52, 55, 57] [pl 0 (.int .i64 end1), pl 1 (.int .i64 left1), pl 2 (.pointer (some ⟨g1, 0, none⟩)), pl 3 (.pointer (some ⟨g3, 0, none⟩)), pl 7 (.int .i64 (w64 (n3 + r1.1))), pl 8 (.int .i64 z2), pl 13 (.int .i64 z2), pl 16 (.int .i64 z4), pl 52 (.map (some g2)), pl 55 (.int .i64 (w64 ((mget (0 : Int) (minI z4 z2, maxI z4 z2) r1.2) + 1))), pl 57 (.int .i64 ((s2 : Nat) : Int))] hF hS (by kernel_rfl) (by kernel_rfl) ?_ (fun a hF => ?_)
                          · exact obs_nil
                          refine any_finI rfl (fun h => h) ?_
                          refine any_step [6] (by kernel_rfl) rfl ?_
                          refine (all_cons ?_ all_nil)
                          · refine any_op (listed' := #[true, true, true, true, true, true, true]) (by kernel_rfl) (by kernel_rfl) ?_
                            obtain ⟨w, hrun, hS⟩ := run_mstoreV (P := Try.prog) (t := 105) (vf := (Value.int .i64)) (minI z4 z2, maxI z4 z2) (w64 ((mget (0 : Int) (minI z4 z2, maxI z4 z2) r1.2) + 1)) (hS.at_ 1 rfl)
                            refine at_skip hF (by kernel_rfl) hrun ?_
                            have hS : Sep w0 B w (blk g1 105 #[.map (some g2)] :: mapH kf102 (Value.int .i64) g2 (mput (minI z4 z2, maxI z4 z2) (w64 ((mget (0 : Int) (minI z4 z2, maxI z4 z2) r1.2) + 1)) r1.2) :: blk g3 86 #[.func (.func 77) #[] #[.pointer (some ⟨g1, 0, none⟩), .pointer (some ⟨g3, 0, none⟩)]] :: blk g4 102 #[.int .i64 (minI z4 z2), .int .i64 (maxI z4 z2)] :: fs) := hS
                            refine any_finE rfl (by decide) ?_
                            refine any_end (by kernel_rfl) ?_
                            refine np_n ?_
                            refine block_n ?_
                            refine then_n ?_
                            have hS := hS.pickN 4 [0, 1, 2] (by decide)
                            exact ⟨(mput (minI z4 z2, maxI z4 z2) (w64 ((mget (0 : Int) (minI z4 z2, maxI z4 z2) r1.2) + 1)) r1.2), (w64 (n3 + r1.1)), hF.weak [0, 1, 2, 3, 7, 8, 13, 16] (by kernel_rfl), hS, hm⟩
                  · refine any_op (listed' := #[true, true, false, false, true, false, false]) (by kernel_rfl) (by kernel_rfl) ?_
                    obtain ⟨s2, w, hrun, hS⟩ := run_mentryV (P := Try.prog) (t := 105) (vf := (Value.int .i64)) MK102 UndM105 (z := (0 : Int)) MZ3 (minI z4 z2, maxI z4 z2) (hS.at_ 1 rfl)
                    have hS : Sep w0 B w (blk g1 105 #[.map (some g2)] :: mapHV kf102 (Value.int .i64) g2 r1.2 (minI z4 z2, maxI z4 z2) s2 (mget (0 : Int) (minI z4 z2, maxI z4 z2) r1.2) :: blk g3 86 #[.func (.func 77) #[] #[.pointer (some ⟨g1, 0, none⟩), .pointer (some ⟨g3, 0, none⟩)]] :: blk g4 102 #[.int .i64 (minI z4 z2), .int .i64 (maxI z4 z2)] :: fs) := hS
                    refine at_do (d := 56) hF (by kernel_rfl) (by kernel_rfl) hrun (fun a hF => ?_)
                    refine any_finE rfl (by decide) ?_
                    refine any_step [2, 5] (by kernel_rfl) rfl ?_
                    refine (all_cons ?_ (all_cons ?_ all_nil))
                    · refine any_op (listed' := #[true, true, true, false, true, false, false]) (by kernel_rfl) (by kernel_rfl) ?_
                      refine at_runW 1 [⟨false, [], vS (Instr.lookup 105 (.map (some g2)) (.agg #[.int .i64 (minI z4 z2), .int .i64 (maxI z4 z2)]) false), .int .i64 (mget (0 : Int) (minI z4 z2, maxI z4 z2) r1.2)⟩] [some (.int .i64 (mget (0 : Int) (minI z4 z2, maxI z4 z2) r1.2))] [0, 1, 2, 3, 7, 8, 13, 16, 52, 54, 56] [pl 0 (.int .i64 end1), pl 1 (.int .i64 left1), pl 2 (.pointer (some ⟨g1, 0, none⟩)), pl 3 (.pointer (some ⟨g3, 0, none⟩)), pl 7 (.int .i64 (w64 (n3 + r1.1))), pl 8 (.int .i64 z2), pl 13 (.int .i64 z2), pl 16 (.int .i64 z4), pl 52 (.map (some g2)), pl 54 (.int .i64 (mget (0 : Int) (minI z4 z2, maxI z4 z2) r1.2)), pl 56 (.tuple #[.int .i64 (mget (0 : Int) (minI z4 z2, maxI z4 z2) r1.2), .int .i64 ((s2 : Nat) : Int)])] hF hS (by kernel_rfl) (by kernel_rfl) ?_ (fun a hF => ?_)
                      · exact obs_cons (ob_lookV (k := (minI z4 z2, maxI z4 z2)) (m := r1.2) MK102 UndM105 (z := (0 : Int)) MZ3 (fun _ hS => ⟨_, _, _, _, _, hS.at_ 1 rfl⟩)) <| obs_nil
                      refine any_finI rfl (fun h => h) ?_
                      refine any_step [3, 5] (by kernel_rfl) rfl ?_
                      refine (all_cons ?_ (all_cons ?_ all_nil))
                      · refine any_op (listed' := #[true, true, true, true, true, false, false]) (by kernel_rfl) (by kernel_rfl) ?_
                        refine at_runW 1 [] [] [0, 1, 2, 3, 7, 8, 13, 16, 52, 55, 56] [pl 0 (.int .i64 end1), pl 1 (.int .i64 left1), pl 2 (.pointer (some ⟨g1, 0, none⟩)), pl 3 (.pointer (some ⟨g3, 0, none⟩)), pl 7 (.int .i64 (w64 (n3 + r1.1))), pl 8 (.int .i64 z2), pl 13 (.int .i64 z2), pl 16 (.int .i64 z4), pl 52 (.map (some g2)), pl 55 (.int .i64 (w64 ((mget (0 : Int) (minI z4 z2, maxI z4 z2) r1.2) + 1))), pl 56 (.tuple #[.int .i64 (mget (0 : Int) (minI z4 z2, maxI z4 z2) r1.2), .int .i64 ((s2 : Nat) : Int)])] hF hS (by kernel_rfl) (by kernel_rfl) ?_ (fun a hF => ?_)
                        · exact obs_nil
                        refine any_finI rfl (fun h => h) ?_
                        refine any_step [5] (by kernel_rfl) rfl ?_
                        refine (all_cons ?_ all_nil)
                        · refine any_op (listed' := #[true, true, true, true, true, true, false]) (by kernel_rfl) (by kernel_rfl) ?_
                          refine at_runW 1 [] [] [0, 1, 2, 3, 7, 8, 13, 16, 52, 55, 57] [pl 0 (.int .i64 end1), pl 1 (.int .i64 left1), pl 2 (.pointer (some ⟨g1, 0, none⟩)), pl 3 (.pointer (some ⟨g3, 0, none⟩)), pl 7 (.int .i64 (w64 (n3 + r1.1))), pl 8 (.int .i64 z2), pl 13 (.int .i64 z2), pl 16 (.int .i64 z4), pl 52 (.map (some g2)), pl 55 (.int .i64 (w64 ((mget (0 : Int) (minI z4 z2, maxI z4 z2) r1.2) + 1))), pl 57 (.int .i64 ((s2 : Nat) : Int))] hF hS (by kernel_rfl) (by kernel_rfl) ?_ (fun a hF => ?_)
                          · exact obs_nil
                          refine any_finI rfl (fun h => h) ?_
                          refine any_step [6] (by kernel_rfl) rfl ?_
                          refine (all_cons ?_ all_nil)
                          · refine any_op (listed' := #[true, true, true, true, true, true, true]) (by kernel_rfl) (by kernel_rfl) ?_
                            obtain ⟨w, hrun, hS⟩ := run_mstoreV (P := Try.prog) (t := 105) (vf := (Value.int .i64)) (minI z4 z2, maxI z4 z2) (w64 ((mget (0 : Int) (minI z4 z2, maxI z4 z2) r1.2) + 1)) (hS.at_ 1 rfl)
                            refine at_skip hF (by kernel_rfl) hrun ?_
                            have hS : Sep w0 B w (blk g1 105 #[.map (some g2)] :: mapH kf102 (Value.int .i64) g2 (mput (minI z4 z2, maxI z4 z2) (w64 ((mget (0 : Int) (minI z4 z2, maxI z4 z2) r1.2) + 1)) r1.2) :: blk g3 86 #[.func (.func 77) #[] #[.pointer (some ⟨g1, 0, none⟩), .pointer (some ⟨g3, 0, none⟩)]] :: blk g4 102 #[.int .i64 (minI z4 z2), .int .i64 (maxI z4 z2)] :: fs) := hS
                            refine any_finE rfl (by decide) ?_
                            refine any_end (by kernel_rfl) ?_
                            refine np_n ?_
                            refine block_n ?_
                            refine then_n ?_
                            have hS := hS.pickN 4 [0, 1, 2] (by decide)
                            exact ⟨(mput (minI z4 z2, maxI z4 z2) (w64 ((mget (0 : Int) (minI z4 z2, maxI z4 z2) r1.2) + 1)) r1.2), (w64 (n3 + r1.1)), hF.weak [0, 1, 2, 3, 7, 8, 13, 16] (by kernel_rfl), hS, hm⟩
                      · refine any_op (listed' := #[true, true, true, false, true, true, false]) (by kernel_rfl) (by kernel_rfl) ?_
                        refine at_runW 1 [] [] [0, 1, 2, 3, 7, 8, 13, 16, 52, 54, 57] [pl 0 (.int .i64 end1), pl 1 (.int .i64 left1), pl 2 (.pointer (some ⟨g1, 0, none⟩)), pl 3 (.pointer (some ⟨g3, 0, none⟩)), pl 7 (.int .i64 (w64 (n3 + r1.1))), pl 8 (.int .i64 z2), pl 13 (.int .i64 z2), pl 16 (.int .i64 z4), pl 52 (.map (some g2)), pl 54 (.int .i64 (mget (0 : Int) (minI z4 z2, maxI z4 z2) r1.2)), pl 57 (.int .i64 ((s2 : Nat) : Int))] hF hS (by kernel_rfl) (by kernel_rfl) ?_ (fun a hF => ?_)
                        · exact obs_nil
                        refine any_finI rfl (fun h => h) ?_
                        refine any_step [3] (by kernel_rfl) rfl ?_
                        refine (all_cons ?_ all_nil)
                        · refine any_op (listed' := #[true, true, true, true, true, true, false]) (by kernel_rfl) (by kernel_rfl) ?_
                          refine at_runW 1 [] [] [0, 1, 2, 3, 7, 8, 13, 16, 52, 55, 57] [pl 0 (.int .i64 end1), pl 1 (.int .i64 left1), pl 2 (.pointer (some ⟨g1, 0, none⟩)), pl 3 (.pointer (some ⟨g3, 0, none⟩)), pl 7 (.int .i64 (w64 (n3 + r1.1))), pl 8 (.int .i64 z2), pl 13 (.int .i64 z2), pl 16 (.int .i64 z4), pl 52 (.map (some g2)), pl 55 (.int .i64 (w64 ((mget (0 : Int) (minI z4 z2, maxI z4 z2) r1.2) + 1))), pl 57 (.int .i64 ((s2 : Nat) : Int))] hF hS (by kernel_rfl) (by kernel_rfl) ?_ (fun a hF => ?_)
                          · exact obs_nil
                          refine any_finI rfl (fun h => h) ?_
                          refine any_step [6] (by kernel_rfl) rfl ?_
                          refine (all_cons ?_ all_nil)
                          · refine any_op (listed' := #[true, true, true, true, true, true, true]) (by kernel_rfl) (by kernel_rfl) ?_
                            obtain ⟨w, hrun, hS⟩ := run_mstoreV (P := Try.prog) (t := 105) (vf := (Value.int .i64)) (minI z4 z2, maxI z4 z2) (w64 ((mget (0 : Int) (minI z4 z2, maxI z4 z2) r1.2) + 1)) (hS.at_ 1 rfl)
                            refine at_skip hF (by kernel_rfl) hrun ?_
                            have hS : Sep w0 B w (blk g1 105 #[.map (some g2)] :: mapH kf102 (Value.int .i64) g2 (mput (minI z4 z2, maxI z4 z2) (w64 ((mget (0 : Int) (minI z4 z2, maxI z4 z2) r1.2) + 1)) r1.2) :: blk g3 86 #[.func (.func 77) #[] #[.pointer (some ⟨g1, 0, none⟩), .pointer (some ⟨g3, 0, none⟩)]] :: blk g4 102 #[.int .i64 (minI z4 z2), .int .i64 (maxI z4 z2)] :: fs) := hS
                            refine any_finE rfl (by decide) ?_
                            refine any_end (by kernel_rfl) ?_
                            refine np_n ?_
                            refine block_n ?_
                            refine then_n ?_
                            have hS := hS.pickN 4 [0, 1, 2] (by decide)
                            exact ⟨(mput (minI z4 z2, maxI z4 z2) (w64 ((mget (0 : Int) (minI z4 z2, maxI z4 z2) r1.2) + 1)) r1.2), (w64 (n3 + r1.1)), hF.weak [0, 1, 2, 3, 7, 8, 13, 16] (by kernel_rfl), hS, hm⟩
                    · refine any_op (listed' := #[true, true, false, false, true, true, false]) (by kernel_rfl) (by kernel_rfl) ?_
                      refine at_runW 1 [] [] [0, 1, 2, 3, 7, 8, 13, 16, 52, 53, 57] [pl 0 (.int .i64 end1), pl 1 (.int .i64 left1), pl 2 (.pointer (some ⟨g1, 0, none⟩)), pl 3 (.pointer (some ⟨g3, 0, none⟩)), pl 7 (.int .i64 (w64 (n3 + r1.1))), pl 8 (.int .i64 z2), pl 13 (.int .i64 z2), pl 16 (.int .i64 z4), pl 52 (.map (some g2)), pl 53 (.agg #[.int .i64 (minI z4 z2), .int .i64 (maxI z4 z2)]), pl 57 (.int .i64 ((s2 : Nat) : Int))] hF hS (by kernel_rfl) (by kernel_rfl) ?_ (fun a hF => ?_)
                      · exact obs_nil
                      refine any_finI rfl (fun h => h) ?_
                      refine any_step [2] (by kernel_rfl) rfl ?_
                      refine (all_cons ?_ all_nil)
                      · refine any_op (listed' := #[true, true, true, false, true, true, false]) (by kernel_rfl) (by kernel_rfl) ?_
                        refine at_runW 1 [⟨false, [], vS (Instr.lookup 105 (.map (some g2)) (.agg #[.int .i64 (minI z4 z2), .int .i64 (maxI z4 z2)]) false), .int .i64 (mget (0 : Int) (minI z4 z2, maxI z4 z2) r1.2)⟩] [some (.int .i64 (mget (0 : Int) (minI z4 z2, maxI z4 z2) r1.2))] [0, 1, 2, 3, 7, 8, 13, 16, 52, 54, 57] [pl 0 (.int .i64 end1), pl 1 (.int .i64 left1), pl 2 (.pointer (some ⟨g1, 0, none⟩)), pl 3 (.pointer (some ⟨g3, 0, none⟩)), pl 7 (.int .i64 (w64 (n3 + r1.1))), pl 8 (.int .i64 z2), pl 13 (.int .i64 z2), pl 16 (.int .i64 z4), pl 52 (.map (some g2)), pl 54 (.int .i64 (mget (0 : Int) (minI z4 z2, maxI z4 z2) r1.2)), pl 57 (.int .i64 ((s2 : Nat) : Int))] hF hS (by kernel_rfl) (by kernel_rfl) ?_ (fun a hF => ?_)
                        · exact obs_cons (ob_lookV (k := (minI z4 z2, maxI z4 z2)) (m := r1.2) MK102 UndM105 (z := (0 : Int)) MZ3 (fun _ hS => ⟨_, _, _, _, _, hS.at_ 1 rfl⟩)) <| obs_nil
                        refine any_finI rfl (fun h => h) ?_
                        refine any_step [3] (by kernel_rfl) rfl ?_
                        refine (all_cons ?_ all_nil)
                        · refine any_op (listed' := #[true, true, true, true, true, true, false]) (by kernel_rfl) (by kernel_rfl) ?_
                          refine at_runW 1 [] [] [0, 1, 2, 3, 7, 8, 13, 16, 52, 55, 57] [pl 0 (.int .i64 end1), pl 1 (.int .i64 left1), pl 2 (.pointer (some ⟨g1, 0, none⟩)), pl 3 (.pointer (some ⟨g3, 0, none⟩)), pl 7 (.int .i64 (w64 (n3 + r1.1))), pl 8 (.int .i64 z2), pl 13 (.int .i64 z2), pl 16 (.int .i64 z4), pl 52 (.map (some g2)), pl 55 (.int .i64 (w64 ((mget (0 : Int) (minI z4 z2, maxI z4 z2) r1.2) + 1))), pl 57 (.int .i64 ((s2 : Nat) : Int))] hF hS (by kernel_rfl) (by kernel_rfl) ?_ (fun a hF => ?_)
                          · exact obs_nil
                          refine any_finI rfl (fun h => h) ?_
                          refine any_step [6] (by kernel_rfl) rfl ?_
                          refine (all_cons ?_ all_nil)
                          · refine any_op (listed' := #[true, true, true, true, true, true, true]) (by kernel_rfl) (by kernel_rfl) ?_
                            obtain ⟨w, hrun, hS⟩ := run_mstoreV (P := Try.prog) (t := 105) (vf := (Value.int .i64)) (minI z4 z2, maxI z4 z2) (w64 ((mget (0 : Int) (minI z4 z2, maxI z4 z2) r1.2) + 1)) (hS.at_ 1 rfl)
                            refine at_skip hF (by kernel_rfl) hrun ?_
                            have hS : Sep w0 B w (blk g1 105 #[.map (some g2)] :: mapH kf102 (Value.int .i64) g2 (mput (minI z4 z2, maxI z4 z2) (w64 ((mget (0 : Int) (minI z4 z2, maxI z4 z2) r1.2) + 1)) r1.2) :: blk g3 86 #[.func (.func 77) #[] #[.pointer (some ⟨g1, 0, none⟩), .pointer (some ⟨g3, 0, none⟩)]] :: blk g4 102 #[.int .i64 (minI z4 z2), .int .i64 (maxI z4 z2)] :: fs) := hS
                            refine any_finE rfl (by decide) ?_
                            refine any_end (by kernel_rfl) ?_
                            refine np_n ?_
                            refine block_n ?_
                            refine then_n ?_
                            have hS := hS.pickN 4 [0, 1, 2] (by decide)
                            exact ⟨(mput (minI z4 z2, maxI z4 z2) (w64 ((mget (0 : Int) (minI z4 z2, maxI z4 z2) r1.2) + 1)) r1.2), (w64 (n3 + r1.1)), hF.weak [0, 1, 2, 3, 7, 8, 13, 16] (by kernel_rfl), hS, hm⟩
                · refine regMix5 [0, 1] [4, 6] 5 #[true, true, false, false, false, false, false] [⟨false, [], vS (Instr.loadAt 105 (.pointer (some ⟨g1, 0, none⟩))), .map (some g2)⟩, ⟨false, [], vS (Instr.loadAt 102 (.pointer (some ⟨g4, 0, none⟩))), .agg #[.int .i64 (minI z4 z2), .int .i64 (maxI z4 z2)]⟩] [some (.map (some g2)), some (.agg #[.int .i64 (minI z4 z2), .int .i64 (maxI z4 z2)])] [0, 1, 2, 3, 7, 8, 10, 13, 16, 39, 40] [pl 0 (.int .i64 end1), pl 1 (.int .i64 left1), pl 2 (.pointer (some ⟨g1, 0, none⟩)), pl 3 (.pointer (some ⟨g3, 0, none⟩)), pl 7 (.int .i64 n3), pl 8 (.int .i64 z2), pl 10 (.pointer (some ⟨g4, 0, none⟩)), pl 13 (.int .i64 z2), pl 16 (.int .i64 z4), pl 39 (.map (some g2)), pl 40 (.agg #[.int .i64 (minI z4 z2), .int .i64 (maxI z4 z2)])] hF hS Fol (by kernel_rfl) (by kernel_rfl) (by kernel_rfl) (by kernel_rfl) ?_ (fun a w hF hS => ?_)
                  · exact obs_cons (ob_load Agg105 (fun _ _ hS => (hS.at_ 0 rfl).cell rfl)) <| obs_cons (ob_loadA (cs := #[.int .i64 (minI z4 z2), .int .i64 (maxI z4 z2)]) (by kernel_rfl) (by kernel_rfl) (fun _ _ hS => (hS.at_ 3 rfl).cellsAt 0 (by rfl))) <| obs_nil
                  refine any_step [2, 4] (by kernel_rfl) rfl ?_
                  refine (all_cons ?_ (all_cons ?_ all_nil))
                  · refine any_op (listed' := #[true, true, true, false, false, false, false]) (by kernel_rfl) (by kernel_rfl) ?_
                    refine at_runW 1 [⟨false, [], vS (Instr.lookup 105 (.map (some g2)) (.agg #[.int .i64 (minI z4 z2), .int .i64 (maxI z4 z2)]) false), .int .i64 (mget (0 : Int) (minI z4 z2, maxI z4 z2) z3)⟩] [some (.int .i64 (mget (0 : Int) (minI z4 z2, maxI z4 z2) z3))] [0, 1, 2, 3, 7, 8, 10, 13, 16, 39, 40, 41] [pl 0 (.int .i64 end1), pl 1 (.int .i64 left1), pl 2 (.pointer (some ⟨g1, 0, none⟩)), pl 3 (.pointer (some ⟨g3, 0, none⟩)), pl 7 (.int .i64 n3), pl 8 (.int .i64 z2), pl 10 (.pointer (some ⟨g4, 0, none⟩)), pl 13 (.int .i64 z2), pl 16 (.int .i64 z4), pl 39 (.map (some g2)), pl 40 (.agg #[.int .i64 (minI z4 z2), .int .i64 (maxI z4 z2)]), pl 41 (.int .i64 (mget (0 : Int) (minI z4 z2, maxI z4 z2) z3))] hF hS (by kernel_rfl) (by kernel_rfl) ?_ (fun a hF => ?_)
                    · exact obs_cons (ob_look (k := (minI z4 z2, maxI z4 z2)) (m := z3) MK102 UndM105 (z := (0 : Int)) MZ3 (fun _ hS => ⟨_, _, _, _, hS.at_ 1 rfl⟩)) <| obs_nil
                    refine any_finI rfl (fun h => h) ?_
                    refine any_step [3, 4] (by kernel_rfl) rfl ?_
                    refine (all_cons ?_ (all_cons ?_ all_nil))
                    · refine any_op (listed' := #[true, true, true, true, false, false, false]) (by kernel_rfl) (by kernel_rfl) ?_
                      refine at_runW 1 [] [] [0, 1, 2, 3, 7, 8, 10, 13, 16, 39, 40, 42] [pl 0 (.int .i64 end1), pl 1 (.int .i64 left1), pl 2 (.pointer (some ⟨g1, 0, none⟩)), pl 3 (.pointer (some ⟨g3, 0, none⟩)), pl 7 (.int .i64 n3), pl 8 (.int .i64 z2), pl 10 (.pointer (some ⟨g4, 0, none⟩)), pl 13 (.int .i64 z2), pl 16 (.int .i64 z4), pl 39 (.map (some g2)), pl 40 (.agg #[.int .i64 (minI z4 z2), .int .i64 (maxI z4 z2)]), pl 42 (.int .i64 (w64 ((mget (0 : Int) (minI z4 z2, maxI z4 z2) z3) - 1)))] hF hS (by kernel_rfl) (by kernel_rfl) ?_ (fun a hF => ?_)
                      · exact obs_nil
                      refine any_finI rfl (fun h => h) ?_
                      refine any_step [4] (by kernel_rfl) rfl ?_
                      refine (all_cons ?_ all_nil)
                      · refine any_op (listed' := #[true, true, true, true, true, false, false]) (by kernel_rfl) (by kernel_rfl) ?_
                        obtain ⟨s1, w, hrun, hS⟩ := run_mentryV (P := Try.prog) (t := 105) (vf := (Value.int .i64)) MK102 UndM105 (z := (0 : Int)) MZ3 (minI z4 z2, maxI z4 z2) (hS.at_ 1 rfl)
                        have hS : Sep w0 B w (blk g1 105 #[.map (some g2)] :: mapHV kf102 (Value.int .i64) g2 z3 (minI z4 z2, maxI z4 z2) s1 (mget (0 : Int) (minI z4 z2, maxI z4 z2) z3) :: blk g3 86 #[.func (.func 77) #[] #[.pointer (some ⟨g1, 0, none⟩), .pointer (some ⟨g3, 0, none⟩)]] :: blk g4 102 #[.int .i64 (minI z4 z2), .int .i64 (maxI z4 z2)] :: fs) := hS
                        refine at_do (d := 43) hF (by kernel_rfl) (by kernel_rfl) hrun (fun a hF => ?_)
                        refine any_finE rfl (by decide) ?_
                        refine any_step [5] (by kernel_rfl) rfl ?_
                        refine (all_cons ?_ all_nil)
                        · refine any_op (listed' := #[true, true, true, true, true, true, false]) (by kernel_rfl) (by kernel_rfl) ?_
                          refine at_runW 1 [] [] [0, 1, 2, 3, 7, 8, 10, 13, 16, 39, 42, 44] [pl 0 (.int .i64 end1), pl 1 (.int .i64 left1), pl 2 (.pointer (some ⟨g1, 0, none⟩)), pl 3 (.pointer (some ⟨g3, 0, none⟩)), pl 7 (.int .i64 n3), pl 8 (.int .i64 z2), pl 10 (.pointer (some ⟨g4, 0, none⟩)), pl 13 (.int .i64 z2), pl 16 (.int .i64 z4), pl 39 (.map (some g2)), pl 42 (.int .i64 (w64 ((mget (0 : Int) (minI z4 z2, maxI z4 z2) z3) - 1))), pl 44 (.int .i64 ((s1 : Nat) : Int))] hF hS (by kernel_rfl) (by kernel_rfl) ?_ (fun a hF => ?_)
                          · exact obs_nil
                          refine any_finI rfl (fun h => h) ?_
                          refine any_step [6] (by kernel_rfl) rfl ?_
                          refine (all_cons ?_ all_nil)
                          · refine any_op (listed' := #[true, true, true, true, true, true, true]) (by kernel_rfl) (by kernel_rfl) ?_
                            obtain ⟨w, hrun, hS⟩ := run_mstoreV (P := Try.prog) (t := 105) (vf := (Value.int .i64)) (minI z4 z2, maxI z4 z2) (w64 ((mget (0 : Int) (minI z4 z2, maxI z4 z2) z3) - 1)) (hS.at_ 1 rfl)
                            refine at_skip hF (by kernel_rfl) hrun ?_
                            have hS : Sep w0 B w (blk g1 105 #[.map (some g2)] :: mapH kf102 (Value.int .i64) g2 (mput (minI z4 z2, maxI z4 z2) (w64 ((mget (0 : Int) (minI z4 z2, maxI z4 z2) z3) - 1)) z3) :: blk g3 86 #[.func (.func 77) #[] #[.pointer (some ⟨g1, 0, none⟩), .pointer (some ⟨g3, 0, none⟩)]] :: blk g4 102 #[.int .i64 (minI z4 z2), .int .i64 (maxI z4 z2)] :: fs) := hS
                            refine any_finE rfl (by decide) ?_
                            refine any_end (by kernel_rfl) ?_
                            refine np_n ?_
                            refine then_n ?_
                            exact ⟨hF.weak [0, 1, 2, 3, 7, 8, 10, 13, 16] (by kernel_rfl), hS, hm⟩
                    · refine any_op (listed' := #[true, true, true, false, true, false, false]) (by kernel_rfl) (by kernel_rfl) ?_
                      obtain ⟨s1, w, hrun, hS⟩ := run_mentryV (P := Try.prog) (t := 105) (vf := (Value.int .i64)) MK102 UndM105 (z := (0 : Int)) MZ3 (minI z4 z2, maxI z4 z2) (hS.at_ 1 rfl)
                      have hS : Sep w0 B w (blk g1 105 #[.map (some g2)] :: mapHV kf102 (Value.int .i64) g2 z3 (minI z4 z2, maxI z4 z2) s1 (mget (0 : Int) (minI z4 z2, maxI z4 z2) z3) :: blk g3 86 #[.func (.func 77) #[] #[.pointer (some ⟨g1, 0, none⟩), .pointer (some ⟨g3, 0, none⟩)]] :: blk g4 102 #[.int .i64 (minI z4 z2), .int .i64 (maxI z4 z2)] :: fs) := hS
                      refine at_do (d := 43) hF (by kernel_rfl) (by kernel_rfl) hrun (fun a hF => ?_)
                      refine any_finE rfl (by decide) ?_
                      refine any_step [3, 5] (by kernel_rfl) rfl ?_
                      refine (all_cons ?_ (all_cons ?_ all_nil))
                      · refine any_op (listed' := #[true, true, true, true, true, false, false]) (by kernel_rfl) (by kernel_rfl) ?_
                        refine at_runW 1 [] [] [0, 1, 2, 3, 7, 8, 10, 13, 16, 39, 42, 43] [pl 0 (.int .i64 end1), pl 1 (.int .i64 left1), pl 2 (.pointer (some ⟨g1, 0, none⟩)), pl 3 (.pointer (some ⟨g3, 0, none⟩)), pl 7 (.int .i64 n3), pl 8 (.int .i64 z2), pl 10 (.pointer (some ⟨g4, 0, none⟩)), pl 13 (.int .i64 z2), pl 16 (.int .i64 z4), pl 39 (.map (some g2)), pl 42 (.int .i64 (w64 ((mget (0 : Int) (minI z4 z2, maxI z4 z2) z3) - 1))), pl 43 (.tuple #[.int .i64 (mget (0 : Int) (minI z4 z2, maxI z4 z2) z3), .int .i64 ((s1 : Nat) : Int)])] hF hS (by kernel_rfl) (by kernel_rfl) ?_ (fun a hF => ?_)
                        · exact obs_nil
                        refine any_finI rfl (fun h => h) ?_
                        refine any_step [5] (by kernel_rfl) rfl ?_
                        refine (all_cons ?_ all_nil)
                        · refine any_op (listed' := #[true, true, true, true, true, true, false]) (by kernel_rfl) (by kernel_rfl) ?_
                          refine at_runW 1 [] [] [0, 1, 2, 3, 7, 8, 10, 13, 16, 39, 42, 44] [pl 0 (.int .i64 end1), pl 1 (.int .i64 left1), pl 2 (.pointer (some ⟨g1, 0, none⟩)), pl 3 (.pointer (some ⟨g3, 0, none⟩)), pl 7 (.int .i64 n3), pl 8 (.int .i64 z2), pl 10 (.pointer (some ⟨g4, 0, none⟩)), pl 13 (.int .i64 z2), pl 16 (.int .i64 z4), pl 39 (.map (some g2)), pl 42 (.int .i64 (w64 ((mget (0 : Int) (minI z4 z2, maxI z4 z2) z3) - 1))), pl 44 (.int .i64 ((s1 : Nat) : Int))] hF hS (by kernel_rfl) (by kernel_rfl) ?_ (fun a hF => ?_)
                          · exact obs_nil
                          refine any_finI rfl (fun h => h) ?_
                          refine any_step [6] (by kernel_rfl) rfl ?_
                          refine (all_cons ?_ all_nil)
                          · refine any_op (listed' := #[true, true, true, true, true, true, true]) (by kernel_rfl) (by kernel_rfl) ?_
                            obtain ⟨w, hrun, hS⟩ := run_mstoreV (P := Try.prog) (t := 105) (vf := (Value.int .i64)) (minI z4 z2, maxI z4 z2) (w64 ((mget (0 : Int) (minI z4 z2, maxI z4 z2) z3) - 1)) (hS.at_ 1 rfl)
                            refine at_skip hF (by kernel_rfl) hrun ?_
                            have hS : Sep w0 B w (blk g1 105 #[.map (some g2)] :: mapH kf102 (Value.int .i64) g2 (mput (minI z4 z2, maxI z4 z2) (w64 ((mget (0 : Int) (minI z4 z2, maxI z4 z2) z3) - 1)) z3) :: blk g3 86 #[.func (.func 77) #[] #[.pointer (some ⟨g1, 0, none⟩), .pointer (some ⟨g3, 0, none⟩)]] :: blk g4 102 #[.int .i64 (minI z4 z2), .int .i64 (maxI z4 z2)] :: fs) := hS
                            refine any_finE rfl (by decide) ?_
                            refine any_end (by kernel_rfl) ?_
                            refine np_n ?_
                            refine then_n ?_
                            exact ⟨hF.weak [0, 1, 2, 3, 7, 8, 10, 13, 16] (by kernel_rfl), hS, hm⟩
                      · refine any_op (listed' := #[true, true, true, false, true, true, false]) (by kernel_rfl) (by kernel_rfl) ?_
                        refine at_runW 1 [] [] [0, 1, 2, 3, 7, 8, 10, 13, 16, 39, 41, 44] [pl 0 (.int .i64 end1), pl 1 (.int .i64 left1), pl 2 (.pointer (some ⟨g1, 0, none⟩)), pl 3 (.pointer (some ⟨g3, 0, none⟩)), pl 7 (.int .i64 n3), pl 8 (.int .i64 z2), pl 10 (.pointer (some ⟨g4, 0, none⟩)), pl 13 (.int .i64 z2), pl 16 (.int .i64 z4), pl 39 (.map (some g2)), pl 41 (.int .i64 (mget (0 : Int) (minI z4 z2, maxI z4 z2) z3)), pl 44 (.int .i64 ((s1 : Nat) : Int))] hF hS (by kernel_rfl) (by kernel_rfl) ?_ (fun a hF => ?_)
                        · exact obs_nil
                        refine any_finI rfl (fun h => h) ?_
                        refine any_step [3] (by kernel_rfl) rfl ?_
                        refine (all_cons ?_ all_nil)
                        · refine any_op (listed' := #[true, true, true, true, true, true, false]) (by kernel_rfl) (by kernel_rfl) ?_
                          refine at_runW 1 [] [] [0, 1, 2, 3, 7, 8, 10, 13, 16, 39, 42, 44] [pl 0 (.int .i64 end1), pl 1 (.int .i64 left1), pl 2 (.pointer (some ⟨g1, 0, none⟩)), pl 3 (.pointer (some ⟨g3, 0, none⟩)), pl 7 (.int .i64 n3), pl 8 (.int .i64 z2), pl 10 (.pointer (some ⟨g4, 0, none⟩)), pl 13 (.int .i64 z2), pl 16 (.int .i64 z4), pl 39 (.map (some g2)), pl 42 (.int .i64 (w64 ((mget (0 : Int) (minI z4 z2, maxI z4 z2) z3) - 1))), pl 44 (.int .i64 ((s1 : Nat) : Int))] hF hS (by kernel_rfl) (by kernel_rfl) ?_ (fun a hF => ?_)
                          · exact obs_nil
                          refine any_finI rfl (fun h => h) ?_
                          refine any_step [6] (by kernel_rfl) rfl ?_
                          refine (all_cons ?_ all_nil)
                          · refine any_op (listed' := #[true, true, true, true, true, true, true]) (by kernel_rfl) (by kernel_rfl) ?_
                            obtain ⟨w, hrun, hS⟩ := run_mstoreV (P := Try.prog) (t := 105) (vf := (Value.int .i64)) (minI z4 z2, maxI z4 z2) (w64 ((mget (0 : Int) (minI z4 z2, maxI z4 z2) z3) - 1)) (hS.at_ 1 rfl)
                            refine at_skip hF (by kernel_rfl) hrun ?_
                            have hS : Sep w0 B w (blk g1 105 #[.map (some g2)] :: mapH kf102 (Value.int .i64) g2 (mput (minI z4 z2, maxI z4 z2) (w64 ((mget (0 : Int) (minI z4 z2, maxI z4 z2) z3) - 1)) z3) :: blk g3 86 #[.func (.func 77) #[] #[.pointer (some ⟨g1, 0, none⟩), .pointer (some ⟨g3, 0, none⟩)]] :: blk g4 102 #[.int .i64 (minI z4 z2), .int .i64 (maxI z4 z2)] :: fs) := hS
                            refine any_finE rfl (by decide) ?_
                            refine any_end (by kernel_rfl) ?_
                            refine np_n ?_
                            refine then_n ?_
                            exact ⟨hF.weak [0, 1, 2, 3, 7, 8, 10, 13, 16] (by kernel_rfl), hS, hm⟩
                  · refine any_op (listed' := #[true, true, false, false, true, false, false]) (by kernel_rfl) (by kernel_rfl) ?_
                    obtain ⟨s1, w, hrun, hS⟩ := run_mentryV (P := Try.prog) (t := 105) (vf := (Value.int .i64)) MK102 UndM105 (z := (0 : Int)) MZ3 (minI z4 z2, maxI z4 z2) (hS.at_ 1 rfl)
                    have hS : Sep w0 B w (blk g1 105 #[.map (some g2)] :: mapHV kf102 (Value.int .i64) g2 z3 (minI z4 z2, maxI z4 z2) s1 (mget (0 : Int) (minI z4 z2, maxI z4 z2) z3) :: blk g3 86 #[.func (.func 77) #[] #[.pointer (some ⟨g1, 0, none⟩), .pointer (some ⟨g3, 0, none⟩)]] :: blk g4 102 #[.int .i64 (minI z4 z2), .int .i64 (maxI z4 z2)] :: fs) := hS
                    refine at_do (d := 43) hF (by kernel_rfl) (by kernel_rfl) hrun (fun a hF => ?_)
                    refine any_finE rfl (by decide) ?_
                    refine any_step [2, 5] (by kernel_rfl) rfl ?_
                    refine (all_cons ?_ (all_cons ?_ all_nil))
                    · refine any_op (listed' := #[true, true, true, false, true, false, false]) (by kernel_rfl) (by kernel_rfl) ?_
                      refine at_runW 1 [⟨false, [], vS (Instr.lookup 105 (.map (some g2)) (.agg #[.int .i64 (minI z4 z2), .int .i64 (maxI z4 z2)]) false), .int .i64 (mget (0 : Int) (minI z4 z2, maxI z4 z2) z3)⟩] [some (.int .i64 (mget (0 : Int) (minI z4 z2, maxI z4 z2) z3))] [0, 1, 2, 3, 7, 8, 10, 13, 16, 39, 41, 43] [pl 0 (.int .i64 end1), pl 1 (.int .i64 left1), pl 2 (.pointer (some ⟨g1, 0, none⟩)), pl 3 (.pointer (some ⟨g3, 0, none⟩)), pl 7 (.int .i64 n3), pl 8 (.int .i64 z2), pl 10 (.pointer (some ⟨g4, 0, none⟩)), pl 13 (.int .i64 z2), pl 16 (.int .i64 z4), pl 39 (.map (some g2)), pl 41 (.int .i64 (mget (0 : Int) (minI z4 z2, maxI z4 z2) z3)), pl 43 (.tuple #[.int .i64 (mget (0 : Int) (minI z4 z2, maxI z4 z2) z3), .int .i64 ((s1 : Nat) : Int)])] hF hS (by kernel_rfl) (by kernel_rfl) ?_ (fun a hF => ?_)
                      · exact obs_cons (ob_lookV (k := (minI z4 z2, maxI z4 z2)) (m := z3) MK102 UndM105 (z := (0 : Int)) MZ3 (fun _ hS => ⟨_, _, _, _, _, hS.at_ 1 rfl⟩)) <| obs_nil
                      refine any_finI rfl (fun h => h) ?_
                      refine any_step [3, 5] (by kernel_rfl) rfl ?_
                      refine (all_cons ?_ (all_cons ?_ all_nil))
                      · refine any_op (listed' := #[true, true, true, true, true, false, false]) (by kernel_rfl) (by kernel_rfl) ?_
                        refine at_runW 1 [] [] [0, 1, 2, 3, 7, 8, 10, 13, 16, 39, 42, 43] [pl 0 (.int .i64 end1), pl 1 (.int .i64 left1), pl 2 (.pointer (some ⟨g1, 0, none⟩)), pl 3 (.pointer (some ⟨g3, 0, none⟩)), pl 7 (.int .i64 n3), pl 8 (.int .i64 z2), pl 10 (.pointer (some ⟨g4, 0, none⟩)), pl 13 (.int .i64 z2), pl 16 (.int .i64 z4), pl 39 (.map (some g2)), pl 42 (.int .i64 (w64 ((mget (0 : Int) (minI z4 z2, maxI z4 z2) z3) - 1))), pl 43 (.tuple #[.int .i64 (mget (0 : Int) (minI z4 z2, maxI z4 z2) z3), .int .i64 ((s1 : Nat) : Int)])] hF hS (by kernel_rfl) (by kernel_rfl) ?_ (fun a hF => ?_)
                        · exact obs_nil
                        refine any_finI rfl (fun h => h) ?_
                        refine any_step [5] (by kernel_rfl) rfl ?_
                        refine (all_cons ?_ all_nil)
                        · refine any_op (listed' := #[true, true, true, true, true, true, false]) (by kernel_rfl) (by kernel_rfl) ?_
                          refine at_runW 1 [] [] [0, 1, 2, 3, 7, 8, 10, 13, 16, 39, 42, 44] [pl 0 (.int .i64 end1), pl 1 (.int .i64 left1), pl 2 (.pointer (some ⟨g1, 0, none⟩)), pl 3 (.pointer (some ⟨g3, 0, none⟩)), pl 7 (.int .i64 n3), pl 8 (.int .i64 z2), pl 10 (.pointer (some ⟨g4, 0, none⟩)), pl 13 (.int .i64 z2), pl 16 (.int .i64 z4), pl 39 (.map (some g2)), pl 42 (.int .i64 (w64 ((mget (0 : Int) (minI z4 z2, maxI z4 z2) z3) - 1))), pl 44 (.int .i64 ((s1 : Nat) : Int))] hF hS (by kernel_rfl) (by kernel_rfl) ?_ (fun a hF => ?_)
                          · exact obs_nil
                          refine any_finI rfl (fun h => h) ?_
                          refine any_step [6] (by kernel_rfl) rfl ?_
                          refine (all_cons ?_ all_nil)
                          · refine any_op (listed' := #[true, true, true, true, true, true, true]) (by kernel_rfl) (by kernel_rfl) ?_
                            obtain ⟨w, hrun, hS⟩ := run_mstoreV (P := Try.prog) (t := 105) (vf := (Value.int .i64)) (minI z4 z2, maxI z4 z2) (w64 ((mget (0 : Int) (minI z4 z2, maxI z4 z2) z3) - 1)) (hS.at_ 1 rfl)
                            refine at_skip hF (by kernel_rfl) hrun ?_
                            have hS : Sep w0 B w (blk g1 105 #[.map (some g2)] :: mapH kf102 (Value.int .i64) g2 (mput (minI z4 z2, maxI z4 z2) (w64 ((mget (0 : Int) (minI z4 z2, maxI z4 z2) z3) - 1)) z3) :: blk g3 86 #[.func (.func 77) #[] #[.pointer (some ⟨g1, 0, none⟩), .pointer (some ⟨g3, 0, none⟩)]] :: blk g4 102 #[.int .i64 (minI z4 z2), .int .i64 (maxI z4 z2)] :: fs) := hS
                            refine any_finE rfl (by decide) ?_
                            refine any_end (by kernel_rfl) ?_
                            refine np_n ?_
                            refine then_n ?_
                            exact ⟨hF.weak [0, 1, 2, 3, 7, 8, 10, 13, 16] (by kernel_rfl), hS, hm⟩
                      · refine any_op (listed' := #[true, true, true, false, true, true, false]) (by kernel_rfl) (by kernel_rfl) ?_
                        refine at_runW 1 [] [] [0, 1, 2, 3, 7, 8, 10, 13, 16, 39, 41, 44] [pl 0 (.int .i64 end1), pl 1 (.int .i64 left1), pl 2 (.pointer (some ⟨g1, 0, none⟩)), pl 3 (.pointer (some ⟨g3, 0, none⟩)), pl 7 (.int .i64 n3), pl 8 (.int .i64 z2), pl 10 (.pointer (some ⟨g4, 0, none⟩)), pl 13 (.int .i64 z2), pl 16 (.int .i64 z4), pl 39 (.map (some g2)), pl 41 (.int .i64 (mget (0 : Int) (minI z4 z2, maxI z4 z2) z3)), pl 44 (.int .i64 ((s1 : Nat) : Int))] hF hS (by kernel_rfl) (by kernel_rfl) ?_ (fun a hF => ?_)
                        · exact obs_nil
                        refine any_finI rfl (fun h => h) ?_
                        refine any_step [3] (by kernel_rfl) rfl ?_
                        refine (all_cons ?_ all_nil)
                        · refine any_op (listed' := #[true, true, true, true, true, true, false]) (by kernel_rfl) (by kernel_rfl) ?_
                          refine at_runW 1 [] [] [0, 1, 2, 3, 7, 8, 10, 13, 16, 39, 42, 44] [pl 0 (.int .i64 end1), pl 1 (.int .i64 left1), pl 2 (.pointer (some ⟨g1, 0, none⟩)), pl 3 (.pointer (some ⟨g3, 0, none⟩)), pl 7 (.int .i64 n3), pl 8 (.int .i64 z2), pl 10 (.pointer (some ⟨g4, 0, none⟩)), pl 13 (.int .i64 z2), pl 16 (.int .i64 z4), pl 39 (.map (some g2)), pl 42 (.int .i64 (w64 ((mget (0 : Int) (minI z4 z2, maxI z4 z2) z3) - 1))), pl 44 (.int .i64 ((s1 : Nat) : Int))] hF hS (by kernel_rfl) (by kernel_rfl) ?_ (fun a hF => ?_)
                          · exact obs_nil
                          refine any_finI rfl (fun h => h) ?_
                          refine any_step [6] (by kernel_rfl) rfl ?_
                          refine (all_cons ?_ all_nil)
                          · refine any_op (listed' := #[true, true, true, true, true, true, true]) (by kernel_rfl) (by kernel_rfl) ?_
                            obtain ⟨w, hrun, hS⟩ := run_mstoreV (P := Try.prog) (t := 105) (vf := (Value.int .i64)) (minI z4 z2, maxI z4 z2) (w64 ((mget (0 : Int) (minI z4 z2, maxI z4 z2) z3) - 1)) (hS.at_ 1 rfl)
                            refine at_skip hF (by kernel_rfl) hrun ?_
                            have hS : Sep w0 B w (blk g1 105 #[.map (some g2)] :: mapH kf102 (Value.int .i64) g2 (mput (minI z4 z2, maxI z4 z2) (w64 ((mget (0 : Int) (minI z4 z2, maxI z4 z2) z3) - 1)) z3) :: blk g3 86 #[.func (.func 77) #[] #[.pointer (some ⟨g1, 0, none⟩), .pointer (some ⟨g3, 0, none⟩)]] :: blk g4 102 #[.int .i64 (minI z4 z2), .int .i64 (maxI z4 z2)] :: fs) := hS
                            refine any_finE rfl (by decide) ?_
                            refine any_end (by kernel_rfl) ?_
                            refine np_n ?_
                            refine then_n ?_
                            exact ⟨hF.weak [0, 1, 2, 3, 7, 8, 10, 13, 16] (by kernel_rfl), hS, hm⟩
                    · refine any_op (listed' := #[true, true, false, false, true, true, false]) (by kernel_rfl) (by kernel_rfl) ?_
                      refine at_runW 1 [] [] [0, 1, 2, 3, 7, 8, 10, 13, 16, 39, 40, 44] [pl 0 (.int .i64 end1), pl 1 (.int .i64 left1), pl 2 (.pointer (some ⟨g1, 0, none⟩)), pl 3 (.pointer (some ⟨g3, 0, none⟩)), pl 7 (.int .i64 n3), pl 8 (.int .i64 z2), pl 10 (.pointer (some ⟨g4, 0, none⟩)), pl 13 (.int .i64 z2), pl 16 (.int .i64 z4), pl 39 (.map (some g2)), pl 40 (.agg #[.int .i64 (minI z4 z2), .int .i64 (maxI z4 z2)]), pl 44 (.int .i64 ((s1 : Nat) : Int))] hF hS (by kernel_rfl) (by kernel_rfl) ?_ (fun a hF => ?_)
                      · exact obs_nil
                      refine any_finI rfl (fun h => h) ?_
                      refine any_step [2] (by kernel_rfl) rfl ?_
                      refine (all_cons ?_ all_nil)
                      · refine any_op (listed' := #[true, true, true, false, true, true, false]) (by kernel_rfl) (by kernel_rfl) ?_
                        refine at_runW 1 [⟨false, [], vS (Instr.lookup 105 (.map (some g2)) (.agg #[.int .i64 (minI z4 z2), .int .i64 (maxI z4 z2)]) false), .int .i64 (mget (0 : Int) (minI z4 z2, maxI z4 z2) z3)⟩] [some (.int .i64 (mget (0 : Int) (minI z4 z2, maxI z4 z2) z3))] [0, 1, 2, 3, 7, 8, 10, 13, 16, 39, 41, 44] [pl 0 (.int .i64 end1), pl 1 (.int .i64 left1), pl 2 (.pointer (some ⟨g1, 0, none⟩)), pl 3 (.pointer (some ⟨g3, 0, none⟩)), pl 7 (.int .i64 n3), pl 8 (.int .i64 z2), pl 10 (.pointer (some ⟨g4, 0, none⟩)), pl 13 (.int .i64 z2), pl 16 (.int .i64 z4), pl 39 (.map (some g2)), pl 41 (.int .i64 (mget (0 : Int) (minI z4 z2, maxI z4 z2) z3)), pl 44 (.int .i64 ((s1 : Nat) : Int))] hF hS (by kernel_rfl) (by kernel_rfl) ?_ (fun a hF => ?_)
                        · exact obs_cons (ob_lookV (k := (minI z4 z2, maxI z4 z2)) (m := z3) MK102 UndM105 (z := (0 : Int)) MZ3 (fun _ hS => ⟨_, _, _, _, _, hS.at_ 1 rfl⟩)) <| obs_nil
                        refine any_finI rfl (fun h => h) ?_
                        refine any_step [3] (by kernel_rfl) rfl ?_
                        refine (all_cons ?_ all_nil)
                        · refine any_op (listed' := #[true, true, true, true, true, true, false]) (by kernel_rfl) (by kernel_rfl) ?_
                          refine at_runW 1 [] [] [0, 1, 2, 3, 7, 8, 10, 13, 16, 39, 42, 44] [pl 0 (.int .i64 end1), pl 1 (.int .i64 left1), pl 2 (.pointer (some ⟨g1, 0, none⟩)), pl 3 (.pointer (some ⟨g3, 0, none⟩)), pl 7 (.int .i64 n3), pl 8 (.int .i64 z2), pl 10 (.pointer (some ⟨g4, 0, none⟩)), pl 13 (.int .i64 z2), pl 16 (.int .i64 z4), pl 39 (.map (some g2)), pl 42 (.int .i64 (w64 ((mget (0 : Int) (minI z4 z2, maxI z4 z2) z3) - 1))), pl 44 (.int .i64 ((s1 : Nat) : Int))] hF hS (by kernel_rfl) (by kernel_rfl) ?_ (fun a hF => ?_)
                          · exact obs_nil
                          refine any_finI rfl (fun h => h) ?_
                          refine any_step [6] (by kernel_rfl) rfl ?_
                          refine (all_cons ?_ all_nil)
                          · refine any_op (listed' := #[true, true, true, true, true, true, true]) (by kernel_rfl) (by kernel_rfl) ?_
                            obtain ⟨w, hrun, hS⟩ := run_mstoreV (P := Try.prog) (t := 105) (vf := (Value.int .i64)) (minI z4 z2, maxI z4 z2) (w64 ((mget (0 : Int) (minI z4 z2, maxI z4 z2) z3) - 1)) (hS.at_ 1 rfl)
                            refine at_skip hF (by kernel_rfl) hrun ?_
                            have hS : Sep w0 B w (blk g1 105 #[.map (some g2)] :: mapH kf102 (Value.int .i64) g2 (mput (minI z4 z2, maxI z4 z2) (w64 ((mget (0 : Int) (minI z4 z2, maxI z4 z2) z3) - 1)) z3) :: blk g3 86 #[.func (.func 77) #[] #[.pointer (some ⟨g1, 0, none⟩), .pointer (some ⟨g3, 0, none⟩)]] :: blk g4 102 #[.int .i64 (minI z4 z2), .int .i64 (maxI z4 z2)] :: fs) := hS
                            refine any_finE rfl (by decide) ?_
                            refine any_end (by kernel_rfl) ?_
                            refine np_n ?_
                            refine then_n ?_
                            exact ⟨hF.weak [0, 1, 2, 3, 7, 8, 10, 13, 16] (by kernel_rfl), hS, hm⟩
              · refine seq_cut (fun a w => ∃ (z6 : Bool), Fr 61 [pl 0 (.int .i64 end1), pl 1 (.int .i64 left1), pl 2 (.pointer (some ⟨g1, 0, none⟩)), pl 3 (.pointer (some ⟨g3, 0, none⟩)), pl 7 (.int .i64 n3), pl 8 (.int .i64 z2), pl 10 (.pointer (some ⟨g4, 0, none⟩)), pl 13 (.int .i64 z2), pl 16 (.int .i64 z4), pl 38 (.bool z6)] a ∧ Sep w0 B w (blk g1 105 #[.map (some g2)] :: mapH kf102 (Value.int .i64) g2 z3 :: blk g3 86 #[.func (.func 77) #[] #[.pointer (some ⟨g1, 0, none⟩), .pointer (some ⟨g3, 0, none⟩)]] :: blk g4 102 #[.int .i64 (minI z4 z2), .int .i64 (maxI z4 z2)] :: fs) ∧ ((domino_Rows_1_J8 rec_domino_Rows_1 left1 z2 z3 n3 z4) z6).bind φ2 = some r) ?_ ?_
                · rintro a w ⟨z6, hF, hS, hm⟩
                  unfold domino_Rows_1_J8 at hm
                  refine cond_ev (t := 38) (b := z6) hF (by kernel_rfl) (fun hb => ?_) (fun hb => ?_)
                  · replace hm := if_t hm hb
                    refine wp_exit ?_
                    refine then_e (block_e (then_n ?_))
                    have hS := hS.pickN 4 [0, 1, 2] (by decide)
                    exact ⟨z3, n3, hF.weak [0, 1, 2, 3, 7, 8, 13, 16] (by kernel_rfl), hS, hm⟩
                  · replace hm := if_f hm hb
                    refine wp_skip ?_
                    refine then_n ?_
                    exact ⟨hF.weak [0, 1, 2, 3, 7, 8, 10, 13, 16] (by kernel_rfl), hS, hm⟩
                · refine oneR ?_
                  refine at_run 10 [⟨false, [((decide ((0 : Int) ≤ end1)) && (z4 != end1), false)], vS (Instr.loadAt 105 (.pointer (some ⟨g1, 0, none⟩))), .map (some g2)⟩, ⟨false, [((decide ((0 : Int) ≤ end1)) && (z4 != end1), false)], vS (Instr.loadAt 102 (.pointer (some ⟨g4, 0, none⟩))), .agg #[.int .i64 (minI z4 z2), .int .i64 (maxI z4 z2)]⟩] [none, none, none, none, none, none, none, none, some (.map (some g2)), some (.agg #[.int .i64 (minI z4 z2), .int .i64 (maxI z4 z2)])] [0, 1, 2, 3, 7, 8, 10, 13, 16, 33, 34, 35] [pl 0 (.int .i64 end1), pl 1 (.int .i64 left1), pl 2 (.pointer (some ⟨g1, 0, none⟩)), pl 3 (.pointer (some ⟨g3, 0, none⟩)), pl 7 (.int .i64 n3), pl 8 (.int .i64 z2), pl 10 (.pointer (some ⟨g4, 0, none⟩)), pl 13 (.int .i64 z2), pl 16 (.int .i64 z4), pl 33 (.bool ((decide ((0 : Int) ≤ end1)) && (z4 != end1))), ⟨34, [(33, false)], .map (some g2)⟩, ⟨35, [(33, false)], .agg #[.int .i64 (minI z4 z2), .int .i64 (maxI z4 z2)]⟩] hF hS (by kernel_rfl) (by kernel_rfl) ?_ (fun a w hF hS => ?_)
                  · exact obs_cons (ob_load Agg105 (fun _ _ hS => (hS.at_ 1 rfl).cell rfl)) <| obs_cons (ob_loadA (cs := #[.int .i64 (minI z4 z2), .int .i64 (maxI z4 z2)]) (by kernel_rfl) (by kernel_rfl) (fun _ _ hS => (hS.at_ 0 rfl).cellsAt 0 (by rfl))) <| obs_nil
                  rcases Bool.eq_false_or_eq_true ((decide ((0 : Int) ≤ end1)) && (z4 != end1)) with hg1 | hg1
                  · replace hm := if_t hm hg1
                    refine at_gskip (d := 36) (v := .int .i64 0) (hs := [((decide ((0 : Int) ≤ end1)) && (z4 != end1), false)]) (ctx := [(33, false)]) hF (by kernel_rfl) (by kernel_rfl) (fun h => absurd (h ((decide ((0 : Int) ≤ end1)) && (z4 != end1), false) (by simp)) (by simp [hg1])) (fun a hF => ?_)
                    refine at_run 2 [] [] [0, 1, 2, 3, 7, 8, 10, 13, 16, 38] [pl 0 (.int .i64 end1), pl 1 (.int .i64 left1), pl 2 (.pointer (some ⟨g1, 0, none⟩)), pl 3 (.pointer (some ⟨g3, 0, none⟩)), pl 7 (.int .i64 n3), pl 8 (.int .i64 z2), pl 10 (.pointer (some ⟨g4, 0, none⟩)), pl 13 (.int .i64 z2), pl 16 (.int .i64 z4), pl 38 (.bool (((decide ((0 : Int) ≤ end1)) && (z4 != end1)) || ((0 : Int) == 0)))] hF hS (by kernel_rfl) (by kernel_rfl) ?_ (fun a w hF hS => ?_)
                    · exact obs_nil
                    refine at_end [0, 1, 2, 3, 7, 8, 10, 13, 16, 38] [pl 0 (.int .i64 end1), pl 1 (.int .i64 left1), pl 2 (.pointer (some ⟨g1, 0, none⟩)), pl 3 (.pointer (some ⟨g3, 0, none⟩)), pl 7 (.int .i64 n3), pl 8 (.int .i64 z2), pl 10 (.pointer (some ⟨g4, 0, none⟩)), pl 13 (.int .i64 z2), pl 16 (.int .i64 z4), pl 38 (.bool (((decide ((0 : Int) ≤ end1)) && (z4 != end1)) || ((0 : Int) == 0)))] hF rfl (by kernel_rfl) (fun hF => ?_)
                    refine then_n ?_
                    have hS := hS.pickN 4 [1, 2, 3, 0] (by decide)
                    exact ⟨(((decide ((0 : Int) ≤ end1)) && (z4 != end1)) || ((0 : Int) == 0)), hF.weak [0, 1, 2, 3, 7, 8, 10, 13, 16, 38] (by kernel_rfl), hS, hm⟩
                  · replace hm := if_f hm hg1
                    refine at_run 3 [⟨false, [((decide ((0 : Int) ≤ end1)) && (z4 != end1), false)], vS (Instr.lookup 105 (.map (some g2)) (.agg #[.int .i64 (minI z4 z2), .int .i64 (maxI z4 z2)]) false), .int .i64 (mget (0 : Int) (minI z4 z2, maxI z4 z2) z3)⟩] [some (.int .i64 (mget (0 : Int) (minI z4 z2, maxI z4 z2) z3)), none, none] [0, 1, 2, 3, 7, 8, 10, 13, 16, 38] [pl 0 (.int .i64 end1), pl 1 (.int .i64 left1), pl 2 (.pointer (some ⟨g1, 0, none⟩)), pl 3 (.pointer (some ⟨g3, 0, none⟩)), pl 7 (.int .i64 n3), pl 8 (.int .i64 z2), pl 10 (.pointer (some ⟨g4, 0, none⟩)), pl 13 (.int .i64 z2), pl 16 (.int .i64 z4), pl 38 (.bool (((decide ((0 : Int) ≤ end1)) && (z4 != end1)) || ((mget (0 : Int) (minI z4 z2, maxI z4 z2) z3) == 0)))] hF hS (by kernel_rfl) (by kernel_rfl) ?_ (fun a w hF hS => ?_)
                    · exact obs_cons (ob_look (k := (minI z4 z2, maxI z4 z2)) (m := z3) MK102 UndM105 (z := (0 : Int)) MZ3 (fun _ hS => ⟨_, _, _, _, hS.at_ 2 rfl⟩)) <| obs_nil
                    refine at_end [0, 1, 2, 3, 7, 8, 10, 13, 16, 38] [pl 0 (.int .i64 end1), pl 1 (.int .i64 left1), pl 2 (.pointer (some ⟨g1, 0, none⟩)), pl 3 (.pointer (some ⟨g3, 0, none⟩)), pl 7 (.int .i64 n3), pl 8 (.int .i64 z2), pl 10 (.pointer (some ⟨g4, 0, none⟩)), pl 13 (.int .i64 z2), pl 16 (.int .i64 z4), pl 38 (.bool (((decide ((0 : Int) ≤ end1)) && (z4 != end1)) || ((mget (0 : Int) (minI z4 z2, maxI z4 z2) z3) == 0)))] hF rfl (by kernel_rfl) (fun hF => ?_)
                    refine then_n ?_
                    have hS := hS.pickN 4 [1, 2, 3, 0] (by decide)
                    exact ⟨(((decide ((0 : Int) ≤ end1)) && (z4 != end1)) || ((mget (0 : Int) (minI z4 z2, maxI z4 z2) z3) == 0)), hF.weak [0, 1, 2, 3, 7, 8, 10, 13, 16, 38] (by kernel_rfl), hS, hm⟩
          · refine cond_ev (t := 17) (b := decide (z4 < 10)) hF (by kernel_rfl) (fun hb => ?_) (fun hb => ?_)
            · replace hm := if_t hm hb
              refine wp_skip ?_
              refine then_n ?_
              exact ⟨hF.weak [0, 1, 2, 3, 7, 8, 13, 16] (by kernel_rfl), hS, hm⟩
            · replace hm := if_f hm hb
              refine wp_exit ?_
              refine then_e (then_e (block_e (block_n (then_n ?_))))
              rw [← hφ2] at hm
              replace hm := done_b hm
              unfold domino_Rows_1_K2 at hm
              try dsimp only at hm
              have hm : ((domino_Rows_1_J4 z2) z3 n3).bind φ1 = some r := hm
              exact ⟨z3, n3, hF.weak [0, 1, 2, 3, 7, 13] (by kernel_rfl), hS, hm⟩
      · refine cond_ev (t := 14) (b := decide (z2 < 10)) hF (by kernel_rfl) (fun hb => ?_) (fun hb => ?_)
        · replace hm := if_t hm hb
          refine wp_skip ?_
          refine then_n ?_
          exact ⟨hF.weak [0, 1, 2, 3, 7, 13] (by kernel_rfl), hS, hm⟩
        · replace hm := if_f hm hb
          refine wp_exit ?_
          refine then_e (then_e (block_e (then_n ?_)))
          rw [← hφ1] at hm
          replace hm := done_b hm
          unfold domino_Rows_1_K1 at hm
          try dsimp only at hm
          have hm : (domino_Rows_1_J2 n1 z1).bind some = some r := hm
          exact ⟨n1, z1, hF.weak [7] (by kernel_rfl), hS, hm⟩
  · refine reg [] [] [0, 1, 2, 3, 12] [pl 0 (.int .i64 end1), pl 1 (.int .i64 left1), pl 2 (.pointer (some ⟨g1, 0, none⟩)), pl 3 (.pointer (some ⟨g3, 0, none⟩)), pl 12 (.bool (left1 == 0))] hF hS Fol (by kernel_rfl) (by kernel_rfl) (by kernel_rfl) ?_ (fun a w hF hS => ?_)
    · exact obs_nil
    refine cond_ev (t := 12) (b := (left1 == 0)) hF (by kernel_rfl) (fun hb => ?_) (fun hb => ?_)
    · replace hm := if_t hm hb
      refine reg [] [] [6] [pl 6 (.int .i64 1)] hF hS Fol (by kernel_rfl) (by kernel_rfl) (by kernel_rfl) ?_ (fun a w hF hS => ?_)
      · exact obs_nil
      refine wp_ret ?_
      refine then_r ?_
      have hm : some (1, p21) = some r := hm
      obtain rfl := Option.some.inj hm
      exact retV (rs := [.tmp 6]) (vs := [.int .i64 1]) hF rfl (rv_t (by kernel_rfl) <| rv_nil) rfl ⟨_, rfl, rfl, hS⟩
    · replace hm := if_f hm hb
      refine wp_skip ?_
      refine then_n ?_
      exact ⟨hF.weak [0, 1, 2, 3] (by kernel_rfl), hS, hm⟩

theorem domino_Rows_1_w {end1 : Int} {left1 : Int} {g1 : Nat} {g2 : Nat} {p21 : List ((Int × Int) × Int)} {g3 : Nat} {r : (Int × List ((Int × Int) × Int))} {w0 w : World} {B : Nat} {fs : List HP} (hm : domino_Rows_1_m end1 left1 p21 = some r) (hS : Sep w0 B w (blk g1 105 #[.map (some g2)] :: mapH kf102 (Value.int .i64) g2 p21 :: blk g3 86 #[.func (.func 77) #[] #[.pointer (some ⟨g1, 0, none⟩), .pointer (some ⟨g3, 0, none⟩)]] :: fs)) :
    Calls Try.prog 77 #[.int .i64 end1, .int .i64 left1, .pointer (some ⟨g1, 0, none⟩), .pointer (some ⟨g3, 0, none⟩)] w fun e w' => ∃ v, e = .returned v ∧ v = .int .i64 r.1 ∧ Sep w0 B w' (blk g1 105 #[.map (some g2)] :: mapH kf102 (Value.int .i64) g2 r.2 :: blk g3 86 #[.func (.func 77) #[] #[.pointer (some ⟨g1, 0, none⟩), .pointer (some ⟨g3, 0, none⟩)]] :: fs) := by
  have key : ∀ (n : Nat) {end1 : Int} {left1 : Int} {g1 : Nat} {g2 : Nat} {p21 : List ((Int × Int) × Int)} {g3 : Nat} {r : (Int × List ((Int × Int) × Int))} {w0 w : World} {B : Nat} {fs : List HP} (_ : domino_Rows_1_mF n end1 left1 p21 = some r) (_ : Sep w0 B w (blk g1 105 #[.map (some g2)] :: mapH kf102 (Value.int .i64) g2 p21 :: blk g3 86 #[.func (.func 77) #[] #[.pointer (some ⟨g1, 0, none⟩), .pointer (some ⟨g3, 0, none⟩)]] :: fs)), Calls Try.prog 77 #[.int .i64 end1, .int .i64 left1, .pointer (some ⟨g1, 0, none⟩), .pointer (some ⟨g3, 0, none⟩)] w fun e w' => ∃ v, e = .returned v ∧ v = .int .i64 r.1 ∧ Sep w0 B w' (blk g1 105 #[.map (some g2)] :: mapH kf102 (Value.int .i64) g2 r.2 :: blk g3 86 #[.func (.func 77) #[] #[.pointer (some ⟨g1, 0, none⟩), .pointer (some ⟨g3, 0, none⟩)]] :: fs) := by
    intro n
    induction n with
    | zero => intros; rename_i hm0 _; cases hm0
    | succ n ih => intros; rename_i hm0 hS0; exact domino_Rows_1_wB (rec_domino_Rows_1 := domino_Rows_1_mF n) (fun hm hS => ih hm hS) hm0 hS0
  obtain ⟨n, hn⟩ := recM_some hm
  exact key n hn hS

set_option maxRecDepth 100000 in
theorem domino_Rows_1_J9_le_domino_Rows_1 {rec_domino_Rows_11 rec_domino_Rows_12 : Int → Int → List ((Int × Int) × Int) → Option (Int × List ((Int × Int) × Int))} (h_rec_domino_Rows_1 : ∀ a0 a1 a2, Le (rec_domino_Rows_11 a0 a1 a2) (rec_domino_Rows_12 a0 a1 a2)) (left1 : Int) (z2 : Int) (z3 : List ((Int × Int) × Int)) (n3 : Int) (z4 : Int) : Le (domino_Rows_1_J9 rec_domino_Rows_11 left1 z2 z3 n3 z4) (domino_Rows_1_J9 rec_domino_Rows_12 left1 z2 z3 n3 z4) := by
  unfold domino_Rows_1_J9
  repeat' (first | with_reducible exact Le.refl _ | with_reducible exact h_rec_domino_Rows_1 _ _ _ | with_reducible refine Le.asrt ?_ | with_reducible refine Le.ite ?_ ?_ | refine Le.bind ?_ (fun _ => ?_) | refine Le.loop2 (fun _ => ?_) | refine Le.elim2 (fun _ => ?_) (fun _ => ?_))

set_option maxRecDepth 100000 in
theorem domino_Rows_1_J7_le_domino_Rows_1 {rec_domino_Rows_11 rec_domino_Rows_12 : Int → Int → List ((Int × Int) × Int) → Option (Int × List ((Int × Int) × Int))} (h_rec_domino_Rows_1 : ∀ a0 a1 a2, Le (rec_domino_Rows_11 a0 a1 a2) (rec_domino_Rows_12 a0 a1 a2)) (left1 : Int) (z2 : Int) (z3 : List ((Int × Int) × Int)) (n3 : Int) (z4 : Int) : Le (domino_Rows_1_J7 rec_domino_Rows_11 left1 z2 z3 n3 z4) (domino_Rows_1_J7 rec_domino_Rows_12 left1 z2 z3 n3 z4) := by
  unfold domino_Rows_1_J7
  repeat' (first | with_reducible exact Le.refl _ | with_reducible exact h_rec_domino_Rows_1 _ _ _ | with_reducible exact domino_Rows_1_J9_le_domino_Rows_1 h_rec_domino_Rows_1 _ _ _ _ _ | with_reducible refine Le.asrt ?_ | with_reducible refine Le.ite ?_ ?_ | refine Le.bind ?_ (fun _ => ?_) | refine Le.loop2 (fun _ => ?_) | refine Le.elim2 (fun _ => ?_) (fun _ => ?_))

set_option maxRecDepth 100000 in
theorem domino_Rows_1_J8_le_domino_Rows_1 {rec_domino_Rows_11 rec_domino_Rows_12 : Int → Int → List ((Int × Int) × Int) → Option (Int × List ((Int × Int) × Int))} (h_rec_domino_Rows_1 : ∀ a0 a1 a2, Le (rec_domino_Rows_11 a0 a1 a2) (rec_domino_Rows_12 a0 a1 a2)) (left1 : Int) (z2 : Int) (z3 : List ((Int × Int) × Int)) (n3 : Int) (z4 : Int) (z6 : Bool) : Le (domino_Rows_1_J8 rec_domino_Rows_11 left1 z2 z3 n3 z4 z6) (domino_Rows_1_J8 rec_domino_Rows_12 left1 z2 z3 n3 z4 z6) := by
  unfold domino_Rows_1_J8
  repeat' (first | with_reducible exact Le.refl _ | with_reducible exact h_rec_domino_Rows_1 _ _ _ | with_reducible exact domino_Rows_1_J7_le_domino_Rows_1 h_rec_domino_Rows_1 _ _ _ _ _ | with_reducible refine Le.asrt ?_ | with_reducible refine Le.ite ?_ ?_ | refine Le.bind ?_ (fun _ => ?_) | refine Le.loop2 (fun _ => ?_) | refine Le.elim2 (fun _ => ?_) (fun _ => ?_))

set_option maxRecDepth 100000 in
theorem domino_Rows_1_J5_le_domino_Rows_1 {rec_domino_Rows_11 rec_domino_Rows_12 : Int → Int → List ((Int × Int) × Int) → Option (Int × List ((Int × Int) × Int))} (h_rec_domino_Rows_1 : ∀ a0 a1 a2, Le (rec_domino_Rows_11 a0 a1 a2) (rec_domino_Rows_12 a0 a1 a2)) (end1 : Int) (left1 : Int) (z2 : Int) (z3 : List ((Int × Int) × Int)) (n3 : Int) (z4 : Int) : Le (domino_Rows_1_J5 rec_domino_Rows_11 end1 left1 z2 z3 n3 z4) (domino_Rows_1_J5 rec_domino_Rows_12 end1 left1 z2 z3 n3 z4) := by
  unfold domino_Rows_1_J5
  repeat' (first | with_reducible exact Le.refl _ | with_reducible exact h_rec_domino_Rows_1 _ _ _ | with_reducible exact domino_Rows_1_J8_le_domino_Rows_1 h_rec_domino_Rows_1 _ _ _ _ _ _ | with_reducible refine Le.asrt ?_ | with_reducible refine Le.ite ?_ ?_ | refine Le.bind ?_ (fun _ => ?_) | refine Le.loop2 (fun _ => ?_) | refine Le.elim2 (fun _ => ?_) (fun _ => ?_))

set_option maxRecDepth 100000 in
theorem domino_Rows_1_L2_le_domino_Rows_1 {rec_domino_Rows_11 rec_domino_Rows_12 : Int → Int → List ((Int × Int) × Int) → Option (Int × List ((Int × Int) × Int))} (h_rec_domino_Rows_1 : ∀ a0 a1 a2, Le (rec_domino_Rows_11 a0 a1 a2) (rec_domino_Rows_12 a0 a1 a2)) (end1 : Int) (left1 : Int) (z2 : Int) (x : (List ((Int × Int) × Int) × Int × Int)) : Le (domino_Rows_1_L2 rec_domino_Rows_11 end1 left1 z2 x) (domino_Rows_1_L2 rec_domino_Rows_12 end1 left1 z2 x) := by
  rcases x with ⟨z3, n3, z4⟩
  all_goals
    unfold domino_Rows_1_L2
    try dsimp only
    repeat' (first | with_reducible exact Le.refl _ | with_reducible exact h_rec_domino_Rows_1 _ _ _ | with_reducible exact domino_Rows_1_J5_le_domino_Rows_1 h_rec_domino_Rows_1 _ _ _ _ _ _ | with_reducible refine Le.asrt ?_ | with_reducible refine Le.ite ?_ ?_ | refine Le.bind ?_ (fun _ => ?_) | refine Le.loop2 (fun _ => ?_) | refine Le.elim2 (fun _ => ?_) (fun _ => ?_))

set_option maxRecDepth 100000 in
theorem domino_Rows_1_J3_le_domino_Rows_1 {rec_domino_Rows_11 rec_domino_Rows_12 : Int → Int → List ((Int × Int) × Int) → Option (Int × List ((Int × Int) × Int))} (h_rec_domino_Rows_1 : ∀ a0 a1 a2, Le (rec_domino_Rows_11 a0 a1 a2) (rec_domino_Rows_12 a0 a1 a2)) (end1 : Int) (left1 : Int) (z1 : List ((Int × Int) × Int)) (n1 : Int) (z2 : Int) : Le (domino_Rows_1_J3 rec_domino_Rows_11 end1 left1 z1 n1 z2) (domino_Rows_1_J3 rec_domino_Rows_12 end1 left1 z1 n1 z2) := by
  unfold domino_Rows_1_J3
  repeat' (first | with_reducible exact Le.refl _ | with_reducible exact h_rec_domino_Rows_1 _ _ _ | with_reducible exact domino_Rows_1_L2_le_domino_Rows_1 h_rec_domino_Rows_1 _ _ _ _ | with_reducible refine Le.asrt ?_ | with_reducible refine Le.ite ?_ ?_ | refine Le.bind ?_ (fun _ => ?_) | refine Le.loop2 (fun _ => ?_) | refine Le.elim2 (fun _ => ?_) (fun _ => ?_))

set_option maxRecDepth 100000 in
theorem domino_Rows_1_L1_le_domino_Rows_1 {rec_domino_Rows_11 rec_domino_Rows_12 : Int → Int → List ((Int × Int) × Int) → Option (Int × List ((Int × Int) × Int))} (h_rec_domino_Rows_1 : ∀ a0 a1 a2, Le (rec_domino_Rows_11 a0 a1 a2) (rec_domino_Rows_12 a0 a1 a2)) (end1 : Int) (left1 : Int) (x : (List ((Int × Int) × Int) × Int × Int)) : Le (domino_Rows_1_L1 rec_domino_Rows_11 end1 left1 x) (domino_Rows_1_L1 rec_domino_Rows_12 end1 left1 x) := by
  rcases x with ⟨z1, n1, z2⟩
  all_goals
    unfold domino_Rows_1_L1
    try dsimp only
    repeat' (first | with_reducible exact Le.refl _ | with_reducible exact h_rec_domino_Rows_1 _ _ _ | with_reducible exact domino_Rows_1_J3_le_domino_Rows_1 h_rec_domino_Rows_1 _ _ _ _ _ | with_reducible refine Le.asrt ?_ | with_reducible refine Le.ite ?_ ?_ | refine Le.bind ?_ (fun _ => ?_) | refine Le.loop2 (fun _ => ?_) | refine Le.elim2 (fun _ => ?_) (fun _ => ?_))

set_option maxRecDepth 100000 in
theorem domino_Rows_1_J1_le_domino_Rows_1 {rec_domino_Rows_11 rec_domino_Rows_12 : Int → Int → List ((Int × Int) × Int) → Option (Int × List ((Int × Int) × Int))} (h_rec_domino_Rows_1 : ∀ a0 a1 a2, Le (rec_domino_Rows_11 a0 a1 a2) (rec_domino_Rows_12 a0 a1 a2)) (end1 : Int) (left1 : Int) (p21 : List ((Int × Int) × Int)) : Le (domino_Rows_1_J1 rec_domino_Rows_11 end1 left1 p21) (domino_Rows_1_J1 rec_domino_Rows_12 end1 left1 p21) := by
  unfold domino_Rows_1_J1
  repeat' (first | with_reducible exact Le.refl _ | with_reducible exact h_rec_domino_Rows_1 _ _ _ | with_reducible exact domino_Rows_1_L1_le_domino_Rows_1 h_rec_domino_Rows_1 _ _ _ | with_reducible refine Le.asrt ?_ | with_reducible refine Le.ite ?_ ?_ | refine Le.bind ?_ (fun _ => ?_) | refine Le.loop2 (fun _ => ?_) | refine Le.elim2 (fun _ => ?_) (fun _ => ?_))

set_option maxRecDepth 100000 in
theorem domino_Rows_1_B_le {rec_domino_Rows_11 rec_domino_Rows_12 : Int → Int → List ((Int × Int) × Int) → Option (Int × List ((Int × Int) × Int))} (h_rec_domino_Rows_1 : ∀ a0 a1 a2, Le (rec_domino_Rows_11 a0 a1 a2) (rec_domino_Rows_12 a0 a1 a2)) (end1 : Int) (left1 : Int) (p21 : List ((Int × Int) × Int)) : Le (domino_Rows_1_B rec_domino_Rows_11 end1 left1 p21) (domino_Rows_1_B rec_domino_Rows_12 end1 left1 p21) := by
  unfold domino_Rows_1_B
  repeat' (first | with_reducible exact Le.refl _ | with_reducible exact h_rec_domino_Rows_1 _ _ _ | with_reducible exact domino_Rows_1_J1_le_domino_Rows_1 h_rec_domino_Rows_1 _ _ _ | with_reducible refine Le.asrt ?_ | with_reducible refine Le.ite ?_ ?_ | refine Le.bind ?_ (fun _ => ?_) | refine Le.loop2 (fun _ => ?_) | refine Le.elim2 (fun _ => ?_) (fun _ => ?_))

set_option maxRecDepth 100000 in
theorem domino_Rows_1_mF_le : ∀ (n : Nat) (end1 : Int) (left1 : Int) (p21 : List ((Int × Int) × Int)), Le (domino_Rows_1_mF n end1 left1 p21) (domino_Rows_1_mF (n + 1) end1 left1 p21)
  | 0, _, _, _ => fun _ h => by cases h
  | n + 1, _, _, _ => domino_Rows_1_B_le (fun a0 a1 a2 => domino_Rows_1_mF_le n a0 a1 a2) _ _ _

set_option maxRecDepth 100000 in
theorem domino_Rows_1_m_of (N : Nat) (end1 : Int) (left1 : Int) (p21 : List ((Int × Int) × Int)) {r : (Int × List ((Int × Int) × Int))} (h : domino_Rows_1_mF N end1 left1 p21 = some r) : domino_Rows_1_m end1 left1 p21 = some r :=
  recM_mono (fun n => domino_Rows_1_mF_le n _ _ _) h

noncomputable def domino_Rows_J4 (l1 : List (Int × Int)) (many1 : List ((Int × Int) × Int)) (z1 : Int) : Option (St (List ((Int × Int) × Int) × Int) (List ((Int × Int) × Int))) :=
  some (.next ((mput (minI ((getd ((0, 0) : (Int × Int)) l1 z1).1) ((getd ((0, 0) : (Int × Int)) l1 z1).2), maxI ((getd ((0, 0) : (Int × Int)) l1 z1).1) ((getd ((0, 0) : (Int × Int)) l1 z1).2)) (w64 ((mget (0 : Int) (minI ((getd ((0, 0) : (Int × Int)) l1 z1).1) ((getd ((0, 0) : (Int × Int)) l1 z1).2), maxI ((getd ((0, 0) : (Int × Int)) l1 z1).1) ((getd ((0, 0) : (Int × Int)) l1 z1).2)) many1) + 1)) many1), (w64 (z1 + 1))))

noncomputable def domino_Rows_J3 (l1 : List (Int × Int)) (many1 : List ((Int × Int) × Int)) (z1 : Int) : Option (St (List ((Int × Int) × Int) × Int) (List ((Int × Int) × Int))) :=
  asrt (0 ≤ z1 ∧ z1 < (l1.length : Int)) <| (domino_Rows_J4 l1 many1 z1)

noncomputable def domino_Rows_J2 (l1 : List (Int × Int)) (many2 : List ((Int × Int) × Int)) : Option (Int × Int) :=
  (domino_Rows_1_m (-1) (l1.length : Int) many2).bind fun r2 => some (r2.1, 0)

noncomputable def domino_Rows_K1 (l1 : List (Int × Int)) : (List ((Int × Int) × Int)) → Option (Int × Int) :=
  fun (x : (List ((Int × Int) × Int))) => match x with | many2 => (domino_Rows_J2 l1) many2

noncomputable def domino_Rows_L1 (l1 : List (Int × Int)) : (List ((Int × Int) × Int) × Int) → Option (St (List ((Int × Int) × Int) × Int) (List ((Int × Int) × Int))) :=
  fun (x : (List ((Int × Int) × Int) × Int)) => match x with | (many1, z1) => if (decide (z1 < (l1.length : Int))) then ((domino_Rows_J3 l1 many1 z1)) else (some (.done many1))

noncomputable def domino_Rows_J1 (l1 : List (Int × Int)) : Option (Int × Int) :=
  (loop (domino_Rows_L1 l1) (([] : List ((Int × Int) × Int)), 0)).bind (domino_Rows_K1 l1)

noncomputable def domino_Rows_m (l1 : List (Int × Int)) : Option (Int × Int) :=
  if (decide ((7 : Int) < (l1.length : Int))) then (some (0, 2)) else ((slices_ContainsFunc_m l1).bind fun r1 => if r1 then (some (0, 3)) else ((domino_Rows_J1 l1)))

set_option maxRecDepth 100000 in
set_option maxHeartbeats 4000000 in
theorem domino_Rows_w {A1 : Option Addr} {c1 : Nat} {n1 : Nat} {l1 : List (Int × Int)} {r : (Int × Int)} {w0 w : World} {B : Nat} {fs : List HP} (hm : domino_Rows_m l1 = some r) (hS : Sep w0 B w (fs)) (hr_l1 : RdF w0 B fs A1 ((List.flatMap enc102 l1))) (_hc_l1 : l1.length ≤ c1) (_hn_l1 : n1 = l1.length) :
    Calls Try.prog 36 #[.slice A1 n1 c1] w fun e w' => e = .returned (.tuple #[.int .i64 r.1, .int .i64 r.2]) ∧ Sep w0 B w' (fs) := by
  obtain ⟨i86, hi86, hz86, hs86, hb86⟩ := info_parts Info86
  obtain ⟨i102, hi102, hz102, hs102, hb102⟩ := info_parts Info102
  obtain ⟨i105, hi105, hz105, hs105, hb105⟩ := info_parts Info105
  obtain rfl := _hn_l1
  unfold domino_Rows_m at hm
  replace hm := start_b hm
  refine enter (l := [.slice A1 l1.length c1]) (n := 44) Try.func36 rfl rfl (by simp) (fun a hF => ?_)
  refine reg [] [] [0] [pl 0 (.slice A1 l1.length c1)] hF hS Fol (by kernel_rfl) (by kernel_rfl) (by kernel_rfl) ?_ (fun a w hF hS => ?_)
  · exact obs_nil
  refine seq_cut (fun a w => Fr 44 [pl 0 (.slice A1 l1.length c1)] a ∧ Sep w0 B w (fs) ∧ ((domino_Rows_J1 l1)).bind some = some r) ?_ ?_
  · rintro a w ⟨hF, hS, hm⟩
    unfold domino_Rows_J1 at hm
    refine seqR ?_
    refine at_do (d := 15) (s := vS (Instr.makeMap 105 none)) (v := .map (some w.heap.size)) (w' := w.alloc (.map #[] 0)) hF (by kernel_rfl) (by kernel_rfl) (by kernel_rfl) (fun a hF => ?_)
    have hS : Sep w0 B (w.alloc (.map #[] 0)) (mapH kf102 (Value.int .i64) w.heap.size ([] : List ((Int × Int) × Int)) :: (fs)) := hS.mapNew _ _
    generalize w.heap.size = g1 at hF hS
    generalize w.alloc (.map #[] 0) = w at hS ⊢
    refine at_do (d := 4) (s := vS (Instr.alloc 105 true (.tuple #[]))) (v := .pointer (some ⟨w.heap.size, 0, none⟩)) (w' := w.alloc (.cells #[.map none] 105)) hF (by kernel_rfl) (by kernel_rfl) (by kernel_rfl) (fun a hF => ?_)
    have hS : Sep w0 B (w.alloc (.cells #[.map none] 105)) (blk w.heap.size 105 #[.map none] :: (mapH kf102 (Value.int .i64) g1 ([] : List ((Int × Int) × Int)) :: fs)) := hS.box 105 #[.map none]
    generalize w.heap.size = g2 at hF hS
    generalize w.alloc (.cells #[.map none] 105) = w at hS ⊢
    obtain ⟨w, hrun, hS⟩ := run_put (P := Try.prog) (t := 105) (u := .map (some g1)) (i := 0) (hS.at_ 0 rfl) hi105 hs105 rfl (Nat.lt_of_lt_of_eq (Nat.lt_of_succ_le (Nat.le_of_ble_eq_true (by kernel_rfl))) rfl)
    refine at_skip hF (by kernel_rfl) hrun ?_
    have hS : Sep w0 B w (blk g2 105 #[.map (some g1)] :: mapH kf102 (Value.int .i64) g1 ([] : List ((Int × Int) × Int)) :: fs) := hS
    refine at_end [0, 4] [pl 0 (.slice A1 l1.length c1), pl 4 (.pointer (some ⟨g2, 0, none⟩))] hF rfl (by kernel_rfl) (fun hF => ?_)
    refine then_n ?_
    refine seq_cut (fun a w => ∃ (many2 : List ((Int × Int) × Int)), Fr 44 [pl 0 (.slice A1 l1.length c1), pl 4 (.pointer (some ⟨g2, 0, none⟩))] a ∧ Sep w0 B w (blk g2 105 #[.map (some g1)] :: mapH kf102 (Value.int .i64) g1 many2 :: fs) ∧ ((domino_Rows_J2 l1) many2).bind some = some r) ?_ ?_
    · rintro a w ⟨many2, hF, hS, hm⟩
      unfold domino_Rows_J2 at hm
      refine seqR ?_
      refine at_do (d := 7) (s := vS (Instr.alloc 86 true (.tuple #[]))) (v := .pointer (some ⟨w.heap.size, 0, none⟩)) (w' := w.alloc (.cells #[.nilFunc] 86)) hF (by kernel_rfl) (by kernel_rfl) (by kernel_rfl) (fun a hF => ?_)
      have hS : Sep w0 B (w.alloc (.cells #[.nilFunc] 86)) (blk w.heap.size 86 #[.nilFunc] :: (blk g2 105 #[.map (some g1)] :: mapH kf102 (Value.int .i64) g1 many2 :: fs)) := hS.box 86 #[.nilFunc]
      generalize w.heap.size = g4 at hF hS
      generalize w.alloc (.cells #[.nilFunc] 86) = w at hS ⊢
      refine at_end [0, 4, 7] [pl 0 (.slice A1 l1.length c1), pl 4 (.pointer (some ⟨g2, 0, none⟩)), pl 7 (.pointer (some ⟨g4, 0, none⟩))] hF rfl (by kernel_rfl) (fun hF => ?_)
      refine then_n ?_
      refine seqR ?_
      refine at_run 1 [] [] [0, 7, 39] [pl 0 (.slice A1 l1.length c1), pl 7 (.pointer (some ⟨g4, 0, none⟩)), pl 39 (.func (.func 77) #[] #[.pointer (some ⟨g2, 0, none⟩), .pointer (some ⟨g4, 0, none⟩)])] hF hS (by kernel_rfl) (by kernel_rfl) ?_ (fun a w hF hS => ?_)
      · exact obs_nil
      obtain ⟨w, hrun, hS⟩ := run_put (P := Try.prog) (t := 86) (u := .func (.func 77) #[] #[.pointer (some ⟨g2, 0, none⟩), .pointer (some ⟨g4, 0, none⟩)]) (i := 0) (hS.at_ 0 rfl) hi86 hs86 rfl (Nat.lt_of_lt_of_eq (Nat.lt_of_succ_le (Nat.le_of_ble_eq_true (by kernel_rfl))) rfl)
      refine at_skip hF (by kernel_rfl) hrun ?_
      have hS : Sep w0 B w (blk g4 86 #[.func (.func 77) #[] #[.pointer (some ⟨g2, 0, none⟩), .pointer (some ⟨g4, 0, none⟩)]] :: blk g2 105 #[.map (some g1)] :: mapH kf102 (Value.int .i64) g1 many2 :: fs) := hS
      refine at_end [0, 7] [pl 0 (.slice A1 l1.length c1), pl 7 (.pointer (some ⟨g4, 0, none⟩))] hF rfl (by kernel_rfl) (fun hF => ?_)
      refine then_n ?_
      refine seqR ?_
      obtain ⟨r2, hr2, hm⟩ := call_b hm
      refine at_run 3 [⟨false, [], vS (Instr.loadAt 86 (.pointer (some ⟨g4, 0, none⟩))), .func (.func 77) #[] #[.pointer (some ⟨g2, 0, none⟩), .pointer (some ⟨g4, 0, none⟩)]⟩] [some (.func (.func 77) #[] #[.pointer (some ⟨g2, 0, none⟩), .pointer (some ⟨g4, 0, none⟩)]), none, none] [40, 42] [pl 40 (.func (.func 77) #[] #[.pointer (some ⟨g2, 0, none⟩), .pointer (some ⟨g4, 0, none⟩)]), pl 42 (.int .i64 (l1.length : Int))] hF hS (by kernel_rfl) (by kernel_rfl) ?_ (fun a w hF hS => ?_)
      · exact obs_cons (ob_load Agg86 (fun _ _ hS => (hS.at_ 0 rfl).cell rfl)) <| obs_nil
      have hS : Sep w0 B w (blk g2 105 #[.map (some g1)] :: mapH kf102 (Value.int .i64) g1 many2 :: blk g4 86 #[.func (.func 77) #[] #[.pointer (some ⟨g2, 0, none⟩), .pointer (some ⟨g4, 0, none⟩)]] :: fs) := hS.pickN 3 [1, 2, 0] (by decide)
      refine at_call (f := 77) (args := #[.int .i64 (-1), .int .i64 (l1.length : Int), .pointer (some ⟨g2, 0, none⟩), .pointer (some ⟨g4, 0, none⟩)]) (d := 43) hF (by kernel_rfl) (by kernel_rfl) Try.func77 (by kernel_rfl) rfl (domino_Rows_1_w hr2 hS ) (fun v a w hR hF => ?_)
      clear hS
      obtain ⟨rfl, hS⟩ := hR
      have hS : Sep w0 B w (blk g2 105 #[.map (some g1)] :: mapH kf102 (Value.int .i64) g1 r2.2 :: blk g4 86 #[.func (.func 77) #[] #[.pointer (some ⟨g2, 0, none⟩), .pointer (some ⟨g4, 0, none⟩)]] :: fs) := hS
      refine at_run 2 [] [] [2, 3] [pl 2 (.int .i64 r2.1), pl 3 (.int .i64 0)] hF hS (by kernel_rfl) (by kernel_rfl) ?_ (fun a w hF hS => ?_)
      · exact obs_nil
      refine at_end [2, 3] [pl 2 (.int .i64 r2.1), pl 3 (.int .i64 0)] hF rfl (by kernel_rfl) (fun hF => ?_)
      refine then_n ?_
      refine wp_ret ?_
      have hS := hS.pickN 3 [] (by decide)
      have hm : some (r2.1, 0) = some r := hm
      obtain rfl := Option.some.inj hm
      exact retV (rs := [.tmp 2, .tmp 3]) (vs := [.int .i64 r2.1, .int .i64 0]) hF rfl (rv_t (by kernel_rfl) <| rv_t (by kernel_rfl) <| rv_nil) rfl ⟨rfl, hS⟩
    · refine reg [] [] [0, 4, 16, 17, 18] [pl 0 (.slice A1 l1.length c1), pl 4 (.pointer (some ⟨g2, 0, none⟩)), pl 16 (.slice A1 l1.length c1), pl 17 (.int .i64 (l1.length : Int)), pl 18 (.int .i64 0)] hF hS Fol (by kernel_rfl) (by kernel_rfl) (by kernel_rfl) ?_ (fun a w hF hS => ?_)
      · exact obs_nil
      refine wp_block ?_
      refine wp_loop_model (S := (List ((Int × Int) × Int) × Int)) (R := (List ((Int × Int) × Int))) (domino_Rows_L1 l1) (fun x => ((domino_Rows_K1 l1) x).bind some) r (fun (x : (List ((Int × Int) × Int) × Int)) a w => Fr 44 [pl 0 (.slice A1 l1.length c1), pl 4 (.pointer (some ⟨g2, 0, none⟩)), pl 16 (.slice A1 l1.length c1), pl 17 (.int .i64 (l1.length : Int)), pl 18 (.int .i64 x.2)] a ∧ Sep w0 B w (blk g2 105 #[.map (some g1)] :: mapH kf102 (Value.int .i64) g1 x.1 :: fs)) (assoc_b hm) ⟨hF.weak [0, 4, 16, 17, 18] (by kernel_rfl), hS⟩ ?_
      clear hF hS hm
      rintro nn1 ⟨many1, z1⟩ a w ⟨hF, hS⟩ hm
      generalize hφ1 : stK (domino_Rows_L1 l1) nn1 (fun x => ((domino_Rows_K1 l1) x).bind some) = φ1 at hm
      unfold domino_Rows_L1 at hm
      dsimp only at hF hS hm
      refine reg [] [] [0, 4, 16, 17, 18, 19] [pl 0 (.slice A1 l1.length c1), pl 4 (.pointer (some ⟨g2, 0, none⟩)), pl 16 (.slice A1 l1.length c1), pl 17 (.int .i64 (l1.length : Int)), pl 18 (.int .i64 z1), pl 19 (.bool (decide (z1 < (l1.length : Int))))] hF hS Fol (by kernel_rfl) (by kernel_rfl) (by kernel_rfl) ?_ (fun a w hF hS => ?_)
      · exact obs_nil
      refine seq_cut (fun a w => Fr 44 [pl 0 (.slice A1 l1.length c1), pl 4 (.pointer (some ⟨g2, 0, none⟩)), pl 16 (.slice A1 l1.length c1), pl 17 (.int .i64 (l1.length : Int)), pl 18 (.int .i64 z1)] a ∧ Sep w0 B w (blk g2 105 #[.map (some g1)] :: mapH kf102 (Value.int .i64) g1 many1 :: fs) ∧ ((domino_Rows_J3 l1 many1 z1)).bind φ1 = some r) ?_ ?_
      · rintro a w ⟨hF, hS, hm⟩
        unfold domino_Rows_J3 at hm
        refine seq_cut (fun a w => Fr 44 [pl 0 (.slice A1 l1.length c1), pl 4 (.pointer (some ⟨g2, 0, none⟩)), pl 16 (.slice A1 l1.length c1), pl 17 (.int .i64 (l1.length : Int)), pl 18 (.int .i64 z1)] a ∧ Sep w0 B w (blk g2 105 #[.map (some g1)] :: mapH kf102 (Value.int .i64) g1 (mput (minI ((getd ((0, 0) : (Int × Int)) l1 z1).1) ((getd ((0, 0) : (Int × Int)) l1 z1).2), maxI ((getd ((0, 0) : (Int × Int)) l1 z1).1) ((getd ((0, 0) : (Int × Int)) l1 z1).2)) (w64 ((mget (0 : Int) (minI ((getd ((0, 0) : (Int × Int)) l1 z1).1) ((getd ((0, 0) : (Int × Int)) l1 z1).2), maxI ((getd ((0, 0) : (Int × Int)) l1 z1).1) ((getd ((0, 0) : (Int × Int)) l1 z1).2)) many1) + 1)) many1) :: fs) ∧ ((domino_Rows_J4 l1 many1 z1)).bind φ1 = some r) ?_ ?_
        · rintro a w ⟨hF, hS, hm⟩
          unfold domino_Rows_J4 at hm
          refine reg1 [] [] [0, 4, 16, 17, 18] [pl 0 (.slice A1 l1.length c1), pl 4 (.pointer (some ⟨g2, 0, none⟩)), pl 16 (.slice A1 l1.length c1), pl 17 (.int .i64 (l1.length : Int)), pl 18 (.int .i64 (w64 (z1 + 1)))] hF hS Fol (by kernel_rfl) (by kernel_rfl) (by kernel_rfl) ?_ (fun a w hF hS => ?_)
          · exact obs_nil
          refine then_n ?_
          rw [← hφ1] at hm
          exact ⟨((mput (minI ((getd ((0, 0) : (Int × Int)) l1 z1).1) ((getd ((0, 0) : (Int × Int)) l1 z1).2), maxI ((getd ((0, 0) : (Int × Int)) l1 z1).1) ((getd ((0, 0) : (Int × Int)) l1 z1).2)) (w64 ((mget (0 : Int) (minI ((getd ((0, 0) : (Int × Int)) l1 z1).1) ((getd ((0, 0) : (Int × Int)) l1 z1).2), maxI ((getd ((0, 0) : (Int × Int)) l1 z1).1) ((getd ((0, 0) : (Int × Int)) l1 z1).2)) many1) + 1)) many1), (w64 (z1 + 1))), ⟨hF.weak [0, 4, 16, 17, 18] (by kernel_rfl), hS⟩, hm⟩
        · refine wp_block ?_
          refine seqR ?_
          obtain ⟨hp1, hm⟩ := asrt_b hm
          refine at_run 2 [⟨true, [], vS (Instr.indexAt 61 (.slice A1 l1.length c1) (.int .i64 z1)), .pointer (some (sAddrK A1 2 z1))⟩, ⟨false, [], vS (Instr.loadAt 102 (.pointer (some (sAddrK A1 2 z1)))), .agg #[.int .i64 ((getd ((0, 0) : (Int × Int)) l1 z1).1), .int .i64 ((getd ((0, 0) : (Int × Int)) l1 z1).2)]⟩] [some (.pointer (some (sAddrK A1 2 z1))), some (.agg #[.int .i64 ((getd ((0, 0) : (Int × Int)) l1 z1).1), .int .i64 ((getd ((0, 0) : (Int × Int)) l1 z1).2)])] [0, 4, 16, 17, 18, 21] [pl 0 (.slice A1 l1.length c1), pl 4 (.pointer (some ⟨g2, 0, none⟩)), pl 16 (.slice A1 l1.length c1), pl 17 (.int .i64 (l1.length : Int)), pl 18 (.int .i64 z1), pl 21 (.agg #[.int .i64 ((getd ((0, 0) : (Int × Int)) l1 z1).1), .int .i64 ((getd ((0, 0) : (Int × Int)) l1 z1).2)])] hF hS (by kernel_rfl) (by kernel_rfl) ?_ (fun a w hF hS => ?_)
          · exact obs_cons (ob_ixK (m := l1) encK102 Und61 hi102 hs102 (hr_l1 _ (hS.dropN 2)) rfl (fun _ => hp1)) <| obs_cons (ob_getK (n := l1.length) (m := l1) encK102 ((0, 0) : (Int × Int)) (by kernel_rfl) (by kernel_rfl) (fun _ hS => ⟨_, (hr_l1 _ (hS.dropN 2))⟩) (fun _ hS => rfl) (fun _ => hp1)) <| obs_nil
          refine at_do (d := 6) (s := vS (Instr.alloc 102 true (.tuple #[]))) (v := .pointer (some ⟨w.heap.size, 0, none⟩)) (w' := w.alloc (.cells #[.int .i64 0, .int .i64 0] 102)) hF (by kernel_rfl) (by kernel_rfl) (by kernel_rfl) (fun a hF => ?_)
          have hS : Sep w0 B (w.alloc (.cells #[.int .i64 0, .int .i64 0] 102)) (blk w.heap.size 102 #[.int .i64 0, .int .i64 0] :: (blk g2 105 #[.map (some g1)] :: mapH kf102 (Value.int .i64) g1 many1 :: fs)) := hS.box 102 #[.int .i64 0, .int .i64 0]
          generalize w.heap.size = g3 at hF hS
          generalize w.alloc (.cells #[.int .i64 0, .int .i64 0] 102) = w at hS ⊢
          obtain ⟨w, hrun, hS⟩ := run_putA (P := Try.prog) (t := 102) (us := #[.int .i64 ((getd ((0, 0) : (Int × Int)) l1 z1).1), .int .i64 ((getd ((0, 0) : (Int × Int)) l1 z1).2)]) (o := 0) (hS.at_ 0 rfl) (by kernel_rfl) (all_one (by kernel_rfl)) (Nat.le_of_ble_eq_true (by kernel_rfl))
          refine at_skip hF (by kernel_rfl) hrun ?_
          have hS : Sep w0 B w (blk g3 102 #[.int .i64 ((getd ((0, 0) : (Int × Int)) l1 z1).1), .int .i64 ((getd ((0, 0) : (Int × Int)) l1 z1).2)] :: blk g2 105 #[.map (some g1)] :: mapH kf102 (Value.int .i64) g1 many1 :: fs) := hS
          refine at_end [0, 4, 6, 16, 17, 18] [pl 0 (.slice A1 l1.length c1), pl 4 (.pointer (some ⟨g2, 0, none⟩)), pl 6 (.pointer (some ⟨g3, 0, none⟩)), pl 16 (.slice A1 l1.length c1), pl 17 (.int .i64 (l1.length : Int)), pl 18 (.int .i64 z1)] hF rfl (by kernel_rfl) (fun hF => ?_)
          refine then_n ?_
          refine regMix5 [0, 1, 2, 3, 4, 5, 6, 7, 8, 9, 10, 11] [14, 16] 5 #[true, true, true, true, true, true, true, true, true, true, true, true, false, false, false, false, false] [⟨false, [], vS (Instr.loadAt 105 (.pointer (some ⟨g2, 0, none⟩))), .map (some g1)⟩, ⟨false, [], vS (Instr.loadAt 3 (.pointer (some ⟨g3, 0, none⟩))), .int .i64 ((getd ((0, 0) : (Int × Int)) l1 z1).1)⟩, ⟨false, [], vS (Instr.loadAt 3 (.pointer (some ⟨g3, 1, none⟩))), .int .i64 ((getd ((0, 0) : (Int × Int)) l1 z1).2)⟩, ⟨true, [], vS (Builtin.min_ #[3, 3] 3 #[.int .i64 ((getd ((0, 0) : (Int × Int)) l1 z1).1), .int .i64 ((getd ((0, 0) : (Int × Int)) l1 z1).2)]), .int .i64 (minI ((getd ((0, 0) : (Int × Int)) l1 z1).1) ((getd ((0, 0) : (Int × Int)) l1 z1).2))⟩, ⟨false, [], vS (Instr.loadAt 3 (.pointer (some ⟨g3, 0, none⟩))), .int .i64 ((getd ((0, 0) : (Int × Int)) l1 z1).1)⟩, ⟨false, [], vS (Instr.loadAt 3 (.pointer (some ⟨g3, 1, none⟩))), .int .i64 ((getd ((0, 0) : (Int × Int)) l1 z1).2)⟩, ⟨true, [], vS (Builtin.max_ #[3, 3] 3 #[.int .i64 ((getd ((0, 0) : (Int × Int)) l1 z1).1), .int .i64 ((getd ((0, 0) : (Int × Int)) l1 z1).2)]), .int .i64 (maxI ((getd ((0, 0) : (Int × Int)) l1 z1).1) ((getd ((0, 0) : (Int × Int)) l1 z1).2))⟩] [some (.map (some g1)), none, some (.int .i64 ((getd ((0, 0) : (Int × Int)) l1 z1).1)), none, some (.int .i64 ((getd ((0, 0) : (Int × Int)) l1 z1).2)), some (.int .i64 (minI ((getd ((0, 0) : (Int × Int)) l1 z1).1) ((getd ((0, 0) : (Int × Int)) l1 z1).2))), none, some (.int .i64 ((getd ((0, 0) : (Int × Int)) l1 z1).1)), none, some (.int .i64 ((getd ((0, 0) : (Int × Int)) l1 z1).2)), some (.int .i64 (maxI ((getd ((0, 0) : (Int × Int)) l1 z1).1) ((getd ((0, 0) : (Int × Int)) l1 z1).2))), none] [0, 4, 16, 17, 18, 22, 33] [pl 0 (.slice A1 l1.length c1), pl 4 (.pointer (some ⟨g2, 0, none⟩)), pl 16 (.slice A1 l1.length c1), pl 17 (.int .i64 (l1.length : Int)), pl 18 (.int .i64 z1), pl 22 (.map (some g1)), pl 33 (.agg #[.int .i64 (minI ((getd ((0, 0) : (Int × Int)) l1 z1).1) ((getd ((0, 0) : (Int × Int)) l1 z1).2)), .int .i64 (maxI ((getd ((0, 0) : (Int × Int)) l1 z1).1) ((getd ((0, 0) : (Int × Int)) l1 z1).2))])] hF hS Fol (by kernel_rfl) (by kernel_rfl) (by kernel_rfl) (by kernel_rfl) ?_ (fun a w hF hS => ?_)
          · exact obs_cons (ob_load Agg105 (fun _ _ hS => (hS.at_ 1 rfl).cell rfl)) <| obs_cons (ob_load Agg3 (fun _ _ hS => (hS.at_ 0 rfl).cell rfl)) <| obs_cons (ob_load Agg3 (fun _ _ hS => (hS.at_ 0 rfl).cell rfl)) <| obs_cons (ob_min rfl) <| obs_cons (ob_load Agg3 (fun _ _ hS => (hS.at_ 0 rfl).cell rfl)) <| obs_cons (ob_load Agg3 (fun _ _ hS => (hS.at_ 0 rfl).cell rfl)) <| obs_cons (ob_max rfl) <| obs_nil
          refine any_step [12, 14] (by kernel_rfl) rfl ?_
          refine (all_cons ?_ (all_cons ?_ all_nil))
          · refine any_op (listed' := #[true, true, true, true, true, true, true, true, true, true, true, true, true, false, false, false, false]) (by kernel_rfl) (by kernel_rfl) ?_
            refine at_runW 1 [⟨false, [], vS (Instr.lookup 105 (.map (some g1)) (.agg #[.int .i64 (minI ((getd ((0, 0) : (Int × Int)) l1 z1).1) ((getd ((0, 0) : (Int × Int)) l1 z1).2)), .int .i64 (maxI ((getd ((0, 0) : (Int × Int)) l1 z1).1) ((getd ((0, 0) : (Int × Int)) l1 z1).2))]) false), .int .i64 (mget (0 : Int) (minI ((getd ((0, 0) : (Int × Int)) l1 z1).1) ((getd ((0, 0) : (Int × Int)) l1 z1).2), maxI ((getd ((0, 0) : (Int × Int)) l1 z1).1) ((getd ((0, 0) : (Int × Int)) l1 z1).2)) many1)⟩] [some (.int .i64 (mget (0 : Int) (minI ((getd ((0, 0) : (Int × Int)) l1 z1).1) ((getd ((0, 0) : (Int × Int)) l1 z1).2), maxI ((getd ((0, 0) : (Int × Int)) l1 z1).1) ((getd ((0, 0) : (Int × Int)) l1 z1).2)) many1))] [0, 4, 16, 17, 18, 22, 33, 34] [pl 0 (.slice A1 l1.length c1), pl 4 (.pointer (some ⟨g2, 0, none⟩)), pl 16 (.slice A1 l1.length c1), pl 17 (.int .i64 (l1.length : Int)), pl 18 (.int .i64 z1), pl 22 (.map (some g1)), pl 33 (.agg #[.int .i64 (minI ((getd ((0, 0) : (Int × Int)) l1 z1).1) ((getd ((0, 0) : (Int × Int)) l1 z1).2)), .int .i64 (maxI ((getd ((0, 0) : (Int × Int)) l1 z1).1) ((getd ((0, 0) : (Int × Int)) l1 z1).2))]), pl 34 (.int .i64 (mget (0 : Int) (minI ((getd ((0, 0) : (Int × Int)) l1 z1).1) ((getd ((0, 0) : (Int × Int)) l1 z1).2), maxI ((getd ((0, 0) : (Int × Int)) l1 z1).1) ((getd ((0, 0) : (Int × Int)) l1 z1).2)) many1))] hF hS (by kernel_rfl) (by kernel_rfl) ?_ (fun a hF => ?_)
            · exact obs_cons (ob_look (k := (minI ((getd ((0, 0) : (Int × Int)) l1 z1).1) ((getd ((0, 0) : (Int × Int)) l1 z1).2), maxI ((getd ((0, 0) : (Int × Int)) l1 z1).1) ((getd ((0, 0) : (Int × Int)) l1 z1).2))) (m := many1) MK102 UndM105 (z := (0 : Int)) MZ3 (fun _ hS => ⟨_, _, _, _, hS.at_ 2 rfl⟩)) <| obs_nil
            refine any_finI rfl (fun h => h) ?_
            refine any_step [13, 14] (by kernel_rfl) rfl ?_
            refine (all_cons ?_ (all_cons ?_ all_nil))
            · refine any_op (listed' := #[true, true, true, true, true, true, true, true, true, true, true, true, true, true, false, false, false]) (by kernel_rfl) (by kernel_rfl) ?_
              refine at_runW 1 [] [] [0, 4, 16, 17, 18, 22, 33, 35] [pl 0 (.slice A1 l1.length c1), pl 4 (.pointer (some ⟨g2, 0, none⟩)), pl 16 (.slice A1 l1.length c1), pl 17 (.int .i64 (l1.length : Int)), pl 18 (.int .i64 z1), pl 22 (.map (some g1)), pl 33 (.agg #[.int .i64 (minI ((getd ((0, 0) : (Int × Int)) l1 z1).1) ((getd ((0, 0) : (Int × Int)) l1 z1).2)), .int .i64 (maxI ((getd ((0, 0) : (Int × Int)) l1 z1).1) ((getd ((0, 0) : (Int × Int)) l1 z1).2))]), pl 35 (.int .i64 (w64 ((mget (0 : Int) (minI ((getd ((0, 0) : (Int × Int)) l1 z1).1) ((getd ((0, 0) : (Int × Int)) l1 z1).2), maxI ((getd ((0, 0) : (Int × Int)) l1 z1).1) ((getd ((0, 0) : (Int × Int)) l1 z1).2)) many1) + 1)))] hF hS (by kernel_rfl) (by kernel_rfl) ?_ (fun a hF => ?_)
              · exact obs_nil
              refine any_finI rfl (fun h => h) ?_
              refine any_step [14] (by kernel_rfl) rfl ?_
              refine (all_cons ?_ all_nil)
              · refine any_op (listed' := #[true, true, true, true, true, true, true, true, true, true, true, true, true, true, true, false, false]) (by kernel_rfl) (by kernel_rfl) ?_
                obtain ⟨s1, w, hrun, hS⟩ := run_mentryV (P := Try.prog) (t := 105) (vf := (Value.int .i64)) MK102 UndM105 (z := (0 : Int)) MZ3 (minI ((getd ((0, 0) : (Int × Int)) l1 z1).1) ((getd ((0, 0) : (Int × Int)) l1 z1).2), maxI ((getd ((0, 0) : (Int × Int)) l1 z1).1) ((getd ((0, 0) : (Int × Int)) l1 z1).2)) (hS.at_ 2 rfl)
                have hS : Sep w0 B w (blk g3 102 #[.int .i64 ((getd ((0, 0) : (Int × Int)) l1 z1).1), .int .i64 ((getd ((0, 0) : (Int × Int)) l1 z1).2)] :: blk g2 105 #[.map (some g1)] :: mapHV kf102 (Value.int .i64) g1 many1 (minI ((getd ((0, 0) : (Int × Int)) l1 z1).1) ((getd ((0, 0) : (Int × Int)) l1 z1).2), maxI ((getd ((0, 0) : (Int × Int)) l1 z1).1) ((getd ((0, 0) : (Int × Int)) l1 z1).2)) s1 (mget (0 : Int) (minI ((getd ((0, 0) : (Int × Int)) l1 z1).1) ((getd ((0, 0) : (Int × Int)) l1 z1).2), maxI ((getd ((0, 0) : (Int × Int)) l1 z1).1) ((getd ((0, 0) : (Int × Int)) l1 z1).2)) many1) :: fs) := hS
                refine at_do (d := 36) hF (by kernel_rfl) (by kernel_rfl) hrun (fun a hF => ?_)
                refine any_finE rfl (by decide) ?_
                refine any_step [15] (by kernel_rfl) rfl ?_
                refine (all_cons ?_ all_nil)
                · refine any_op (listed' := #[true, true, true, true, true, true, true, true, true, true, true, true, true, true, true, true, false]) (by kernel_rfl) (by kernel_rfl) ?_
                  refine at_runW 1 [] [] [0, 4, 16, 17, 18, 22, 35, 37] [pl 0 (.slice A1 l1.length c1), pl 4 (.pointer (some ⟨g2, 0, none⟩)), pl 16 (.slice A1 l1.length c1), pl 17 (.int .i64 (l1.length : Int)), pl 18 (.int .i64 z1), pl 22 (.map (some g1)), pl 35 (.int .i64 (w64 ((mget (0 : Int) (minI ((getd ((0, 0) : (Int × Int)) l1 z1).1) ((getd ((0, 0) : (Int × Int)) l1 z1).2), maxI ((getd ((0, 0) : (Int × Int)) l1 z1).1) ((getd ((0, 0) : (Int × Int)) l1 z1).2)) many1) + 1))), pl 37 (.int .i64 ((s1 : Nat) : Int))] hF hS (by kernel_rfl) (by kernel_rfl) ?_ (fun a hF => ?_)
                  · exact obs_nil
                  refine any_finI rfl (fun h => h) ?_
                  refine any_step [16] (by kernel_rfl) rfl ?_
                  refine (all_cons ?_ all_nil)
                  · refine any_op (listed' := #[true, true, true, true, true, true, true, true, true, true, true, true, true, true, true, true, true]) (by kernel_rfl) (by kernel_rfl) ?_
                    obtain ⟨w, hrun, hS⟩ := run_mstoreV (P := Try.prog) (t := 105) (vf := (Value.int .i64)) (minI ((getd ((0, 0) : (Int × Int)) l1 z1).1) ((getd ((0, 0) : (Int × Int)) l1 z1).2), maxI ((getd ((0, 0) : (Int × Int)) l1 z1).1) ((getd ((0, 0) : (Int × Int)) l1 z1).2)) (w64 ((mget (0 : Int) (minI ((getd ((0, 0) : (Int × Int)) l1 z1).1) ((getd ((0, 0) : (Int × Int)) l1 z1).2), maxI ((getd ((0, 0) : (Int × Int)) l1 z1).1) ((getd ((0, 0) : (Int × Int)) l1 z1).2)) many1) + 1)) (hS.at_ 2 rfl)
                    refine at_skip hF (by kernel_rfl) hrun ?_
                    have hS : Sep w0 B w (blk g3 102 #[.int .i64 ((getd ((0, 0) : (Int × Int)) l1 z1).1), .int .i64 ((getd ((0, 0) : (Int × Int)) l1 z1).2)] :: blk g2 105 #[.map (some g1)] :: mapH kf102 (Value.int .i64) g1 (mput (minI ((getd ((0, 0) : (Int × Int)) l1 z1).1) ((getd ((0, 0) : (Int × Int)) l1 z1).2), maxI ((getd ((0, 0) : (Int × Int)) l1 z1).1) ((getd ((0, 0) : (Int × Int)) l1 z1).2)) (w64 ((mget (0 : Int) (minI ((getd ((0, 0) : (Int × Int)) l1 z1).1) ((getd ((0, 0) : (Int × Int)) l1 z1).2), maxI ((getd ((0, 0) : (Int × Int)) l1 z1).1) ((getd ((0, 0) : (Int × Int)) l1 z1).2)) many1) + 1)) many1) :: fs) := hS
                    refine any_finE rfl (by decide) ?_
                    refine any_end (by kernel_rfl) ?_
                    refine np_n ?_
                    refine block_n ?_
                    refine then_n ?_
                    have hS := hS.pickN 3 [1, 2] (by decide)
                    exact ⟨hF.weak [0, 4, 16, 17, 18] (by kernel_rfl), hS, hm⟩
            · refine any_op (listed' := #[true, true, true, true, true, true, true, true, true, true, true, true, true, false, true, false, false]) (by kernel_rfl) (by kernel_rfl) ?_
              obtain ⟨s1, w, hrun, hS⟩ := run_mentryV (P := Try.prog) (t := 105) (vf := (Value.int .i64)) MK102 UndM105 (z := (0 : Int)) MZ3 (minI ((getd ((0, 0) : (Int × Int)) l1 z1).1) ((getd ((0, 0) : (Int × Int)) l1 z1).2), maxI ((getd ((0, 0) : (Int × Int)) l1 z1).1) ((getd ((0, 0) : (Int × Int)) l1 z1).2)) (hS.at_ 2 rfl)
              have hS : Sep w0 B w (blk g3 102 #[.int .i64 ((getd ((0, 0) : (Int × Int)) l1 z1).1), .int .i64 ((getd ((0, 0) : (Int × Int)) l1 z1).2)] :: blk g2 105 #[.map (some g1)] :: mapHV kf102 (Value.int .i64) g1 many1 (minI ((getd ((0, 0) : (Int × Int)) l1 z1).1) ((getd ((0, 0) : (Int × Int)) l1 z1).2), maxI ((getd ((0, 0) : (Int × Int)) l1 z1).1) ((getd ((0, 0) : (Int × Int)) l1 z1).2)) s1 (mget (0 : Int) (minI ((getd ((0, 0) : (Int × Int)) l1 z1).1) ((getd ((0, 0) : (Int × Int)) l1 z1).2), maxI ((getd ((0, 0) : (Int × Int)) l1 z1).1) ((getd ((0, 0) : (Int × Int)) l1 z1).2)) many1) :: fs) := hS
              refine at_do (d := 36) hF (by kernel_rfl) (by kernel_rfl) hrun (fun a hF => ?_)
              refine any_finE rfl (by decide) ?_
              refine any_step [13, 15] (by kernel_rfl) rfl ?_
              refine (all_cons ?_ (all_cons ?_ all_nil))
              · refine any_op (listed' := #[true, true, true, true, true, true, true, true, true, true, true, true, true, true, true, false, false]) (by kernel_rfl) (by kernel_rfl) ?_
                refine at_runW 1 [] [] [0, 4, 16, 17, 18, 22, 35, 36] [pl 0 (.slice A1 l1.length c1), pl 4 (.pointer (some ⟨g2, 0, none⟩)), pl 16 (.slice A1 l1.length c1), pl 17 (.int .i64 (l1.length : Int)), pl 18 (.int .i64 z1), pl 22 (.map (some g1)), pl 35 (.int .i64 (w64 ((mget (0 : Int) (minI ((getd ((0, 0) : (Int × Int)) l1 z1).1) ((getd ((0, 0) : (Int × Int)) l1 z1).2), maxI ((getd ((0, 0) : (Int × Int)) l1 z1).1) ((getd ((0, 0) : (Int × Int)) l1 z1).2)) many1) + 1))), pl 36 (.tuple #[.int .i64 (mget (0 : Int) (minI ((getd ((0, 0) : (Int × Int)) l1 z1).1) ((getd ((0, 0) : (Int × Int)) l1 z1).2), maxI ((getd ((0, 0) : (Int × Int)) l1 z1).1) ((getd ((0, 0) : (Int × Int)) l1 z1).2)) many1), .int .i64 ((s1 : Nat) : Int)])] hF hS (by kernel_rfl) (by kernel_rfl) ?_ (fun a hF => ?_)
                · exact obs_nil
                refine any_finI rfl (fun h => h) ?_
                refine any_step [15] (by kernel_rfl) rfl ?_
                refine (all_cons ?_ all_nil)
                · refine any_op (listed' := #[true, true, true, true, true, true, true, true, true, true, true, true, true, true, true, true, false]) (by kernel_rfl) (by kernel_rfl) ?_
                  refine at_runW 1 [] [] [0, 4, 16, 17, 18, 22, 35, 37] [pl 0 (.slice A1 l1.length c1), pl 4 (.pointer (some ⟨g2, 0, none⟩)), pl 16 (.slice A1 l1.length c1), pl 17 (.int .i64 (l1.length : Int)), pl 18 (.int .i64 z1), pl 22 (.map (some g1)), pl 35 (.int .i64 (w64 ((mget (0 : Int) (minI ((getd ((0, 0) : (Int × Int)) l1 z1).1) ((getd ((0, 0) : (Int × Int)) l1 z1).2), maxI ((getd ((0, 0) : (Int × Int)) l1 z1).1) ((getd ((0, 0) : (Int × Int)) l1 z1).2)) many1) + 1))), pl 37 (.int .i64 ((s1 : Nat) : Int))] hF hS (by kernel_rfl) (by kernel_rfl) ?_ (fun a hF => ?_)
                  · exact obs_nil
                  refine any_finI rfl (fun h => h) ?_
                  refine any_step [16] (by kernel_rfl) rfl ?_
                  refine (all_cons ?_ all_nil)
                  · refine any_op (listed' := #[true, true, true, true, true, true, true, true, true, true, true, true, true, true, true, true, true]) (by kernel_rfl) (by kernel_rfl) ?_
                    obtain ⟨w, hrun, hS⟩ := run_mstoreV (P := Try.prog) (t := 105) (vf := (Value.int .i64)) (minI ((getd ((0, 0) : (Int × Int)) l1 z1).1) ((getd ((0, 0) : (Int × Int)) l1 z1).2), maxI ((getd ((0, 0) : (Int × Int)) l1 z1).1) ((getd ((0, 0) : (Int × Int)) l1 z1).2)) (w64 ((mget (0 : Int) (minI ((getd ((0, 0) : (Int × Int)) l1 z1).1) ((getd ((0, 0) : (Int × Int)) l1 z1).2), maxI ((getd ((0, 0) : (Int × Int)) l1 z1).1) ((getd ((0, 0) : (Int × Int)) l1 z1).2)) many1) + 1)) (hS.at_ 2 rfl)
                    refine at_skip hF (by kernel_rfl) hrun ?_
                    have hS : Sep w0 B w (blk g3 102 #[.int .i64 ((getd ((0, 0) : (Int × Int)) l1 z1).1), .int .i64 ((getd ((0, 0) : (Int × Int)) l1 z1).2)] :: blk g2 105 #[.map (some g1)] :: mapH kf102 (Value.int .i64) g1 (mput (minI ((getd ((0, 0) : (Int × Int)) l1 z1).1) ((getd ((0, 0) : (Int × Int)) l1 z1).2), maxI ((getd ((0, 0) : (Int × Int)) l1 z1).1) ((getd ((0, 0) : (Int × Int)) l1 z1).2)) (w64 ((mget (0 : Int) (minI ((getd ((0, 0) : (Int × Int)) l1 z1).1) ((getd ((0, 0) : (Int × Int)) l1 z1).2), maxI ((getd ((0, 0) : (Int × Int)) l1 z1).1) ((getd ((0, 0) : (Int × Int)) l1 z1).2)) many1) + 1)) many1) :: fs) := hS
                    refine any_finE rfl (by decide) ?_
                    refine any_end (by kernel_rfl) ?_
                    refine np_n ?_
                    refine block_n ?_
                    refine then_n ?_
                    have hS := hS.pickN 3 [1, 2] (by decide)
                    exact ⟨hF.weak [0, 4, 16, 17, 18] (by kernel_rfl), hS, hm⟩
              · refine any_op (listed' := #[true, true, true, true, true, true, true, true, true, true, true, true, true, false, true, true, false]) (by kernel_rfl) (by kernel_rfl) ?_
                refine at_runW 1 [] [] [0, 4, 16, 17, 18, 22, 34, 37] [pl 0 (.slice A1 l1.length c1), pl 4 (.pointer (some ⟨g2, 0, none⟩)), pl 16 (.slice A1 l1.length c1), pl 17 (.int .i64 (l1.length : Int)), pl 18 (.int .i64 z1), pl 22 (.map (some g1)), pl 34 (.int .i64 (mget (0 : Int) (minI ((getd ((0, 0) : (Int × Int)) l1 z1).1) ((getd ((0, 0) : (Int × Int)) l1 z1).2), maxI ((getd ((0, 0) : (Int × Int)) l1 z1).1) ((getd ((0, 0) : (Int × Int)) l1 z1).2)) many1)), pl 37 (.int .i64 ((s1 : Nat) : Int))] hF hS (by kernel_rfl) (by kernel_rfl) ?_ (fun a hF => ?_)
                · exact obs_nil
                refine any_finI rfl (fun h => h) ?_
                refine any_step [13] (by kernel_rfl) rfl ?_
                refine (all_cons ?_ all_nil)
                · refine any_op (listed' := #[true, true, true, true, true, true, true, true, true, true, true, true, true, true, true, true, false]) (by kernel_rfl) (by kernel_rfl) ?_
                  refine at_runW 1 [] [] [0, 4, 16, 17, 18, 22, 35, 37] [pl 0 (.slice A1 l1.length c1), pl 4 (.pointer (some ⟨g2, 0, none⟩)), pl 16 (.slice A1 l1.length c1), pl 17 (.int .i64 (l1.length : Int)), pl 18 (.int .i64 z1), pl 22 (.map (some g1)), pl 35 (.int .i64 (w64 ((mget (0 : Int) (minI ((getd ((0, 0) : (Int × Int)) l1 z1).1) ((getd ((0, 0) : (Int × Int)) l1 z1).2), maxI ((getd ((0, 0) : (Int × Int)) l1 z1).1) ((getd ((0, 0) : (Int × Int)) l1 z1).2)) many1) + 1))), pl 37 (.int .i64 ((s1 : Nat) : Int))] hF hS (by kernel_rfl) (by kernel_rfl) ?_ (fun a hF => ?_)
                  · exact obs_nil
                  refine any_finI rfl (fun h => h) ?_
                  refine any_step [16] (by kernel_rfl) rfl ?_
                  refine (all_cons ?_ all_nil)
                  · refine any_op (listed' := #[true, true, true, true, true, true, true, true, true, true, true, true, true, true, true, true, true]) (by kernel_rfl) (by kernel_rfl) ?_
                    obtain ⟨w, hrun, hS⟩ := run_mstoreV (P := Try.prog) (t := 105) (vf := (Value.int .i64)) (minI ((getd ((0, 0) : (Int × Int)) l1 z1).1) ((getd ((0, 0) : (Int × Int)) l1 z1).2), maxI ((getd ((0, 0) : (Int × Int)) l1 z1).1) ((getd ((0, 0) : (Int × Int)) l1 z1).2)) (w64 ((mget (0 : Int) (minI ((getd ((0, 0) : (Int × Int)) l1 z1).1) ((getd ((0, 0) : (Int × Int)) l1 z1).2), maxI ((getd ((0, 0) : (Int × Int)) l1 z1).1) ((getd ((0, 0) : (Int × Int)) l1 z1).2)) many1) + 1)) (hS.at_ 2 rfl)
                    refine at_skip hF (by kernel_rfl) hrun ?_
                    have hS : Sep w0 B w (blk g3 102 #[.int .i64 ((getd ((0, 0) : (Int × Int)) l1 z1).1), .int .i64 ((getd ((0, 0) : (Int × Int)) l1 z1).2)] :: blk g2 105 #[.map (some g1)] :: mapH kf102 (Value.int .i64) g1 (mput (minI ((getd ((0, 0) : (Int × Int)) l1 z1).1) ((getd ((0, 0) : (Int × Int)) l1 z1).2), maxI ((getd ((0, 0) : (Int × Int)) l1 z1).1) ((getd ((0, 0) : (Int × Int)) l1 z1).2)) (w64 ((mget (0 : Int) (minI ((getd ((0, 0) : (Int × Int)) l1 z1).1) ((getd ((0, 0) : (Int × Int)) l1 z1).2), maxI ((getd ((0, 0) : (Int × Int)) l1 z1).1) ((getd ((0, 0) : (Int × Int)) l1 z1).2)) many1) + 1)) many1) :: fs) := hS
                    refine any_finE rfl (by decide) ?_
                    refine any_end (by kernel_rfl) ?_
                    refine np_n ?_
                    refine block_n ?_
                    refine then_n ?_
                    have hS := hS.pickN 3 [1, 2] (by decide)
                    exact ⟨hF.weak [0, 4, 16, 17, 18] (by kernel_rfl), hS, hm⟩
          · refine any_op (listed' := #[true, true, true, true, true, true, true, true, true, true, true, true, false, false, true, false, false]) (by kernel_rfl) (by kernel_rfl) ?_
            obtain ⟨s1, w, hrun, hS⟩ := run_mentryV (P := Try.prog) (t := 105) (vf := (Value.int .i64)) MK102 UndM105 (z := (0 : Int)) MZ3 (minI ((getd ((0, 0) : (Int × Int)) l1 z1).1) ((getd ((0, 0) : (Int × Int)) l1 z1).2), maxI ((getd ((0, 0) : (Int × Int)) l1 z1).1) ((getd ((0, 0) : (Int × Int)) l1 z1).2)) (hS.at_ 2 rfl)
            have hS : Sep w0 B w (blk g3 102 #[.int .i64 ((getd ((0, 0) : (Int × Int)) l1 z1).1), .int .i64 ((getd ((0, 0) : (Int × Int)) l1 z1).2)] :: blk g2 105 #[.map (some g1)] :: mapHV kf102 (Value.int .i64) g1 many1 (minI ((getd ((0, 0) : (Int × Int)) l1 z1).1) ((getd ((0, 0) : (Int × Int)) l1 z1).2), maxI ((getd ((0, 0) : (Int × Int)) l1 z1).1) ((getd ((0, 0) : (Int × Int)) l1 z1).2)) s1 (mget (0 : Int) (minI ((getd ((0, 0) : (Int × Int)) l1 z1).1) ((getd ((0, 0) : (Int × Int)) l1 z1).2), maxI ((getd ((0, 0) : (Int × Int)) l1 z1).1) ((getd ((0, 0) : (Int × Int)) l1 z1).2)) many1) :: fs) := hS
            refine at_do (d := 36) hF (by kernel_rfl) (by kernel_rfl) hrun (fun a hF => ?_)
            refine any_finE rfl (by decide) ?_
            refine any_step [12, 15] (by kernel_rfl) rfl ?_
            refine (all_cons ?_ (all_cons ?_ all_nil))
            · refine any_op (listed' := #[true, true, true, true, true, true, true, true, true, true, true, true, true, false, true, false, false]) (by kernel_rfl) (by kernel_rfl) ?_
              refine at_runW 1 [⟨false, [], vS (Instr.lookup 105 (.map (some g1)) (.agg #[.int .i64 (minI ((getd ((0, 0) : (Int × Int)) l1 z1).1) ((getd ((0, 0) : (Int × Int)) l1 z1).2)), .int .i64 (maxI ((getd ((0, 0) : (Int × Int)) l1 z1).1) ((getd ((0, 0) : (Int × Int)) l1 z1).2))]) false), .int .i64 (mget (0 : Int) (minI ((getd ((0, 0) : (Int × Int)) l1 z1).1) ((getd ((0, 0) : (Int × Int)) l1 z1).2), maxI ((getd ((0, 0) : (Int × Int)) l1 z1).1) ((getd ((0, 0) : (Int × Int)) l1 z1).2)) many1)⟩] [some (.int .i64 (mget (0 : Int) (minI ((getd ((0, 0) : (Int × Int)) l1 z1).1) ((getd ((0, 0) : (Int × Int)) l1 z1).2), maxI ((getd ((0, 0) : (Int × Int)) l1 z1).1) ((getd ((0, 0) : (Int × Int)) l1 z1).2)) many1))] [0, 4, 16, 17, 18, 22, 34, 36] [pl 0 (.slice A1 l1.length c1), pl 4 (.pointer (some ⟨g2, 0, none⟩)), pl 16 (.slice A1 l1.length c1), pl 17 (.int .i64 (l1.length : Int)), pl 18 (.int .i64 z1), pl 22 (.map (some g1)), pl 34 (.int .i64 (mget (0 : Int) (minI ((getd ((0, 0) : (Int × Int)) l1 z1).1) ((getd ((0, 0) : (Int × Int)) l1 z1).2), maxI ((getd ((0, 0) : (Int × Int)) l1 z1).1) ((getd ((0, 0) : (Int × Int)) l1 z1).2)) many1)), pl 36 (.tuple #[.int .i64 (mget (0 : Int) (minI ((getd ((0, 0) : (Int × Int)) l1 z1).1) ((getd ((0, 0) : (Int × Int)) l1 z1).2), maxI ((getd ((0, 0) : (Int × Int)) l1 z1).1) ((getd ((0, 0) : (Int × Int)) l1 z1).2)) many1), .int .i64 ((s1 : Nat) : Int)])] hF hS (by kernel_rfl) (by kernel_rfl) ?_ (fun a hF => ?_)
              · exact obs_cons (ob_lookV (k := (minI ((getd ((0, 0) : (Int × Int)) l1 z1).1) ((getd ((0, 0) : (Int × Int)) l1 z1).2), maxI ((getd ((0, 0) : (Int × Int)) l1 z1).1) ((getd ((0, 0) : (Int × Int)) l1 z1).2))) (m := many1) MK102 UndM105 (z := (0 : Int)) MZ3 (fun _ hS => ⟨_, _, _, _, _, hS.at_ 2 rfl⟩)) <| obs_nil
              refine any_finI rfl (fun h => h) ?_
              refine any_step [13, 15] (by kernel_rfl) rfl ?_
              refine (all_cons ?_ (all_cons ?_ all_nil))
              · refine any_op (listed' := #[true, true, true, true, true, true, true, true, true, true, true, true, true, true, true, false, false]) (by kernel_rfl) (by kernel_rfl) ?_
                refine at_runW 1 [] [] [0, 4, 16, 17, 18, 22, 35, 36] [pl 0 (.slice A1 l1.length c1), pl 4 (.pointer (some ⟨g2, 0, none⟩)), pl 16 (.slice A1 l1.length c1), pl 17 (.int .i64 (l1.length : Int)), pl 18 (.int .i64 z1), pl 22 (.map (some g1)), pl 35 (.int .i64 (w64 ((mget (0 : Int) (minI ((getd ((0, 0) : (Int × Int)) l1 z1).1) ((getd ((0, 0) : (Int × Int)) l1 z1).2), maxI ((getd ((0, 0) : (Int × Int)) l1 z1).1) ((getd ((0, 0) : (Int × Int)) l1 z1).2)) many1) + 1))), pl 36 (.tuple #[.int .i64 (mget (0 : Int) (minI ((getd ((0, 0) : (Int × Int)) l1 z1).1) ((getd ((0, 0) : (Int × Int)) l1 z1).2), maxI ((getd ((0, 0) : (Int × Int)) l1 z1).1) ((getd ((0, 0) : (Int × Int)) l1 z1).2)) many1), .int .i64 ((s1 : Nat) : Int)])] hF hS (by kernel_rfl) (by kernel_rfl) ?_ (fun a hF => ?_)
                · exact obs_nil
                refine any_finI rfl (fun h => h) ?_
                refine any_step [15] (by kernel_rfl) rfl ?_
                refine (all_cons ?_ all_nil)
                · refine any_op (listed' := #[true, true, true, true, true, true, true, true, true, true, true, true, true, true, true, true, false]) (by kernel_rfl) (by kernel_rfl) ?_
                  refine at_runW 1 [] [] [0, 4, 16, 17, 18, 22, 35, 37] [pl 0 (.slice A1 l1.length c1), pl 4 (.pointer (some ⟨g2, 0, none⟩)), pl 16 (.slice A1 l1.length c1), pl 17 (.int .i64 (l1.length : Int)), pl 18 (.int .i64 z1), pl 22 (.map (some g1)), pl 35 (.int .i64 (w64 ((mget (0 : Int) (minI ((getd ((0, 0) : (Int × Int)) l1 z1).1) ((getd ((0, 0) : (Int × Int)) l1 z1).2), maxI ((getd ((0, 0) : (Int × Int)) l1 z1).1) ((getd ((0, 0) : (Int × Int)) l1 z1).2)) many1) + 1))), pl 37 (.int .i64 ((s1 : Nat) : Int))] hF hS (by kernel_rfl) (by kernel_rfl) ?_ (fun a hF => ?_)
                  · exact obs_nil
                  refine any_finI rfl (fun h => h) ?_
                  refine any_step [16] (by kernel_rfl) rfl ?_
                  refine (all_cons ?_ all_nil)
                  · refine any_op (listed' := #[true, true, true, true, true, true, true, true, true, true, true, true, true, true, true, true, true]) (by kernel_rfl) (by kernel_rfl) ?_
                    obtain ⟨w, hrun, hS⟩ := run_mstoreV (P := Try.prog) (t := 105) (vf := (Value.int .i64)) (minI ((getd ((0, 0) : (Int × Int)) l1 z1).1) ((getd ((0, 0) : (Int × Int)) l1 z1).2), maxI ((getd ((0, 0) : (Int × Int)) l1 z1).1) ((getd ((0, 0) : (Int × Int)) l1 z1).2)) (w64 ((mget (0 : Int) (minI ((getd ((0, 0) : (Int × Int)) l1 z1).1) ((getd ((0, 0) : (Int × Int)) l1 z1).2), maxI ((getd ((0, 0) : (Int × Int)) l1 z1).1) ((getd ((0, 0) : (Int × Int)) l1 z1).2)) many1) + 1)) (hS.at_ 2 rfl)
                    refine at_skip hF (by kernel_rfl) hrun ?_
                    have hS : Sep w0 B w (blk g3 102 #[.int .i64 ((getd ((0, 0) : (Int × Int)) l1 z1).1), .int .i64 ((getd ((0, 0) : (Int × Int)) l1 z1).2)] :: blk g2 105 #[.map (some g1)] :: mapH kf102 (Value.int .i64) g1 (mput (minI ((getd ((0, 0) : (Int × Int)) l1 z1).1) ((getd ((0, 0) : (Int × Int)) l1 z1).2), maxI ((getd ((0, 0) : (Int × Int)) l1 z1).1) ((getd ((0, 0) : (Int × Int)) l1 z1).2)) (w64 ((mget (0 : Int) (minI ((getd ((0, 0) : (Int × Int)) l1 z1).1) ((getd ((0, 0) : (Int × Int)) l1 z1).2), maxI ((getd ((0, 0) : (Int × Int)) l1 z1).1) ((getd ((0, 0) : (Int × Int)) l1 z1).2)) many1) + 1)) many1) :: fs) := hS
                    refine any_finE rfl (by decide) ?_
                    refine any_end (by kernel_rfl) ?_
                    refine np_n ?_
                    refine block_n ?_
                    refine then_n ?_
                    have hS := hS.pickN 3 [1, 2] (by decide)
                    exact ⟨hF.weak [0, 4, 16, 17, 18] (by kernel_rfl), hS, hm⟩
              · refine any_op (listed' := #[true, true, true, true, true, true, true, true, true, true, true, true, true, false, true, true, false]) (by kernel_rfl) (by kernel_rfl) ?_
                refine at_runW 1 [] [] [0, 4, 16, 17, 18, 22, 34, 37] [pl 0 (.slice A1 l1.length c1), pl 4 (.pointer (some ⟨g2, 0, none⟩)), pl 16 (.slice A1 l1.length c1), pl 17 (.int .i64 (l1.length : Int)), pl 18 (.int .i64 z1), pl 22 (.map (some g1)), pl 34 (.int .i64 (mget (0 : Int) (minI ((getd ((0, 0) : (Int × Int)) l1 z1).1) ((getd ((0, 0) : (Int × Int)) l1 z1).2), maxI ((getd ((0, 0) : (Int × Int)) l1 z1).1) ((getd ((0, 0) : (Int × Int)) l1 z1).2)) many1)), pl 37 (.int .i64 ((s1 : Nat) : Int))] hF hS (by kernel_rfl) (by kernel_rfl) ?_ (fun a hF => ?_)
                · exact obs_nil
                refine any_finI rfl (fun h => h) ?_
                refine any_step [13] (by kernel_rfl) rfl ?_
                refine (all_cons ?_ all_nil)
                · refine any_op (listed' := #[true, true, true, true, true, true, true, true, true, true, true, true, true, true, true, true, false]) (by kernel_rfl) (by kernel_rfl) ?_
                  refine at_runW 1 [] [] [0, 4, 16, 17, 18, 22, 35, 37] [pl 0 (.slice A1 l1.length c1), pl 4 (.pointer (some ⟨g2, 0, none⟩)), pl 16 (.slice A1 l1.length c1), pl 17 (.int .i64 (l1.length : Int)), pl 18 (.int .i64 z1), pl 22 (.map (some g1)), pl 35 (.int .i64 (w64 ((mget (0 : Int) (minI ((getd ((0, 0) : (Int × Int)) l1 z1).1) ((getd ((0, 0) : (Int × Int)) l1 z1).2), maxI ((getd ((0, 0) : (Int × Int)) l1 z1).1) ((getd ((0, 0) : (Int × Int)) l1 z1).2)) many1) + 1))), pl 37 (.int .i64 ((s1 : Nat) : Int))] hF hS (by kernel_rfl) (by kernel_rfl) ?_ (fun a hF => ?_)
                  · exact obs_nil
                  refine any_finI rfl (fun h => h) ?_
                  refine any_step [16] (by kernel_rfl) rfl ?_
                  refine (all_cons ?_ all_nil)
                  · refine any_op (listed' := #[true, true, true, true, true, true, true, true, true, true, true, true, true, true, true, true, true]) (by kernel_rfl) (by kernel_rfl) ?_
                    obtain ⟨w, hrun, hS⟩ := run_mstoreV (P := Try.prog) (t := 105) (vf := (Value.int .i64)) (minI ((getd ((0, 0) : (Int × Int)) l1 z1).1) ((getd ((0, 0) : (Int × Int)) l1 z1).2), maxI ((getd ((0, 0) : (Int × Int)) l1 z1).1) ((getd ((0, 0) : (Int × Int)) l1 z1).2)) (w64 ((mget (0 : Int) (minI ((getd ((0, 0) : (Int × Int)) l1 z1).1) ((getd ((0, 0) : (Int × Int)) l1 z1).2), maxI ((getd ((0, 0) : (Int × Int)) l1 z1).1) ((getd ((0, 0) : (Int × Int)) l1 z1).2)) many1) + 1)) (hS.at_ 2 rfl)
                    refine at_skip hF (by kernel_rfl) hrun ?_
                    have hS : Sep w0 B w (blk g3 102 #[.int .i64 ((getd ((0, 0) : (Int × Int)) l1 z1).1), .int .i64 ((getd ((0, 0) : (Int × Int)) l1 z1).2)] :: blk g2 105 #[.map (some g1)] :: mapH kf102 (Value.int .i64) g1 (mput (minI ((getd ((0, 0) : (Int × Int)) l1 z1).1) ((getd ((0, 0) : (Int × Int)) l1 z1).2), maxI ((getd ((0, 0) : (Int × Int)) l1 z1).1) ((getd ((0, 0) : (Int × Int)) l1 z1).2)) (w64 ((mget (0 : Int) (minI ((getd ((0, 0) : (Int × Int)) l1 z1).1) ((getd ((0, 0) : (Int × Int)) l1 z1).2), maxI ((getd ((0, 0) : (Int × Int)) l1 z1).1) ((getd ((0, 0) : (Int × Int)) l1 z1).2)) many1) + 1)) many1) :: fs) := hS
                    refine any_finE rfl (by decide) ?_
                    refine any_end (by kernel_rfl) ?_
                    refine np_n ?_
                    refine block_n ?_
                    refine then_n ?_
                    have hS := hS.pickN 3 [1, 2] (by decide)
                    exact ⟨hF.weak [0, 4, 16, 17, 18] (by kernel_rfl), hS, hm⟩
            · refine any_op (listed' := #[true, true, true, true, true, true, true, true, true, true, true, true, false, false, true, true, false]) (by kernel_rfl) (by kernel_rfl) ?_
              refine at_runW 1 [] [] [0, 4, 16, 17, 18, 22, 33, 37] [pl 0 (.slice A1 l1.length c1), pl 4 (.pointer (some ⟨g2, 0, none⟩)), pl 16 (.slice A1 l1.length c1), pl 17 (.int .i64 (l1.length : Int)), pl 18 (.int .i64 z1), pl 22 (.map (some g1)), pl 33 (.agg #[.int .i64 (minI ((getd ((0, 0) : (Int × Int)) l1 z1).1) ((getd ((0, 0) : (Int × Int)) l1 z1).2)), .int .i64 (maxI ((getd ((0, 0) : (Int × Int)) l1 z1).1) ((getd ((0, 0) : (Int × Int)) l1 z1).2))]), pl 37 (.int .i64 ((s1 : Nat) : Int))] hF hS (by kernel_rfl) (by kernel_rfl) ?_ (fun a hF => ?_)
              · exact obs_nil
              refine any_finI rfl (fun h => h) ?_
              refine any_step [12] (by kernel_rfl) rfl ?_
              refine (all_cons ?_ all_nil)
              · refine any_op (listed' := #[true, true, true, true, true, true, true, true, true, true, true, true, true, false, true, true, false]) (by kernel_rfl) (by kernel_rfl) ?_
                refine at_runW 1 [⟨false, [], vS (Instr.lookup 105 (.map (some g1)) (.agg #[.int .i64 (minI ((getd ((0, 0) : (Int × Int)) l1 z1).1) ((getd ((0, 0) : (Int × Int)) l1 z1).2)), .int .i64 (maxI ((getd ((0, 0) : (Int × Int)) l1 z1).1) ((getd ((0, 0) : (Int × Int)) l1 z1).2))]) false), .int .i64 (mget (0 : Int) (minI ((getd ((0, 0) : (Int × Int)) l1 z1).1) ((getd ((0, 0) : (Int × Int)) l1 z1).2), maxI ((getd ((0, 0) : (Int × Int)) l1 z1).1) ((getd ((0, 0) : (Int × Int)) l1 z1).2)) many1)⟩] [some (.int .i64 (mget (0 : Int) (minI ((getd ((0, 0) : (Int × Int)) l1 z1).1) ((getd ((0, 0) : (Int × Int)) l1 z1).2), maxI ((getd ((0, 0) : (Int × Int)) l1 z1).1) ((getd ((0, 0) : (Int × Int)) l1 z1).2)) many1))] [0, 4, 16, 17, 18, 22, 34, 37] [pl 0 (.slice A1 l1.length c1), pl 4 (.pointer (some ⟨g2, 0, none⟩)), pl 16 (.slice A1 l1.length c1), pl 17 (.int .i64 (l1.length : Int)), pl 18 (.int .i64 z1), pl 22 (.map (some g1)), pl 34 (.int .i64 (mget (0 : Int) (minI ((getd ((0, 0) : (Int × Int)) l1 z1).1) ((getd ((0, 0) : (Int × Int)) l1 z1).2), maxI ((getd ((0, 0) : (Int × Int)) l1 z1).1) ((getd ((0, 0) : (Int × Int)) l1 z1).2)) many1)), pl 37 (.int .i64 ((s1 : Nat) : Int))] hF hS (by kernel_rfl) (by kernel_rfl) ?_ (fun a hF => ?_)
                · exact obs_cons (ob_lookV (k := (minI ((getd ((0, 0) : (Int × Int)) l1 z1).1) ((getd ((0, 0) : (Int × Int)) l1 z1).2), maxI ((getd ((0, 0) : (Int × Int)) l1 z1).1) ((getd ((0, 0) : (Int × Int)) l1 z1).2))) (m := many1) MK102 UndM105 (z := (0 : Int)) MZ3 (fun _ hS => ⟨_, _, _, _, _, hS.at_ 2 rfl⟩)) <| obs_nil
                refine any_finI rfl (fun h => h) ?_
                refine any_step [13] (by kernel_rfl) rfl ?_
                refine (all_cons ?_ all_nil)
                · refine any_op (listed' := #[true, true, true, true, true, true, true, true, true, true, true, true, true, true, true, true, false]) (by kernel_rfl) (by kernel_rfl) ?_
                  refine at_runW 1 [] [] [0, 4, 16, 17, 18, 22, 35, 37] [pl 0 (.slice A1 l1.length c1), pl 4 (.pointer (some ⟨g2, 0, none⟩)), pl 16 (.slice A1 l1.length c1), pl 17 (.int .i64 (l1.length : Int)), pl 18 (.int .i64 z1), pl 22 (.map (some g1)), pl 35 (.int .i64 (w64 ((mget (0 : Int) (minI ((getd ((0, 0) : (Int × Int)) l1 z1).1) ((getd ((0, 0) : (Int × Int)) l1 z1).2), maxI ((getd ((0, 0) : (Int × Int)) l1 z1).1) ((getd ((0, 0) : (Int × Int)) l1 z1).2)) many1) + 1))), pl 37 (.int .i64 ((s1 : Nat) : Int))] hF hS (by kernel_rfl) (by kernel_rfl) ?_ (fun a hF => ?_)
                  · exact obs_nil
                  refine any_finI rfl (fun h => h) ?_
                  refine any_step [16] (by kernel_rfl) rfl ?_
                  refine (all_cons ?_ all_nil)
                  · refine any_op (listed' := #[true, true, true, true, true, true, true, true, true, true, true, true, true, true, true, true, true]) (by kernel_rfl) (by kernel_rfl) ?_
                    obtain ⟨w, hrun, hS⟩ := run_mstoreV (P := Try.prog) (t := 105) (vf := (Value.int .i64)) (minI ((getd ((0, 0) : (Int × Int)) l1 z1).1) ((getd ((0, 0) : (Int × Int)) l1 z1).2), maxI ((getd ((0, 0) : (Int × Int)) l1 z1).1) ((getd ((0, 0) : (Int × Int)) l1 z1).2)) (w64 ((mget (0 : Int) (minI ((getd ((0, 0) : (Int × Int)) l1 z1).1) ((getd ((0, 0) : (Int × Int)) l1 z1).2), maxI ((getd ((0, 0) : (Int × Int)) l1 z1).1) ((getd ((0, 0) : (Int × Int)) l1 z1).2)) many1) + 1)) (hS.at_ 2 rfl)
                    refine at_skip hF (by kernel_rfl) hrun ?_
                    have hS : Sep w0 B w (blk g3 102 #[.int .i64 ((getd ((0, 0) : (Int × Int)) l1 z1).1), .int .i64 ((getd ((0, 0) : (Int × Int)) l1 z1).2)] :: blk g2 105 #[.map (some g1)] :: mapH kf102 (Value.int .i64) g1 (mput (minI ((getd ((0, 0) : (Int × Int)) l1 z1).1) ((getd ((0, 0) : (Int × Int)) l1 z1).2), maxI ((getd ((0, 0) : (Int × Int)) l1 z1).1) ((getd ((0, 0) : (Int × Int)) l1 z1).2)) (w64 ((mget (0 : Int) (minI ((getd ((0, 0) : (Int × Int)) l1 z1).1) ((getd ((0, 0) : (Int × Int)) l1 z1).2), maxI ((getd ((0, 0) : (Int × Int)) l1 z1).1) ((getd ((0, 0) : (Int × Int)) l1 z1).2)) many1) + 1)) many1) :: fs) := hS
                    refine any_finE rfl (by decide) ?_
                    refine any_end (by kernel_rfl) ?_
                    refine np_n ?_
                    refine block_n ?_
                    refine then_n ?_
                    have hS := hS.pickN 3 [1, 2] (by decide)
                    exact ⟨hF.weak [0, 4, 16, 17, 18] (by kernel_rfl), hS, hm⟩
      · refine cond_ev (t := 19) (b := decide (z1 < (l1.length : Int))) hF (by kernel_rfl) (fun hb => ?_) (fun hb => ?_)
        · replace hm := if_t hm hb
          refine wp_skip ?_
          refine then_n ?_
          exact ⟨hF.weak [0, 4, 16, 17, 18] (by kernel_rfl), hS, hm⟩
        · replace hm := if_f hm hb
          refine wp_exit ?_
          refine then_e (then_e (block_e (then_n ?_)))
          rw [← hφ1] at hm
          replace hm := done_b hm
          unfold domino_Rows_K1 at hm
          try dsimp only at hm
          have hm : ((domino_Rows_J2 l1) many1).bind some = some r := hm
          exact ⟨many1, hF.weak [0, 4] (by kernel_rfl), hS, hm⟩
  · refine wp_block ?_
    refine reg [] [] [0, 8] [pl 0 (.slice A1 l1.length c1), pl 8 (.bool (decide ((7 : Int) < (l1.length : Int))))] hF hS Fol (by kernel_rfl) (by kernel_rfl) (by kernel_rfl) ?_ (fun a w hF hS => ?_)
    · exact obs_nil
    refine cond_ev (t := 8) (b := decide ((7 : Int) < (l1.length : Int))) hF (by kernel_rfl) (fun hb => ?_) (fun hb => ?_)
    · replace hm := if_t hm hb
      refine reg [] [] [2, 3] [pl 2 (.int .i64 0), pl 3 (.int .i64 2)] hF hS Fol (by kernel_rfl) (by kernel_rfl) (by kernel_rfl) ?_ (fun a w hF hS => ?_)
      · exact obs_nil
      refine wp_ret ?_
      refine block_r (then_r ?_)
      have hm : some (0, 2) = some r := hm
      obtain rfl := Option.some.inj hm
      exact retV (rs := [.tmp 2, .tmp 3]) (vs := [.int .i64 0, .int .i64 2]) hF rfl (rv_t (by kernel_rfl) <| rv_t (by kernel_rfl) <| rv_nil) rfl ⟨rfl, hS⟩
    · replace hm := if_f hm hb
      obtain ⟨r1, hr1, hm⟩ := call_b hm
      refine reg [⟨false, [], callFunc 75 #[.slice A1 l1.length c1, .func (.func 76) #[] #[]], .bool r1⟩] [none, some (.bool r1), none] [0, 12] [pl 0 (.slice A1 l1.length c1), pl 12 (.bool r1)] hF hS Fol (by kernel_rfl) (by kernel_rfl) (by kernel_rfl) ?_ (fun a w hF hS => ?_)
      · exact obs_cons (ob_call Try.func75 (by kernel_rfl) rfl (fun _ _ hS => slices_ContainsFunc_w hr1 hS (fun _ hS => (hr_l1 _ (hS.dropN 0))) _hc_l1 rfl)) <| obs_nil
      refine cond_ev (t := 12) (b := r1) hF (by kernel_rfl) (fun hb => ?_) (fun hb => ?_)
      · replace hm := if_t hm hb
        refine reg [] [] [2, 3] [pl 2 (.int .i64 0), pl 3 (.int .i64 3)] hF hS Fol (by kernel_rfl) (by kernel_rfl) (by kernel_rfl) ?_ (fun a w hF hS => ?_)
        · exact obs_nil
        refine wp_ret ?_
        refine block_r (then_r ?_)
        have hm : some (0, 3) = some r := hm
        obtain rfl := Option.some.inj hm
        exact retV (rs := [.tmp 2, .tmp 3]) (vs := [.int .i64 0, .int .i64 3]) hF rfl (rv_t (by kernel_rfl) <| rv_t (by kernel_rfl) <| rv_nil) rfl ⟨rfl, hS⟩
      · replace hm := if_f hm hb
        refine wp_skip ?_
        refine block_n ?_
        refine then_n ?_
        exact ⟨hF.weak [0] (by kernel_rfl), hS, hm⟩

noncomputable def gameroomlaw_samePieces_J4 (i1 : Int) : Option (St Int (Fl Unit Bool)) :=
  some (.next (w64 (i1 + 1)))

noncomputable def gameroomlaw_samePieces_J3 (a1 : List (Int × Int)) (b1 : List (Int × Int)) (i1 : Int) : Option (St Int (Fl Unit Bool)) :=
  asrt (0 ≤ i1 ∧ i1 < (a1.length : Int)) <| asrt (0 ≤ i1 ∧ i1 < (b1.length : Int)) <| if (!((((getd ((0, 0) : (Int × Int)) a1 i1).1) == ((getd ((0, 0) : (Int × Int)) b1 i1).1)) && (((getd ((0, 0) : (Int × Int)) a1 i1).2) == ((getd ((0, 0) : (Int × Int)) b1 i1).2)))) then (some (.done (.ret false))) else ((gameroomlaw_samePieces_J4 i1))

noncomputable def gameroomlaw_samePieces_J2 : Option Bool :=
  some true

noncomputable def gameroomlaw_samePieces_K1 : (Fl Unit Bool) → Option Bool :=
  fun (x : (Fl Unit Bool)) => match x with | .go _ => gameroomlaw_samePieces_J2 | .ret x => some x

noncomputable def gameroomlaw_samePieces_L1 (a1 : List (Int × Int)) (b1 : List (Int × Int)) : Int → Option (St Int (Fl Unit Bool)) :=
  fun (x : Int) => match x with | i1 => if (decide (i1 < (a1.length : Int))) then ((gameroomlaw_samePieces_J3 a1 b1 i1)) else (some (.done (.go ())))

noncomputable def gameroomlaw_samePieces_J1 (a1 : List (Int × Int)) (b1 : List (Int × Int)) : Option Bool :=
  (loop (gameroomlaw_samePieces_L1 a1 b1) 0).bind gameroomlaw_samePieces_K1

noncomputable def gameroomlaw_samePieces_m (a1 : List (Int × Int)) (b1 : List (Int × Int)) : Option Bool :=
  if ((a1.length : Int) != (b1.length : Int)) then (some false) else ((gameroomlaw_samePieces_J1 a1 b1))

set_option maxRecDepth 100000 in
set_option maxHeartbeats 4000000 in
theorem gameroomlaw_samePieces_w {A1 : Option Addr} {c1 : Nat} {n1 : Nat} {a1 : List (Int × Int)} {A2 : Option Addr} {c2 : Nat} {n2 : Nat} {b1 : List (Int × Int)} {r : Bool} {w0 w : World} {B : Nat} {fs : List HP} (hm : gameroomlaw_samePieces_m a1 b1 = some r) (hS : Sep w0 B w (fs)) (hr_a1 : RdF w0 B fs A1 ((List.flatMap enc102 a1))) (_hc_a1 : a1.length ≤ c1) (_hn_a1 : n1 = a1.length) (hr_b1 : RdF w0 B fs A2 ((List.flatMap enc102 b1))) (_hc_b1 : b1.length ≤ c2) (_hn_b1 : n2 = b1.length) :
    Calls Try.prog 38 #[.slice A1 n1 c1, .slice A2 n2 c2] w fun e w' => e = .returned (.bool r) ∧ Sep w0 B w' (fs) := by
  obtain ⟨i102, hi102, hz102, hs102, hb102⟩ := info_parts Info102
  obtain rfl := _hn_a1
  obtain rfl := _hn_b1
  unfold gameroomlaw_samePieces_m at hm
  replace hm := start_b hm
  refine enter (l := [.slice A1 a1.length c1, .slice A2 b1.length c2]) (n := 26) Try.func38 rfl rfl (by simp) (fun a hF => ?_)
  refine reg [] [] [0, 1] [pl 0 (.slice A1 a1.length c1), pl 1 (.slice A2 b1.length c2)] hF hS Fol (by kernel_rfl) (by kernel_rfl) (by kernel_rfl) ?_ (fun a w hF hS => ?_)
  · exact obs_nil
  refine seq_cut (fun a w => Fr 26 [pl 0 (.slice A1 a1.length c1), pl 1 (.slice A2 b1.length c2)] a ∧ Sep w0 B w (fs) ∧ ((gameroomlaw_samePieces_J1 a1 b1)).bind some = some r) ?_ ?_
  · rintro a w ⟨hF, hS, hm⟩
    unfold gameroomlaw_samePieces_J1 at hm
    refine seq_cut (fun a w => Fr 26 [] a ∧ Sep w0 B w (fs) ∧ (gameroomlaw_samePieces_J2).bind some = some r) ?_ ?_
    · rintro a w ⟨hF, hS, hm⟩
      unfold gameroomlaw_samePieces_J2 at hm
      refine reg [] [] [4] [pl 4 (.bool true)] hF hS Fol (by kernel_rfl) (by kernel_rfl) (by kernel_rfl) ?_ (fun a w hF hS => ?_)
      · exact obs_nil
      refine wp_ret ?_
      have hm : some true = some r := hm
      obtain rfl := Option.some.inj hm
      exact retV (rs := [.tmp 4]) (vs := [.bool true]) hF rfl (rv_t (by kernel_rfl) <| rv_nil) rfl ⟨rfl, hS⟩
    · refine reg [] [] [0, 1, 5] [pl 0 (.slice A1 a1.length c1), pl 1 (.slice A2 b1.length c2), pl 5 (.int .i64 0)] hF hS Fol (by kernel_rfl) (by kernel_rfl) (by kernel_rfl) ?_ (fun a w hF hS => ?_)
      · exact obs_nil
      refine wp_block ?_
      refine wp_loop_model (S := Int) (R := (Fl Unit Bool)) (gameroomlaw_samePieces_L1 a1 b1) (fun x => (gameroomlaw_samePieces_K1 x).bind some) r (fun (x : Int) a w => Fr 26 [pl 0 (.slice A1 a1.length c1), pl 1 (.slice A2 b1.length c2), pl 5 (.int .i64 x)] a ∧ Sep w0 B w (fs)) (assoc_b hm) ⟨hF.weak [0, 1, 5] (by kernel_rfl), hS⟩ ?_
      clear hF hS hm
      rintro nn1 i1 a w ⟨hF, hS⟩ hm
      generalize hφ1 : stK (gameroomlaw_samePieces_L1 a1 b1) nn1 (fun x => (gameroomlaw_samePieces_K1 x).bind some) = φ1 at hm
      unfold gameroomlaw_samePieces_L1 at hm
      dsimp only at hm
      refine seq_cut (fun a w => Fr 26 [pl 0 (.slice A1 a1.length c1), pl 1 (.slice A2 b1.length c2), pl 5 (.int .i64 i1)] a ∧ Sep w0 B w (fs) ∧ ((gameroomlaw_samePieces_J3 a1 b1 i1)).bind φ1 = some r) ?_ ?_
      · rintro a w ⟨hF, hS, hm⟩
        unfold gameroomlaw_samePieces_J3 at hm
        refine seq_cut (fun a w => Fr 26 [pl 0 (.slice A1 a1.length c1), pl 1 (.slice A2 b1.length c2), pl 5 (.int .i64 i1)] a ∧ Sep w0 B w (fs) ∧ ((gameroomlaw_samePieces_J4 i1)).bind φ1 = some r) ?_ ?_
        · rintro a w ⟨hF, hS, hm⟩
          unfold gameroomlaw_samePieces_J4 at hm
          refine reg1 [] [] [0, 1, 5] [pl 0 (.slice A1 a1.length c1), pl 1 (.slice A2 b1.length c2), pl 5 (.int .i64 (w64 (i1 + 1)))] hF hS Fol (by kernel_rfl) (by kernel_rfl) (by kernel_rfl) ?_ (fun a w hF hS => ?_)
          · exact obs_nil
          refine then_n ?_
          rw [← hφ1] at hm
          exact ⟨(w64 (i1 + 1)), ⟨hF.weak [0, 1, 5] (by kernel_rfl), hS⟩, hm⟩
        · refine wp_block ?_
          obtain ⟨hp1, hm⟩ := asrt_b hm
          obtain ⟨hp2, hm⟩ := asrt_b hm
          refine reg [⟨true, [], vS (Instr.indexAt 61 (.slice A1 a1.length c1) (.int .i64 i1)), .pointer (some (sAddrK A1 2 i1))⟩, ⟨false, [], vS (Instr.loadAt 102 (.pointer (some (sAddrK A1 2 i1)))), .agg #[.int .i64 ((getd ((0, 0) : (Int × Int)) a1 i1).1), .int .i64 ((getd ((0, 0) : (Int × Int)) a1 i1).2)]⟩, ⟨true, [], vS (Instr.indexAt 61 (.slice A2 b1.length c2) (.int .i64 i1)), .pointer (some (sAddrK A2 2 i1))⟩, ⟨false, [], vS (Instr.loadAt 102 (.pointer (some (sAddrK A2 2 i1)))), .agg #[.int .i64 ((getd ((0, 0) : (Int × Int)) b1 i1).1), .int .i64 ((getd ((0, 0) : (Int × Int)) b1 i1).2)]⟩, ⟨true, [], vS (do eqGuard .neq 102 (.tmp 20) (.tmp 24) (.agg #[.int .i64 ((getd ((0, 0) : (Int × Int)) a1 i1).1), .int .i64 ((getd ((0, 0) : (Int × Int)) a1 i1).2)]) (.agg #[.int .i64 ((getd ((0, 0) : (Int × Int)) b1 i1).1), .int .i64 ((getd ((0, 0) : (Int × Int)) b1 i1).2)]); binOp .neq 102 (.agg #[.int .i64 ((getd ((0, 0) : (Int × Int)) a1 i1).1), .int .i64 ((getd ((0, 0) : (Int × Int)) a1 i1).2)]) (.agg #[.int .i64 ((getd ((0, 0) : (Int × Int)) b1 i1).1), .int .i64 ((getd ((0, 0) : (Int × Int)) b1 i1).2)])), .bool (!((((getd ((0, 0) : (Int × Int)) a1 i1).1) == ((getd ((0, 0) : (Int × Int)) b1 i1).1)) && (((getd ((0, 0) : (Int × Int)) a1 i1).2) == ((getd ((0, 0) : (Int × Int)) b1 i1).2))))⟩] [none, none, some (.pointer (some (sAddrK A1 2 i1))), some (.agg #[.int .i64 ((getd ((0, 0) : (Int × Int)) a1 i1).1), .int .i64 ((getd ((0, 0) : (Int × Int)) a1 i1).2)]), none, none, some (.pointer (some (sAddrK A2 2 i1))), some (.agg #[.int .i64 ((getd ((0, 0) : (Int × Int)) b1 i1).1), .int .i64 ((getd ((0, 0) : (Int × Int)) b1 i1).2)]), some (.bool (!((((getd ((0, 0) : (Int × Int)) a1 i1).1) == ((getd ((0, 0) : (Int × Int)) b1 i1).1)) && (((getd ((0, 0) : (Int × Int)) a1 i1).2) == ((getd ((0, 0) : (Int × Int)) b1 i1).2)))))] [0, 1, 5, 25] [pl 0 (.slice A1 a1.length c1), pl 1 (.slice A2 b1.length c2), pl 5 (.int .i64 i1), pl 25 (.bool (!((((getd ((0, 0) : (Int × Int)) a1 i1).1) == ((getd ((0, 0) : (Int × Int)) b1 i1).1)) && (((getd ((0, 0) : (Int × Int)) a1 i1).2) == ((getd ((0, 0) : (Int × Int)) b1 i1).2)))))] hF hS Fol (by kernel_rfl) (by kernel_rfl) (by kernel_rfl) ?_ (fun a w hF hS => ?_)
          · exact obs_cons (ob_ixK (m := a1) encK102 Und61 hi102 hs102 (hr_a1 _ (hS.dropN 0)) rfl (fun _ => hp1)) <| obs_cons (ob_getK (n := a1.length) (m := a1) encK102 ((0, 0) : (Int × Int)) (by kernel_rfl) (by kernel_rfl) (fun _ hS => ⟨_, (hr_a1 _ (hS.dropN 0))⟩) (fun _ hS => rfl) (fun _ => hp1)) <| obs_cons (ob_ixK (m := b1) encK102 Und61 hi102 hs102 (hr_b1 _ (hS.dropN 0)) rfl (fun _ => hp2)) <| obs_cons (ob_getK (n := b1.length) (m := b1) encK102 ((0, 0) : (Int × Int)) (by kernel_rfl) (by kernel_rfl) (fun _ hS => ⟨_, (hr_b1 _ (hS.dropN 0))⟩) (fun _ hS => rfl) (fun _ => hp2)) <| obs_cons (ob_neq rfl (by kernel_rfl) (fun w => Eql102 w)) <| obs_nil
          refine cond_ev (t := 25) (b := !((((getd ((0, 0) : (Int × Int)) a1 i1).1) == ((getd ((0, 0) : (Int × Int)) b1 i1).1)) && (((getd ((0, 0) : (Int × Int)) a1 i1).2) == ((getd ((0, 0) : (Int × Int)) b1 i1).2)))) hF (by kernel_rfl) (fun hb => ?_) (fun hb => ?_)
          · replace hm := if_t hm hb
            refine reg [] [] [4] [pl 4 (.bool false)] hF hS Fol (by kernel_rfl) (by kernel_rfl) (by kernel_rfl) ?_ (fun a w hF hS => ?_)
            · exact obs_nil
            refine wp_ret ?_
            refine block_r (then_r (then_r (block_r (then_r ?_))))
            rw [← hφ1] at hm
            replace hm := done_b hm
            unfold gameroomlaw_samePieces_K1 at hm
            try dsimp only at hm
            have hm : some false = some r := hm
            obtain rfl := Option.some.inj hm
            exact retV (rs := [.tmp 4]) (vs := [.bool false]) hF rfl (rv_t (by kernel_rfl) <| rv_nil) rfl ⟨rfl, hS⟩
          · replace hm := if_f hm hb
            refine wp_skip ?_
            refine block_n ?_
            refine then_n ?_
            exact ⟨hF.weak [0, 1, 5] (by kernel_rfl), hS, hm⟩
      · refine reg [] [] [0, 1, 5, 14] [pl 0 (.slice A1 a1.length c1), pl 1 (.slice A2 b1.length c2), pl 5 (.int .i64 i1), pl 14 (.bool (decide (i1 < (a1.length : Int))))] hF hS Fol (by kernel_rfl) (by kernel_rfl) (by kernel_rfl) ?_ (fun a w hF hS => ?_)
        · exact obs_nil
        refine cond_ev (t := 14) (b := decide (i1 < (a1.length : Int))) hF (by kernel_rfl) (fun hb => ?_) (fun hb => ?_)
        · replace hm := if_t hm hb
          refine wp_skip ?_
          refine then_n ?_
          exact ⟨hF.weak [0, 1, 5] (by kernel_rfl), hS, hm⟩
        · replace hm := if_f hm hb
          refine wp_exit ?_
          refine then_e (then_e (block_e (then_n ?_)))
          rw [← hφ1] at hm
          replace hm := done_b hm
          unfold gameroomlaw_samePieces_K1 at hm
          try dsimp only at hm
          have hm : (gameroomlaw_samePieces_J2).bind some = some r := hm
          exact ⟨hF.weak [] (by kernel_rfl), hS, hm⟩
  · refine reg [] [] [0, 1, 10] [pl 0 (.slice A1 a1.length c1), pl 1 (.slice A2 b1.length c2), pl 10 (.bool ((a1.length : Int) != (b1.length : Int)))] hF hS Fol (by kernel_rfl) (by kernel_rfl) (by kernel_rfl) ?_ (fun a w hF hS => ?_)
    · exact obs_nil
    refine cond_ev (t := 10) (b := ((a1.length : Int) != (b1.length : Int))) hF (by kernel_rfl) (fun hb => ?_) (fun hb => ?_)
    · replace hm := if_t hm hb
      refine reg [] [] [4] [pl 4 (.bool false)] hF hS Fol (by kernel_rfl) (by kernel_rfl) (by kernel_rfl) ?_ (fun a w hF hS => ?_)
      · exact obs_nil
      refine wp_ret ?_
      refine then_r ?_
      have hm : some false = some r := hm
      obtain rfl := Option.some.inj hm
      exact retV (rs := [.tmp 4]) (vs := [.bool false]) hF rfl (rv_t (by kernel_rfl) <| rv_nil) rfl ⟨rfl, hS⟩
    · replace hm := if_f hm hb
      refine wp_skip ?_
      refine then_n ?_
      exact ⟨hF.weak [0, 1] (by kernel_rfl), hS, hm⟩

noncomputable def gameroomref_SetOf_J5 (b1 : Int) (l5 : List (Int × Int)) : Option (St (List (Int × Int) × Int) (List (Int × Int))) :=
  some (.next (l5, (w64 (b1 + 1))))

noncomputable def gameroomref_SetOf_J4 (a1 : Int) (l3 : List (Int × Int)) (b1 : Int) : Option (St (List (Int × Int) × Int) (List (Int × Int))) :=
  asrt ((l3.length : Int) + 1 ≤ bigP) <| (gameroomref_SetOf_J5 b1) (l3 ++ ([(a1, b1)] : List (Int × Int)))

noncomputable def gameroomref_SetOf_J3 (a1 : Int) (l4 : List (Int × Int)) : Option (St (List (Int × Int) × Int) (List (Int × Int))) :=
  some (.next (l4, (w64 (a1 + 1))))

noncomputable def gameroomref_SetOf_K2 (a1 : Int) : (List (Int × Int)) → Option (St (List (Int × Int) × Int) (List (Int × Int))) :=
  fun (x : (List (Int × Int))) => match x with | l4 => (gameroomref_SetOf_J3 a1) l4

noncomputable def gameroomref_SetOf_L2 (most1 : Int) (a1 : Int) : (List (Int × Int) × Int) → Option (St (List (Int × Int) × Int) (List (Int × Int))) :=
  fun (x : (List (Int × Int) × Int)) => match x with | (l3, b1) => if (decide (b1 ≤ most1)) then ((gameroomref_SetOf_J4 a1 l3 b1)) else (some (.done l3))

noncomputable def gameroomref_SetOf_J2 (most1 : Int) (l1 : List (Int × Int)) (a1 : Int) : Option (St (List (Int × Int) × Int) (List (Int × Int))) :=
  (loop (gameroomref_SetOf_L2 most1 a1) (l1, a1)).bind (gameroomref_SetOf_K2 a1)

noncomputable def gameroomref_SetOf_J1 (l2 : List (Int × Int)) : Option (List (Int × Int)) :=
  some l2

noncomputable def gameroomref_SetOf_K1 : (List (Int × Int)) → Option (List (Int × Int)) :=
  fun (x : (List (Int × Int))) => match x with | l2 => gameroomref_SetOf_J1 l2

noncomputable def gameroomref_SetOf_L1 (most1 : Int) : (List (Int × Int) × Int) → Option (St (List (Int × Int) × Int) (List (Int × Int))) :=
  fun (x : (List (Int × Int) × Int)) => match x with | (l1, a1) => if (decide (a1 ≤ most1)) then ((gameroomref_SetOf_J2 most1 l1 a1)) else (some (.done l1))

noncomputable def gameroomref_SetOf_m (most1 : Int) : Option (List (Int × Int)) :=
  (loop (gameroomref_SetOf_L1 most1) (([] : List (Int × Int)), 0)).bind gameroomref_SetOf_K1

set_option maxRecDepth 100000 in
set_option maxHeartbeats 4000000 in
theorem gameroomref_SetOf_w {most1 : Int} {r : (List (Int × Int))} {w0 w : World} {B : Nat} {fs : List HP} (hm : gameroomref_SetOf_m most1 = some r) (hS : Sep w0 B w (fs)) :
    Calls Try.prog 39 #[.int .i64 most1] w fun e w' => ∃ v, e = .returned v ∧ ∃ (A7 : Option Addr) (c7 : Nat), v = .slice A7 r.length c7 ∧ Sep w0 B w' (ownK 102 2 A7 r.length c7 (List.flatMap enc102 r) :: fs) := by
  obtain ⟨i102, hi102, hz102, hs102, hb102⟩ := info_parts Info102
  unfold gameroomref_SetOf_m at hm
  replace hm := start_b hm
  refine enter (l := [.int .i64 most1]) (n := 24) Try.func39 rfl rfl (by simp) (fun a hF => ?_)
  refine reg [] [] [0] [pl 0 (.int .i64 most1)] hF hS Fol (by kernel_rfl) (by kernel_rfl) (by kernel_rfl) ?_ (fun a w hF hS => ?_)
  · exact obs_nil
  refine reg [] [] [0, 3] [pl 0 (.int .i64 most1), pl 3 (.slice none 0 0)] hF hS Fol (by kernel_rfl) (by kernel_rfl) (by kernel_rfl) ?_ (fun a w hF hS => ?_)
  · exact obs_nil
  refine seq_cut (fun a w => ∃ (l2 : List (Int × Int)) (A2 : Option Addr) (c2 : Nat), Fr 24 [pl 3 (.slice A2 l2.length c2)] a ∧ Sep w0 B w (ownK 102 2 A2 l2.length c2 (List.flatMap enc102 l2) :: fs) ∧ (gameroomref_SetOf_J1 l2).bind some = some r) ?_ ?_
  · rintro a w ⟨l2, A2, c2, hF, hS, hm⟩
    unfold gameroomref_SetOf_J1 at hm
    refine reg [] [] [2] [pl 2 (.slice A2 l2.length c2)] hF hS Fol (by kernel_rfl) (by kernel_rfl) (by kernel_rfl) ?_ (fun a w hF hS => ?_)
    · exact obs_nil
    refine wp_ret ?_
    have hm : some l2 = some r := hm
    obtain rfl := Option.some.inj hm
    exact retV (rs := [.tmp 2]) (vs := [.slice A2 l2.length c2]) hF rfl (rv_t (by kernel_rfl) <| rv_nil) rfl ⟨_, rfl, A2, c2, rfl, hS⟩
  · refine reg [] [] [0, 3, 4] [pl 0 (.int .i64 most1), pl 3 (.slice none 0 0), pl 4 (.int .i64 0)] hF hS Fol (by kernel_rfl) (by kernel_rfl) (by kernel_rfl) ?_ (fun a w hF hS => ?_)
    · exact obs_nil
    refine wp_block ?_
    have hS : Sep w0 B w (ownK 102 2 none 0 0 (List.flatMap enc102 ([] : List (Int × Int))) :: fs) := hS.nilK 102 2 enc102
    have hl1 := (hS.at_ 0 rfl).lenK encK102
    have hS := (hS.at_ 0 rfl).reNK hl1
    have hS : Sep w0 B w (ownK 102 2 none (([] : List (Int × Int)).length) 0 (List.flatMap enc102 ([] : List (Int × Int))) :: fs) := hS
    have hF := hF.cast (t := 3) (v := .slice none 0 0) (v' := .slice none (([] : List (Int × Int)).length) 0) rfl rfl (congrArg (fun k => Value.slice none k 0) hl1)
    refine wp_loop_model (S := (List (Int × Int) × Int)) (R := (List (Int × Int))) (gameroomref_SetOf_L1 most1) (fun x => (gameroomref_SetOf_K1 x).bind some) r (fun (x : (List (Int × Int) × Int)) a w => ∃ (A1 : Option Addr) (c1 : Nat), Fr 24 [pl 0 (.int .i64 most1), pl 3 (.slice A1 x.1.length c1), pl 4 (.int .i64 x.2)] a ∧ Sep w0 B w (ownK 102 2 A1 x.1.length c1 (List.flatMap enc102 x.1) :: fs)) (assoc_b hm) ⟨none, 0, hF.weak [0, 3, 4] (by kernel_rfl), hS⟩ ?_
    clear hF hS hm
    rintro nn1 ⟨l1, a1⟩ a w ⟨A1, c1, hF, hS⟩ hm
    generalize hφ1 : stK (gameroomref_SetOf_L1 most1) nn1 (fun x => (gameroomref_SetOf_K1 x).bind some) = φ1 at hm
    unfold gameroomref_SetOf_L1 at hm
    dsimp only at hF hS hm
    refine seq_cut (fun a w => Fr 24 [pl 0 (.int .i64 most1), pl 3 (.slice A1 l1.length c1), pl 4 (.int .i64 a1)] a ∧ Sep w0 B w (ownK 102 2 A1 l1.length c1 (List.flatMap enc102 l1) :: fs) ∧ ((gameroomref_SetOf_J2 most1 l1 a1)).bind φ1 = some r) ?_ ?_
    · rintro a w ⟨hF, hS, hm⟩
      unfold gameroomref_SetOf_J2 at hm
      refine seq_cut (fun a w => ∃ (l4 : List (Int × Int)) (A4 : Option Addr) (c4 : Nat), Fr 24 [pl 0 (.int .i64 most1), pl 3 (.slice A4 l4.length c4), pl 4 (.int .i64 a1)] a ∧ Sep w0 B w (ownK 102 2 A4 l4.length c4 (List.flatMap enc102 l4) :: fs) ∧ ((gameroomref_SetOf_J3 a1) l4).bind φ1 = some r) ?_ ?_
      · rintro a w ⟨l4, A4, c4, hF, hS, hm⟩
        unfold gameroomref_SetOf_J3 at hm
        refine reg1 [] [] [0, 3, 4] [pl 0 (.int .i64 most1), pl 3 (.slice A4 l4.length c4), pl 4 (.int .i64 (w64 (a1 + 1)))] hF hS Fol (by kernel_rfl) (by kernel_rfl) (by kernel_rfl) ?_ (fun a w hF hS => ?_)
        · exact obs_nil
        refine then_n ?_
        rw [← hφ1] at hm
        exact ⟨(l4, (w64 (a1 + 1))), ⟨A4, c4, hF.weak [0, 3, 4] (by kernel_rfl), hS⟩, hm⟩
      · refine wp_block ?_
        refine reg [] [] [0, 3, 4, 5] [pl 0 (.int .i64 most1), pl 3 (.slice A1 l1.length c1), pl 4 (.int .i64 a1), pl 5 (.int .i64 a1)] hF hS Fol (by kernel_rfl) (by kernel_rfl) (by kernel_rfl) ?_ (fun a w hF hS => ?_)
        · exact obs_nil
        refine wp_block ?_
        refine wp_loop_model (S := (List (Int × Int) × Int)) (R := (List (Int × Int))) (gameroomref_SetOf_L2 most1 a1) (fun x => ((gameroomref_SetOf_K2 a1) x).bind φ1) r (fun (x : (List (Int × Int) × Int)) a w => ∃ (A3 : Option Addr) (c3 : Nat), Fr 24 [pl 0 (.int .i64 most1), pl 3 (.slice A3 x.1.length c3), pl 4 (.int .i64 a1), pl 5 (.int .i64 x.2)] a ∧ Sep w0 B w (ownK 102 2 A3 x.1.length c3 (List.flatMap enc102 x.1) :: fs)) (assoc_b hm) ⟨A1, c1, hF.weak [0, 3, 4, 5] (by kernel_rfl), hS⟩ ?_
        clear hF hS hm
        rintro nn2 ⟨l3, b1⟩ a w ⟨A3, c3, hF, hS⟩ hm
        generalize hφ2 : stK (gameroomref_SetOf_L2 most1 a1) nn2 (fun x => ((gameroomref_SetOf_K2 a1) x).bind φ1) = φ2 at hm
        unfold gameroomref_SetOf_L2 at hm
        dsimp only at hF hS hm
        refine seq_cut (fun a w => Fr 24 [pl 0 (.int .i64 most1), pl 3 (.slice A3 l3.length c3), pl 4 (.int .i64 a1), pl 5 (.int .i64 b1)] a ∧ Sep w0 B w (ownK 102 2 A3 l3.length c3 (List.flatMap enc102 l3) :: fs) ∧ ((gameroomref_SetOf_J4 a1 l3 b1)).bind φ2 = some r) ?_ ?_
        · rintro a w ⟨hF, hS, hm⟩
          unfold gameroomref_SetOf_J4 at hm
          refine seq_cut (fun a w => ∃ (l5 : List (Int × Int)) (A6 : Option Addr) (c6 : Nat), Fr 24 [pl 0 (.int .i64 most1), pl 3 (.slice A6 l5.length c6), pl 4 (.int .i64 a1), pl 5 (.int .i64 b1)] a ∧ Sep w0 B w (ownK 102 2 A6 l5.length c6 (List.flatMap enc102 l5) :: fs) ∧ ((gameroomref_SetOf_J5 b1) l5).bind φ2 = some r) ?_ ?_
          · rintro a w ⟨l5, A6, c6, hF, hS, hm⟩
            unfold gameroomref_SetOf_J5 at hm
            refine reg1 [] [] [0, 3, 4, 5] [pl 0 (.int .i64 most1), pl 3 (.slice A6 l5.length c6), pl 4 (.int .i64 a1), pl 5 (.int .i64 (w64 (b1 + 1)))] hF hS Fol (by kernel_rfl) (by kernel_rfl) (by kernel_rfl) ?_ (fun a w hF hS => ?_)
            · exact obs_nil
            refine then_n ?_
            rw [← hφ2] at hm
            exact ⟨(l5, (w64 (b1 + 1))), ⟨A6, c6, hF.weak [0, 3, 4, 5] (by kernel_rfl), hS⟩, hm⟩
          · refine wp_block ?_
            refine oneR ?_
            obtain ⟨hp1, hm⟩ := asrt_b hm
            refine at_run 4 [] [] [0, 4, 5, 17, 20] [pl 0 (.int .i64 most1), pl 4 (.int .i64 a1), pl 5 (.int .i64 b1), pl 17 (.slice A3 l3.length c3), pl 20 (.agg #[.int .i64 a1, .int .i64 b1])] hF hS (by kernel_rfl) (by kernel_rfl) ?_ (fun a w hF hS => ?_)
            · exact obs_nil
            refine at_do (d := 21) (s := vS (Instr.buildSlice 61 1 #[(0, .agg #[.int .i64 a1, .int .i64 b1])])) (v := .slice (some ⟨w.heap.size, 0, none⟩) 1 1) (w' := w.alloc (.cells #[.int .i64 a1, .int .i64 b1] 102)) hF (by kernel_rfl) (by kernel_rfl) (by kernel_rfl) (fun a hF => ?_)
            have hS : Sep w0 B (w.alloc (.cells #[.int .i64 a1, .int .i64 b1] 102)) (ownK 102 2 (some (⟨w.heap.size, 0, none⟩ : Addr)) 1 1 (List.flatMap enc102 ([(a1, b1)] : List (Int × Int))) :: (ownK 102 2 A3 l3.length c3 (List.flatMap enc102 l3) :: fs)) := hS.litK 102 2 #[.int .i64 a1, .int .i64 b1] 1 rfl (by omega)
            generalize (some (⟨w.heap.size, 0, none⟩ : Addr)) = g1 at hF hS
            generalize w.alloc (.cells #[.int .i64 a1, .int .i64 b1] 102) = w at hS ⊢
            obtain ⟨A5, c5, w, hrun, hS⟩ := run_appK2 (P := Try.prog) (t := 61) (m := l3) (ys := ([(a1, b1)] : List (Int × Int))) (A2 := g1) (m2 := 1) (c2 := 1) encK102 (hS.at_ 1 rfl) (hS.at_ 0 rfl).rdK ((hS.at_ 0 rfl).lenK encK102) 61 Und61 hi102 hz102 hs102 rfl (by omega) hp1
            have hS : Sep w0 B w (ownK 102 2 g1 1 1 (List.flatMap enc102 ([(a1, b1)] : List (Int × Int))) :: ownK 102 2 A5 ((l3 ++ ([(a1, b1)] : List (Int × Int))).length) c5 (List.flatMap enc102 (l3 ++ ([(a1, b1)] : List (Int × Int)))) :: fs) := hS
            refine at_do (d := 22) hF (by kernel_rfl) (by kernel_rfl) hrun (fun a hF => ?_)
            refine at_run 1 [] [] [0, 3, 4, 5] [pl 0 (.int .i64 most1), pl 3 (.slice A5 ((l3 ++ ([(a1, b1)] : List (Int × Int))).length) c5), pl 4 (.int .i64 a1), pl 5 (.int .i64 b1)] hF hS (by kernel_rfl) (by kernel_rfl) ?_ (fun a w hF hS => ?_)
            · exact obs_nil
            refine at_end [0, 3, 4, 5] [pl 0 (.int .i64 most1), pl 3 (.slice A5 ((l3 ++ ([(a1, b1)] : List (Int × Int))).length) c5), pl 4 (.int .i64 a1), pl 5 (.int .i64 b1)] hF rfl (by kernel_rfl) (fun hF => ?_)
            refine block_n ?_
            refine then_n ?_
            have hS := hS.pickN 2 [1] (by decide)
            exact ⟨(l3 ++ ([(a1, b1)] : List (Int × Int))), A5, c5, hF.weak [0, 3, 4, 5] (by kernel_rfl), hS, hm⟩
        · refine reg [] [] [0, 3, 4, 5, 14] [pl 0 (.int .i64 most1), pl 3 (.slice A3 l3.length c3), pl 4 (.int .i64 a1), pl 5 (.int .i64 b1), pl 14 (.bool (decide (b1 ≤ most1)))] hF hS Fol (by kernel_rfl) (by kernel_rfl) (by kernel_rfl) ?_ (fun a w hF hS => ?_)
          · exact obs_nil
          refine cond_ev (t := 14) (b := decide (b1 ≤ most1)) hF (by kernel_rfl) (fun hb => ?_) (fun hb => ?_)
          · replace hm := if_t hm hb
            refine wp_skip ?_
            refine then_n ?_
            exact ⟨hF.weak [0, 3, 4, 5] (by kernel_rfl), hS, hm⟩
          · replace hm := if_f hm hb
            refine wp_exit ?_
            refine then_e (then_e (block_e (block_n (then_n ?_))))
            rw [← hφ2] at hm
            replace hm := done_b hm
            unfold gameroomref_SetOf_K2 at hm
            try dsimp only at hm
            have hm : ((gameroomref_SetOf_J3 a1) l3).bind φ1 = some r := hm
            exact ⟨l3, A3, c3, hF.weak [0, 3, 4] (by kernel_rfl), hS, hm⟩
    · refine reg [] [] [0, 3, 4, 8] [pl 0 (.int .i64 most1), pl 3 (.slice A1 l1.length c1), pl 4 (.int .i64 a1), pl 8 (.bool (decide (a1 ≤ most1)))] hF hS Fol (by kernel_rfl) (by kernel_rfl) (by kernel_rfl) ?_ (fun a w hF hS => ?_)
      · exact obs_nil
      refine cond_ev (t := 8) (b := decide (a1 ≤ most1)) hF (by kernel_rfl) (fun hb => ?_) (fun hb => ?_)
      · replace hm := if_t hm hb
        refine wp_skip ?_
        refine then_n ?_
        exact ⟨hF.weak [0, 3, 4] (by kernel_rfl), hS, hm⟩
      · replace hm := if_f hm hb
        refine wp_exit ?_
        refine then_e (then_e (block_e (then_n ?_)))
        rw [← hφ1] at hm
        replace hm := done_b hm
        unfold gameroomref_SetOf_K1 at hm
        try dsimp only at hm
        have hm : (gameroomref_SetOf_J1 l1).bind some = some r := hm
        exact ⟨l1, A1, c1, hF.weak [3] (by kernel_rfl), hS, hm⟩

noncomputable def gameroomref_within_m (n1 : Int) (low1 : Int) (high1 : Int) : Option Bool :=
  some ((decide (low1 ≤ n1)) && (decide (n1 ≤ high1)))

set_option maxRecDepth 100000 in
set_option maxHeartbeats 4000000 in
theorem gameroomref_within_w {n1 : Int} {low1 : Int} {high1 : Int} {r : Bool} {w0 w : World} {B : Nat} {fs : List HP} (hm : gameroomref_within_m n1 low1 high1 = some r) (hS : Sep w0 B w (fs)) :
    Calls Try.prog 60 #[.int .i64 n1, .int .i64 low1, .int .i64 high1] w fun e w' => e = .returned (.bool r) ∧ Sep w0 B w' (fs) := by
  unfold gameroomref_within_m at hm
  replace hm := start_b hm
  refine enter (l := [.int .i64 n1, .int .i64 low1, .int .i64 high1]) (n := 15) Try.func60 rfl rfl (by simp) (fun a hF => ?_)
  refine reg [] [] [0, 1, 2] [pl 0 (.int .i64 n1), pl 1 (.int .i64 low1), pl 2 (.int .i64 high1)] hF hS Fol (by kernel_rfl) (by kernel_rfl) (by kernel_rfl) ?_ (fun a w hF hS => ?_)
  · exact obs_nil
  refine reg [] [] [6] [pl 6 (.bool ((decide (low1 ≤ n1)) && (decide (n1 ≤ high1))))] hF hS Fol (by kernel_rfl) (by kernel_rfl) (by kernel_rfl) ?_ (fun a w hF hS => ?_)
  · exact obs_nil
  refine wp_ret ?_
  have hm : some ((decide (low1 ≤ n1)) && (decide (n1 ≤ high1))) = some r := hm
  obtain rfl := Option.some.inj hm
  exact retV (rs := [.tmp 6]) (vs := [.bool ((decide (low1 ≤ n1)) && (decide (n1 ≤ high1)))]) hF rfl (rv_t (by kernel_rfl) <| rv_nil) rfl ⟨rfl, hS⟩

noncomputable def gameroomref_PieceMay_m (p1 : Int) (p2 : Int) : Option Bool :=
  (gameroomref_within_m p1 0 9).bind fun r1 => ((if r1 then gameroomref_within_m p2 0 9 else some false)).bind fun r2 => some (r1 && r2)

set_option maxRecDepth 100000 in
set_option maxHeartbeats 4000000 in
theorem gameroomref_PieceMay_w {p1 : Int} {p2 : Int} {r : Bool} {w0 w : World} {B : Nat} {fs : List HP} (hm : gameroomref_PieceMay_m p1 p2 = some r) (hS : Sep w0 B w (fs)) :
    Calls Try.prog 78 #[.agg #[.int .i64 p1, .int .i64 p2]] w fun e w' => e = .returned (.bool r) ∧ Sep w0 B w' (fs) := by
  unfold gameroomref_PieceMay_m at hm
  replace hm := start_b hm
  refine enter (l := [.agg #[.int .i64 p1, .int .i64 p2]]) (n := 11) Try.func78 rfl rfl (by simp) (fun a hF => ?_)
  refine seqR ?_
  refine at_do (d := 1) (s := vS (Instr.box 102 (.agg #[.int .i64 p1, .int .i64 p2]))) (v := .pointer (some ⟨w.heap.size, 0, none⟩)) (w' := w.alloc (.cells #[.int .i64 p1, .int .i64 p2] 102)) hF (by kernel_rfl) (by kernel_rfl) (by kernel_rfl) (fun a hF => ?_)
  have hS : Sep w0 B (w.alloc (.cells #[.int .i64 p1, .int .i64 p2] 102)) (blk w.heap.size 102 #[.int .i64 p1, .int .i64 p2] :: (fs)) := hS.box 102 #[.int .i64 p1, .int .i64 p2]
  generalize w.heap.size = g1 at hF hS
  generalize w.alloc (.cells #[.int .i64 p1, .int .i64 p2] 102) = w at hS ⊢
  refine at_run 1 [] [] [1] [pl 1 (.pointer (some ⟨g1, 0, none⟩))] hF hS (by kernel_rfl) (by kernel_rfl) ?_ (fun a w hF hS => ?_)
  · exact obs_nil
  refine at_end [1] [pl 1 (.pointer (some ⟨g1, 0, none⟩))] hF rfl (by kernel_rfl) (fun hF => ?_)
  refine then_n ?_
  obtain ⟨r1, hr1, hm⟩ := call_b hm
  obtain ⟨r2, hr2, hm⟩ := call_b hm
  refine reg [⟨false, [], vS (Instr.loadAt 3 (.pointer (some ⟨g1, 0, none⟩))), .int .i64 p1⟩, ⟨false, [], callFunc 60 #[.int .i64 p1, .int .i64 0, .int .i64 9], .bool r1⟩, ⟨false, [(r1, true)], vS (Instr.loadAt 3 (.pointer (some ⟨g1, 1, none⟩))), .int .i64 p2⟩, ⟨false, [(r1, true)], callFunc 60 #[.int .i64 p2, .int .i64 0, .int .i64 9], .bool r2⟩] [none, some (.int .i64 p1), some (.bool r1), none, none, some (.int .i64 p2), some (.bool r2), none, none] [2] [pl 2 (.bool (r1 && r2))] hF hS Fol (by kernel_rfl) (by kernel_rfl) (by kernel_rfl) ?_ (fun a w hF hS => ?_)
  · exact obs_cons (ob_load Agg3 (fun _ _ hS => (hS.at_ 0 rfl).cell rfl)) <| obs_cons (ob_call Try.func60 (by kernel_rfl) rfl (fun _ _ hS => gameroomref_within_w hr1 hS )) <| obs_cons (ob_load Agg3 (fun _ _ hS => (hS.at_ 0 rfl).cell rfl)) <| obs_cons (ob_call Try.func60 (by kernel_rfl) rfl (fun hy _ hS => gameroomref_within_w (ite_some hr2 (by rw [show r1 = true from hy (r1, true) (by simp)]; try rfl)) hS )) <| obs_nil
  refine wp_ret ?_
  have hS := hS.pickN 1 [] (by decide)
  have hm : some (r1 && r2) = some r := hm
  obtain rfl := Option.some.inj hm
  exact retV (rs := [.tmp 2]) (vs := [.bool (r1 && r2)]) hF rfl (rv_t (by kernel_rfl) <| rv_nil) rfl ⟨rfl, hS⟩

noncomputable def gameroomref_PiecesMay_J3 (i1 : Int) : Option (St Int (Fl Unit Bool)) :=
  some (.next (w64 (i1 + 1)))

noncomputable def gameroomref_PiecesMay_J2 (l1 : List (Int × Int)) (i1 : Int) : Option (St Int (Fl Unit Bool)) :=
  asrt (0 ≤ i1 ∧ i1 < (l1.length : Int)) <| (gameroomref_PieceMay_m ((getd ((0, 0) : (Int × Int)) l1 i1).1) ((getd ((0, 0) : (Int × Int)) l1 i1).2)).bind fun r1 => if (!r1) then (some (.done (.ret false))) else ((gameroomref_PiecesMay_J3 i1))

noncomputable def gameroomref_PiecesMay_J1 : Option Bool :=
  some true

noncomputable def gameroomref_PiecesMay_K1 : (Fl Unit Bool) → Option Bool :=
  fun (x : (Fl Unit Bool)) => match x with | .go _ => gameroomref_PiecesMay_J1 | .ret x => some x

noncomputable def gameroomref_PiecesMay_L1 (l1 : List (Int × Int)) : Int → Option (St Int (Fl Unit Bool)) :=
  fun (x : Int) => match x with | i1 => if (decide (i1 < (l1.length : Int))) then ((gameroomref_PiecesMay_J2 l1 i1)) else (some (.done (.go ())))

noncomputable def gameroomref_PiecesMay_m (l1 : List (Int × Int)) : Option Bool :=
  (loop (gameroomref_PiecesMay_L1 l1) 0).bind gameroomref_PiecesMay_K1

set_option maxRecDepth 100000 in
set_option maxHeartbeats 4000000 in
theorem gameroomref_PiecesMay_w {A1 : Option Addr} {c1 : Nat} {n1 : Nat} {l1 : List (Int × Int)} {r : Bool} {w0 w : World} {B : Nat} {fs : List HP} (hm : gameroomref_PiecesMay_m l1 = some r) (hS : Sep w0 B w (fs)) (hr_l1 : RdF w0 B fs A1 ((List.flatMap enc102 l1))) (_hc_l1 : l1.length ≤ c1) (_hn_l1 : n1 = l1.length) :
    Calls Try.prog 40 #[.slice A1 n1 c1] w fun e w' => e = .returned (.bool r) ∧ Sep w0 B w' (fs) := by
  obtain ⟨i102, hi102, hz102, hs102, hb102⟩ := info_parts Info102
  obtain rfl := _hn_l1
  unfold gameroomref_PiecesMay_m at hm
  replace hm := start_b hm
  refine enter (l := [.slice A1 l1.length c1]) (n := 16) Try.func40 rfl rfl (by simp) (fun a hF => ?_)
  refine reg [] [] [0] [pl 0 (.slice A1 l1.length c1)] hF hS Fol (by kernel_rfl) (by kernel_rfl) (by kernel_rfl) ?_ (fun a w hF hS => ?_)
  · exact obs_nil
  refine seq_cut (fun a w => Fr 16 [] a ∧ Sep w0 B w (fs) ∧ (gameroomref_PiecesMay_J1).bind some = some r) ?_ ?_
  · rintro a w ⟨hF, hS, hm⟩
    unfold gameroomref_PiecesMay_J1 at hm
    refine reg [] [] [2] [pl 2 (.bool true)] hF hS Fol (by kernel_rfl) (by kernel_rfl) (by kernel_rfl) ?_ (fun a w hF hS => ?_)
    · exact obs_nil
    refine wp_ret ?_
    have hm : some true = some r := hm
    obtain rfl := Option.some.inj hm
    exact retV (rs := [.tmp 2]) (vs := [.bool true]) hF rfl (rv_t (by kernel_rfl) <| rv_nil) rfl ⟨rfl, hS⟩
  · refine reg [] [] [0, 3] [pl 0 (.slice A1 l1.length c1), pl 3 (.int .i64 0)] hF hS Fol (by kernel_rfl) (by kernel_rfl) (by kernel_rfl) ?_ (fun a w hF hS => ?_)
    · exact obs_nil
    refine wp_block ?_
    refine wp_loop_model (S := Int) (R := (Fl Unit Bool)) (gameroomref_PiecesMay_L1 l1) (fun x => (gameroomref_PiecesMay_K1 x).bind some) r (fun (x : Int) a w => Fr 16 [pl 0 (.slice A1 l1.length c1), pl 3 (.int .i64 x)] a ∧ Sep w0 B w (fs)) (assoc_b hm) ⟨hF.weak [0, 3] (by kernel_rfl), hS⟩ ?_
    clear hF hS hm
    rintro nn1 i1 a w ⟨hF, hS⟩ hm
    generalize hφ1 : stK (gameroomref_PiecesMay_L1 l1) nn1 (fun x => (gameroomref_PiecesMay_K1 x).bind some) = φ1 at hm
    unfold gameroomref_PiecesMay_L1 at hm
    dsimp only at hm
    refine seq_cut (fun a w => Fr 16 [pl 0 (.slice A1 l1.length c1), pl 3 (.int .i64 i1)] a ∧ Sep w0 B w (fs) ∧ ((gameroomref_PiecesMay_J2 l1 i1)).bind φ1 = some r) ?_ ?_
    · rintro a w ⟨hF, hS, hm⟩
      unfold gameroomref_PiecesMay_J2 at hm
      refine seq_cut (fun a w => Fr 16 [pl 0 (.slice A1 l1.length c1), pl 3 (.int .i64 i1)] a ∧ Sep w0 B w (fs) ∧ ((gameroomref_PiecesMay_J3 i1)).bind φ1 = some r) ?_ ?_
      · rintro a w ⟨hF, hS, hm⟩
        unfold gameroomref_PiecesMay_J3 at hm
        refine reg1 [] [] [0, 3] [pl 0 (.slice A1 l1.length c1), pl 3 (.int .i64 (w64 (i1 + 1)))] hF hS Fol (by kernel_rfl) (by kernel_rfl) (by kernel_rfl) ?_ (fun a w hF hS => ?_)
        · exact obs_nil
        refine then_n ?_
        rw [← hφ1] at hm
        exact ⟨(w64 (i1 + 1)), ⟨hF.weak [0, 3] (by kernel_rfl), hS⟩, hm⟩
      · refine wp_block ?_
        obtain ⟨hp1, hm⟩ := asrt_b hm
        obtain ⟨r1, hr1, hm⟩ := call_b hm
        refine reg [⟨true, [], vS (Instr.indexAt 61 (.slice A1 l1.length c1) (.int .i64 i1)), .pointer (some (sAddrK A1 2 i1))⟩, ⟨false, [], vS (Instr.loadAt 102 (.pointer (some (sAddrK A1 2 i1)))), .agg #[.int .i64 ((getd ((0, 0) : (Int × Int)) l1 i1).1), .int .i64 ((getd ((0, 0) : (Int × Int)) l1 i1).2)]⟩, ⟨false, [], callFunc 78 #[.agg #[.int .i64 ((getd ((0, 0) : (Int × Int)) l1 i1).1), .int .i64 ((getd ((0, 0) : (Int × Int)) l1 i1).2)]], .bool r1⟩] [none, none, some (.pointer (some (sAddrK A1 2 i1))), some (.agg #[.int .i64 ((getd ((0, 0) : (Int × Int)) l1 i1).1), .int .i64 ((getd ((0, 0) : (Int × Int)) l1 i1).2)]), some (.bool r1), none] [0, 3, 15] [pl 0 (.slice A1 l1.length c1), pl 3 (.int .i64 i1), pl 15 (.bool (!r1))] hF hS Fol (by kernel_rfl) (by kernel_rfl) (by kernel_rfl) ?_ (fun a w hF hS => ?_)
        · exact obs_cons (ob_ixK (m := l1) encK102 Und61 hi102 hs102 (hr_l1 _ (hS.dropN 0)) rfl (fun _ => hp1)) <| obs_cons (ob_getK (n := l1.length) (m := l1) encK102 ((0, 0) : (Int × Int)) (by kernel_rfl) (by kernel_rfl) (fun _ hS => ⟨_, (hr_l1 _ (hS.dropN 0))⟩) (fun _ hS => rfl) (fun _ => hp1)) <| obs_cons (ob_call Try.func78 (by kernel_rfl) rfl (fun _ _ hS => gameroomref_PieceMay_w hr1 hS )) <| obs_nil
        refine cond_ev (t := 15) (b := !r1) hF (by kernel_rfl) (fun hb => ?_) (fun hb => ?_)
        · replace hm := if_t hm hb
          refine reg [] [] [2] [pl 2 (.bool false)] hF hS Fol (by kernel_rfl) (by kernel_rfl) (by kernel_rfl) ?_ (fun a w hF hS => ?_)
          · exact obs_nil
          refine wp_ret ?_
          refine block_r (then_r (then_r (block_r (then_r ?_))))
          rw [← hφ1] at hm
          replace hm := done_b hm
          unfold gameroomref_PiecesMay_K1 at hm
          try dsimp only at hm
          have hm : some false = some r := hm
          obtain rfl := Option.some.inj hm
          exact retV (rs := [.tmp 2]) (vs := [.bool false]) hF rfl (rv_t (by kernel_rfl) <| rv_nil) rfl ⟨rfl, hS⟩
        · replace hm := if_f hm hb
          refine wp_skip ?_
          refine block_n ?_
          refine then_n ?_
          exact ⟨hF.weak [0, 3] (by kernel_rfl), hS, hm⟩
    · refine reg [] [] [0, 3, 7] [pl 0 (.slice A1 l1.length c1), pl 3 (.int .i64 i1), pl 7 (.bool (decide (i1 < (l1.length : Int))))] hF hS Fol (by kernel_rfl) (by kernel_rfl) (by kernel_rfl) ?_ (fun a w hF hS => ?_)
      · exact obs_nil
      refine cond_ev (t := 7) (b := decide (i1 < (l1.length : Int))) hF (by kernel_rfl) (fun hb => ?_) (fun hb => ?_)
      · replace hm := if_t hm hb
        refine wp_skip ?_
        refine then_n ?_
        exact ⟨hF.weak [0, 3] (by kernel_rfl), hS, hm⟩
      · replace hm := if_f hm hb
        refine wp_exit ?_
        refine then_e (then_e (block_e (then_n ?_)))
        rw [← hφ1] at hm
        replace hm := done_b hm
        unfold gameroomref_PiecesMay_K1 at hm
        try dsimp only at hm
        have hm : (gameroomref_PiecesMay_J1).bind some = some r := hm
        exact ⟨hF.weak [] (by kernel_rfl), hS, hm⟩

noncomputable def gameroomref_RowsOf_J10 (tried2 : List (Int × Int)) (p1 : Int) (p2 : Int) (known1 : Bool) (k1 : Int) : Option (St (Bool × Int) Bool) :=
  some (.next ((known1 || ((((getd ((0, 0) : (Int × Int)) tried2 k1).1) == p1) && (((getd ((0, 0) : (Int × Int)) tried2 k1).2) == p2))), (w64 (k1 + 1))))

noncomputable def gameroomref_RowsOf_J9 (tried2 : List (Int × Int)) (p1 : Int) (p2 : Int) (known1 : Bool) (k1 : Int) : Option (St (Bool × Int) Bool) :=
  asrt (known1 = false → 0 ≤ k1 ∧ k1 < (tried2.length : Int)) <| (gameroomref_RowsOf_J10 tried2 p1 p2 known1 k1)

noncomputable def gameroomref_RowsOf_J6 (way1 : Int) (n6 : Int) (tried4 : List (Int × Int)) : Option (St (Int × List (Int × Int) × Int) (Int × List (Int × Int))) :=
  some (.next (n6, tried4, (w64 (way1 + 1))))

noncomputable def gameroomref_RowsOf_J11 (rec_gameroomref_RowsOf : List (Int × Int) → Int → Option Int) (left1 : List (Int × Int)) (i1 : Int) (n4 : Int) (tried2 : List (Int × Int)) (way1 : Int) (p1 : Int) (p2 : Int) : Option (St (Int × List (Int × Int) × Int) (Int × List (Int × Int))) :=
  asrt ((tried2.length : Int) + 1 ≤ bigP) <| (rec_gameroomref_RowsOf ((([] : List (Int × Int)) ++ (cut left1 (0 : Int) i1)) ++ (cut left1 (w64 (i1 + 1)) (left1.length : Int))) p2).bind fun r1 => (gameroomref_RowsOf_J6 way1) (w64 (n4 + r1)) (tried2 ++ ([(p1, p2)] : List (Int × Int)))

noncomputable def gameroomref_RowsOf_J8 (rec_gameroomref_RowsOf : List (Int × Int) → Int → Option Int) (left1 : List (Int × Int)) (end1 : Int) (i1 : Int) (n4 : Int) (tried2 : List (Int × Int)) (way1 : Int) (p1 : Int) (p2 : Int) (known2 : Bool) : Option (St (Int × List (Int × Int) × Int) (Int × List (Int × Int))) :=
  if (known2 || ((decide ((0 : Int) ≤ end1)) && (p1 != end1))) then ((gameroomref_RowsOf_J6 way1) n4 tried2) else ((gameroomref_RowsOf_J11 rec_gameroomref_RowsOf left1 i1 n4 tried2 way1 p1 p2))

noncomputable def gameroomref_RowsOf_K3 (rec_gameroomref_RowsOf : List (Int × Int) → Int → Option Int) (left1 : List (Int × Int)) (end1 : Int) (i1 : Int) (n4 : Int) (tried2 : List (Int × Int)) (way1 : Int) (p1 : Int) (p2 : Int) : Bool → Option (St (Int × List (Int × Int) × Int) (Int × List (Int × Int))) :=
  fun (x : Bool) => match x with | known2 => (gameroomref_RowsOf_J8 rec_gameroomref_RowsOf left1 end1 i1 n4 tried2 way1 p1 p2) known2

noncomputable def gameroomref_RowsOf_L3 (tried2 : List (Int × Int)) (p1 : Int) (p2 : Int) : (Bool × Int) → Option (St (Bool × Int) Bool) :=
  fun (x : (Bool × Int)) => match x with | (known1, k1) => if (decide (k1 < (tried2.length : Int))) then ((gameroomref_RowsOf_J9 tried2 p1 p2 known1 k1)) else (some (.done known1))

noncomputable def gameroomref_RowsOf_J7 (rec_gameroomref_RowsOf : List (Int × Int) → Int → Option Int) (left1 : List (Int × Int)) (end1 : Int) (i1 : Int) (n4 : Int) (tried2 : List (Int × Int)) (way1 : Int) (p1 : Int) (p2 : Int) : Option (St (Int × List (Int × Int) × Int) (Int × List (Int × Int))) :=
  (loop (gameroomref_RowsOf_L3 tried2 p1 p2) (false, 0)).bind (gameroomref_RowsOf_K3 rec_gameroomref_RowsOf left1 end1 i1 n4 tried2 way1 p1 p2)

noncomputable def gameroomref_RowsOf_J5 (rec_gameroomref_RowsOf : List (Int × Int) → Int → Option Int) (left1 : List (Int × Int)) (end1 : Int) (i1 : Int) (n4 : Int) (tried2 : List (Int × Int)) (way1 : Int) : Option (St (Int × List (Int × Int) × Int) (Int × List (Int × Int))) :=
  asrt (0 ≤ i1 ∧ i1 < (left1.length : Int)) <| if (way1 == 1) then ((gameroomref_RowsOf_J7 rec_gameroomref_RowsOf left1 end1 i1 n4 tried2 way1) ((getd ((0, 0) : (Int × Int)) left1 i1).2) ((getd ((0, 0) : (Int × Int)) left1 i1).1)) else ((gameroomref_RowsOf_J7 rec_gameroomref_RowsOf left1 end1 i1 n4 tried2 way1) ((getd ((0, 0) : (Int × Int)) left1 i1).1) ((getd ((0, 0) : (Int × Int)) left1 i1).2))

noncomputable def gameroomref_RowsOf_J4 (i1 : Int) (n5 : Int) (tried3 : List (Int × Int)) : Option (St (Int × List (Int × Int) × Int) Int) :=
  some (.next (n5, tried3, (w64 (i1 + 1))))

noncomputable def gameroomref_RowsOf_K2 (i1 : Int) : (Int × List (Int × Int)) → Option (St (Int × List (Int × Int) × Int) Int) :=
  fun (x : (Int × List (Int × Int))) => match x with | (n5, tried3) => (gameroomref_RowsOf_J4 i1) n5 tried3

noncomputable def gameroomref_RowsOf_L2 (rec_gameroomref_RowsOf : List (Int × Int) → Int → Option Int) (left1 : List (Int × Int)) (end1 : Int) (i1 : Int) : (Int × List (Int × Int) × Int) → Option (St (Int × List (Int × Int) × Int) (Int × List (Int × Int))) :=
  fun (x : (Int × List (Int × Int) × Int)) => match x with | (n4, tried2, way1) => if (decide (way1 < 2)) then ((gameroomref_RowsOf_J5 rec_gameroomref_RowsOf left1 end1 i1 n4 tried2 way1)) else (some (.done (n4, tried2)))

noncomputable def gameroomref_RowsOf_J3 (rec_gameroomref_RowsOf : List (Int × Int) → Int → Option Int) (left1 : List (Int × Int)) (end1 : Int) (n2 : Int) (tried1 : List (Int × Int)) (i1 : Int) : Option (St (Int × List (Int × Int) × Int) Int) :=
  asrt (0 ≤ (0 : Int) ∧ (0 : Int) ≤ i1 ∧ i1 ≤ (left1.length : Int)) <| asrt ((0 : Int) + (((cut left1 (0 : Int) i1).length : Nat) : Int) ≤ bigP) <| asrt (0 ≤ (w64 (i1 + 1)) ∧ (w64 (i1 + 1)) ≤ (left1.length : Int) ∧ (left1.length : Int) ≤ (left1.length : Int)) <| asrt ((((([] : List (Int × Int)) ++ (cut left1 (0 : Int) i1)).length : Nat) : Int) + (((cut left1 (w64 (i1 + 1)) (left1.length : Int)).length : Nat) : Int) ≤ bigP) <| (loop (gameroomref_RowsOf_L2 rec_gameroomref_RowsOf left1 end1 i1) (n2, tried1, 0)).bind (gameroomref_RowsOf_K2 i1)

noncomputable def gameroomref_RowsOf_J2 (n3 : Int) : Option Int :=
  some n3

noncomputable def gameroomref_RowsOf_K1 : Int → Option Int :=
  fun (x : Int) => match x with | n3 => gameroomref_RowsOf_J2 n3

noncomputable def gameroomref_RowsOf_L1 (rec_gameroomref_RowsOf : List (Int × Int) → Int → Option Int) (left1 : List (Int × Int)) (end1 : Int) : (Int × List (Int × Int) × Int) → Option (St (Int × List (Int × Int) × Int) Int) :=
  fun (x : (Int × List (Int × Int) × Int)) => match x with | (n2, tried1, i1) => if (decide (i1 < (left1.length : Int))) then ((gameroomref_RowsOf_J3 rec_gameroomref_RowsOf left1 end1 n2 tried1 i1)) else (some (.done n2))

noncomputable def gameroomref_RowsOf_J1 (rec_gameroomref_RowsOf : List (Int × Int) → Int → Option Int) (left1 : List (Int × Int)) (end1 : Int) : Option Int :=
  (loop (gameroomref_RowsOf_L1 rec_gameroomref_RowsOf left1 end1) (0, ([] : List (Int × Int)), 0)).bind gameroomref_RowsOf_K1

noncomputable def gameroomref_RowsOf_B (rec_gameroomref_RowsOf : List (Int × Int) → Int → Option Int) (left1 : List (Int × Int)) (end1 : Int) : Option Int :=
  if ((left1.length : Int) == 0) then (some 1) else ((gameroomref_RowsOf_J1 rec_gameroomref_RowsOf left1 end1))

noncomputable def gameroomref_RowsOf_mF : Nat → List (Int × Int) → Int → Option Int
  | 0 => fun _ _ => none
  | n + 1 => fun left1 end1 => gameroomref_RowsOf_B (gameroomref_RowsOf_mF n) left1 end1
end Go.Proofs.Ytnplejebgbdfpaa
