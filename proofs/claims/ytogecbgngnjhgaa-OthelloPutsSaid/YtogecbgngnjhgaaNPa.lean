/-
  Models and walks, printed by our own program (wip/gen).
-/
import Derived.Test.YtogecbgngnjhgaaFB
namespace Go.Proofs.Ytogecbgngnjhgaa
open Go Go.GL Go.RowKit




noncomputable def othello_odd_m (n1 : Int) : Option Bool :=
  some (((decide (n1 < 4)) || (decide ((8 : Int) < n1))) || ((bAnd n1 1) == 1))

set_option maxRecDepth 100000 in
set_option maxHeartbeats 4000000 in
theorem othello_odd_w {n1 : Int} {r : Bool} {w0 w : World} {B : Nat} {fs : List HP} (hm : othello_odd_m n1 = some r) (hS : Sep w0 B w (fs)) :
    Calls Try.prog 55 #[.int .i64 n1] w fun e w' => e = .returned (.bool r) ∧ Sep w0 B w' (fs) := by
  unfold othello_odd_m at hm
  replace hm := start_b hm
  refine enter (l := [.int .i64 n1]) (n := 14) Try.func55 rfl rfl (by simp) (fun a hF => ?_)
  refine reg [] [] [0] [pl 0 (.int .i64 n1)] hF hS Fol (by kernel_rfl) (by kernel_rfl) (by kernel_rfl) ?_ (fun a w hF hS => ?_)
  · exact obs_nil
  refine reg [] [] [2] [pl 2 (.bool (((decide (n1 < 4)) || (decide ((8 : Int) < n1))) || ((bAnd n1 1) == 1)))] hF hS Fol (by kernel_rfl) (by kernel_rfl) (by kernel_rfl) ?_ (fun a w hF hS => ?_)
  · exact obs_nil
  refine wp_ret ?_
  have hm : some (((decide (n1 < 4)) || (decide ((8 : Int) < n1))) || ((bAnd n1 1) == 1)) = some r := hm
  obtain rfl := Option.some.inj hm
  exact retV (rs := [.tmp 2]) (vs := [.bool (((decide (n1 < 4)) || (decide ((8 : Int) < n1))) || ((bAnd n1 1) == 1))]) hF rfl (rv_t (by kernel_rfl) <| rv_nil) rfl ⟨rfl, hS⟩

noncomputable def othello_New_J3 (w1 : Int) (h1 : Int) : Option (Int × Int × List Int × Int) :=
  some (w1, h1, (((((List.replicate (Int.toNat (w64 (w1 * h1))) (0 : Int)).set (Int.toNat (w64 ((w64 ((w64 ((w64 ((w64 (Int.tdiv h1 2)) - 1)) * w1)) + (w64 (Int.tdiv w1 2)))) - 1))) 2).set (Int.toNat (w64 ((w64 ((w64 ((w64 ((w64 ((w64 (Int.tdiv h1 2)) - 1)) * w1)) + (w64 (Int.tdiv w1 2)))) - 1)) + 1))) 1).set (Int.toNat (w64 ((w64 ((w64 ((w64 ((w64 ((w64 (Int.tdiv h1 2)) - 1)) * w1)) + (w64 (Int.tdiv w1 2)))) - 1)) + w1))) 1).set (Int.toNat (w64 ((w64 ((w64 ((w64 ((w64 ((w64 ((w64 (Int.tdiv h1 2)) - 1)) * w1)) + (w64 (Int.tdiv w1 2)))) - 1)) + w1)) + 1))) 2), 0)

noncomputable def othello_New_J2 (w1 : Int) (h1 : Int) : Option (Int × Int × List Int × Int) :=
  asrt (0 ≤ (w64 ((w64 ((w64 ((w64 ((w64 ((w64 (Int.tdiv h1 2)) - 1)) * w1)) + (w64 (Int.tdiv w1 2)))) - 1)) + w1)) ∧ (w64 ((w64 ((w64 ((w64 ((w64 ((w64 (Int.tdiv h1 2)) - 1)) * w1)) + (w64 (Int.tdiv w1 2)))) - 1)) + w1)) < (((Int.toNat (w64 (w1 * h1))) : Nat) : Int)) <| asrt (0 ≤ (w64 ((w64 ((w64 ((w64 ((w64 ((w64 ((w64 (Int.tdiv h1 2)) - 1)) * w1)) + (w64 (Int.tdiv w1 2)))) - 1)) + w1)) + 1)) ∧ (w64 ((w64 ((w64 ((w64 ((w64 ((w64 ((w64 (Int.tdiv h1 2)) - 1)) * w1)) + (w64 (Int.tdiv w1 2)))) - 1)) + w1)) + 1)) < (((Int.toNat (w64 (w1 * h1))) : Nat) : Int)) <| (othello_New_J3 w1 h1)

noncomputable def othello_New_J1 (w1 : Int) (h1 : Int) : Option (Int × Int × List Int × Int) :=
  asrt ((0 : Int) ≤ (w64 (w1 * h1)) ∧ (w64 (w1 * h1)) ≤ bigN) <| asrt (0 ≤ (w64 ((w64 ((w64 ((w64 ((w64 (Int.tdiv h1 2)) - 1)) * w1)) + (w64 (Int.tdiv w1 2)))) - 1)) ∧ (w64 ((w64 ((w64 ((w64 ((w64 (Int.tdiv h1 2)) - 1)) * w1)) + (w64 (Int.tdiv w1 2)))) - 1)) < (((Int.toNat (w64 (w1 * h1))) : Nat) : Int)) <| asrt (0 ≤ (w64 ((w64 ((w64 ((w64 ((w64 ((w64 (Int.tdiv h1 2)) - 1)) * w1)) + (w64 (Int.tdiv w1 2)))) - 1)) + 1)) ∧ (w64 ((w64 ((w64 ((w64 ((w64 ((w64 (Int.tdiv h1 2)) - 1)) * w1)) + (w64 (Int.tdiv w1 2)))) - 1)) + 1)) < (((Int.toNat (w64 (w1 * h1))) : Nat) : Int)) <| (othello_New_J2 w1 h1)

noncomputable def othello_New_m (w1 : Int) (h1 : Int) : Option (Int × Int × List Int × Int) :=
  (othello_odd_m w1).bind fun r1 => ((if (!r1) then othello_odd_m h1 else some false)).bind fun r2 => if (r1 || r2) then (some (0, 0, ([] : List Int), 3)) else ((othello_New_J1 w1 h1))

set_option maxRecDepth 100000 in
set_option maxHeartbeats 4000000 in
theorem othello_New_w {w1 : Int} {h1 : Int} {r : (Int × Int × List Int × Int)} {w0 w : World} {B : Nat} {fs : List HP} (hm : othello_New_m w1 h1 = some r) (hS : Sep w0 B w (fs)) :
    Calls Try.prog 11 #[.int .i64 w1, .int .i64 h1] w fun e w' => ∃ v, e = .returned v ∧ ∃ (A2 : Option Addr) (c2 : Nat), v = .tuple #[.agg #[.int .i64 r.1, .int .i64 r.2.1, .slice A2 r.2.2.1.length c2], .int .i64 r.2.2.2] ∧ Sep w0 B w' (own 3 (.slice A2 r.2.2.1.length c2) (vI r.2.2.1) :: fs) := by
  obtain ⟨i3, hi3, hz3, hs3, hb3⟩ := info_parts Info3
  unfold othello_New_m at hm
  replace hm := start_b hm
  refine enter (l := [.int .i64 w1, .int .i64 h1]) (n := 54) Try.func11 rfl rfl (by simp) (fun a hF => ?_)
  refine seqR ?_
  refine at_do (d := 4) (s := vS (Instr.alloc 24 true (.tuple #[]))) (v := .pointer (some ⟨w.heap.size, 0, none⟩)) (w' := w.alloc (.cells #[.int .i64 0, .int .i64 0, .slice none 0 0] 24)) hF (by kernel_rfl) (by kernel_rfl) (by kernel_rfl) (fun a hF => ?_)
  have hS : Sep w0 B (w.alloc (.cells #[.int .i64 0, .int .i64 0, .slice none 0 0] 24)) (blk w.heap.size 24 #[.int .i64 0, .int .i64 0, .slice none 0 0] :: (fs)) := hS.box 24 #[.int .i64 0, .int .i64 0, .slice none 0 0]
  generalize w.heap.size = g1 at hF hS
  generalize w.alloc (.cells #[.int .i64 0, .int .i64 0, .slice none 0 0] 24) = w at hS ⊢
  refine at_run 1 [] [] [0, 1, 4] [pl 0 (.int .i64 w1), pl 1 (.int .i64 h1), pl 4 (.pointer (some ⟨g1, 0, none⟩))] hF hS (by kernel_rfl) (by kernel_rfl) ?_ (fun a w hF hS => ?_)
  · exact obs_nil
  refine at_end [0, 1, 4] [pl 0 (.int .i64 w1), pl 1 (.int .i64 h1), pl 4 (.pointer (some ⟨g1, 0, none⟩))] hF rfl (by kernel_rfl) (fun hF => ?_)
  refine then_n ?_
  refine seq_cut (fun a w => Fr 54 [pl 0 (.int .i64 w1), pl 1 (.int .i64 h1), pl 4 (.pointer (some ⟨g1, 0, none⟩))] a ∧ Sep w0 B w (blk g1 24 #[.int .i64 0, .int .i64 0, .slice none 0 0] :: fs) ∧ ((othello_New_J1 w1 h1)).bind some = some r) ?_ ?_
  · rintro a w ⟨hF, hS, hm⟩
    unfold othello_New_J1 at hm
    refine seqR ?_
    obtain ⟨hp1, hm⟩ := asrt_b hm
    refine at_run 5 [] [] [0, 1, 4, 15, 16, 19] [pl 0 (.int .i64 w1), pl 1 (.int .i64 h1), pl 4 (.pointer (some ⟨g1, 0, none⟩)), pl 15 (.int .i64 w1), pl 16 (.int .i64 h1), pl 19 (.int .i64 (w64 (w1 * h1)))] hF hS (by kernel_rfl) (by kernel_rfl) ?_ (fun a w hF hS => ?_)
    · exact obs_nil
    obtain ⟨A1, c1, w, hrun, hS⟩ := run_mk1 (P := Try.prog) (t := 22) (Value.int .i64) (0 : Int) hS .i64 .i64 Und22 hi3 hz3 hs3 (by omega) rfl hp1
    have hS : Sep w0 B w (own 3 (.slice A1 (Int.toNat (w64 (w1 * h1))) c1) (vI (List.replicate (Int.toNat (w64 (w1 * h1))) (0 : Int))) :: blk g1 24 #[.int .i64 0, .int .i64 0, .slice none 0 0] :: fs) := hS
    refine at_do (d := 20) hF (by kernel_rfl) (by kernel_rfl) hrun (fun a hF => ?_)
    refine at_run 1 [] [] [0, 1, 4, 21] [pl 0 (.int .i64 w1), pl 1 (.int .i64 h1), pl 4 (.pointer (some ⟨g1, 0, none⟩)), pl 21 (.agg #[.int .i64 w1, .int .i64 h1, .slice A1 (Int.toNat (w64 (w1 * h1))) c1])] hF hS (by kernel_rfl) (by kernel_rfl) ?_ (fun a w hF hS => ?_)
    · exact obs_nil
    refine at_do (d := 6) (s := vS (Instr.alloc 24 true (.tuple #[]))) (v := .pointer (some ⟨w.heap.size, 0, none⟩)) (w' := w.alloc (.cells #[.int .i64 0, .int .i64 0, .slice none 0 0] 24)) hF (by kernel_rfl) (by kernel_rfl) (by kernel_rfl) (fun a hF => ?_)
    have hS : Sep w0 B (w.alloc (.cells #[.int .i64 0, .int .i64 0, .slice none 0 0] 24)) (blk w.heap.size 24 #[.int .i64 0, .int .i64 0, .slice none 0 0] :: (own 3 (.slice A1 (Int.toNat (w64 (w1 * h1))) c1) (vI (List.replicate (Int.toNat (w64 (w1 * h1))) (0 : Int))) :: blk g1 24 #[.int .i64 0, .int .i64 0, .slice none 0 0] :: fs)) := hS.box 24 #[.int .i64 0, .int .i64 0, .slice none 0 0]
    generalize w.heap.size = g2 at hF hS
    generalize w.alloc (.cells #[.int .i64 0, .int .i64 0, .slice none 0 0] 24) = w at hS ⊢
    obtain ⟨w, hrun, hS⟩ := run_putA (P := Try.prog) (t := 24) (us := #[.int .i64 w1, .int .i64 h1, .slice A1 (Int.toNat (w64 (w1 * h1))) c1]) (o := 0) (hS.at_ 0 rfl) (by kernel_rfl) (all_one (by kernel_rfl)) (Nat.le_of_ble_eq_true (by kernel_rfl))
    refine at_skip hF (by kernel_rfl) hrun ?_
    have hS : Sep w0 B w (blk g2 24 #[.int .i64 w1, .int .i64 h1, .slice A1 (Int.toNat (w64 (w1 * h1))) c1] :: own 3 (.slice A1 (Int.toNat (w64 (w1 * h1))) c1) (vI (List.replicate (Int.toNat (w64 (w1 * h1))) (0 : Int))) :: blk g1 24 #[.int .i64 0, .int .i64 0, .slice none 0 0] :: fs) := hS
    refine at_end [0, 1, 4, 6] [pl 0 (.int .i64 w1), pl 1 (.int .i64 h1), pl 4 (.pointer (some ⟨g1, 0, none⟩)), pl 6 (.pointer (some ⟨g2, 0, none⟩))] hF rfl (by kernel_rfl) (fun hF => ?_)
    refine then_n ?_
    refine reg [] [] [0, 4, 6, 7] [pl 0 (.int .i64 w1), pl 4 (.pointer (some ⟨g1, 0, none⟩)), pl 6 (.pointer (some ⟨g2, 0, none⟩)), pl 7 (.int .i64 (w64 ((w64 ((w64 ((w64 ((w64 (Int.tdiv h1 2)) - 1)) * w1)) + (w64 (Int.tdiv w1 2)))) - 1)))] hF hS Fol (by kernel_rfl) (by kernel_rfl) (by kernel_rfl) ?_ (fun a w hF hS => ?_)
    · exact obs_nil
    refine seq_cut (fun a w => Fr 54 [pl 0 (.int .i64 w1), pl 4 (.pointer (some ⟨g1, 0, none⟩)), pl 6 (.pointer (some ⟨g2, 0, none⟩)), pl 7 (.int .i64 (w64 ((w64 ((w64 ((w64 ((w64 (Int.tdiv h1 2)) - 1)) * w1)) + (w64 (Int.tdiv w1 2)))) - 1)))] a ∧ Sep w0 B w (blk g1 24 #[.int .i64 0, .int .i64 0, .slice none 0 0] :: blk g2 24 #[.int .i64 w1, .int .i64 h1, .slice A1 (Int.toNat (w64 (w1 * h1))) c1] :: own 3 (.slice A1 (Int.toNat (w64 (w1 * h1))) c1) (vI (((List.replicate (Int.toNat (w64 (w1 * h1))) (0 : Int)).set (Int.toNat (w64 ((w64 ((w64 ((w64 ((w64 (Int.tdiv h1 2)) - 1)) * w1)) + (w64 (Int.tdiv w1 2)))) - 1))) 2).set (Int.toNat (w64 ((w64 ((w64 ((w64 ((w64 ((w64 (Int.tdiv h1 2)) - 1)) * w1)) + (w64 (Int.tdiv w1 2)))) - 1)) + 1))) 1)) :: fs) ∧ ((othello_New_J2 w1 h1)).bind some = some r) ?_ ?_
    · rintro a w ⟨hF, hS, hm⟩
      unfold othello_New_J2 at hm
      refine seq_cut (fun a w => Fr 54 [pl 4 (.pointer (some ⟨g1, 0, none⟩)), pl 6 (.pointer (some ⟨g2, 0, none⟩))] a ∧ Sep w0 B w (blk g1 24 #[.int .i64 0, .int .i64 0, .slice none 0 0] :: blk g2 24 #[.int .i64 w1, .int .i64 h1, .slice A1 (Int.toNat (w64 (w1 * h1))) c1] :: own 3 (.slice A1 (Int.toNat (w64 (w1 * h1))) c1) (vI (((((List.replicate (Int.toNat (w64 (w1 * h1))) (0 : Int)).set (Int.toNat (w64 ((w64 ((w64 ((w64 ((w64 (Int.tdiv h1 2)) - 1)) * w1)) + (w64 (Int.tdiv w1 2)))) - 1))) 2).set (Int.toNat (w64 ((w64 ((w64 ((w64 ((w64 ((w64 (Int.tdiv h1 2)) - 1)) * w1)) + (w64 (Int.tdiv w1 2)))) - 1)) + 1))) 1).set (Int.toNat (w64 ((w64 ((w64 ((w64 ((w64 ((w64 (Int.tdiv h1 2)) - 1)) * w1)) + (w64 (Int.tdiv w1 2)))) - 1)) + w1))) 1).set (Int.toNat (w64 ((w64 ((w64 ((w64 ((w64 ((w64 ((w64 (Int.tdiv h1 2)) - 1)) * w1)) + (w64 (Int.tdiv w1 2)))) - 1)) + w1)) + 1))) 2)) :: fs) ∧ ((othello_New_J3 w1 h1)).bind some = some r) ?_ ?_
      · rintro a w ⟨hF, hS, hm⟩
        unfold othello_New_J3 at hm
        refine seqR ?_
        refine at_run 1 [⟨false, [], vS (Instr.loadAt 24 (.pointer (some ⟨g2, 0, none⟩))), .agg #[.int .i64 w1, .int .i64 h1, .slice A1 (Int.toNat (w64 (w1 * h1))) c1]⟩] [some (.agg #[.int .i64 w1, .int .i64 h1, .slice A1 (Int.toNat (w64 (w1 * h1))) c1])] [4, 53] [pl 4 (.pointer (some ⟨g1, 0, none⟩)), pl 53 (.agg #[.int .i64 w1, .int .i64 h1, .slice A1 (Int.toNat (w64 (w1 * h1))) c1])] hF hS (by kernel_rfl) (by kernel_rfl) ?_ (fun a w hF hS => ?_)
        · exact obs_cons (ob_loadA (cs := #[.int .i64 w1, .int .i64 h1, .slice A1 (Int.toNat (w64 (w1 * h1))) c1]) (by kernel_rfl) (by kernel_rfl) (fun _ _ hS => (hS.at_ 1 rfl).cellsAt 0 (by rfl))) <| obs_nil
        obtain ⟨w, hrun, hS⟩ := run_putA (P := Try.prog) (t := 24) (us := #[.int .i64 w1, .int .i64 h1, .slice A1 (Int.toNat (w64 (w1 * h1))) c1]) (o := 0) (hS.at_ 0 rfl) (by kernel_rfl) (all_one (by kernel_rfl)) (Nat.le_of_ble_eq_true (by kernel_rfl))
        refine at_skip hF (by kernel_rfl) hrun ?_
        have hS : Sep w0 B w (blk g1 24 #[.int .i64 w1, .int .i64 h1, .slice A1 (Int.toNat (w64 (w1 * h1))) c1] :: blk g2 24 #[.int .i64 w1, .int .i64 h1, .slice A1 (Int.toNat (w64 (w1 * h1))) c1] :: own 3 (.slice A1 (Int.toNat (w64 (w1 * h1))) c1) (vI (((((List.replicate (Int.toNat (w64 (w1 * h1))) (0 : Int)).set (Int.toNat (w64 ((w64 ((w64 ((w64 ((w64 (Int.tdiv h1 2)) - 1)) * w1)) + (w64 (Int.tdiv w1 2)))) - 1))) 2).set (Int.toNat (w64 ((w64 ((w64 ((w64 ((w64 ((w64 (Int.tdiv h1 2)) - 1)) * w1)) + (w64 (Int.tdiv w1 2)))) - 1)) + 1))) 1).set (Int.toNat (w64 ((w64 ((w64 ((w64 ((w64 ((w64 (Int.tdiv h1 2)) - 1)) * w1)) + (w64 (Int.tdiv w1 2)))) - 1)) + w1))) 1).set (Int.toNat (w64 ((w64 ((w64 ((w64 ((w64 ((w64 ((w64 (Int.tdiv h1 2)) - 1)) * w1)) + (w64 (Int.tdiv w1 2)))) - 1)) + w1)) + 1))) 2)) :: fs) := hS
        refine at_run 1 [] [] [4, 5] [pl 4 (.pointer (some ⟨g1, 0, none⟩)), pl 5 (.int .i64 0)] hF hS (by kernel_rfl) (by kernel_rfl) ?_ (fun a w hF hS => ?_)
        · exact obs_nil
        refine at_end [4, 5] [pl 4 (.pointer (some ⟨g1, 0, none⟩)), pl 5 (.int .i64 0)] hF rfl (by kernel_rfl) (fun hF => ?_)
        refine then_n ?_
        refine wp_ret ?_
        have hl2 := (hS.at_ 2 rfl).len1
        have hS := (hS.at_ 2 rfl).reN hl2
        have hS := (hS.at_ 0 rfl).reBlk (congrArg (fun k9 => (#[.int .i64 w1, .int .i64 h1, .slice A1 k9 c1] : Array Value)) hl2)
        have hS := (hS.at_ 1 rfl).reBlk (congrArg (fun k9 => (#[.int .i64 w1, .int .i64 h1, .slice A1 k9 c1] : Array Value)) hl2)
        have hS : Sep w0 B w (blk g1 24 #[.int .i64 w1, .int .i64 h1, .slice A1 ((((((List.replicate (Int.toNat (w64 (w1 * h1))) (0 : Int)).set (Int.toNat (w64 ((w64 ((w64 ((w64 ((w64 (Int.tdiv h1 2)) - 1)) * w1)) + (w64 (Int.tdiv w1 2)))) - 1))) 2).set (Int.toNat (w64 ((w64 ((w64 ((w64 ((w64 ((w64 (Int.tdiv h1 2)) - 1)) * w1)) + (w64 (Int.tdiv w1 2)))) - 1)) + 1))) 1).set (Int.toNat (w64 ((w64 ((w64 ((w64 ((w64 ((w64 (Int.tdiv h1 2)) - 1)) * w1)) + (w64 (Int.tdiv w1 2)))) - 1)) + w1))) 1).set (Int.toNat (w64 ((w64 ((w64 ((w64 ((w64 ((w64 ((w64 (Int.tdiv h1 2)) - 1)) * w1)) + (w64 (Int.tdiv w1 2)))) - 1)) + w1)) + 1))) 2).length) c1] :: blk g2 24 #[.int .i64 w1, .int .i64 h1, .slice A1 ((((((List.replicate (Int.toNat (w64 (w1 * h1))) (0 : Int)).set (Int.toNat (w64 ((w64 ((w64 ((w64 ((w64 (Int.tdiv h1 2)) - 1)) * w1)) + (w64 (Int.tdiv w1 2)))) - 1))) 2).set (Int.toNat (w64 ((w64 ((w64 ((w64 ((w64 ((w64 (Int.tdiv h1 2)) - 1)) * w1)) + (w64 (Int.tdiv w1 2)))) - 1)) + 1))) 1).set (Int.toNat (w64 ((w64 ((w64 ((w64 ((w64 ((w64 (Int.tdiv h1 2)) - 1)) * w1)) + (w64 (Int.tdiv w1 2)))) - 1)) + w1))) 1).set (Int.toNat (w64 ((w64 ((w64 ((w64 ((w64 ((w64 ((w64 (Int.tdiv h1 2)) - 1)) * w1)) + (w64 (Int.tdiv w1 2)))) - 1)) + w1)) + 1))) 2).length) c1] :: own 3 (.slice A1 ((((((List.replicate (Int.toNat (w64 (w1 * h1))) (0 : Int)).set (Int.toNat (w64 ((w64 ((w64 ((w64 ((w64 (Int.tdiv h1 2)) - 1)) * w1)) + (w64 (Int.tdiv w1 2)))) - 1))) 2).set (Int.toNat (w64 ((w64 ((w64 ((w64 ((w64 ((w64 (Int.tdiv h1 2)) - 1)) * w1)) + (w64 (Int.tdiv w1 2)))) - 1)) + 1))) 1).set (Int.toNat (w64 ((w64 ((w64 ((w64 ((w64 ((w64 (Int.tdiv h1 2)) - 1)) * w1)) + (w64 (Int.tdiv w1 2)))) - 1)) + w1))) 1).set (Int.toNat (w64 ((w64 ((w64 ((w64 ((w64 ((w64 ((w64 (Int.tdiv h1 2)) - 1)) * w1)) + (w64 (Int.tdiv w1 2)))) - 1)) + w1)) + 1))) 2).length) c1) (vI (((((List.replicate (Int.toNat (w64 (w1 * h1))) (0 : Int)).set (Int.toNat (w64 ((w64 ((w64 ((w64 ((w64 (Int.tdiv h1 2)) - 1)) * w1)) + (w64 (Int.tdiv w1 2)))) - 1))) 2).set (Int.toNat (w64 ((w64 ((w64 ((w64 ((w64 ((w64 (Int.tdiv h1 2)) - 1)) * w1)) + (w64 (Int.tdiv w1 2)))) - 1)) + 1))) 1).set (Int.toNat (w64 ((w64 ((w64 ((w64 ((w64 ((w64 (Int.tdiv h1 2)) - 1)) * w1)) + (w64 (Int.tdiv w1 2)))) - 1)) + w1))) 1).set (Int.toNat (w64 ((w64 ((w64 ((w64 ((w64 ((w64 ((w64 (Int.tdiv h1 2)) - 1)) * w1)) + (w64 (Int.tdiv w1 2)))) - 1)) + w1)) + 1))) 2)) :: fs) := hS
        have hld0 := run_loadVarA (P := Try.prog) (t := 24) (cs := #[.int .i64 w1, .int .i64 h1, .slice A1 ((((((List.replicate (Int.toNat (w64 (w1 * h1))) (0 : Int)).set (Int.toNat (w64 ((w64 ((w64 ((w64 ((w64 (Int.tdiv h1 2)) - 1)) * w1)) + (w64 (Int.tdiv w1 2)))) - 1))) 2).set (Int.toNat (w64 ((w64 ((w64 ((w64 ((w64 ((w64 (Int.tdiv h1 2)) - 1)) * w1)) + (w64 (Int.tdiv w1 2)))) - 1)) + 1))) 1).set (Int.toNat (w64 ((w64 ((w64 ((w64 ((w64 ((w64 (Int.tdiv h1 2)) - 1)) * w1)) + (w64 (Int.tdiv w1 2)))) - 1)) + w1))) 1).set (Int.toNat (w64 ((w64 ((w64 ((w64 ((w64 ((w64 ((w64 (Int.tdiv h1 2)) - 1)) * w1)) + (w64 (Int.tdiv w1 2)))) - 1)) + w1)) + 1))) 2).length) c1]) (by kernel_rfl) (by kernel_rfl) ((hS.at_ 0 rfl).cellsAt 0 (by rfl))
        have hS := hS.pickN 3 [2] (by decide)
        have hm : some (w1, h1, (((((List.replicate (Int.toNat (w64 (w1 * h1))) (0 : Int)).set (Int.toNat (w64 ((w64 ((w64 ((w64 ((w64 (Int.tdiv h1 2)) - 1)) * w1)) + (w64 (Int.tdiv w1 2)))) - 1))) 2).set (Int.toNat (w64 ((w64 ((w64 ((w64 ((w64 ((w64 (Int.tdiv h1 2)) - 1)) * w1)) + (w64 (Int.tdiv w1 2)))) - 1)) + 1))) 1).set (Int.toNat (w64 ((w64 ((w64 ((w64 ((w64 ((w64 (Int.tdiv h1 2)) - 1)) * w1)) + (w64 (Int.tdiv w1 2)))) - 1)) + w1))) 1).set (Int.toNat (w64 ((w64 ((w64 ((w64 ((w64 ((w64 ((w64 (Int.tdiv h1 2)) - 1)) * w1)) + (w64 (Int.tdiv w1 2)))) - 1)) + w1)) + 1))) 2), 0) = some r := hm
        obtain rfl := Option.some.inj hm
        exact retV (rs := [.cell 4 24, .tmp 5]) (vs := [.agg #[.int .i64 w1, .int .i64 h1, .slice A1 ((((((List.replicate (Int.toNat (w64 (w1 * h1))) (0 : Int)).set (Int.toNat (w64 ((w64 ((w64 ((w64 ((w64 (Int.tdiv h1 2)) - 1)) * w1)) + (w64 (Int.tdiv w1 2)))) - 1))) 2).set (Int.toNat (w64 ((w64 ((w64 ((w64 ((w64 ((w64 (Int.tdiv h1 2)) - 1)) * w1)) + (w64 (Int.tdiv w1 2)))) - 1)) + 1))) 1).set (Int.toNat (w64 ((w64 ((w64 ((w64 ((w64 ((w64 (Int.tdiv h1 2)) - 1)) * w1)) + (w64 (Int.tdiv w1 2)))) - 1)) + w1))) 1).set (Int.toNat (w64 ((w64 ((w64 ((w64 ((w64 ((w64 ((w64 (Int.tdiv h1 2)) - 1)) * w1)) + (w64 (Int.tdiv w1 2)))) - 1)) + w1)) + 1))) 2).length) c1], .int .i64 0]) hF rfl (rv_c (by kernel_rfl) hld0 <| rv_t (by kernel_rfl) <| rv_nil) rfl ⟨_, rfl, A1, c1, rfl, hS⟩
      · obtain ⟨hp4, hm⟩ := asrt_b hm
        obtain ⟨hp5, hm⟩ := asrt_b hm
        refine regMix5 [0, 1, 2, 3, 4, 5, 7, 8, 9, 10, 11] [12, 14] 4 #[true, true, true, true, true, true, false, true, true, true, true, true, false, false, false] [⟨false, [], vS (Instr.loadAt 22 (.pointer (some ⟨g2, 2, none⟩))), .slice A1 (Int.toNat (w64 (w1 * h1))) c1⟩, ⟨true, [], vS (Instr.indexAt 22 (.slice A1 (Int.toNat (w64 (w1 * h1))) c1) (.int .i64 (w64 ((w64 ((w64 ((w64 ((w64 ((w64 (Int.tdiv h1 2)) - 1)) * w1)) + (w64 (Int.tdiv w1 2)))) - 1)) + w1)))), .pointer (some (sAddr A1 (w64 ((w64 ((w64 ((w64 ((w64 ((w64 (Int.tdiv h1 2)) - 1)) * w1)) + (w64 (Int.tdiv w1 2)))) - 1)) + w1))))⟩] [none, some (.slice A1 (Int.toNat (w64 (w1 * h1))) c1), none, none, none, none, none, none, none, none, some (.pointer (some (sAddr A1 (w64 ((w64 ((w64 ((w64 ((w64 ((w64 (Int.tdiv h1 2)) - 1)) * w1)) + (w64 (Int.tdiv w1 2)))) - 1)) + w1)))))] [4, 6, 45, 50, 51] [pl 4 (.pointer (some ⟨g1, 0, none⟩)), pl 6 (.pointer (some ⟨g2, 0, none⟩)), pl 45 (.pointer (some ⟨g2, 2, none⟩)), pl 50 (.int .i64 (w64 ((w64 ((w64 ((w64 ((w64 ((w64 ((w64 (Int.tdiv h1 2)) - 1)) * w1)) + (w64 (Int.tdiv w1 2)))) - 1)) + w1)) + 1))), pl 51 (.pointer (some (sAddr A1 (w64 ((w64 ((w64 ((w64 ((w64 ((w64 (Int.tdiv h1 2)) - 1)) * w1)) + (w64 (Int.tdiv w1 2)))) - 1)) + w1)))))] hF hS Fol (by kernel_rfl) (by kernel_rfl) (by kernel_rfl) (by kernel_rfl) ?_ (fun a w hF hS => ?_)
        · exact obs_cons (ob_load Agg22 (fun _ _ hS => (hS.at_ 1 rfl).cell rfl)) <| obs_cons (ob_ix1 (f := (Value.int .i64)) (m := (((List.replicate (Int.toNat (w64 (w1 * h1))) (0 : Int)).set (Int.toNat (w64 ((w64 ((w64 ((w64 ((w64 (Int.tdiv h1 2)) - 1)) * w1)) + (w64 (Int.tdiv w1 2)))) - 1))) 2).set (Int.toNat (w64 ((w64 ((w64 ((w64 ((w64 ((w64 (Int.tdiv h1 2)) - 1)) * w1)) + (w64 (Int.tdiv w1 2)))) - 1)) + 1))) 1)) Und22 hi3 hs3 (hS.at_ 2 rfl).rd ((hS.at_ 2 rfl).len1) (fun _ => hp4)) <| obs_nil
        refine any_step [6, 12] (by kernel_rfl) rfl ?_
        refine (all_cons ?_ (all_cons ?_ all_nil))
        · refine any_op (listed' := #[true, true, true, true, true, true, true, true, true, true, true, true, false, false, false]) (by kernel_rfl) (by kernel_rfl) ?_
          refine at_runW 1 [⟨false, [], vS (Instr.loadAt 22 (.pointer (some ⟨g2, 2, none⟩))), .slice A1 (Int.toNat (w64 (w1 * h1))) c1⟩] [some (.slice A1 (Int.toNat (w64 (w1 * h1))) c1)] [4, 6, 46, 50, 51] [pl 4 (.pointer (some ⟨g1, 0, none⟩)), pl 6 (.pointer (some ⟨g2, 0, none⟩)), pl 46 (.slice A1 (Int.toNat (w64 (w1 * h1))) c1), pl 50 (.int .i64 (w64 ((w64 ((w64 ((w64 ((w64 ((w64 ((w64 (Int.tdiv h1 2)) - 1)) * w1)) + (w64 (Int.tdiv w1 2)))) - 1)) + w1)) + 1))), pl 51 (.pointer (some (sAddr A1 (w64 ((w64 ((w64 ((w64 ((w64 ((w64 (Int.tdiv h1 2)) - 1)) * w1)) + (w64 (Int.tdiv w1 2)))) - 1)) + w1)))))] hF hS (by kernel_rfl) (by kernel_rfl) ?_ (fun a hF => ?_)
          · exact obs_cons (ob_load Agg22 (fun _ _ hS => (hS.at_ 1 rfl).cell rfl)) <| obs_nil
          refine any_finI rfl (fun h => h) ?_
          refine any_step [12] (by kernel_rfl) rfl ?_
          refine (all_cons ?_ all_nil)
          · refine any_op (listed' := #[true, true, true, true, true, true, true, true, true, true, true, true, true, false, false]) (by kernel_rfl) (by kernel_rfl) ?_
            obtain ⟨w, hrun, hS⟩ := run_set1 (P := Try.prog) (t := 3) (x := 1) (Value.int .i64) (hS.at_ 2 rfl) hi3 hs3 rfl rfl hp4
            refine at_skip hF (by kernel_rfl) hrun ?_
            have hS : Sep w0 B w (blk g1 24 #[.int .i64 0, .int .i64 0, .slice none 0 0] :: blk g2 24 #[.int .i64 w1, .int .i64 h1, .slice A1 (Int.toNat (w64 (w1 * h1))) c1] :: own 3 (.slice A1 (Int.toNat (w64 (w1 * h1))) c1) (vI ((((List.replicate (Int.toNat (w64 (w1 * h1))) (0 : Int)).set (Int.toNat (w64 ((w64 ((w64 ((w64 ((w64 (Int.tdiv h1 2)) - 1)) * w1)) + (w64 (Int.tdiv w1 2)))) - 1))) 2).set (Int.toNat (w64 ((w64 ((w64 ((w64 ((w64 ((w64 (Int.tdiv h1 2)) - 1)) * w1)) + (w64 (Int.tdiv w1 2)))) - 1)) + 1))) 1).set (Int.toNat (w64 ((w64 ((w64 ((w64 ((w64 ((w64 (Int.tdiv h1 2)) - 1)) * w1)) + (w64 (Int.tdiv w1 2)))) - 1)) + w1))) 1)) :: fs) := hS
            refine any_finE rfl (by decide) ?_
            refine any_step [13] (by kernel_rfl) rfl ?_
            refine (all_cons ?_ all_nil)
            · refine any_op (listed' := #[true, true, true, true, true, true, true, true, true, true, true, true, true, true, false]) (by kernel_rfl) (by kernel_rfl) ?_
              refine at_runW 1 [⟨true, [], vS (Instr.indexAt 22 (.slice A1 (Int.toNat (w64 (w1 * h1))) c1) (.int .i64 (w64 ((w64 ((w64 ((w64 ((w64 ((w64 ((w64 (Int.tdiv h1 2)) - 1)) * w1)) + (w64 (Int.tdiv w1 2)))) - 1)) + w1)) + 1)))), .pointer (some (sAddr A1 (w64 ((w64 ((w64 ((w64 ((w64 ((w64 ((w64 (Int.tdiv h1 2)) - 1)) * w1)) + (w64 (Int.tdiv w1 2)))) - 1)) + w1)) + 1))))⟩] [some (.pointer (some (sAddr A1 (w64 ((w64 ((w64 ((w64 ((w64 ((w64 ((w64 (Int.tdiv h1 2)) - 1)) * w1)) + (w64 (Int.tdiv w1 2)))) - 1)) + w1)) + 1)))))] [4, 6, 52] [pl 4 (.pointer (some ⟨g1, 0, none⟩)), pl 6 (.pointer (some ⟨g2, 0, none⟩)), pl 52 (.pointer (some (sAddr A1 (w64 ((w64 ((w64 ((w64 ((w64 ((w64 ((w64 (Int.tdiv h1 2)) - 1)) * w1)) + (w64 (Int.tdiv w1 2)))) - 1)) + w1)) + 1)))))] hF hS (by kernel_rfl) (by kernel_rfl) ?_ (fun a hF => ?_)
              · exact obs_cons (ob_ix1 (f := (Value.int .i64)) (m := ((((List.replicate (Int.toNat (w64 (w1 * h1))) (0 : Int)).set (Int.toNat (w64 ((w64 ((w64 ((w64 ((w64 (Int.tdiv h1 2)) - 1)) * w1)) + (w64 (Int.tdiv w1 2)))) - 1))) 2).set (Int.toNat (w64 ((w64 ((w64 ((w64 ((w64 ((w64 (Int.tdiv h1 2)) - 1)) * w1)) + (w64 (Int.tdiv w1 2)))) - 1)) + 1))) 1).set (Int.toNat (w64 ((w64 ((w64 ((w64 ((w64 ((w64 (Int.tdiv h1 2)) - 1)) * w1)) + (w64 (Int.tdiv w1 2)))) - 1)) + w1))) 1)) Und22 hi3 hs3 (hS.at_ 2 rfl).rd ((hS.at_ 2 rfl).len1) (fun _ => hp5)) <| obs_nil
              refine any_finI rfl (fun h => h) ?_
              refine any_step [14] (by kernel_rfl) rfl ?_
              refine (all_cons ?_ all_nil)
              · refine any_op (listed' := #[true, true, true, true, true, true, true, true, true, true, true, true, true, true, true]) (by kernel_rfl) (by kernel_rfl) ?_
                obtain ⟨w, hrun, hS⟩ := run_set1 (P := Try.prog) (t := 3) (x := 2) (Value.int .i64) (hS.at_ 2 rfl) hi3 hs3 rfl rfl hp5
                refine at_skip hF (by kernel_rfl) hrun ?_
                have hS : Sep w0 B w (blk g1 24 #[.int .i64 0, .int .i64 0, .slice none 0 0] :: blk g2 24 #[.int .i64 w1, .int .i64 h1, .slice A1 (Int.toNat (w64 (w1 * h1))) c1] :: own 3 (.slice A1 (Int.toNat (w64 (w1 * h1))) c1) (vI (((((List.replicate (Int.toNat (w64 (w1 * h1))) (0 : Int)).set (Int.toNat (w64 ((w64 ((w64 ((w64 ((w64 (Int.tdiv h1 2)) - 1)) * w1)) + (w64 (Int.tdiv w1 2)))) - 1))) 2).set (Int.toNat (w64 ((w64 ((w64 ((w64 ((w64 ((w64 (Int.tdiv h1 2)) - 1)) * w1)) + (w64 (Int.tdiv w1 2)))) - 1)) + 1))) 1).set (Int.toNat (w64 ((w64 ((w64 ((w64 ((w64 ((w64 (Int.tdiv h1 2)) - 1)) * w1)) + (w64 (Int.tdiv w1 2)))) - 1)) + w1))) 1).set (Int.toNat (w64 ((w64 ((w64 ((w64 ((w64 ((w64 ((w64 (Int.tdiv h1 2)) - 1)) * w1)) + (w64 (Int.tdiv w1 2)))) - 1)) + w1)) + 1))) 2)) :: fs) := hS
                refine any_finE rfl (by decide) ?_
                refine any_end (by kernel_rfl) ?_
                refine np_n ?_
                refine then_n ?_
                exact ⟨hF.weak [4, 6] (by kernel_rfl), hS, hm⟩
        · refine any_op (listed' := #[true, true, true, true, true, true, false, true, true, true, true, true, true, false, false]) (by kernel_rfl) (by kernel_rfl) ?_
          obtain ⟨w, hrun, hS⟩ := run_set1 (P := Try.prog) (t := 3) (x := 1) (Value.int .i64) (hS.at_ 2 rfl) hi3 hs3 rfl rfl hp4
          refine at_skip hF (by kernel_rfl) hrun ?_
          have hS : Sep w0 B w (blk g1 24 #[.int .i64 0, .int .i64 0, .slice none 0 0] :: blk g2 24 #[.int .i64 w1, .int .i64 h1, .slice A1 (Int.toNat (w64 (w1 * h1))) c1] :: own 3 (.slice A1 (Int.toNat (w64 (w1 * h1))) c1) (vI ((((List.replicate (Int.toNat (w64 (w1 * h1))) (0 : Int)).set (Int.toNat (w64 ((w64 ((w64 ((w64 ((w64 (Int.tdiv h1 2)) - 1)) * w1)) + (w64 (Int.tdiv w1 2)))) - 1))) 2).set (Int.toNat (w64 ((w64 ((w64 ((w64 ((w64 ((w64 (Int.tdiv h1 2)) - 1)) * w1)) + (w64 (Int.tdiv w1 2)))) - 1)) + 1))) 1).set (Int.toNat (w64 ((w64 ((w64 ((w64 ((w64 ((w64 (Int.tdiv h1 2)) - 1)) * w1)) + (w64 (Int.tdiv w1 2)))) - 1)) + w1))) 1)) :: fs) := hS
          refine any_finE rfl (by decide) ?_
          refine any_step [6] (by kernel_rfl) rfl ?_
          refine (all_cons ?_ all_nil)
          · refine any_op (listed' := #[true, true, true, true, true, true, true, true, true, true, true, true, true, false, false]) (by kernel_rfl) (by kernel_rfl) ?_
            refine at_runW 1 [⟨false, [], vS (Instr.loadAt 22 (.pointer (some ⟨g2, 2, none⟩))), .slice A1 (Int.toNat (w64 (w1 * h1))) c1⟩] [some (.slice A1 (Int.toNat (w64 (w1 * h1))) c1)] [4, 6, 46, 50] [pl 4 (.pointer (some ⟨g1, 0, none⟩)), pl 6 (.pointer (some ⟨g2, 0, none⟩)), pl 46 (.slice A1 (Int.toNat (w64 (w1 * h1))) c1), pl 50 (.int .i64 (w64 ((w64 ((w64 ((w64 ((w64 ((w64 ((w64 (Int.tdiv h1 2)) - 1)) * w1)) + (w64 (Int.tdiv w1 2)))) - 1)) + w1)) + 1)))] hF hS (by kernel_rfl) (by kernel_rfl) ?_ (fun a hF => ?_)
            · exact obs_cons (ob_load Agg22 (fun _ _ hS => (hS.at_ 1 rfl).cell rfl)) <| obs_nil
            refine any_finI rfl (fun h => h) ?_
            refine any_step [13] (by kernel_rfl) rfl ?_
            refine (all_cons ?_ all_nil)
            · refine any_op (listed' := #[true, true, true, true, true, true, true, true, true, true, true, true, true, true, false]) (by kernel_rfl) (by kernel_rfl) ?_
              refine at_runW 1 [⟨true, [], vS (Instr.indexAt 22 (.slice A1 (Int.toNat (w64 (w1 * h1))) c1) (.int .i64 (w64 ((w64 ((w64 ((w64 ((w64 ((w64 ((w64 (Int.tdiv h1 2)) - 1)) * w1)) + (w64 (Int.tdiv w1 2)))) - 1)) + w1)) + 1)))), .pointer (some (sAddr A1 (w64 ((w64 ((w64 ((w64 ((w64 ((w64 ((w64 (Int.tdiv h1 2)) - 1)) * w1)) + (w64 (Int.tdiv w1 2)))) - 1)) + w1)) + 1))))⟩] [some (.pointer (some (sAddr A1 (w64 ((w64 ((w64 ((w64 ((w64 ((w64 ((w64 (Int.tdiv h1 2)) - 1)) * w1)) + (w64 (Int.tdiv w1 2)))) - 1)) + w1)) + 1)))))] [4, 6, 52] [pl 4 (.pointer (some ⟨g1, 0, none⟩)), pl 6 (.pointer (some ⟨g2, 0, none⟩)), pl 52 (.pointer (some (sAddr A1 (w64 ((w64 ((w64 ((w64 ((w64 ((w64 ((w64 (Int.tdiv h1 2)) - 1)) * w1)) + (w64 (Int.tdiv w1 2)))) - 1)) + w1)) + 1)))))] hF hS (by kernel_rfl) (by kernel_rfl) ?_ (fun a hF => ?_)
              · exact obs_cons (ob_ix1 (f := (Value.int .i64)) (m := ((((List.replicate (Int.toNat (w64 (w1 * h1))) (0 : Int)).set (Int.toNat (w64 ((w64 ((w64 ((w64 ((w64 (Int.tdiv h1 2)) - 1)) * w1)) + (w64 (Int.tdiv w1 2)))) - 1))) 2).set (Int.toNat (w64 ((w64 ((w64 ((w64 ((w64 ((w64 (Int.tdiv h1 2)) - 1)) * w1)) + (w64 (Int.tdiv w1 2)))) - 1)) + 1))) 1).set (Int.toNat (w64 ((w64 ((w64 ((w64 ((w64 ((w64 (Int.tdiv h1 2)) - 1)) * w1)) + (w64 (Int.tdiv w1 2)))) - 1)) + w1))) 1)) Und22 hi3 hs3 (hS.at_ 2 rfl).rd ((hS.at_ 2 rfl).len1) (fun _ => hp5)) <| obs_nil
              refine any_finI rfl (fun h => h) ?_
              refine any_step [14] (by kernel_rfl) rfl ?_
              refine (all_cons ?_ all_nil)
              · refine any_op (listed' := #[true, true, true, true, true, true, true, true, true, true, true, true, true, true, true]) (by kernel_rfl) (by kernel_rfl) ?_
                obtain ⟨w, hrun, hS⟩ := run_set1 (P := Try.prog) (t := 3) (x := 2) (Value.int .i64) (hS.at_ 2 rfl) hi3 hs3 rfl rfl hp5
                refine at_skip hF (by kernel_rfl) hrun ?_
                have hS : Sep w0 B w (blk g1 24 #[.int .i64 0, .int .i64 0, .slice none 0 0] :: blk g2 24 #[.int .i64 w1, .int .i64 h1, .slice A1 (Int.toNat (w64 (w1 * h1))) c1] :: own 3 (.slice A1 (Int.toNat (w64 (w1 * h1))) c1) (vI (((((List.replicate (Int.toNat (w64 (w1 * h1))) (0 : Int)).set (Int.toNat (w64 ((w64 ((w64 ((w64 ((w64 (Int.tdiv h1 2)) - 1)) * w1)) + (w64 (Int.tdiv w1 2)))) - 1))) 2).set (Int.toNat (w64 ((w64 ((w64 ((w64 ((w64 ((w64 (Int.tdiv h1 2)) - 1)) * w1)) + (w64 (Int.tdiv w1 2)))) - 1)) + 1))) 1).set (Int.toNat (w64 ((w64 ((w64 ((w64 ((w64 ((w64 (Int.tdiv h1 2)) - 1)) * w1)) + (w64 (Int.tdiv w1 2)))) - 1)) + w1))) 1).set (Int.toNat (w64 ((w64 ((w64 ((w64 ((w64 ((w64 ((w64 (Int.tdiv h1 2)) - 1)) * w1)) + (w64 (Int.tdiv w1 2)))) - 1)) + w1)) + 1))) 2)) :: fs) := hS
                refine any_finE rfl (by decide) ?_
                refine any_end (by kernel_rfl) ?_
                refine np_n ?_
                refine then_n ?_
                exact ⟨hF.weak [4, 6] (by kernel_rfl), hS, hm⟩
    · obtain ⟨hp2, hm⟩ := asrt_b hm
      obtain ⟨hp3, hm⟩ := asrt_b hm
      refine regMix5 [0, 1, 2, 3, 5, 6, 7] [8, 10] 4 #[true, true, true, true, false, true, true, true, false, false, false] [⟨false, [], vS (Instr.loadAt 22 (.pointer (some ⟨g2, 2, none⟩))), .slice A1 (Int.toNat (w64 (w1 * h1))) c1⟩, ⟨true, [], vS (Instr.indexAt 22 (.slice A1 (Int.toNat (w64 (w1 * h1))) c1) (.int .i64 (w64 ((w64 ((w64 ((w64 ((w64 (Int.tdiv h1 2)) - 1)) * w1)) + (w64 (Int.tdiv w1 2)))) - 1)))), .pointer (some (sAddr A1 (w64 ((w64 ((w64 ((w64 ((w64 (Int.tdiv h1 2)) - 1)) * w1)) + (w64 (Int.tdiv w1 2)))) - 1))))⟩] [none, some (.slice A1 (Int.toNat (w64 (w1 * h1))) c1), none, none, none, none, some (.pointer (some (sAddr A1 (w64 ((w64 ((w64 ((w64 ((w64 (Int.tdiv h1 2)) - 1)) * w1)) + (w64 (Int.tdiv w1 2)))) - 1)))))] [0, 4, 6, 7, 34, 37, 38] [pl 0 (.int .i64 w1), pl 4 (.pointer (some ⟨g1, 0, none⟩)), pl 6 (.pointer (some ⟨g2, 0, none⟩)), pl 7 (.int .i64 (w64 ((w64 ((w64 ((w64 ((w64 (Int.tdiv h1 2)) - 1)) * w1)) + (w64 (Int.tdiv w1 2)))) - 1))), pl 34 (.pointer (some ⟨g2, 2, none⟩)), pl 37 (.int .i64 (w64 ((w64 ((w64 ((w64 ((w64 ((w64 (Int.tdiv h1 2)) - 1)) * w1)) + (w64 (Int.tdiv w1 2)))) - 1)) + 1))), pl 38 (.pointer (some (sAddr A1 (w64 ((w64 ((w64 ((w64 ((w64 (Int.tdiv h1 2)) - 1)) * w1)) + (w64 (Int.tdiv w1 2)))) - 1)))))] hF hS Fol (by kernel_rfl) (by kernel_rfl) (by kernel_rfl) (by kernel_rfl) ?_ (fun a w hF hS => ?_)
      · exact obs_cons (ob_load Agg22 (fun _ _ hS => (hS.at_ 0 rfl).cell rfl)) <| obs_cons (ob_ix1 (f := (Value.int .i64)) (m := (List.replicate (Int.toNat (w64 (w1 * h1))) (0 : Int))) Und22 hi3 hs3 (hS.at_ 1 rfl).rd ((hS.at_ 1 rfl).len1) (fun _ => hp2)) <| obs_nil
      refine any_step [4, 8] (by kernel_rfl) rfl ?_
      refine (all_cons ?_ (all_cons ?_ all_nil))
      · refine any_op (listed' := #[true, true, true, true, true, true, true, true, false, false, false]) (by kernel_rfl) (by kernel_rfl) ?_
        refine at_runW 1 [⟨false, [], vS (Instr.loadAt 22 (.pointer (some ⟨g2, 2, none⟩))), .slice A1 (Int.toNat (w64 (w1 * h1))) c1⟩] [some (.slice A1 (Int.toNat (w64 (w1 * h1))) c1)] [0, 4, 6, 7, 35, 37, 38] [pl 0 (.int .i64 w1), pl 4 (.pointer (some ⟨g1, 0, none⟩)), pl 6 (.pointer (some ⟨g2, 0, none⟩)), pl 7 (.int .i64 (w64 ((w64 ((w64 ((w64 ((w64 (Int.tdiv h1 2)) - 1)) * w1)) + (w64 (Int.tdiv w1 2)))) - 1))), pl 35 (.slice A1 (Int.toNat (w64 (w1 * h1))) c1), pl 37 (.int .i64 (w64 ((w64 ((w64 ((w64 ((w64 ((w64 (Int.tdiv h1 2)) - 1)) * w1)) + (w64 (Int.tdiv w1 2)))) - 1)) + 1))), pl 38 (.pointer (some (sAddr A1 (w64 ((w64 ((w64 ((w64 ((w64 (Int.tdiv h1 2)) - 1)) * w1)) + (w64 (Int.tdiv w1 2)))) - 1)))))] hF hS (by kernel_rfl) (by kernel_rfl) ?_ (fun a hF => ?_)
        · exact obs_cons (ob_load Agg22 (fun _ _ hS => (hS.at_ 0 rfl).cell rfl)) <| obs_nil
        refine any_finI rfl (fun h => h) ?_
        refine any_step [8] (by kernel_rfl) rfl ?_
        refine (all_cons ?_ all_nil)
        · refine any_op (listed' := #[true, true, true, true, true, true, true, true, true, false, false]) (by kernel_rfl) (by kernel_rfl) ?_
          obtain ⟨w, hrun, hS⟩ := run_set1 (P := Try.prog) (t := 3) (x := 2) (Value.int .i64) (hS.at_ 1 rfl) hi3 hs3 rfl rfl hp2
          refine at_skip hF (by kernel_rfl) hrun ?_
          have hS : Sep w0 B w (blk g2 24 #[.int .i64 w1, .int .i64 h1, .slice A1 (Int.toNat (w64 (w1 * h1))) c1] :: own 3 (.slice A1 (Int.toNat (w64 (w1 * h1))) c1) (vI ((List.replicate (Int.toNat (w64 (w1 * h1))) (0 : Int)).set (Int.toNat (w64 ((w64 ((w64 ((w64 ((w64 (Int.tdiv h1 2)) - 1)) * w1)) + (w64 (Int.tdiv w1 2)))) - 1))) 2)) :: blk g1 24 #[.int .i64 0, .int .i64 0, .slice none 0 0] :: fs) := hS
          refine any_finE rfl (by decide) ?_
          refine any_step [9] (by kernel_rfl) rfl ?_
          refine (all_cons ?_ all_nil)
          · refine any_op (listed' := #[true, true, true, true, true, true, true, true, true, true, false]) (by kernel_rfl) (by kernel_rfl) ?_
            refine at_runW 1 [⟨true, [], vS (Instr.indexAt 22 (.slice A1 (Int.toNat (w64 (w1 * h1))) c1) (.int .i64 (w64 ((w64 ((w64 ((w64 ((w64 ((w64 (Int.tdiv h1 2)) - 1)) * w1)) + (w64 (Int.tdiv w1 2)))) - 1)) + 1)))), .pointer (some (sAddr A1 (w64 ((w64 ((w64 ((w64 ((w64 ((w64 (Int.tdiv h1 2)) - 1)) * w1)) + (w64 (Int.tdiv w1 2)))) - 1)) + 1))))⟩] [some (.pointer (some (sAddr A1 (w64 ((w64 ((w64 ((w64 ((w64 ((w64 (Int.tdiv h1 2)) - 1)) * w1)) + (w64 (Int.tdiv w1 2)))) - 1)) + 1)))))] [0, 4, 6, 7, 39] [pl 0 (.int .i64 w1), pl 4 (.pointer (some ⟨g1, 0, none⟩)), pl 6 (.pointer (some ⟨g2, 0, none⟩)), pl 7 (.int .i64 (w64 ((w64 ((w64 ((w64 ((w64 (Int.tdiv h1 2)) - 1)) * w1)) + (w64 (Int.tdiv w1 2)))) - 1))), pl 39 (.pointer (some (sAddr A1 (w64 ((w64 ((w64 ((w64 ((w64 ((w64 (Int.tdiv h1 2)) - 1)) * w1)) + (w64 (Int.tdiv w1 2)))) - 1)) + 1)))))] hF hS (by kernel_rfl) (by kernel_rfl) ?_ (fun a hF => ?_)
            · exact obs_cons (ob_ix1 (f := (Value.int .i64)) (m := ((List.replicate (Int.toNat (w64 (w1 * h1))) (0 : Int)).set (Int.toNat (w64 ((w64 ((w64 ((w64 ((w64 (Int.tdiv h1 2)) - 1)) * w1)) + (w64 (Int.tdiv w1 2)))) - 1))) 2)) Und22 hi3 hs3 (hS.at_ 1 rfl).rd ((hS.at_ 1 rfl).len1) (fun _ => hp3)) <| obs_nil
            refine any_finI rfl (fun h => h) ?_
            refine any_step [10] (by kernel_rfl) rfl ?_
            refine (all_cons ?_ all_nil)
            · refine any_op (listed' := #[true, true, true, true, true, true, true, true, true, true, true]) (by kernel_rfl) (by kernel_rfl) ?_
              obtain ⟨w, hrun, hS⟩ := run_set1 (P := Try.prog) (t := 3) (x := 1) (Value.int .i64) (hS.at_ 1 rfl) hi3 hs3 rfl rfl hp3
              refine at_skip hF (by kernel_rfl) hrun ?_
              have hS : Sep w0 B w (blk g2 24 #[.int .i64 w1, .int .i64 h1, .slice A1 (Int.toNat (w64 (w1 * h1))) c1] :: own 3 (.slice A1 (Int.toNat (w64 (w1 * h1))) c1) (vI (((List.replicate (Int.toNat (w64 (w1 * h1))) (0 : Int)).set (Int.toNat (w64 ((w64 ((w64 ((w64 ((w64 (Int.tdiv h1 2)) - 1)) * w1)) + (w64 (Int.tdiv w1 2)))) - 1))) 2).set (Int.toNat (w64 ((w64 ((w64 ((w64 ((w64 ((w64 (Int.tdiv h1 2)) - 1)) * w1)) + (w64 (Int.tdiv w1 2)))) - 1)) + 1))) 1)) :: blk g1 24 #[.int .i64 0, .int .i64 0, .slice none 0 0] :: fs) := hS
              refine any_finE rfl (by decide) ?_
              refine any_end (by kernel_rfl) ?_
              refine np_n ?_
              refine then_n ?_
              have hS := hS.pickN 3 [2, 0, 1] (by decide)
              exact ⟨hF.weak [0, 4, 6, 7] (by kernel_rfl), hS, hm⟩
      · refine any_op (listed' := #[true, true, true, true, false, true, true, true, true, false, false]) (by kernel_rfl) (by kernel_rfl) ?_
        obtain ⟨w, hrun, hS⟩ := run_set1 (P := Try.prog) (t := 3) (x := 2) (Value.int .i64) (hS.at_ 1 rfl) hi3 hs3 rfl rfl hp2
        refine at_skip hF (by kernel_rfl) hrun ?_
        have hS : Sep w0 B w (blk g2 24 #[.int .i64 w1, .int .i64 h1, .slice A1 (Int.toNat (w64 (w1 * h1))) c1] :: own 3 (.slice A1 (Int.toNat (w64 (w1 * h1))) c1) (vI ((List.replicate (Int.toNat (w64 (w1 * h1))) (0 : Int)).set (Int.toNat (w64 ((w64 ((w64 ((w64 ((w64 (Int.tdiv h1 2)) - 1)) * w1)) + (w64 (Int.tdiv w1 2)))) - 1))) 2)) :: blk g1 24 #[.int .i64 0, .int .i64 0, .slice none 0 0] :: fs) := hS
        refine any_finE rfl (by decide) ?_
        refine any_step [4] (by kernel_rfl) rfl ?_
        refine (all_cons ?_ all_nil)
        · refine any_op (listed' := #[true, true, true, true, true, true, true, true, true, false, false]) (by kernel_rfl) (by kernel_rfl) ?_
          refine at_runW 1 [⟨false, [], vS (Instr.loadAt 22 (.pointer (some ⟨g2, 2, none⟩))), .slice A1 (Int.toNat (w64 (w1 * h1))) c1⟩] [some (.slice A1 (Int.toNat (w64 (w1 * h1))) c1)] [0, 4, 6, 7, 35, 37] [pl 0 (.int .i64 w1), pl 4 (.pointer (some ⟨g1, 0, none⟩)), pl 6 (.pointer (some ⟨g2, 0, none⟩)), pl 7 (.int .i64 (w64 ((w64 ((w64 ((w64 ((w64 (Int.tdiv h1 2)) - 1)) * w1)) + (w64 (Int.tdiv w1 2)))) - 1))), pl 35 (.slice A1 (Int.toNat (w64 (w1 * h1))) c1), pl 37 (.int .i64 (w64 ((w64 ((w64 ((w64 ((w64 ((w64 (Int.tdiv h1 2)) - 1)) * w1)) + (w64 (Int.tdiv w1 2)))) - 1)) + 1)))] hF hS (by kernel_rfl) (by kernel_rfl) ?_ (fun a hF => ?_)
          · exact obs_cons (ob_load Agg22 (fun _ _ hS => (hS.at_ 0 rfl).cell rfl)) <| obs_nil
          refine any_finI rfl (fun h => h) ?_
          refine any_step [9] (by kernel_rfl) rfl ?_
          refine (all_cons ?_ all_nil)
          · refine any_op (listed' := #[true, true, true, true, true, true, true, true, true, true, false]) (by kernel_rfl) (by kernel_rfl) ?_
            refine at_runW 1 [⟨true, [], vS (Instr.indexAt 22 (.slice A1 (Int.toNat (w64 (w1 * h1))) c1) (.int .i64 (w64 ((w64 ((w64 ((w64 ((w64 ((w64 (Int.tdiv h1 2)) - 1)) * w1)) + (w64 (Int.tdiv w1 2)))) - 1)) + 1)))), .pointer (some (sAddr A1 (w64 ((w64 ((w64 ((w64 ((w64 ((w64 (Int.tdiv h1 2)) - 1)) * w1)) + (w64 (Int.tdiv w1 2)))) - 1)) + 1))))⟩] [some (.pointer (some (sAddr A1 (w64 ((w64 ((w64 ((w64 ((w64 ((w64 (Int.tdiv h1 2)) - 1)) * w1)) + (w64 (Int.tdiv w1 2)))) - 1)) + 1)))))] [0, 4, 6, 7, 39] [pl 0 (.int .i64 w1), pl 4 (.pointer (some ⟨g1, 0, none⟩)), pl 6 (.pointer (some ⟨g2, 0, none⟩)), pl 7 (.int .i64 (w64 ((w64 ((w64 ((w64 ((w64 (Int.tdiv h1 2)) - 1)) * w1)) + (w64 (Int.tdiv w1 2)))) - 1))), pl 39 (.pointer (some (sAddr A1 (w64 ((w64 ((w64 ((w64 ((w64 ((w64 (Int.tdiv h1 2)) - 1)) * w1)) + (w64 (Int.tdiv w1 2)))) - 1)) + 1)))))] hF hS (by kernel_rfl) (by kernel_rfl) ?_ (fun a hF => ?_)
            · exact obs_cons (ob_ix1 (f := (Value.int .i64)) (m := ((List.replicate (Int.toNat (w64 (w1 * h1))) (0 : Int)).set (Int.toNat (w64 ((w64 ((w64 ((w64 ((w64 (Int.tdiv h1 2)) - 1)) * w1)) + (w64 (Int.tdiv w1 2)))) - 1))) 2)) Und22 hi3 hs3 (hS.at_ 1 rfl).rd ((hS.at_ 1 rfl).len1) (fun _ => hp3)) <| obs_nil
            refine any_finI rfl (fun h => h) ?_
            refine any_step [10] (by kernel_rfl) rfl ?_
            refine (all_cons ?_ all_nil)
            · refine any_op (listed' := #[true, true, true, true, true, true, true, true, true, true, true]) (by kernel_rfl) (by kernel_rfl) ?_
              obtain ⟨w, hrun, hS⟩ := run_set1 (P := Try.prog) (t := 3) (x := 1) (Value.int .i64) (hS.at_ 1 rfl) hi3 hs3 rfl rfl hp3
              refine at_skip hF (by kernel_rfl) hrun ?_
              have hS : Sep w0 B w (blk g2 24 #[.int .i64 w1, .int .i64 h1, .slice A1 (Int.toNat (w64 (w1 * h1))) c1] :: own 3 (.slice A1 (Int.toNat (w64 (w1 * h1))) c1) (vI (((List.replicate (Int.toNat (w64 (w1 * h1))) (0 : Int)).set (Int.toNat (w64 ((w64 ((w64 ((w64 ((w64 (Int.tdiv h1 2)) - 1)) * w1)) + (w64 (Int.tdiv w1 2)))) - 1))) 2).set (Int.toNat (w64 ((w64 ((w64 ((w64 ((w64 ((w64 (Int.tdiv h1 2)) - 1)) * w1)) + (w64 (Int.tdiv w1 2)))) - 1)) + 1))) 1)) :: blk g1 24 #[.int .i64 0, .int .i64 0, .slice none 0 0] :: fs) := hS
              refine any_finE rfl (by decide) ?_
              refine any_end (by kernel_rfl) ?_
              refine np_n ?_
              refine then_n ?_
              have hS := hS.pickN 3 [2, 0, 1] (by decide)
              exact ⟨hF.weak [0, 4, 6, 7] (by kernel_rfl), hS, hm⟩
  · obtain ⟨r1, hr1, hm⟩ := call_b hm
    obtain ⟨r2, hr2, hm⟩ := call_b hm
    refine reg [⟨false, [], callFunc 55 #[.int .i64 w1], .bool r1⟩, ⟨false, [(r1, false)], callFunc 55 #[.int .i64 h1], .bool r2⟩] [none, some (.bool r1), none, none, some (.bool r2), none] [0, 1, 4, 13] [pl 0 (.int .i64 w1), pl 1 (.int .i64 h1), pl 4 (.pointer (some ⟨g1, 0, none⟩)), pl 13 (.bool (r1 || r2))] hF hS Fol (by kernel_rfl) (by kernel_rfl) (by kernel_rfl) ?_ (fun a w hF hS => ?_)
    · exact obs_cons (ob_call Try.func55 (by kernel_rfl) rfl (fun _ _ hS => othello_odd_w hr1 hS )) <| obs_cons (ob_call Try.func55 (by kernel_rfl) rfl (fun hy _ hS => othello_odd_w (ite_some hr2 (by rw [show r1 = false from hy (r1, false) (by simp)]; try rfl)) hS )) <| obs_nil
    refine cond_ev (t := 13) (b := r1 || r2) hF (by kernel_rfl) (fun hb => ?_) (fun hb => ?_)
    · replace hm := if_t hm hb
      refine seqR ?_
      refine at_run 1 [] [] [4, 14] [pl 4 (.pointer (some ⟨g1, 0, none⟩)), pl 14 (.agg #[.int .i64 0, .int .i64 0, .slice none 0 0])] hF hS (by kernel_rfl) (by kernel_rfl) ?_ (fun a w hF hS => ?_)
      · exact obs_nil
      obtain ⟨w, hrun, hS⟩ := run_putA (P := Try.prog) (t := 24) (us := #[.int .i64 0, .int .i64 0, .slice none 0 0]) (o := 0) (hS.at_ 0 rfl) (by kernel_rfl) (all_one (by kernel_rfl)) (Nat.le_of_ble_eq_true (by kernel_rfl))
      refine at_skip hF (by kernel_rfl) hrun ?_
      have hS : Sep w0 B w (blk g1 24 #[.int .i64 0, .int .i64 0, .slice none 0 0] :: fs) := hS
      refine at_run 1 [] [] [4, 5] [pl 4 (.pointer (some ⟨g1, 0, none⟩)), pl 5 (.int .i64 3)] hF hS (by kernel_rfl) (by kernel_rfl) ?_ (fun a w hF hS => ?_)
      · exact obs_nil
      refine at_end [4, 5] [pl 4 (.pointer (some ⟨g1, 0, none⟩)), pl 5 (.int .i64 3)] hF rfl (by kernel_rfl) (fun hF => ?_)
      refine then_n ?_
      refine wp_ret ?_
      refine then_r ?_
      have hS : Sep w0 B w (own 3 (.slice none 0 0) (vI ([] : List Int)) :: blk g1 24 #[.int .i64 0, .int .i64 0, .slice none 0 0] :: fs) := hS.nil 3
      have hl1 := (hS.at_ 0 rfl).len1
      have hS := (hS.at_ 0 rfl).reN hl1
      have hS : Sep w0 B w (own 3 (.slice none (([] : List Int).length) 0) (vI ([] : List Int)) :: blk g1 24 #[.int .i64 0, .int .i64 0, .slice none 0 0] :: fs) := hS
      have hld0 := run_loadVarA (P := Try.prog) (t := 24) (cs := #[.int .i64 0, .int .i64 0, .slice none (([] : List Int).length) 0]) (by kernel_rfl) (by kernel_rfl) ((hS.at_ 1 rfl).cellsAt 0 (by rfl))
      have hS := hS.pickN 2 [0] (by decide)
      have hm : some (0, 0, ([] : List Int), 3) = some r := hm
      obtain rfl := Option.some.inj hm
      exact retV (rs := [.cell 4 24, .tmp 5]) (vs := [.agg #[.int .i64 0, .int .i64 0, .slice none (([] : List Int).length) 0], .int .i64 3]) hF rfl (rv_c (by kernel_rfl) hld0 <| rv_t (by kernel_rfl) <| rv_nil) rfl ⟨_, rfl, none, 0, rfl, hS⟩
    · replace hm := if_f hm hb
      refine wp_skip ?_
      refine then_n ?_
      exact ⟨hF.weak [0, 1, 4] (by kernel_rfl), hS, hm⟩

noncomputable def gameroomref_Ints_m (l1 : List Int) : Option (List Int) :=
  asrt ((0 : Int) + (l1.length : Int) ≤ bigN) <| some ([] ++ l1)

set_option maxRecDepth 100000 in
set_option maxHeartbeats 4000000 in
theorem gameroomref_Ints_w {A1 : Option Addr} {c1 : Nat} {n1 : Nat} {l1 : List Int} {r : (List Int)} {w0 w : World} {B : Nat} {fs : List HP} (hm : gameroomref_Ints_m l1 = some r) (hS : Sep w0 B w (fs)) (hr_l1 : RdF w0 B fs A1 (vI l1)) (_hc_l1 : l1.length ≤ c1) (_hn_l1 : n1 = l1.length) :
    Calls Try.prog 58 #[.slice A1 n1 c1] w fun e w' => ∃ v, e = .returned v ∧ ∃ (A3 : Option Addr) (c3 : Nat), v = .slice A3 r.length c3 ∧ Sep w0 B w' (own 3 (.slice A3 r.length c3) (vI r) :: fs) := by
  obtain ⟨i3, hi3, hz3, hs3, hb3⟩ := info_parts Info3
  obtain rfl := _hn_l1
  unfold gameroomref_Ints_m at hm
  replace hm := start_b hm
  refine enter (l := [.slice A1 l1.length c1]) (n := 5) Try.func58 rfl rfl (by simp) (fun a hF => ?_)
  refine reg [] [] [0] [pl 0 (.slice A1 l1.length c1)] hF hS Fol (by kernel_rfl) (by kernel_rfl) (by kernel_rfl) ?_ (fun a w hF hS => ?_)
  · exact obs_nil
  refine seqR ?_
  obtain ⟨hp1, hm⟩ := asrt_b hm
  refine at_run 1 [] [] [3] [pl 3 (.slice A1 l1.length c1)] hF hS (by kernel_rfl) (by kernel_rfl) ?_ (fun a w hF hS => ?_)
  · exact obs_nil
  have hS : Sep w0 B w (own 3 (.slice none 0 0) (vI ([] : List Int)) :: fs) := hS.nil 3
  obtain ⟨A2, c2, w, hrun, hS⟩ := run_app1 (P := Try.prog) (t := 22) (m := ([] : List Int)) (ys := l1) (A2 := A1) (m2 := l1.length) (c2 := c1) (Value.int .i64) (0 : Int) (hS.at_ 0 rfl) (hr_l1 _ (hS.dropN 1)) rfl 22 Und22 hi3 hz3 hs3 (by omega) rfl (fun _ => rfl) hp1
  have hS : Sep w0 B w (own 3 (.slice A2 (([] ++ l1).length) c2) (vI ([] ++ l1)) :: fs) := hS
  refine at_do (d := 4) hF (by kernel_rfl) (by kernel_rfl) hrun (fun a hF => ?_)
  refine at_run 1 [] [] [2] [pl 2 (.slice A2 (([] ++ l1).length) c2)] hF hS (by kernel_rfl) (by kernel_rfl) ?_ (fun a w hF hS => ?_)
  · exact obs_nil
  refine at_end [2] [pl 2 (.slice A2 (([] ++ l1).length) c2)] hF rfl (by kernel_rfl) (fun hF => ?_)
  refine then_n ?_
  refine wp_ret ?_
  have hm : some ([] ++ l1) = some r := hm
  obtain rfl := Option.some.inj hm
  exact retV (rs := [.tmp 2]) (vs := [.slice A2 (([] ++ l1).length) c2]) hF rfl (rv_t (by kernel_rfl) <| rv_nil) rfl ⟨_, rfl, A2, c2, rfl, hS⟩

noncomputable def gameroomref_GridOf_m (g1 : Int) (g2 : Int) (g3 : List Int) : Option (Int × Int × List Int) :=
  (gameroomref_Ints_m g3).bind fun r1 => some (g1, g2, r1)

set_option maxRecDepth 100000 in
set_option maxHeartbeats 4000000 in
theorem gameroomref_GridOf_w {g1 : Int} {g2 : Int} {A1 : Option Addr} {c1 : Nat} {n1 : Nat} {g3 : List Int} {r : (Int × Int × List Int)} {w0 w : World} {B : Nat} {fs : List HP} (hm : gameroomref_GridOf_m g1 g2 g3 = some r) (hS : Sep w0 B w (fs)) (hr_g3 : RdF w0 B fs A1 (vI g3)) (_hc_g3 : g3.length ≤ c1) (_hn_g3 : n1 = g3.length) :
    Calls Try.prog 13 #[.agg #[.int .i64 g1, .int .i64 g2, .slice A1 n1 c1]] w fun e w' => ∃ v, e = .returned v ∧ ∃ (A3 : Option Addr) (c3 : Nat), v = .agg #[.int .i64 r.1, .int .i64 r.2.1, .slice A3 r.2.2.length c3] ∧ Sep w0 B w' (own 3 (.slice A3 r.2.2.length c3) (vI r.2.2) :: fs) := by
  obtain ⟨i3, hi3, hz3, hs3, hb3⟩ := info_parts Info3
  obtain ⟨i22, hi22, hz22, hs22, hb22⟩ := info_parts Info22
  obtain rfl := _hn_g3
  unfold gameroomref_GridOf_m at hm
  replace hm := start_b hm
  refine enter (l := [.agg #[.int .i64 g1, .int .i64 g2, .slice A1 g3.length c1]]) (n := 8) Try.func13 rfl rfl (by simp) (fun a hF => ?_)
  refine seqR ?_
  refine at_do (d := 1) (s := vS (Instr.box 24 (.agg #[.int .i64 g1, .int .i64 g2, .slice A1 g3.length c1]))) (v := .pointer (some ⟨w.heap.size, 0, none⟩)) (w' := w.alloc (.cells #[.int .i64 g1, .int .i64 g2, .slice A1 g3.length c1] 24)) hF (by kernel_rfl) (by kernel_rfl) (by kernel_rfl) (fun a hF => ?_)
  have hS : Sep w0 B (w.alloc (.cells #[.int .i64 g1, .int .i64 g2, .slice A1 g3.length c1] 24)) (blk w.heap.size 24 #[.int .i64 g1, .int .i64 g2, .slice A1 g3.length c1] :: (fs)) := hS.box 24 #[.int .i64 g1, .int .i64 g2, .slice A1 g3.length c1]
  generalize w.heap.size = g4 at hF hS
  generalize w.alloc (.cells #[.int .i64 g1, .int .i64 g2, .slice A1 g3.length c1] 24) = w at hS ⊢
  refine at_do (d := 2) (s := vS (Instr.alloc 24 true (.tuple #[]))) (v := .pointer (some ⟨w.heap.size, 0, none⟩)) (w' := w.alloc (.cells #[.int .i64 0, .int .i64 0, .slice none 0 0] 24)) hF (by kernel_rfl) (by kernel_rfl) (by kernel_rfl) (fun a hF => ?_)
  have hS : Sep w0 B (w.alloc (.cells #[.int .i64 0, .int .i64 0, .slice none 0 0] 24)) (blk w.heap.size 24 #[.int .i64 0, .int .i64 0, .slice none 0 0] :: (blk g4 24 #[.int .i64 g1, .int .i64 g2, .slice A1 g3.length c1] :: fs)) := hS.box 24 #[.int .i64 0, .int .i64 0, .slice none 0 0]
  generalize w.heap.size = g5 at hF hS
  generalize w.alloc (.cells #[.int .i64 0, .int .i64 0, .slice none 0 0] 24) = w at hS ⊢
  refine at_end [1, 2] [pl 1 (.pointer (some ⟨g4, 0, none⟩)), pl 2 (.pointer (some ⟨g5, 0, none⟩))] hF rfl (by kernel_rfl) (fun hF => ?_)
  refine then_n ?_
  refine seqR ?_
  obtain ⟨r1, hr1, hm⟩ := call_b hm
  refine at_run 2 [⟨false, [], vS (Instr.loadAt 22 (.pointer (some ⟨g4, 2, none⟩))), .slice A1 g3.length c1⟩] [none, some (.slice A1 g3.length c1)] [1, 2, 4] [pl 1 (.pointer (some ⟨g4, 0, none⟩)), pl 2 (.pointer (some ⟨g5, 0, none⟩)), pl 4 (.slice A1 g3.length c1)] hF hS (by kernel_rfl) (by kernel_rfl) ?_ (fun a w hF hS => ?_)
  · exact obs_cons (ob_load Agg22 (fun _ _ hS => (hS.at_ 1 rfl).cell rfl)) <| obs_nil
  refine at_call (f := 58) (args := #[.slice A1 g3.length c1]) (d := 5) hF (by kernel_rfl) (by kernel_rfl) Try.func58 (by kernel_rfl) rfl (gameroomref_Ints_w hr1 hS (fun _ hS => (hr_g3 _ (hS.dropN 2))) _hc_g3 rfl) (fun v a w hR hF => ?_)
  clear hS
  obtain ⟨A2, c2, rfl, hS⟩ := hR
  have hS : Sep w0 B w (own 3 (.slice A2 r1.length c2) (vI r1) :: blk g5 24 #[.int .i64 0, .int .i64 0, .slice none 0 0] :: blk g4 24 #[.int .i64 g1, .int .i64 g2, .slice A1 g3.length c1] :: fs) := hS
  refine at_run 1 [] [] [1, 2, 5, 6] [pl 1 (.pointer (some ⟨g4, 0, none⟩)), pl 2 (.pointer (some ⟨g5, 0, none⟩)), pl 5 (.slice A2 r1.length c2), pl 6 (.pointer (some ⟨g4, 2, none⟩))] hF hS (by kernel_rfl) (by kernel_rfl) ?_ (fun a w hF hS => ?_)
  · exact obs_nil
  obtain ⟨w, hrun, hS⟩ := run_put (P := Try.prog) (t := 22) (u := .slice A2 r1.length c2) (i := 2) (hS.at_ 2 rfl) hi22 hs22 rfl (Nat.lt_of_lt_of_eq (Nat.lt_of_succ_le (Nat.le_of_ble_eq_true (by kernel_rfl))) rfl)
  refine at_skip hF (by kernel_rfl) hrun ?_
  have hS : Sep w0 B w (own 3 (.slice A2 r1.length c2) (vI r1) :: blk g5 24 #[.int .i64 0, .int .i64 0, .slice none 0 0] :: blk g4 24 #[.int .i64 g1, .int .i64 g2, .slice A2 r1.length c2] :: fs) := hS
  refine at_end [1, 2] [pl 1 (.pointer (some ⟨g4, 0, none⟩)), pl 2 (.pointer (some ⟨g5, 0, none⟩))] hF rfl (by kernel_rfl) (fun hF => ?_)
  refine then_n ?_
  refine seqR ?_
  refine at_run 1 [⟨false, [], vS (Instr.loadAt 24 (.pointer (some ⟨g4, 0, none⟩))), .agg #[.int .i64 g1, .int .i64 g2, .slice A2 r1.length c2]⟩] [some (.agg #[.int .i64 g1, .int .i64 g2, .slice A2 r1.length c2])] [2, 7] [pl 2 (.pointer (some ⟨g5, 0, none⟩)), pl 7 (.agg #[.int .i64 g1, .int .i64 g2, .slice A2 r1.length c2])] hF hS (by kernel_rfl) (by kernel_rfl) ?_ (fun a w hF hS => ?_)
  · exact obs_cons (ob_loadA (cs := #[.int .i64 g1, .int .i64 g2, .slice A2 r1.length c2]) (by kernel_rfl) (by kernel_rfl) (fun _ _ hS => (hS.at_ 2 rfl).cellsAt 0 (by rfl))) <| obs_nil
  obtain ⟨w, hrun, hS⟩ := run_putA (P := Try.prog) (t := 24) (us := #[.int .i64 g1, .int .i64 g2, .slice A2 r1.length c2]) (o := 0) (hS.at_ 1 rfl) (by kernel_rfl) (all_one (by kernel_rfl)) (Nat.le_of_ble_eq_true (by kernel_rfl))
  refine at_skip hF (by kernel_rfl) hrun ?_
  have hS : Sep w0 B w (own 3 (.slice A2 r1.length c2) (vI r1) :: blk g5 24 #[.int .i64 g1, .int .i64 g2, .slice A2 r1.length c2] :: blk g4 24 #[.int .i64 g1, .int .i64 g2, .slice A2 r1.length c2] :: fs) := hS
  refine at_end [2] [pl 2 (.pointer (some ⟨g5, 0, none⟩))] hF rfl (by kernel_rfl) (fun hF => ?_)
  refine then_n ?_
  refine wp_ret ?_
  have hld0 := run_loadVarA (P := Try.prog) (t := 24) (cs := #[.int .i64 g1, .int .i64 g2, .slice A2 r1.length c2]) (by kernel_rfl) (by kernel_rfl) ((hS.at_ 1 rfl).cellsAt 0 (by rfl))
  have hS := hS.pickN 3 [0] (by decide)
  have hm : some (g1, g2, r1) = some r := hm
  obtain rfl := Option.some.inj hm
  exact retV (rs := [.cell 2 24]) (vs := [.agg #[.int .i64 g1, .int .i64 g2, .slice A2 r1.length c2]]) hF rfl (rv_c (by kernel_rfl) hld0 <| rv_nil) rfl ⟨_, rfl, A2, c2, rfl, hS⟩

noncomputable def rows_May_1_m (c1 : Int) : Option Bool :=
  some ((decide (c1 < 0)) || (decide ((2 : Int) < c1)))

set_option maxRecDepth 100000 in
set_option maxHeartbeats 4000000 in
theorem rows_May_1_w {c1 : Int} {r : Bool} {w0 w : World} {B : Nat} {fs : List HP} (hm : rows_May_1_m c1 = some r) (hS : Sep w0 B w (fs)) :
    Calls Try.prog 132 #[.int .i64 c1] w fun e w' => e = .returned (.bool r) ∧ Sep w0 B w' (fs) := by
  unfold rows_May_1_m at hm
  replace hm := start_b hm
  refine enter (l := [.int .i64 c1]) (n := 9) Try.func132 rfl rfl (by simp) (fun a hF => ?_)
  refine reg [] [] [0] [pl 0 (.int .i64 c1)] hF hS Fol (by kernel_rfl) (by kernel_rfl) (by kernel_rfl) ?_ (fun a w hF hS => ?_)
  · exact obs_nil
  refine reg [] [] [2] [pl 2 (.bool ((decide (c1 < 0)) || (decide ((2 : Int) < c1))))] hF hS Fol (by kernel_rfl) (by kernel_rfl) (by kernel_rfl) ?_ (fun a w hF hS => ?_)
  · exact obs_nil
  refine wp_ret ?_
  have hm : some ((decide (c1 < 0)) || (decide ((2 : Int) < c1))) = some r := hm
  obtain rfl := Option.some.inj hm
  exact retV (rs := [.tmp 2]) (vs := [.bool ((decide (c1 < 0)) || (decide ((2 : Int) < c1)))]) hF rfl (rv_t (by kernel_rfl) <| rv_nil) rfl ⟨rfl, hS⟩

noncomputable def slices_IndexFunc_J3 (z1 : Int) : Option (St Int (Fl Unit Int)) :=
  some (.next (w64 (z1 + 1)))

noncomputable def slices_IndexFunc_J2 (s1 : List Int) (z1 : Int) : Option (St Int (Fl Unit Int)) :=
  asrt (0 ≤ z1 ∧ z1 < (s1.length : Int)) <| (rows_May_1_m (geti s1 z1)).bind fun r1 => if r1 then (some (.done (.ret z1))) else ((slices_IndexFunc_J3 z1))

noncomputable def slices_IndexFunc_J1 : Option Int :=
  some (-1)

noncomputable def slices_IndexFunc_K1 : (Fl Unit Int) → Option Int :=
  fun (x : (Fl Unit Int)) => match x with | .go _ => slices_IndexFunc_J1 | .ret x => some x

noncomputable def slices_IndexFunc_L1 (s1 : List Int) : Int → Option (St Int (Fl Unit Int)) :=
  fun (x : Int) => match x with | z1 => if (decide (z1 < (s1.length : Int))) then ((slices_IndexFunc_J2 s1 z1)) else (some (.done (.go ())))

noncomputable def slices_IndexFunc_m (s1 : List Int) : Option Int :=
  (loop (slices_IndexFunc_L1 s1) 0).bind slices_IndexFunc_K1

set_option maxRecDepth 100000 in
set_option maxHeartbeats 4000000 in
theorem slices_IndexFunc_w {A1 : Option Addr} {c1 : Nat} {n1 : Nat} {s1 : List Int} {r : Int} {w0 w : World} {B : Nat} {fs : List HP} (hm : slices_IndexFunc_m s1 = some r) (hS : Sep w0 B w (fs)) (hr_s1 : RdF w0 B fs A1 (vI s1)) (_hc_s1 : s1.length ≤ c1) (_hn_s1 : n1 = s1.length) :
    Calls Try.prog 123 #[.slice A1 n1 c1, .func (.func 132) #[] #[]] w fun e w' => e = .returned (.int .i64 r) ∧ Sep w0 B w' (fs) := by
  obtain ⟨i3, hi3, hz3, hs3, hb3⟩ := info_parts Info3
  obtain rfl := _hn_s1
  unfold slices_IndexFunc_m at hm
  replace hm := start_b hm
  refine enter (l := [.slice A1 s1.length c1, .func (.func 132) #[] #[]]) (n := 19) Try.func123 rfl rfl (by simp) (fun a hF => ?_)
  refine reg [] [] [0, 1] [pl 0 (.slice A1 s1.length c1), pl 1 (.func (.func 132) #[] #[])] hF hS Fol (by kernel_rfl) (by kernel_rfl) (by kernel_rfl) ?_ (fun a w hF hS => ?_)
  · exact obs_nil
  refine seq_cut (fun a w => Fr 19 [] a ∧ Sep w0 B w (fs) ∧ (slices_IndexFunc_J1).bind some = some r) ?_ ?_
  · rintro a w ⟨hF, hS, hm⟩
    unfold slices_IndexFunc_J1 at hm
    refine reg [] [] [4] [pl 4 (.int .i64 (-1))] hF hS Fol (by kernel_rfl) (by kernel_rfl) (by kernel_rfl) ?_ (fun a w hF hS => ?_)
    · exact obs_nil
    refine wp_ret ?_
    have hm : some (-1) = some r := hm
    obtain rfl := Option.some.inj hm
    exact retV (rs := [.tmp 4]) (vs := [.int .i64 (-1)]) hF rfl (rv_t (by kernel_rfl) <| rv_nil) rfl ⟨rfl, hS⟩
  · refine reg [] [] [0, 1, 7, 8] [pl 0 (.slice A1 s1.length c1), pl 1 (.func (.func 132) #[] #[]), pl 7 (.int .i64 (s1.length : Int)), pl 8 (.int .i64 0)] hF hS Fol (by kernel_rfl) (by kernel_rfl) (by kernel_rfl) ?_ (fun a w hF hS => ?_)
    · exact obs_nil
    refine wp_block ?_
    refine wp_loop_model (S := Int) (R := (Fl Unit Int)) (slices_IndexFunc_L1 s1) (fun x => (slices_IndexFunc_K1 x).bind some) r (fun (x : Int) a w => Fr 19 [pl 0 (.slice A1 s1.length c1), pl 1 (.func (.func 132) #[] #[]), pl 7 (.int .i64 (s1.length : Int)), pl 8 (.int .i64 x)] a ∧ Sep w0 B w (fs)) (assoc_b hm) ⟨hF.weak [0, 1, 7, 8] (by kernel_rfl), hS⟩ ?_
    clear hF hS hm
    rintro nn1 z1 a w ⟨hF, hS⟩ hm
    generalize hφ1 : stK (slices_IndexFunc_L1 s1) nn1 (fun x => (slices_IndexFunc_K1 x).bind some) = φ1 at hm
    unfold slices_IndexFunc_L1 at hm
    dsimp only at hm
    refine reg [] [] [0, 1, 7, 8, 9] [pl 0 (.slice A1 s1.length c1), pl 1 (.func (.func 132) #[] #[]), pl 7 (.int .i64 (s1.length : Int)), pl 8 (.int .i64 z1), pl 9 (.bool (decide (z1 < (s1.length : Int))))] hF hS Fol (by kernel_rfl) (by kernel_rfl) (by kernel_rfl) ?_ (fun a w hF hS => ?_)
    · exact obs_nil
    refine seq_cut (fun a w => Fr 19 [pl 0 (.slice A1 s1.length c1), pl 1 (.func (.func 132) #[] #[]), pl 7 (.int .i64 (s1.length : Int)), pl 8 (.int .i64 z1)] a ∧ Sep w0 B w (fs) ∧ ((slices_IndexFunc_J2 s1 z1)).bind φ1 = some r) ?_ ?_
    · rintro a w ⟨hF, hS, hm⟩
      unfold slices_IndexFunc_J2 at hm
      refine seq_cut (fun a w => Fr 19 [pl 0 (.slice A1 s1.length c1), pl 1 (.func (.func 132) #[] #[]), pl 7 (.int .i64 (s1.length : Int)), pl 8 (.int .i64 z1)] a ∧ Sep w0 B w (fs) ∧ ((slices_IndexFunc_J3 z1)).bind φ1 = some r) ?_ ?_
      · rintro a w ⟨hF, hS, hm⟩
        unfold slices_IndexFunc_J3 at hm
        refine reg1 [] [] [0, 1, 7, 8] [pl 0 (.slice A1 s1.length c1), pl 1 (.func (.func 132) #[] #[]), pl 7 (.int .i64 (s1.length : Int)), pl 8 (.int .i64 (w64 (z1 + 1)))] hF hS Fol (by kernel_rfl) (by kernel_rfl) (by kernel_rfl) ?_ (fun a w hF hS => ?_)
        · exact obs_nil
        refine then_n ?_
        rw [← hφ1] at hm
        exact ⟨(w64 (z1 + 1)), ⟨hF.weak [0, 1, 7, 8] (by kernel_rfl), hS⟩, hm⟩
      · refine wp_block ?_
        refine reg [] [] [0, 1, 5, 7, 8] [pl 0 (.slice A1 s1.length c1), pl 1 (.func (.func 132) #[] #[]), pl 5 (.int .i64 z1), pl 7 (.int .i64 (s1.length : Int)), pl 8 (.int .i64 z1)] hF hS Fol (by kernel_rfl) (by kernel_rfl) (by kernel_rfl) ?_ (fun a w hF hS => ?_)
        · exact obs_nil
        obtain ⟨hp1, hm⟩ := asrt_b hm
        obtain ⟨r1, hr1, hm⟩ := call_b hm
        refine reg [⟨true, [], vS (Instr.indexAt 22 (.slice A1 s1.length c1) (.int .i64 z1)), .pointer (some (sAddr A1 z1))⟩, ⟨false, [], vS (Instr.loadAt 3 (.pointer (some (sAddr A1 z1)))), .int .i64 (geti s1 z1)⟩, ⟨false, [], callFunc 132 #[.int .i64 (geti s1 z1)], .bool r1⟩] [none, none, none, some (.pointer (some (sAddr A1 z1))), some (.int .i64 (geti s1 z1)), some (.bool r1)] [0, 1, 5, 7, 8, 16] [pl 0 (.slice A1 s1.length c1), pl 1 (.func (.func 132) #[] #[]), pl 5 (.int .i64 z1), pl 7 (.int .i64 (s1.length : Int)), pl 8 (.int .i64 z1), pl 16 (.bool r1)] hF hS Fol (by kernel_rfl) (by kernel_rfl) (by kernel_rfl) ?_ (fun a w hF hS => ?_)
        · exact obs_cons (ob_ix1 (f := (Value.int .i64)) (m := s1) Und22 hi3 hs3 (hr_s1 _ (hS.dropN 0)) rfl (fun _ => hp1)) <| obs_cons (ob_get1 (n := s1.length) (m := s1) (Value.int .i64) (0 : Int) Agg3 (fun _ hS => ⟨_, (hr_s1 _ (hS.dropN 0))⟩) (fun _ hS => rfl) (fun _ => hp1)) <| obs_cons (ob_call Try.func132 (by kernel_rfl) rfl (fun _ _ hS => rows_May_1_w hr1 hS )) <| obs_nil
        refine cond_ev (t := 16) (b := r1) hF (by kernel_rfl) (fun hb => ?_) (fun hb => ?_)
        · replace hm := if_t hm hb
          refine reg [] [] [4] [pl 4 (.int .i64 z1)] hF hS Fol (by kernel_rfl) (by kernel_rfl) (by kernel_rfl) ?_ (fun a w hF hS => ?_)
          · exact obs_nil
          refine wp_ret ?_
          refine block_r (then_r (then_r (block_r (then_r ?_))))
          rw [← hφ1] at hm
          replace hm := done_b hm
          unfold slices_IndexFunc_K1 at hm
          try dsimp only at hm
          have hm : some z1 = some r := hm
          obtain rfl := Option.some.inj hm
          exact retV (rs := [.tmp 4]) (vs := [.int .i64 z1]) hF rfl (rv_t (by kernel_rfl) <| rv_nil) rfl ⟨rfl, hS⟩
        · replace hm := if_f hm hb
          refine wp_skip ?_
          refine block_n ?_
          refine then_n ?_
          exact ⟨hF.weak [0, 1, 7, 8] (by kernel_rfl), hS, hm⟩
    · refine cond_ev (t := 9) (b := decide (z1 < (s1.length : Int))) hF (by kernel_rfl) (fun hb => ?_) (fun hb => ?_)
      · replace hm := if_t hm hb
        refine wp_skip ?_
        refine then_n ?_
        exact ⟨hF.weak [0, 1, 7, 8] (by kernel_rfl), hS, hm⟩
      · replace hm := if_f hm hb
        refine wp_exit ?_
        refine then_e (then_e (block_e (then_n ?_)))
        rw [← hφ1] at hm
        replace hm := done_b hm
        unfold slices_IndexFunc_K1 at hm
        try dsimp only at hm
        have hm : (slices_IndexFunc_J1).bind some = some r := hm
        exact ⟨hF.weak [] (by kernel_rfl), hS, hm⟩

noncomputable def slices_ContainsFunc_m (s1 : List Int) : Option Bool :=
  (slices_IndexFunc_m s1).bind fun r1 => some (decide ((0 : Int) ≤ r1))

set_option maxRecDepth 100000 in
set_option maxHeartbeats 4000000 in
theorem slices_ContainsFunc_w {A1 : Option Addr} {c1 : Nat} {n1 : Nat} {s1 : List Int} {r : Bool} {w0 w : World} {B : Nat} {fs : List HP} (hm : slices_ContainsFunc_m s1 = some r) (hS : Sep w0 B w (fs)) (hr_s1 : RdF w0 B fs A1 (vI s1)) (_hc_s1 : s1.length ≤ c1) (_hn_s1 : n1 = s1.length) :
    Calls Try.prog 94 #[.slice A1 n1 c1, .func (.func 132) #[] #[]] w fun e w' => e = .returned (.bool r) ∧ Sep w0 B w' (fs) := by
  obtain ⟨i3, hi3, hz3, hs3, hb3⟩ := info_parts Info3
  obtain rfl := _hn_s1
  unfold slices_ContainsFunc_m at hm
  replace hm := start_b hm
  refine enter (l := [.slice A1 s1.length c1, .func (.func 132) #[] #[]]) (n := 9) Try.func94 rfl rfl (by simp) (fun a hF => ?_)
  refine reg [] [] [0, 1] [pl 0 (.slice A1 s1.length c1), pl 1 (.func (.func 132) #[] #[])] hF hS Fol (by kernel_rfl) (by kernel_rfl) (by kernel_rfl) ?_ (fun a w hF hS => ?_)
  · exact obs_nil
  obtain ⟨r1, hr1, hm⟩ := call_b hm
  refine reg [⟨false, [], callFunc 123 #[.slice A1 s1.length c1, .func (.func 132) #[] #[]], .int .i64 r1⟩] [none, none, some (.int .i64 r1), none, none] [4] [pl 4 (.bool (decide ((0 : Int) ≤ r1)))] hF hS Fol (by kernel_rfl) (by kernel_rfl) (by kernel_rfl) ?_ (fun a w hF hS => ?_)
  · exact obs_cons (ob_call Try.func123 (by kernel_rfl) rfl (fun _ _ hS => slices_IndexFunc_w hr1 hS (fun _ hS => (hr_s1 _ (hS.dropN 0))) _hc_s1 rfl)) <| obs_nil
  refine wp_ret ?_
  have hm : some (decide ((0 : Int) ≤ r1)) = some r := hm
  obtain rfl := Option.some.inj hm
  exact retV (rs := [.tmp 4]) (vs := [.bool (decide ((0 : Int) ≤ r1))]) hF rfl (rv_t (by kernel_rfl) <| rv_nil) rfl ⟨rfl, hS⟩

noncomputable def rows_May_m (g1 : Int) (g2 : Int) (g3 : List Int) : Option Bool :=
  ((if (((((decide ((1 : Int) ≤ g1)) && (decide (g1 ≤ 10))) && (decide ((1 : Int) ≤ g2))) && (decide (g2 ≤ 10))) && ((g3.length : Int) == (w64 (g1 * g2)))) then slices_ContainsFunc_m g3 else some false)).bind fun r1 => some ((((((decide ((1 : Int) ≤ g1)) && (decide (g1 ≤ 10))) && (decide ((1 : Int) ≤ g2))) && (decide (g2 ≤ 10))) && ((g3.length : Int) == (w64 (g1 * g2)))) && (!r1))

set_option maxRecDepth 100000 in
set_option maxHeartbeats 4000000 in
theorem rows_May_w {g1 : Int} {g2 : Int} {A1 : Option Addr} {c1 : Nat} {n1 : Nat} {g3 : List Int} {r : Bool} {w0 w : World} {B : Nat} {fs : List HP} (hm : rows_May_m g1 g2 g3 = some r) (hS : Sep w0 B w (fs)) (hr_g3 : RdF w0 B fs A1 (vI g3)) (_hc_g3 : g3.length ≤ c1) (_hn_g3 : n1 = g3.length) :
    Calls Try.prog 111 #[.agg #[.int .i64 g1, .int .i64 g2, .slice A1 n1 c1]] w fun e w' => e = .returned (.bool r) ∧ Sep w0 B w' (fs) := by
  obtain ⟨i3, hi3, hz3, hs3, hb3⟩ := info_parts Info3
  obtain rfl := _hn_g3
  unfold rows_May_m at hm
  replace hm := start_b hm
  refine enter (l := [.agg #[.int .i64 g1, .int .i64 g2, .slice A1 g3.length c1]]) (n := 38) Try.func111 rfl rfl (by simp) (fun a hF => ?_)
  refine seqR ?_
  refine at_do (d := 1) (s := vS (Instr.box 24 (.agg #[.int .i64 g1, .int .i64 g2, .slice A1 g3.length c1]))) (v := .pointer (some ⟨w.heap.size, 0, none⟩)) (w' := w.alloc (.cells #[.int .i64 g1, .int .i64 g2, .slice A1 g3.length c1] 24)) hF (by kernel_rfl) (by kernel_rfl) (by kernel_rfl) (fun a hF => ?_)
  have hS : Sep w0 B (w.alloc (.cells #[.int .i64 g1, .int .i64 g2, .slice A1 g3.length c1] 24)) (blk w.heap.size 24 #[.int .i64 g1, .int .i64 g2, .slice A1 g3.length c1] :: (fs)) := hS.box 24 #[.int .i64 g1, .int .i64 g2, .slice A1 g3.length c1]
  generalize w.heap.size = g4 at hF hS
  generalize w.alloc (.cells #[.int .i64 g1, .int .i64 g2, .slice A1 g3.length c1] 24) = w at hS ⊢
  refine at_run 1 [] [] [1] [pl 1 (.pointer (some ⟨g4, 0, none⟩))] hF hS (by kernel_rfl) (by kernel_rfl) ?_ (fun a w hF hS => ?_)
  · exact obs_nil
  refine at_end [1] [pl 1 (.pointer (some ⟨g4, 0, none⟩))] hF rfl (by kernel_rfl) (fun hF => ?_)
  refine then_n ?_
  obtain ⟨r1, hr1, hm⟩ := call_b hm
  refine reg [⟨false, [], vS (Instr.loadAt 3 (.pointer (some ⟨g4, 0, none⟩))), .int .i64 g1⟩, ⟨false, [(decide ((1 : Int) ≤ g1), true)], vS (Instr.loadAt 3 (.pointer (some ⟨g4, 0, none⟩))), .int .i64 g1⟩, ⟨false, [((decide ((1 : Int) ≤ g1)) && (decide (g1 ≤ 10)), true)], vS (Instr.loadAt 3 (.pointer (some ⟨g4, 1, none⟩))), .int .i64 g2⟩, ⟨false, [(((decide ((1 : Int) ≤ g1)) && (decide (g1 ≤ 10))) && (decide ((1 : Int) ≤ g2)), true)], vS (Instr.loadAt 3 (.pointer (some ⟨g4, 1, none⟩))), .int .i64 g2⟩, ⟨false, [((((decide ((1 : Int) ≤ g1)) && (decide (g1 ≤ 10))) && (decide ((1 : Int) ≤ g2))) && (decide (g2 ≤ 10)), true)], vS (Instr.loadAt 22 (.pointer (some ⟨g4, 2, none⟩))), .slice A1 g3.length c1⟩, ⟨false, [((((decide ((1 : Int) ≤ g1)) && (decide (g1 ≤ 10))) && (decide ((1 : Int) ≤ g2))) && (decide (g2 ≤ 10)), true)], vS (Instr.loadAt 3 (.pointer (some ⟨g4, 0, none⟩))), .int .i64 g1⟩, ⟨false, [((((decide ((1 : Int) ≤ g1)) && (decide (g1 ≤ 10))) && (decide ((1 : Int) ≤ g2))) && (decide (g2 ≤ 10)), true)], vS (Instr.loadAt 3 (.pointer (some ⟨g4, 1, none⟩))), .int .i64 g2⟩, ⟨false, [(((((decide ((1 : Int) ≤ g1)) && (decide (g1 ≤ 10))) && (decide ((1 : Int) ≤ g2))) && (decide (g2 ≤ 10))) && ((g3.length : Int) == (w64 (g1 * g2))), true)], vS (Instr.loadAt 22 (.pointer (some ⟨g4, 2, none⟩))), .slice A1 g3.length c1⟩, ⟨false, [(((((decide ((1 : Int) ≤ g1)) && (decide (g1 ≤ 10))) && (decide ((1 : Int) ≤ g2))) && (decide (g2 ≤ 10))) && ((g3.length : Int) == (w64 (g1 * g2))), true)], callFunc 94 #[.slice A1 g3.length c1, .func (.func 132) #[] #[]], .bool r1⟩] [none, some (.int .i64 g1), none, none, none, some (.int .i64 g1), none, none, none, none, some (.int .i64 g2), none, none, none, none, some (.int .i64 g2), none, none, none, none, some (.slice A1 g3.length c1), none, none, some (.int .i64 g1), none, some (.int .i64 g2), none, none, none, none, none, some (.slice A1 g3.length c1), some (.bool r1), none, none, none] [2] [pl 2 (.bool ((((((decide ((1 : Int) ≤ g1)) && (decide (g1 ≤ 10))) && (decide ((1 : Int) ≤ g2))) && (decide (g2 ≤ 10))) && ((g3.length : Int) == (w64 (g1 * g2)))) && (!r1)))] hF hS Fol (by kernel_rfl) (by kernel_rfl) (by kernel_rfl) ?_ (fun a w hF hS => ?_)
  · exact obs_cons (ob_load Agg3 (fun _ _ hS => (hS.at_ 0 rfl).cell rfl)) <| obs_cons (ob_load Agg3 (fun _ _ hS => (hS.at_ 0 rfl).cell rfl)) <| obs_cons (ob_load Agg3 (fun _ _ hS => (hS.at_ 0 rfl).cell rfl)) <| obs_cons (ob_load Agg3 (fun _ _ hS => (hS.at_ 0 rfl).cell rfl)) <| obs_cons (ob_load Agg22 (fun _ _ hS => (hS.at_ 0 rfl).cell rfl)) <| obs_cons (ob_load Agg3 (fun _ _ hS => (hS.at_ 0 rfl).cell rfl)) <| obs_cons (ob_load Agg3 (fun _ _ hS => (hS.at_ 0 rfl).cell rfl)) <| obs_cons (ob_load Agg22 (fun _ _ hS => (hS.at_ 0 rfl).cell rfl)) <| obs_cons (ob_call Try.func94 (by kernel_rfl) rfl (fun hy _ hS => slices_ContainsFunc_w (ite_some hr1 (by rw [show (((((decide ((1 : Int) ≤ g1)) && (decide (g1 ≤ 10))) && (decide ((1 : Int) ≤ g2))) && (decide (g2 ≤ 10))) && ((g3.length : Int) == (w64 (g1 * g2)))) = true from hy (((((decide ((1 : Int) ≤ g1)) && (decide (g1 ≤ 10))) && (decide ((1 : Int) ≤ g2))) && (decide (g2 ≤ 10))) && ((g3.length : Int) == (w64 (g1 * g2))), true) (by simp)]; try rfl)) hS (fun _ hS => (hr_g3 _ (hS.dropN 1))) _hc_g3 rfl)) <| obs_nil
  refine wp_ret ?_
  have hS := hS.pickN 1 [] (by decide)
  have hm : some ((((((decide ((1 : Int) ≤ g1)) && (decide (g1 ≤ 10))) && (decide ((1 : Int) ≤ g2))) && (decide (g2 ≤ 10))) && ((g3.length : Int) == (w64 (g1 * g2)))) && (!r1)) = some r := hm
  obtain rfl := Option.some.inj hm
  exact retV (rs := [.tmp 2]) (vs := [.bool ((((((decide ((1 : Int) ≤ g1)) && (decide (g1 ≤ 10))) && (decide ((1 : Int) ≤ g2))) && (decide (g2 ≤ 10))) && ((g3.length : Int) == (w64 (g1 * g2)))) && (!r1))]) hF rfl (rv_t (by kernel_rfl) <| rv_nil) rfl ⟨rfl, hS⟩

noncomputable def othello_check_J1 : Option Int :=
  some 0

noncomputable def othello_check_m (g1 : Int) (g2 : Int) (g3 : List Int) (who1 : Int) : Option Int :=
  (rows_May_m g1 g2 g3).bind fun r1 => ((if (!(!r1)) then othello_odd_m g1 else some false)).bind fun r2 => ((if (!((!r1) || r2)) then othello_odd_m g2 else some false)).bind fun r3 => if (((!r1) || r2) || r3) then (some 12) else (if ((who1 != 1) && (who1 != 2)) then (some 4) else (othello_check_J1))

set_option maxRecDepth 100000 in
set_option maxHeartbeats 4000000 in
theorem othello_check_w {g1 : Int} {g2 : Int} {A1 : Option Addr} {c1 : Nat} {n1 : Nat} {g3 : List Int} {who1 : Int} {r : Int} {w0 w : World} {B : Nat} {fs : List HP} (hm : othello_check_m g1 g2 g3 who1 = some r) (hS : Sep w0 B w (fs)) (hr_g3 : RdF w0 B fs A1 (vI g3)) (_hc_g3 : g3.length ≤ c1) (_hn_g3 : n1 = g3.length) :
    Calls Try.prog 56 #[.agg #[.int .i64 g1, .int .i64 g2, .slice A1 n1 c1], .int .i64 who1] w fun e w' => e = .returned (.int .i64 r) ∧ Sep w0 B w' (fs) := by
  obtain ⟨i3, hi3, hz3, hs3, hb3⟩ := info_parts Info3
  obtain rfl := _hn_g3
  unfold othello_check_m at hm
  replace hm := start_b hm
  refine enter (l := [.agg #[.int .i64 g1, .int .i64 g2, .slice A1 g3.length c1], .int .i64 who1]) (n := 26) Try.func56 rfl rfl (by simp) (fun a hF => ?_)
  refine seqR ?_
  refine at_do (d := 2) (s := vS (Instr.box 24 (.agg #[.int .i64 g1, .int .i64 g2, .slice A1 g3.length c1]))) (v := .pointer (some ⟨w.heap.size, 0, none⟩)) (w' := w.alloc (.cells #[.int .i64 g1, .int .i64 g2, .slice A1 g3.length c1] 24)) hF (by kernel_rfl) (by kernel_rfl) (by kernel_rfl) (fun a hF => ?_)
  have hS : Sep w0 B (w.alloc (.cells #[.int .i64 g1, .int .i64 g2, .slice A1 g3.length c1] 24)) (blk w.heap.size 24 #[.int .i64 g1, .int .i64 g2, .slice A1 g3.length c1] :: (fs)) := hS.box 24 #[.int .i64 g1, .int .i64 g2, .slice A1 g3.length c1]
  generalize w.heap.size = g4 at hF hS
  generalize w.alloc (.cells #[.int .i64 g1, .int .i64 g2, .slice A1 g3.length c1] 24) = w at hS ⊢
  refine at_run 1 [] [] [1, 2] [pl 1 (.int .i64 who1), pl 2 (.pointer (some ⟨g4, 0, none⟩))] hF hS (by kernel_rfl) (by kernel_rfl) ?_ (fun a w hF hS => ?_)
  · exact obs_nil
  refine at_end [1, 2] [pl 1 (.int .i64 who1), pl 2 (.pointer (some ⟨g4, 0, none⟩))] hF rfl (by kernel_rfl) (fun hF => ?_)
  refine then_n ?_
  refine seq_cut (fun a w => Fr 26 [] a ∧ Sep w0 B w (fs) ∧ (othello_check_J1).bind some = some r) ?_ ?_
  · rintro a w ⟨hF, hS, hm⟩
    unfold othello_check_J1 at hm
    refine reg [] [] [4] [pl 4 (.int .i64 0)] hF hS Fol (by kernel_rfl) (by kernel_rfl) (by kernel_rfl) ?_ (fun a w hF hS => ?_)
    · exact obs_nil
    refine wp_ret ?_
    have hm : some 0 = some r := hm
    obtain rfl := Option.some.inj hm
    exact retV (rs := [.tmp 4]) (vs := [.int .i64 0]) hF rfl (rv_t (by kernel_rfl) <| rv_nil) rfl ⟨rfl, hS⟩
  · refine wp_block ?_
    obtain ⟨r1, hr1, hm⟩ := call_b hm
    obtain ⟨r2, hr2, hm⟩ := call_b hm
    obtain ⟨r3, hr3, hm⟩ := call_b hm
    refine reg [⟨false, [], vS (Instr.loadAt 24 (.pointer (some ⟨g4, 0, none⟩))), .agg #[.int .i64 g1, .int .i64 g2, .slice A1 g3.length c1]⟩, ⟨false, [], callFunc 111 #[.agg #[.int .i64 g1, .int .i64 g2, .slice A1 g3.length c1]], .bool r1⟩, ⟨false, [(!r1, false)], vS (Instr.loadAt 3 (.pointer (some ⟨g4, 0, none⟩))), .int .i64 g1⟩, ⟨false, [(!r1, false)], callFunc 55 #[.int .i64 g1], .bool r2⟩, ⟨false, [((!r1) || r2, false)], vS (Instr.loadAt 3 (.pointer (some ⟨g4, 1, none⟩))), .int .i64 g2⟩, ⟨false, [((!r1) || r2, false)], callFunc 55 #[.int .i64 g2], .bool r3⟩] [some (.agg #[.int .i64 g1, .int .i64 g2, .slice A1 g3.length c1]), some (.bool r1), none, none, none, some (.int .i64 g1), some (.bool r2), none, none, none, some (.int .i64 g2), some (.bool r3), none, none] [1, 5] [pl 1 (.int .i64 who1), pl 5 (.bool (((!r1) || r2) || r3))] hF hS Fol (by kernel_rfl) (by kernel_rfl) (by kernel_rfl) ?_ (fun a w hF hS => ?_)
    · exact obs_cons (ob_loadA (cs := #[.int .i64 g1, .int .i64 g2, .slice A1 g3.length c1]) (by kernel_rfl) (by kernel_rfl) (fun _ _ hS => (hS.at_ 0 rfl).cellsAt 0 (by rfl))) <| obs_cons (ob_call Try.func111 (by kernel_rfl) rfl (fun _ _ hS => rows_May_w hr1 hS (fun _ hS => (hr_g3 _ (hS.dropN 1))) _hc_g3 rfl)) <| obs_cons (ob_load Agg3 (fun _ _ hS => (hS.at_ 0 rfl).cell rfl)) <| obs_cons (ob_call Try.func55 (by kernel_rfl) rfl (fun hy _ hS => othello_odd_w (ite_some hr2 (by rw [show (!r1) = false from hy (!r1, false) (by simp)]; try rfl)) hS )) <| obs_cons (ob_load Agg3 (fun _ _ hS => (hS.at_ 0 rfl).cell rfl)) <| obs_cons (ob_call Try.func55 (by kernel_rfl) rfl (fun hy _ hS => othello_odd_w (ite_some hr3 (by rw [show ((!r1) || r2) = false from hy ((!r1) || r2, false) (by simp)]; try rfl)) hS )) <| obs_nil
    refine cond_ev (t := 5) (b := ((!r1) || r2) || r3) hF (by kernel_rfl) (fun hb => ?_) (fun hb => ?_)
    · replace hm := if_t hm hb
      refine reg [] [] [4] [pl 4 (.int .i64 12)] hF hS Fol (by kernel_rfl) (by kernel_rfl) (by kernel_rfl) ?_ (fun a w hF hS => ?_)
      · exact obs_nil
      refine wp_ret ?_
      refine block_r (then_r ?_)
      have hS := hS.pickN 1 [] (by decide)
      have hm : some 12 = some r := hm
      obtain rfl := Option.some.inj hm
      exact retV (rs := [.tmp 4]) (vs := [.int .i64 12]) hF rfl (rv_t (by kernel_rfl) <| rv_nil) rfl ⟨rfl, hS⟩
    · replace hm := if_f hm hb
      refine reg [] [] [19] [pl 19 (.bool ((who1 != 1) && (who1 != 2)))] hF hS Fol (by kernel_rfl) (by kernel_rfl) (by kernel_rfl) ?_ (fun a w hF hS => ?_)
      · exact obs_nil
      refine cond_ev (t := 19) (b := (who1 != 1) && (who1 != 2)) hF (by kernel_rfl) (fun hb => ?_) (fun hb => ?_)
      · replace hm := if_t hm hb
        refine reg [] [] [4] [pl 4 (.int .i64 4)] hF hS Fol (by kernel_rfl) (by kernel_rfl) (by kernel_rfl) ?_ (fun a w hF hS => ?_)
        · exact obs_nil
        refine wp_ret ?_
        refine block_r (then_r ?_)
        have hS := hS.pickN 1 [] (by decide)
        have hm : some 4 = some r := hm
        obtain rfl := Option.some.inj hm
        exact retV (rs := [.tmp 4]) (vs := [.int .i64 4]) hF rfl (rv_t (by kernel_rfl) <| rv_nil) rfl ⟨rfl, hS⟩
      · replace hm := if_f hm hb
        refine wp_skip ?_
        refine block_n ?_
        refine then_n ?_
        have hS := hS.pickN 1 [] (by decide)
        exact ⟨hF.weak [] (by kernel_rfl), hS, hm⟩

noncomputable def othello_ways_m : Option (List Int) :=
  some ([1, 0, 1, 1, 0, 1, (-1), 1, (-1), 0, (-1), (-1), 0, (-1), 1, (-1)] : List Int)

set_option maxRecDepth 100000 in
set_option maxHeartbeats 4000000 in
theorem othello_ways_w  {r : (List Int)} {w0 w : World} {B : Nat} {fs : List HP} (hm : othello_ways_m = some r) (hS : Sep w0 B w (fs)) :
    Calls Try.prog 112 #[] w fun e w' => e = .returned (.agg (List.toArray (([] : List Value) ++ (arr1 (Value.int .i64) (0 : Int) 16 r ++ ([] : List Value))))) ∧ Sep w0 B w' (fs) := by
  unfold othello_ways_m at hm
  replace hm := start_b hm
  refine enter (l := []) (n := 10) Try.func112 rfl rfl (by simp) (fun a hF => ?_)
  refine seqR ?_
  refine at_do (d := 0) (s := vS (Instr.alloc 125 true (.tuple #[]))) (v := .pointer (some ⟨w.heap.size, 0, none⟩)) (w' := w.alloc (.cells (List.toArray (([] : List Value) ++ (arr1 (Value.int .i64) (0 : Int) 16 (List.replicate 16 (0 : Int)) ++ ([] : List Value)))) 125)) hF (by kernel_rfl) (by kernel_rfl) (by kernel_rfl) (fun a hF => ?_)
  have hS : Sep w0 B (w.alloc (.cells (List.toArray (([] : List Value) ++ (arr1 (Value.int .i64) (0 : Int) 16 (List.replicate 16 (0 : Int)) ++ ([] : List Value)))) 125)) (blk w.heap.size 125 (List.toArray (([] : List Value) ++ (arr1 (Value.int .i64) (0 : Int) 16 (List.replicate 16 (0 : Int)) ++ ([] : List Value)))) :: (fs)) := hS.box 125 (List.toArray (([] : List Value) ++ (arr1 (Value.int .i64) (0 : Int) 16 (List.replicate 16 (0 : Int)) ++ ([] : List Value))))
  generalize w.heap.size = g1 at hF hS
  generalize w.alloc (.cells (List.toArray (([] : List Value) ++ (arr1 (Value.int .i64) (0 : Int) 16 (List.replicate 16 (0 : Int)) ++ ([] : List Value)))) 125) = w at hS ⊢
  refine at_end [0] [pl 0 (.pointer (some ⟨g1, 0, none⟩))] hF rfl (by kernel_rfl) (fun hF => ?_)
  refine then_n ?_
  refine seqR ?_
  refine at_run 9 [] [] [0, 9] [pl 0 (.pointer (some ⟨g1, 0, none⟩)), pl 9 (.agg (List.toArray (([] : List Value) ++ (arr1 (Value.int .i64) (0 : Int) 16 ([1, 0, 1, 1, 0, 1, (-1), 1, (-1), 0, (-1), (-1), 0, (-1), 1, (-1)] : List Int) ++ ([] : List Value)))))] hF hS (by kernel_rfl) (by kernel_rfl) ?_ (fun a w hF hS => ?_)
  · exact obs_nil
  obtain ⟨w, hrun, hS⟩ := run_putA (P := Try.prog) (t := 125) (us := (List.toArray (([] : List Value) ++ (arr1 (Value.int .i64) (0 : Int) 16 ([1, 0, 1, 1, 0, 1, (-1), 1, (-1), 0, (-1), (-1), 0, (-1), 1, (-1)] : List Int) ++ ([] : List Value))))) (o := 0) (hS.at_ 0 rfl) (by kernel_rfl) (all_one (by kernel_rfl)) (Nat.le_of_ble_eq_true (by kernel_rfl))
  refine at_skip hF (by kernel_rfl) hrun ?_
  have hS : Sep w0 B w (blk g1 125 (List.toArray (([] : List Value) ++ (arr1 (Value.int .i64) (0 : Int) 16 ([1, 0, 1, 1, 0, 1, (-1), 1, (-1), 0, (-1), (-1), 0, (-1), 1, (-1)] : List Int) ++ ([] : List Value)))) :: fs) := hS
  refine at_end [0] [pl 0 (.pointer (some ⟨g1, 0, none⟩))] hF rfl (by kernel_rfl) (fun hF => ?_)
  refine then_n ?_
  refine wp_ret ?_
  have hld0 := run_loadVarA (P := Try.prog) (t := 125) (cs := (List.toArray (([] : List Value) ++ (arr1 (Value.int .i64) (0 : Int) 16 ([1, 0, 1, 1, 0, 1, (-1), 1, (-1), 0, (-1), (-1), 0, (-1), 1, (-1)] : List Int) ++ ([] : List Value))))) (by kernel_rfl) (by kernel_rfl) ((hS.at_ 0 rfl).cellsAt 0 (by rfl))
  have hS := hS.pickN 1 [] (by decide)
  have hm : some ([1, 0, 1, 1, 0, 1, (-1), 1, (-1), 0, (-1), (-1), 0, (-1), 1, (-1)] : List Int) = some r := hm
  obtain rfl := Option.some.inj hm
  exact retV (rs := [.cell 0 125]) (vs := [.agg (List.toArray (([] : List Value) ++ (arr1 (Value.int .i64) (0 : Int) 16 ([1, 0, 1, 1, 0, 1, (-1), 1, (-1), 0, (-1), (-1), 0, (-1), 1, (-1)] : List Int) ++ ([] : List Value))))]) hF rfl (rv_c (by kernel_rfl) hld0 <| rv_nil) rfl ⟨rfl, hS⟩

noncomputable def othello_turned_J7 (l4 : List Int) : Option (St (List Int × Int × Int) (List Int)) :=
  some (.done l4)

noncomputable def othello_turned_J6 (g1 : Int) (g3 : List Int) (who1 : Int) (r1 : (List Int)) (l1 : List Int) (z1 : Int) (line1 : List Int) (x1 : Int) (y1 : Int) : Option (St (List Int × Int × Int) (List Int)) :=
  asrt (0 ≤ (w64 ((w64 ((w64 (y1 + (geti r1 (z1 * 2 + 1)))) * g1)) + (w64 (x1 + (geti r1 (z1 * 2)))))) ∧ (w64 ((w64 ((w64 (y1 + (geti r1 (z1 * 2 + 1)))) * g1)) + (w64 (x1 + (geti r1 (z1 * 2)))))) < (g3.length : Int)) <| if ((geti g3 (w64 ((w64 ((w64 (y1 + (geti r1 (z1 * 2 + 1)))) * g1)) + (w64 (x1 + (geti r1 (z1 * 2))))))) == who1) then (asrt ((l1.length : Int) + (line1.length : Int) ≤ bigN) <| othello_turned_J7 (l1 ++ line1)) else (othello_turned_J7 l1)

noncomputable def othello_turned_J5 (g1 : Int) (g3 : List Int) (who1 : Int) (r1 : (List Int)) (l1 : List Int) (z1 : Int) (line1 : List Int) (x1 : Int) (y1 : Int) : Option (St (List Int × Int × Int) (List Int)) :=
  asrt (0 ≤ (w64 ((w64 ((w64 (y1 + (geti r1 (z1 * 2 + 1)))) * g1)) + (w64 (x1 + (geti r1 (z1 * 2)))))) ∧ (w64 ((w64 ((w64 (y1 + (geti r1 (z1 * 2 + 1)))) * g1)) + (w64 (x1 + (geti r1 (z1 * 2)))))) < (g3.length : Int)) <| if ((geti g3 (w64 ((w64 ((w64 (y1 + (geti r1 (z1 * 2 + 1)))) * g1)) + (w64 (x1 + (geti r1 (z1 * 2))))))) == (w64 (3 - who1))) then (asrt ((line1.length : Int) + 1 ≤ bigN) <| some (.next ((line1 ++ ([w64 ((w64 ((w64 (y1 + (geti r1 (z1 * 2 + 1)))) * g1)) + (w64 (x1 + (geti r1 (z1 * 2)))))] : List Int)), (w64 (x1 + (geti r1 (z1 * 2)))), (w64 (y1 + (geti r1 (z1 * 2 + 1))))))) else ((othello_turned_J6 g1 g3 who1 r1 l1 z1 line1 x1 y1))

noncomputable def othello_turned_J4 (z1 : Int) (l3 : List Int) : Option (St (List Int × Int) (List Int)) :=
  some (.next (l3, (w64 (z1 + 1))))

noncomputable def othello_turned_K2 (z1 : Int) : (List Int) → Option (St (List Int × Int) (List Int)) :=
  fun (x : (List Int)) => match x with | l3 => (othello_turned_J4 z1) l3

noncomputable def othello_turned_L2 (g1 : Int) (g2 : Int) (g3 : List Int) (who1 : Int) (r1 : (List Int)) (l1 : List Int) (z1 : Int) : (List Int × Int × Int) → Option (St (List Int × Int × Int) (List Int)) :=
  fun (x : (List Int × Int × Int)) => match x with | (line1, x1, y1) => if ((((decide ((w64 (x1 + (geti r1 (z1 * 2)))) < 0)) || (decide (g1 ≤ (w64 (x1 + (geti r1 (z1 * 2))))))) || (decide ((w64 (y1 + (geti r1 (z1 * 2 + 1)))) < 0))) || (decide (g2 ≤ (w64 (y1 + (geti r1 (z1 * 2 + 1))))))) then (some (.done l1)) else ((othello_turned_J5 g1 g3 who1 r1 l1 z1 line1 x1 y1))

noncomputable def othello_turned_J3 (g1 : Int) (g2 : Int) (g3 : List Int) (who1 : Int) (at1 : Int) (r1 : (List Int)) (l1 : List Int) (z1 : Int) : Option (St (List Int × Int) (List Int)) :=
  asrt (0 ≤ z1 ∧ z1 < 8) <| asrt (g1 ≠ (0 : Int)) <| asrt (g1 ≠ (0 : Int)) <| (loop (othello_turned_L2 g1 g2 g3 who1 r1 l1 z1) (([] : List Int), (Int.tmod at1 g1), (w64 (Int.tdiv at1 g1)))).bind (othello_turned_K2 z1)

noncomputable def othello_turned_J2 (l2 : List Int) : Option (List Int) :=
  some l2

noncomputable def othello_turned_K1 : (List Int) → Option (List Int) :=
  fun (x : (List Int)) => match x with | l2 => othello_turned_J2 l2

noncomputable def othello_turned_L1 (g1 : Int) (g2 : Int) (g3 : List Int) (who1 : Int) (at1 : Int) (r1 : (List Int)) : (List Int × Int) → Option (St (List Int × Int) (List Int)) :=
  fun (x : (List Int × Int)) => match x with | (l1, z1) => if (decide (z1 < 8)) then ((othello_turned_J3 g1 g2 g3 who1 at1 r1 l1 z1)) else (some (.done l1))

noncomputable def othello_turned_J1 (g1 : Int) (g2 : Int) (g3 : List Int) (who1 : Int) (at1 : Int) : Option (List Int) :=
  (othello_ways_m).bind fun r1 => (loop (othello_turned_L1 g1 g2 g3 who1 at1 r1) (([] : List Int), 0)).bind othello_turned_K1

noncomputable def othello_turned_m (g1 : Int) (g2 : Int) (g3 : List Int) (who1 : Int) (at1 : Int) : Option (List Int) :=
  asrt (0 ≤ at1 ∧ at1 < (g3.length : Int)) <| if ((geti g3 at1) != 0) then (some ([] : List Int)) else ((othello_turned_J1 g1 g2 g3 who1 at1))

set_option maxRecDepth 100000 in
set_option maxHeartbeats 4000000 in
theorem othello_turned_w {g1 : Int} {g2 : Int} {A1 : Option Addr} {c1 : Nat} {n1 : Nat} {g3 : List Int} {who1 : Int} {at1 : Int} {r : (List Int)} {w0 w : World} {B : Nat} {fs : List HP} (hm : othello_turned_m g1 g2 g3 who1 at1 = some r) (hS : Sep w0 B w (fs)) (hr_g3 : RdF w0 B fs A1 (vI g3)) (_hc_g3 : g3.length ≤ c1) (_hn_g3 : n1 = g3.length) :
    Calls Try.prog 59 #[.agg #[.int .i64 g1, .int .i64 g2, .slice A1 n1 c1], .int .i64 who1, .int .i64 at1] w fun e w' => ∃ v, e = .returned v ∧ ∃ (A9 : Option Addr) (c9 : Nat), v = .slice A9 r.length c9 ∧ Sep w0 B w' (own 3 (.slice A9 r.length c9) (vI r) :: fs) := by
  obtain ⟨i3, hi3, hz3, hs3, hb3⟩ := info_parts Info3
  obtain rfl := _hn_g3
  unfold othello_turned_m at hm
  replace hm := start_b hm
  refine enter (l := [.agg #[.int .i64 g1, .int .i64 g2, .slice A1 g3.length c1], .int .i64 who1, .int .i64 at1]) (n := 88) Try.func59 rfl rfl (by simp) (fun a hF => ?_)
  refine seqR ?_
  refine at_do (d := 3) (s := vS (Instr.box 24 (.agg #[.int .i64 g1, .int .i64 g2, .slice A1 g3.length c1]))) (v := .pointer (some ⟨w.heap.size, 0, none⟩)) (w' := w.alloc (.cells #[.int .i64 g1, .int .i64 g2, .slice A1 g3.length c1] 24)) hF (by kernel_rfl) (by kernel_rfl) (by kernel_rfl) (fun a hF => ?_)
  have hS : Sep w0 B (w.alloc (.cells #[.int .i64 g1, .int .i64 g2, .slice A1 g3.length c1] 24)) (blk w.heap.size 24 #[.int .i64 g1, .int .i64 g2, .slice A1 g3.length c1] :: (fs)) := hS.box 24 #[.int .i64 g1, .int .i64 g2, .slice A1 g3.length c1]
  generalize w.heap.size = g4 at hF hS
  generalize w.alloc (.cells #[.int .i64 g1, .int .i64 g2, .slice A1 g3.length c1] 24) = w at hS ⊢
  refine at_run 1 [] [] [1, 2, 3] [pl 1 (.int .i64 who1), pl 2 (.int .i64 at1), pl 3 (.pointer (some ⟨g4, 0, none⟩))] hF hS (by kernel_rfl) (by kernel_rfl) ?_ (fun a w hF hS => ?_)
  · exact obs_nil
  refine at_end [1, 2, 3] [pl 1 (.int .i64 who1), pl 2 (.int .i64 at1), pl 3 (.pointer (some ⟨g4, 0, none⟩))] hF rfl (by kernel_rfl) (fun hF => ?_)
  refine then_n ?_
  refine reg [] [] [1, 2, 3, 7] [pl 1 (.int .i64 who1), pl 2 (.int .i64 at1), pl 3 (.pointer (some ⟨g4, 0, none⟩)), pl 7 (.slice none 0 0)] hF hS Fol (by kernel_rfl) (by kernel_rfl) (by kernel_rfl) ?_ (fun a w hF hS => ?_)
  · exact obs_nil
  refine seq_cut (fun a w => Fr 88 [pl 1 (.int .i64 who1), pl 2 (.int .i64 at1), pl 3 (.pointer (some ⟨g4, 0, none⟩)), pl 7 (.slice none 0 0)] a ∧ Sep w0 B w (blk g4 24 #[.int .i64 g1, .int .i64 g2, .slice A1 g3.length c1] :: fs) ∧ ((othello_turned_J1 g1 g2 g3 who1 at1)).bind some = some r) ?_ ?_
  · rintro a w ⟨hF, hS, hm⟩
    unfold othello_turned_J1 at hm
    refine seq_cut (fun a w => ∃ (l2 : List Int) (A3 : Option Addr) (c3 : Nat), Fr 88 [pl 7 (.slice A3 l2.length c3)] a ∧ Sep w0 B w (own 3 (.slice A3 l2.length c3) (vI l2) :: fs) ∧ (othello_turned_J2 l2).bind some = some r) ?_ ?_
    · rintro a w ⟨l2, A3, c3, hF, hS, hm⟩
      unfold othello_turned_J2 at hm
      refine reg [] [] [6] [pl 6 (.slice A3 l2.length c3)] hF hS Fol (by kernel_rfl) (by kernel_rfl) (by kernel_rfl) ?_ (fun a w hF hS => ?_)
      · exact obs_nil
      refine wp_ret ?_
      have hm : some l2 = some r := hm
      obtain rfl := Option.some.inj hm
      exact retV (rs := [.tmp 6]) (vs := [.slice A3 l2.length c3]) hF rfl (rv_t (by kernel_rfl) <| rv_nil) rfl ⟨_, rfl, A3, c3, rfl, hS⟩
    · obtain ⟨r1, hr1, hm⟩ := call_b hm
      refine reg [⟨false, [], callFunc 112 #[], .agg (List.toArray (([] : List Value) ++ (arr1 (Value.int .i64) (0 : Int) 16 r1 ++ ([] : List Value))))⟩] [some (.agg (List.toArray (([] : List Value) ++ (arr1 (Value.int .i64) (0 : Int) 16 r1 ++ ([] : List Value))))), none] [1, 2, 3, 7, 20, 21] [pl 1 (.int .i64 who1), pl 2 (.int .i64 at1), pl 3 (.pointer (some ⟨g4, 0, none⟩)), pl 7 (.slice none 0 0), pl 20 (.agg (List.toArray (([] : List Value) ++ (arr1 (Value.int .i64) (0 : Int) 16 r1 ++ ([] : List Value))))), pl 21 (.int .i64 0)] hF hS Fol (by kernel_rfl) (by kernel_rfl) (by kernel_rfl) ?_ (fun a w hF hS => ?_)
      · exact obs_cons (ob_call Try.func112 (by kernel_rfl) rfl (fun _ _ hS => othello_ways_w hr1 hS )) <| obs_nil
      refine wp_block ?_
      have hS : Sep w0 B w (own 3 (.slice none 0 0) (vI ([] : List Int)) :: blk g4 24 #[.int .i64 g1, .int .i64 g2, .slice A1 g3.length c1] :: fs) := hS.nil 3
      have hl2 := (hS.at_ 0 rfl).len1
      have hS := (hS.at_ 0 rfl).reN hl2
      have hS : Sep w0 B w (own 3 (.slice none (([] : List Int).length) 0) (vI ([] : List Int)) :: blk g4 24 #[.int .i64 g1, .int .i64 g2, .slice A1 g3.length c1] :: fs) := hS
      have hF := hF.cast (t := 7) (v := .slice none 0 0) (v' := .slice none (([] : List Int).length) 0) rfl rfl (congrArg (fun k => Value.slice none k 0) hl2)
      have hS := hS.pickN 2 [1, 0] (by decide)
      refine wp_loop_model (S := (List Int × Int)) (R := (List Int)) (othello_turned_L1 g1 g2 g3 who1 at1 r1) (fun x => (othello_turned_K1 x).bind some) r (fun (x : (List Int × Int)) a w => ∃ (A2 : Option Addr) (c2 : Nat), Fr 88 [pl 1 (.int .i64 who1), pl 2 (.int .i64 at1), pl 3 (.pointer (some ⟨g4, 0, none⟩)), pl 7 (.slice A2 x.1.length c2), pl 20 (.agg (List.toArray (([] : List Value) ++ (arr1 (Value.int .i64) (0 : Int) 16 r1 ++ ([] : List Value))))), pl 21 (.int .i64 x.2)] a ∧ Sep w0 B w (blk g4 24 #[.int .i64 g1, .int .i64 g2, .slice A1 g3.length c1] :: own 3 (.slice A2 x.1.length c2) (vI x.1) :: fs)) (assoc_b hm) ⟨none, 0, hF.weak [1, 2, 3, 7, 20, 21] (by kernel_rfl), hS⟩ ?_
      clear hF hS hm
      rintro nn1 ⟨l1, z1⟩ a w ⟨A2, c2, hF, hS⟩ hm
      generalize hφ1 : stK (othello_turned_L1 g1 g2 g3 who1 at1 r1) nn1 (fun x => (othello_turned_K1 x).bind some) = φ1 at hm
      unfold othello_turned_L1 at hm
      dsimp only at hF hS hm
      refine reg [] [] [1, 2, 3, 7, 20, 21, 22] [pl 1 (.int .i64 who1), pl 2 (.int .i64 at1), pl 3 (.pointer (some ⟨g4, 0, none⟩)), pl 7 (.slice A2 l1.length c2), pl 20 (.agg (List.toArray (([] : List Value) ++ (arr1 (Value.int .i64) (0 : Int) 16 r1 ++ ([] : List Value))))), pl 21 (.int .i64 z1), pl 22 (.bool (decide (z1 < 8)))] hF hS Fol (by kernel_rfl) (by kernel_rfl) (by kernel_rfl) ?_ (fun a w hF hS => ?_)
      · exact obs_nil
      refine seq_cut (fun a w => Fr 88 [pl 1 (.int .i64 who1), pl 2 (.int .i64 at1), pl 3 (.pointer (some ⟨g4, 0, none⟩)), pl 7 (.slice A2 l1.length c2), pl 20 (.agg (List.toArray (([] : List Value) ++ (arr1 (Value.int .i64) (0 : Int) 16 r1 ++ ([] : List Value))))), pl 21 (.int .i64 z1)] a ∧ Sep w0 B w (blk g4 24 #[.int .i64 g1, .int .i64 g2, .slice A1 g3.length c1] :: own 3 (.slice A2 l1.length c2) (vI l1) :: fs) ∧ ((othello_turned_J3 g1 g2 g3 who1 at1 r1 l1 z1)).bind φ1 = some r) ?_ ?_
      · rintro a w ⟨hF, hS, hm⟩
        unfold othello_turned_J3 at hm
        refine seq_cut (fun a w => ∃ (l3 : List Int) (A5 : Option Addr) (c5 : Nat), Fr 88 [pl 1 (.int .i64 who1), pl 2 (.int .i64 at1), pl 3 (.pointer (some ⟨g4, 0, none⟩)), pl 7 (.slice A5 l3.length c5), pl 20 (.agg (List.toArray (([] : List Value) ++ (arr1 (Value.int .i64) (0 : Int) 16 r1 ++ ([] : List Value))))), pl 21 (.int .i64 z1)] a ∧ Sep w0 B w (blk g4 24 #[.int .i64 g1, .int .i64 g2, .slice A1 g3.length c1] :: own 3 (.slice A5 l3.length c5) (vI l3) :: fs) ∧ ((othello_turned_J4 z1) l3).bind φ1 = some r) ?_ ?_
        · rintro a w ⟨l3, A5, c5, hF, hS, hm⟩
          unfold othello_turned_J4 at hm
          refine reg1 [] [] [1, 2, 3, 7, 20, 21] [pl 1 (.int .i64 who1), pl 2 (.int .i64 at1), pl 3 (.pointer (some ⟨g4, 0, none⟩)), pl 7 (.slice A5 l3.length c5), pl 20 (.agg (List.toArray (([] : List Value) ++ (arr1 (Value.int .i64) (0 : Int) 16 r1 ++ ([] : List Value))))), pl 21 (.int .i64 (w64 (z1 + 1)))] hF hS Fol (by kernel_rfl) (by kernel_rfl) (by kernel_rfl) ?_ (fun a w hF hS => ?_)
          · exact obs_nil
          refine then_n ?_
          rw [← hφ1] at hm
          exact ⟨(l3, (w64 (z1 + 1))), ⟨A5, c5, hF.weak [1, 2, 3, 7, 20, 21] (by kernel_rfl), hS⟩, hm⟩
        · refine wp_block ?_
          refine seqR ?_
          obtain ⟨hp2, hm⟩ := asrt_b hm
          refine at_run 1 [⟨true, [], vS (Instr.index 125 (.agg (List.toArray (([] : List Value) ++ (arr1 (Value.int .i64) (0 : Int) 16 r1 ++ ([] : List Value))))) (.int .i64 z1)), .agg #[.int .i64 (geti r1 (z1 * 2)), .int .i64 (geti r1 (z1 * 2 + 1))]⟩] [some (.agg #[.int .i64 (geti r1 (z1 * 2)), .int .i64 (geti r1 (z1 * 2 + 1))])] [1, 2, 3, 7, 20, 21, 23] [pl 1 (.int .i64 who1), pl 2 (.int .i64 at1), pl 3 (.pointer (some ⟨g4, 0, none⟩)), pl 7 (.slice A2 l1.length c2), pl 20 (.agg (List.toArray (([] : List Value) ++ (arr1 (Value.int .i64) (0 : Int) 16 r1 ++ ([] : List Value))))), pl 21 (.int .i64 z1), pl 23 (.agg #[.int .i64 (geti r1 (z1 * 2)), .int .i64 (geti r1 (z1 * 2 + 1))])] hF hS (by kernel_rfl) (by kernel_rfl) ?_ (fun a w hF hS => ?_)
          · exact obs_cons (ob_idxP2 (f := (Value.int .i64)) (z := (0 : Int)) (m := r1) UndA125 (by kernel_rfl) (by kernel_rfl) rfl (fun _ => hp2)) <| obs_nil
          refine at_do (d := 9) (s := vS (Instr.alloc 124 true (.tuple #[]))) (v := .pointer (some ⟨w.heap.size, 0, none⟩)) (w' := w.alloc (.cells #[.int .i64 0, .int .i64 0] 124)) hF (by kernel_rfl) (by kernel_rfl) (by kernel_rfl) (fun a hF => ?_)
          have hS : Sep w0 B (w.alloc (.cells #[.int .i64 0, .int .i64 0] 124)) (blk w.heap.size 124 #[.int .i64 0, .int .i64 0] :: (blk g4 24 #[.int .i64 g1, .int .i64 g2, .slice A1 g3.length c1] :: own 3 (.slice A2 l1.length c2) (vI l1) :: fs)) := hS.box 124 #[.int .i64 0, .int .i64 0]
          generalize w.heap.size = g5 at hF hS
          generalize w.alloc (.cells #[.int .i64 0, .int .i64 0] 124) = w at hS ⊢
          obtain ⟨w, hrun, hS⟩ := run_putA (P := Try.prog) (t := 124) (us := #[.int .i64 (geti r1 (z1 * 2)), .int .i64 (geti r1 (z1 * 2 + 1))]) (o := 0) (hS.at_ 0 rfl) (by kernel_rfl) (all_one (by kernel_rfl)) (Nat.le_of_ble_eq_true (by kernel_rfl))
          refine at_skip hF (by kernel_rfl) hrun ?_
          have hS : Sep w0 B w (blk g5 124 #[.int .i64 (geti r1 (z1 * 2)), .int .i64 (geti r1 (z1 * 2 + 1))] :: blk g4 24 #[.int .i64 g1, .int .i64 g2, .slice A1 g3.length c1] :: own 3 (.slice A2 l1.length c2) (vI l1) :: fs) := hS
          refine at_end [1, 2, 3, 7, 9, 20, 21] [pl 1 (.int .i64 who1), pl 2 (.int .i64 at1), pl 3 (.pointer (some ⟨g4, 0, none⟩)), pl 7 (.slice A2 l1.length c2), pl 9 (.pointer (some ⟨g5, 0, none⟩)), pl 20 (.agg (List.toArray (([] : List Value) ++ (arr1 (Value.int .i64) (0 : Int) 16 r1 ++ ([] : List Value))))), pl 21 (.int .i64 z1)] hF rfl (by kernel_rfl) (fun hF => ?_)
          refine then_n ?_
          refine reg [] [] [1, 2, 3, 7, 9, 10, 20, 21] [pl 1 (.int .i64 who1), pl 2 (.int .i64 at1), pl 3 (.pointer (some ⟨g4, 0, none⟩)), pl 7 (.slice A2 l1.length c2), pl 9 (.pointer (some ⟨g5, 0, none⟩)), pl 10 (.slice none 0 0), pl 20 (.agg (List.toArray (([] : List Value) ++ (arr1 (Value.int .i64) (0 : Int) 16 r1 ++ ([] : List Value))))), pl 21 (.int .i64 z1)] hF hS Fol (by kernel_rfl) (by kernel_rfl) (by kernel_rfl) ?_ (fun a w hF hS => ?_)
          · exact obs_nil
          obtain ⟨hp3, hm⟩ := asrt_b hm
          obtain ⟨hp4, hm⟩ := asrt_b hm
          refine reg [⟨false, [], vS (Instr.loadAt 3 (.pointer (some ⟨g4, 0, none⟩))), .int .i64 g1⟩, ⟨true, [], vS (Op.intDiv .rem .i64 at1 g1), .int .i64 (Int.tmod at1 g1)⟩, ⟨false, [], vS (Instr.loadAt 3 (.pointer (some ⟨g4, 0, none⟩))), .int .i64 g1⟩, ⟨true, [], vS (Op.intDiv .quo .i64 at1 g1), .int .i64 (w64 (Int.tdiv at1 g1))⟩] [none, none, some (.int .i64 g1), some (.int .i64 (Int.tmod at1 g1)), none, none, some (.int .i64 g1), some (.int .i64 (w64 (Int.tdiv at1 g1))), none, none] [1, 2, 3, 7, 9, 10, 11, 12, 20, 21] [pl 1 (.int .i64 who1), pl 2 (.int .i64 at1), pl 3 (.pointer (some ⟨g4, 0, none⟩)), pl 7 (.slice A2 l1.length c2), pl 9 (.pointer (some ⟨g5, 0, none⟩)), pl 10 (.slice none 0 0), pl 11 (.int .i64 (Int.tmod at1 g1)), pl 12 (.int .i64 (w64 (Int.tdiv at1 g1))), pl 20 (.agg (List.toArray (([] : List Value) ++ (arr1 (Value.int .i64) (0 : Int) 16 r1 ++ ([] : List Value))))), pl 21 (.int .i64 z1)] hF hS Fol (by kernel_rfl) (by kernel_rfl) (by kernel_rfl) ?_ (fun a w hF hS => ?_)
          · exact obs_cons (ob_load Agg3 (fun _ _ hS => (hS.at_ 1 rfl).cell rfl)) <| obs_cons (ob_rem rfl (fun _ => hp3)) <| obs_cons (ob_load Agg3 (fun _ _ hS => (hS.at_ 1 rfl).cell rfl)) <| obs_cons (ob_quo rfl (fun _ => hp4)) <| obs_nil
          refine wp_block ?_
          have hS : Sep w0 B w (own 3 (.slice none 0 0) (vI ([] : List Int)) :: blk g5 124 #[.int .i64 (geti r1 (z1 * 2)), .int .i64 (geti r1 (z1 * 2 + 1))] :: blk g4 24 #[.int .i64 g1, .int .i64 g2, .slice A1 g3.length c1] :: own 3 (.slice A2 l1.length c2) (vI l1) :: fs) := hS.nil 3
          have hl3 := (hS.at_ 0 rfl).len1
          have hS := (hS.at_ 0 rfl).reN hl3
          have hS : Sep w0 B w (own 3 (.slice none (([] : List Int).length) 0) (vI ([] : List Int)) :: blk g5 124 #[.int .i64 (geti r1 (z1 * 2)), .int .i64 (geti r1 (z1 * 2 + 1))] :: blk g4 24 #[.int .i64 g1, .int .i64 g2, .slice A1 g3.length c1] :: own 3 (.slice A2 l1.length c2) (vI l1) :: fs) := hS
          have hF := hF.cast (t := 10) (v := .slice none 0 0) (v' := .slice none (([] : List Int).length) 0) rfl rfl (congrArg (fun k => Value.slice none k 0) hl3)
          have hS := hS.pickN 4 [2, 3, 1, 0] (by decide)
          refine wp_loop_model (S := (List Int × Int × Int)) (R := (List Int)) (othello_turned_L2 g1 g2 g3 who1 r1 l1 z1) (fun x => ((othello_turned_K2 z1) x).bind φ1) r (fun (x : (List Int × Int × Int)) a w => ∃ (A4 : Option Addr) (c4 : Nat), Fr 88 [pl 1 (.int .i64 who1), pl 2 (.int .i64 at1), pl 3 (.pointer (some ⟨g4, 0, none⟩)), pl 7 (.slice A2 l1.length c2), pl 9 (.pointer (some ⟨g5, 0, none⟩)), pl 10 (.slice A4 x.1.length c4), pl 11 (.int .i64 x.2.1), pl 12 (.int .i64 x.2.2), pl 20 (.agg (List.toArray (([] : List Value) ++ (arr1 (Value.int .i64) (0 : Int) 16 r1 ++ ([] : List Value))))), pl 21 (.int .i64 z1)] a ∧ Sep w0 B w (blk g4 24 #[.int .i64 g1, .int .i64 g2, .slice A1 g3.length c1] :: own 3 (.slice A2 l1.length c2) (vI l1) :: blk g5 124 #[.int .i64 (geti r1 (z1 * 2)), .int .i64 (geti r1 (z1 * 2 + 1))] :: own 3 (.slice A4 x.1.length c4) (vI x.1) :: fs)) (assoc_b hm) ⟨none, 0, hF.weak [1, 2, 3, 7, 9, 10, 11, 12, 20, 21] (by kernel_rfl), hS⟩ ?_
          clear hF hS hm
          rintro nn2 ⟨line1, x1, y1⟩ a w ⟨A4, c4, hF, hS⟩ hm
          generalize hφ2 : stK (othello_turned_L2 g1 g2 g3 who1 r1 l1 z1) nn2 (fun x => ((othello_turned_K2 z1) x).bind φ1) = φ2 at hm
          unfold othello_turned_L2 at hm
          dsimp only at hF hS hm
          refine wp_block ?_
          refine reg [⟨false, [], vS (Instr.loadAt 3 (.pointer (some ⟨g5, 0, none⟩))), .int .i64 (geti r1 (z1 * 2))⟩, ⟨false, [], vS (Instr.loadAt 3 (.pointer (some ⟨g5, 1, none⟩))), .int .i64 (geti r1 (z1 * 2 + 1))⟩] [none, none, some (.int .i64 (geti r1 (z1 * 2))), none, none, none, some (.int .i64 (geti r1 (z1 * 2 + 1))), none, none, none] [1, 2, 3, 7, 9, 10, 11, 12, 20, 21] [pl 1 (.int .i64 who1), pl 2 (.int .i64 at1), pl 3 (.pointer (some ⟨g4, 0, none⟩)), pl 7 (.slice A2 l1.length c2), pl 9 (.pointer (some ⟨g5, 0, none⟩)), pl 10 (.slice A4 line1.length c4), pl 11 (.int .i64 (w64 (x1 + (geti r1 (z1 * 2))))), pl 12 (.int .i64 (w64 (y1 + (geti r1 (z1 * 2 + 1))))), pl 20 (.agg (List.toArray (([] : List Value) ++ (arr1 (Value.int .i64) (0 : Int) 16 r1 ++ ([] : List Value))))), pl 21 (.int .i64 z1)] hF hS Fol (by kernel_rfl) (by kernel_rfl) (by kernel_rfl) ?_ (fun a w hF hS => ?_)
          · exact obs_cons (ob_load Agg3 (fun _ _ hS => (hS.at_ 2 rfl).cell rfl)) <| obs_cons (ob_load Agg3 (fun _ _ hS => (hS.at_ 2 rfl).cell rfl)) <| obs_nil
          refine seq_cut (fun a w => Fr 88 [pl 1 (.int .i64 who1), pl 2 (.int .i64 at1), pl 3 (.pointer (some ⟨g4, 0, none⟩)), pl 7 (.slice A2 l1.length c2), pl 9 (.pointer (some ⟨g5, 0, none⟩)), pl 10 (.slice A4 line1.length c4), pl 11 (.int .i64 (w64 (x1 + (geti r1 (z1 * 2))))), pl 12 (.int .i64 (w64 (y1 + (geti r1 (z1 * 2 + 1))))), pl 20 (.agg (List.toArray (([] : List Value) ++ (arr1 (Value.int .i64) (0 : Int) 16 r1 ++ ([] : List Value))))), pl 21 (.int .i64 z1)] a ∧ Sep w0 B w (blk g4 24 #[.int .i64 g1, .int .i64 g2, .slice A1 g3.length c1] :: own 3 (.slice A2 l1.length c2) (vI l1) :: blk g5 124 #[.int .i64 (geti r1 (z1 * 2)), .int .i64 (geti r1 (z1 * 2 + 1))] :: own 3 (.slice A4 line1.length c4) (vI line1) :: fs) ∧ ((othello_turned_J5 g1 g3 who1 r1 l1 z1 line1 x1 y1)).bind φ2 = some r) ?_ ?_
          · rintro a w ⟨hF, hS, hm⟩
            unfold othello_turned_J5 at hm
            refine reg [⟨false, [], vS (Instr.loadAt 3 (.pointer (some ⟨g4, 0, none⟩))), .int .i64 g1⟩] [none, none, some (.int .i64 g1), none, none, none, none] [1, 2, 3, 7, 9, 10, 11, 12, 13, 20, 21] [pl 1 (.int .i64 who1), pl 2 (.int .i64 at1), pl 3 (.pointer (some ⟨g4, 0, none⟩)), pl 7 (.slice A2 l1.length c2), pl 9 (.pointer (some ⟨g5, 0, none⟩)), pl 10 (.slice A4 line1.length c4), pl 11 (.int .i64 (w64 (x1 + (geti r1 (z1 * 2))))), pl 12 (.int .i64 (w64 (y1 + (geti r1 (z1 * 2 + 1))))), pl 13 (.int .i64 (w64 ((w64 ((w64 (y1 + (geti r1 (z1 * 2 + 1)))) * g1)) + (w64 (x1 + (geti r1 (z1 * 2))))))), pl 20 (.agg (List.toArray (([] : List Value) ++ (arr1 (Value.int .i64) (0 : Int) 16 r1 ++ ([] : List Value))))), pl 21 (.int .i64 z1)] hF hS Fol (by kernel_rfl) (by kernel_rfl) (by kernel_rfl) ?_ (fun a w hF hS => ?_)
            · exact obs_cons (ob_load Agg3 (fun _ _ hS => (hS.at_ 0 rfl).cell rfl)) <| obs_nil
            refine seq_cut (fun a w => Fr 88 [pl 1 (.int .i64 who1), pl 2 (.int .i64 at1), pl 3 (.pointer (some ⟨g4, 0, none⟩)), pl 7 (.slice A2 l1.length c2), pl 10 (.slice A4 line1.length c4), pl 13 (.int .i64 (w64 ((w64 ((w64 (y1 + (geti r1 (z1 * 2 + 1)))) * g1)) + (w64 (x1 + (geti r1 (z1 * 2))))))), pl 20 (.agg (List.toArray (([] : List Value) ++ (arr1 (Value.int .i64) (0 : Int) 16 r1 ++ ([] : List Value))))), pl 21 (.int .i64 z1)] a ∧ Sep w0 B w (blk g4 24 #[.int .i64 g1, .int .i64 g2, .slice A1 g3.length c1] :: own 3 (.slice A2 l1.length c2) (vI l1) :: own 3 (.slice A4 line1.length c4) (vI line1) :: fs) ∧ ((othello_turned_J6 g1 g3 who1 r1 l1 z1 line1 x1 y1)).bind φ2 = some r) ?_ ?_
            · rintro a w ⟨hF, hS, hm⟩
              unfold othello_turned_J6 at hm
              refine seq_cut (fun a w => ∃ (l4 : List Int) (A8 : Option Addr) (c8 : Nat), Fr 88 [pl 1 (.int .i64 who1), pl 2 (.int .i64 at1), pl 3 (.pointer (some ⟨g4, 0, none⟩)), pl 7 (.slice A8 l4.length c8), pl 20 (.agg (List.toArray (([] : List Value) ++ (arr1 (Value.int .i64) (0 : Int) 16 r1 ++ ([] : List Value))))), pl 21 (.int .i64 z1)] a ∧ Sep w0 B w (blk g4 24 #[.int .i64 g1, .int .i64 g2, .slice A1 g3.length c1] :: own 3 (.slice A8 l4.length c8) (vI l4) :: fs) ∧ (othello_turned_J7 l4).bind φ2 = some r) ?_ ?_
              · rintro a w ⟨l4, A8, c8, hF, hS, hm⟩
                unfold othello_turned_J7 at hm
                refine wp_exit ?_
                refine block_o rfl (then_e (block_e (block_n (then_n ?_))))
                rw [← hφ2] at hm
                replace hm := done_b hm
                unfold othello_turned_K2 at hm
                try dsimp only at hm
                have hm : ((othello_turned_J4 z1) l4).bind φ1 = some r := hm
                exact ⟨l4, A8, c8, hF.weak [1, 2, 3, 7, 20, 21] (by kernel_rfl), hS, hm⟩
              · obtain ⟨hp7, hm⟩ := asrt_b hm
                refine reg [⟨false, [], vS (Instr.loadAt 22 (.pointer (some ⟨g4, 2, none⟩))), .slice A1 g3.length c1⟩, ⟨true, [], vS (Instr.indexAt 22 (.slice A1 g3.length c1) (.int .i64 (w64 ((w64 ((w64 (y1 + (geti r1 (z1 * 2 + 1)))) * g1)) + (w64 (x1 + (geti r1 (z1 * 2)))))))), .pointer (some (sAddr A1 (w64 ((w64 ((w64 (y1 + (geti r1 (z1 * 2 + 1)))) * g1)) + (w64 (x1 + (geti r1 (z1 * 2))))))))⟩, ⟨false, [], vS (Instr.loadAt 3 (.pointer (some (sAddr A1 (w64 ((w64 ((w64 (y1 + (geti r1 (z1 * 2 + 1)))) * g1)) + (w64 (x1 + (geti r1 (z1 * 2)))))))))), .int .i64 (geti g3 (w64 ((w64 ((w64 (y1 + (geti r1 (z1 * 2 + 1)))) * g1)) + (w64 (x1 + (geti r1 (z1 * 2)))))))⟩] [none, some (.slice A1 g3.length c1), none, some (.pointer (some (sAddr A1 (w64 ((w64 ((w64 (y1 + (geti r1 (z1 * 2 + 1)))) * g1)) + (w64 (x1 + (geti r1 (z1 * 2))))))))), some (.int .i64 (geti g3 (w64 ((w64 ((w64 (y1 + (geti r1 (z1 * 2 + 1)))) * g1)) + (w64 (x1 + (geti r1 (z1 * 2)))))))), none, none] [1, 2, 3, 7, 10, 20, 21, 82] [pl 1 (.int .i64 who1), pl 2 (.int .i64 at1), pl 3 (.pointer (some ⟨g4, 0, none⟩)), pl 7 (.slice A2 l1.length c2), pl 10 (.slice A4 line1.length c4), pl 20 (.agg (List.toArray (([] : List Value) ++ (arr1 (Value.int .i64) (0 : Int) 16 r1 ++ ([] : List Value))))), pl 21 (.int .i64 z1), pl 82 (.bool ((geti g3 (w64 ((w64 ((w64 (y1 + (geti r1 (z1 * 2 + 1)))) * g1)) + (w64 (x1 + (geti r1 (z1 * 2))))))) == who1))] hF hS Fol (by kernel_rfl) (by kernel_rfl) (by kernel_rfl) ?_ (fun a w hF hS => ?_)
                · exact obs_cons (ob_load Agg22 (fun _ _ hS => (hS.at_ 0 rfl).cell rfl)) <| obs_cons (ob_ix1 (f := (Value.int .i64)) (m := g3) Und22 hi3 hs3 (hr_g3 _ (hS.dropN 3)) rfl (fun _ => hp7)) <| obs_cons (ob_get1 (n := g3.length) (m := g3) (Value.int .i64) (0 : Int) Agg3 (fun _ hS => ⟨_, (hr_g3 _ (hS.dropN 3))⟩) (fun _ hS => rfl) (fun _ => hp7)) <| obs_nil
                refine cond_ev (t := 82) (b := ((geti g3 (w64 ((w64 ((w64 (y1 + (geti r1 (z1 * 2 + 1)))) * g1)) + (w64 (x1 + (geti r1 (z1 * 2))))))) == who1)) hF (by kernel_rfl) (fun hb => ?_) (fun hb => ?_)
                · replace hm := if_t hm hb
                  refine oneR ?_
                  obtain ⟨hp8, hm⟩ := asrt_b hm
                  refine at_run 2 [] [] [1, 2, 3, 20, 21, 83, 84] [pl 1 (.int .i64 who1), pl 2 (.int .i64 at1), pl 3 (.pointer (some ⟨g4, 0, none⟩)), pl 20 (.agg (List.toArray (([] : List Value) ++ (arr1 (Value.int .i64) (0 : Int) 16 r1 ++ ([] : List Value))))), pl 21 (.int .i64 z1), pl 83 (.slice A2 l1.length c2), pl 84 (.slice A4 line1.length c4)] hF hS (by kernel_rfl) (by kernel_rfl) ?_ (fun a w hF hS => ?_)
                  · exact obs_nil
                  obtain ⟨A7, c7, w, hrun, hS⟩ := run_app1 (P := Try.prog) (t := 22) (m := l1) (ys := line1) (A2 := A4) (m2 := line1.length) (c2 := c4) (Value.int .i64) (0 : Int) (hS.at_ 1 rfl) (hS.at_ 2 rfl).rd rfl 22 Und22 hi3 hz3 hs3 (by omega) rfl (fun _ => rfl) hp8
                  have hS : Sep w0 B w (blk g4 24 #[.int .i64 g1, .int .i64 g2, .slice A1 g3.length c1] :: own 3 (.slice A7 ((l1 ++ line1).length) c7) (vI (l1 ++ line1)) :: own 3 (.slice A4 line1.length c4) (vI line1) :: fs) := hS
                  refine at_do (d := 85) hF (by kernel_rfl) (by kernel_rfl) hrun (fun a hF => ?_)
                  refine at_run 1 [] [] [1, 2, 3, 7, 20, 21] [pl 1 (.int .i64 who1), pl 2 (.int .i64 at1), pl 3 (.pointer (some ⟨g4, 0, none⟩)), pl 7 (.slice A7 ((l1 ++ line1).length) c7), pl 20 (.agg (List.toArray (([] : List Value) ++ (arr1 (Value.int .i64) (0 : Int) 16 r1 ++ ([] : List Value))))), pl 21 (.int .i64 z1)] hF hS (by kernel_rfl) (by kernel_rfl) ?_ (fun a w hF hS => ?_)
                  · exact obs_nil
                  refine at_end [1, 2, 3, 7, 20, 21] [pl 1 (.int .i64 who1), pl 2 (.int .i64 at1), pl 3 (.pointer (some ⟨g4, 0, none⟩)), pl 7 (.slice A7 ((l1 ++ line1).length) c7), pl 20 (.agg (List.toArray (([] : List Value) ++ (arr1 (Value.int .i64) (0 : Int) 16 r1 ++ ([] : List Value))))), pl 21 (.int .i64 z1)] hF rfl (by kernel_rfl) (fun hF => ?_)
                  refine then_n ?_
                  have hS := hS.pickN 3 [0, 1] (by decide)
                  exact ⟨(l1 ++ line1), A7, c7, hF.weak [1, 2, 3, 7, 20, 21] (by kernel_rfl), hS, hm⟩
                · replace hm := if_f hm hb
                  refine wp_skip ?_
                  refine then_n ?_
                  have hS := hS.pickN 3 [0, 1] (by decide)
                  exact ⟨l1, A2, c2, hF.weak [1, 2, 3, 7, 20, 21] (by kernel_rfl), hS, hm⟩
            · obtain ⟨hp5, hm⟩ := asrt_b hm
              refine reg [⟨false, [], vS (Instr.loadAt 22 (.pointer (some ⟨g4, 2, none⟩))), .slice A1 g3.length c1⟩, ⟨true, [], vS (Instr.indexAt 22 (.slice A1 g3.length c1) (.int .i64 (w64 ((w64 ((w64 (y1 + (geti r1 (z1 * 2 + 1)))) * g1)) + (w64 (x1 + (geti r1 (z1 * 2)))))))), .pointer (some (sAddr A1 (w64 ((w64 ((w64 (y1 + (geti r1 (z1 * 2 + 1)))) * g1)) + (w64 (x1 + (geti r1 (z1 * 2))))))))⟩, ⟨false, [], vS (Instr.loadAt 3 (.pointer (some (sAddr A1 (w64 ((w64 ((w64 (y1 + (geti r1 (z1 * 2 + 1)))) * g1)) + (w64 (x1 + (geti r1 (z1 * 2)))))))))), .int .i64 (geti g3 (w64 ((w64 ((w64 (y1 + (geti r1 (z1 * 2 + 1)))) * g1)) + (w64 (x1 + (geti r1 (z1 * 2)))))))⟩] [none, some (.slice A1 g3.length c1), none, some (.pointer (some (sAddr A1 (w64 ((w64 ((w64 (y1 + (geti r1 (z1 * 2 + 1)))) * g1)) + (w64 (x1 + (geti r1 (z1 * 2))))))))), some (.int .i64 (geti g3 (w64 ((w64 ((w64 (y1 + (geti r1 (z1 * 2 + 1)))) * g1)) + (w64 (x1 + (geti r1 (z1 * 2)))))))), none, none, none] [1, 2, 3, 7, 9, 10, 11, 12, 13, 20, 21, 71] [pl 1 (.int .i64 who1), pl 2 (.int .i64 at1), pl 3 (.pointer (some ⟨g4, 0, none⟩)), pl 7 (.slice A2 l1.length c2), pl 9 (.pointer (some ⟨g5, 0, none⟩)), pl 10 (.slice A4 line1.length c4), pl 11 (.int .i64 (w64 (x1 + (geti r1 (z1 * 2))))), pl 12 (.int .i64 (w64 (y1 + (geti r1 (z1 * 2 + 1))))), pl 13 (.int .i64 (w64 ((w64 ((w64 (y1 + (geti r1 (z1 * 2 + 1)))) * g1)) + (w64 (x1 + (geti r1 (z1 * 2))))))), pl 20 (.agg (List.toArray (([] : List Value) ++ (arr1 (Value.int .i64) (0 : Int) 16 r1 ++ ([] : List Value))))), pl 21 (.int .i64 z1), pl 71 (.bool ((geti g3 (w64 ((w64 ((w64 (y1 + (geti r1 (z1 * 2 + 1)))) * g1)) + (w64 (x1 + (geti r1 (z1 * 2))))))) == (w64 (3 - who1))))] hF hS Fol (by kernel_rfl) (by kernel_rfl) (by kernel_rfl) ?_ (fun a w hF hS => ?_)
              · exact obs_cons (ob_load Agg22 (fun _ _ hS => (hS.at_ 0 rfl).cell rfl)) <| obs_cons (ob_ix1 (f := (Value.int .i64)) (m := g3) Und22 hi3 hs3 (hr_g3 _ (hS.dropN 4)) rfl (fun _ => hp5)) <| obs_cons (ob_get1 (n := g3.length) (m := g3) (Value.int .i64) (0 : Int) Agg3 (fun _ hS => ⟨_, (hr_g3 _ (hS.dropN 4))⟩) (fun _ hS => rfl) (fun _ => hp5)) <| obs_nil
              refine cond_ev (t := 71) (b := ((geti g3 (w64 ((w64 ((w64 (y1 + (geti r1 (z1 * 2 + 1)))) * g1)) + (w64 (x1 + (geti r1 (z1 * 2))))))) == (w64 (3 - who1)))) hF (by kernel_rfl) (fun hb => ?_) (fun hb => ?_)
              · replace hm := if_t hm hb
                refine seqR ?_
                obtain ⟨hp6, hm⟩ := asrt_b hm
                refine at_run 2 [] [] [1, 2, 3, 7, 9, 11, 12, 20, 21, 72, 73] [pl 1 (.int .i64 who1), pl 2 (.int .i64 at1), pl 3 (.pointer (some ⟨g4, 0, none⟩)), pl 7 (.slice A2 l1.length c2), pl 9 (.pointer (some ⟨g5, 0, none⟩)), pl 11 (.int .i64 (w64 (x1 + (geti r1 (z1 * 2))))), pl 12 (.int .i64 (w64 (y1 + (geti r1 (z1 * 2 + 1))))), pl 20 (.agg (List.toArray (([] : List Value) ++ (arr1 (Value.int .i64) (0 : Int) 16 r1 ++ ([] : List Value))))), pl 21 (.int .i64 z1), pl 72 (.slice A4 line1.length c4), pl 73 (.int .i64 (w64 ((w64 ((w64 (y1 + (geti r1 (z1 * 2 + 1)))) * g1)) + (w64 (x1 + (geti r1 (z1 * 2)))))))] hF hS (by kernel_rfl) (by kernel_rfl) ?_ (fun a w hF hS => ?_)
                · exact obs_nil
                refine at_do (d := 74) (s := vS (Instr.buildSlice 22 1 #[(0, .int .i64 (w64 ((w64 ((w64 (y1 + (geti r1 (z1 * 2 + 1)))) * g1)) + (w64 (x1 + (geti r1 (z1 * 2)))))))])) (v := .slice (some ⟨w.heap.size, 0, none⟩) 1 1) (w' := w.alloc (.cells #[.int .i64 (w64 ((w64 ((w64 (y1 + (geti r1 (z1 * 2 + 1)))) * g1)) + (w64 (x1 + (geti r1 (z1 * 2))))))] 3)) hF (by kernel_rfl) (by kernel_rfl) (by kernel_rfl) (fun a hF => ?_)
                have hS : Sep w0 B (w.alloc (.cells #[.int .i64 (w64 ((w64 ((w64 (y1 + (geti r1 (z1 * 2 + 1)))) * g1)) + (w64 (x1 + (geti r1 (z1 * 2))))))] 3)) (own 3 (.slice (some (⟨w.heap.size, 0, none⟩ : Addr)) 1 1) (vI ([w64 ((w64 ((w64 (y1 + (geti r1 (z1 * 2 + 1)))) * g1)) + (w64 (x1 + (geti r1 (z1 * 2)))))] : List Int)) :: (blk g4 24 #[.int .i64 g1, .int .i64 g2, .slice A1 g3.length c1] :: own 3 (.slice A2 l1.length c2) (vI l1) :: blk g5 124 #[.int .i64 (geti r1 (z1 * 2)), .int .i64 (geti r1 (z1 * 2 + 1))] :: own 3 (.slice A4 line1.length c4) (vI line1) :: fs)) := hS.lit 3 #[.int .i64 (w64 ((w64 ((w64 (y1 + (geti r1 (z1 * 2 + 1)))) * g1)) + (w64 (x1 + (geti r1 (z1 * 2))))))] 1 rfl (by omega)
                generalize (some (⟨w.heap.size, 0, none⟩ : Addr)) = g6 at hF hS
                generalize w.alloc (.cells #[.int .i64 (w64 ((w64 ((w64 (y1 + (geti r1 (z1 * 2 + 1)))) * g1)) + (w64 (x1 + (geti r1 (z1 * 2))))))] 3) = w at hS ⊢
                obtain ⟨A6, c6, w, hrun, hS⟩ := run_app1 (P := Try.prog) (t := 22) (m := line1) (ys := ([w64 ((w64 ((w64 (y1 + (geti r1 (z1 * 2 + 1)))) * g1)) + (w64 (x1 + (geti r1 (z1 * 2)))))] : List Int)) (A2 := g6) (m2 := 1) (c2 := 1) (Value.int .i64) (0 : Int) (hS.at_ 4 rfl) (hS.at_ 0 rfl).rd ((hS.at_ 0 rfl).len1) 22 Und22 hi3 hz3 hs3 (by omega) rfl (fun _ => rfl) hp6
                have hS : Sep w0 B w (own 3 (.slice g6 1 1) (vI ([w64 ((w64 ((w64 (y1 + (geti r1 (z1 * 2 + 1)))) * g1)) + (w64 (x1 + (geti r1 (z1 * 2)))))] : List Int)) :: blk g4 24 #[.int .i64 g1, .int .i64 g2, .slice A1 g3.length c1] :: own 3 (.slice A2 l1.length c2) (vI l1) :: blk g5 124 #[.int .i64 (geti r1 (z1 * 2)), .int .i64 (geti r1 (z1 * 2 + 1))] :: own 3 (.slice A6 ((line1 ++ ([w64 ((w64 ((w64 (y1 + (geti r1 (z1 * 2 + 1)))) * g1)) + (w64 (x1 + (geti r1 (z1 * 2)))))] : List Int)).length) c6) (vI (line1 ++ ([w64 ((w64 ((w64 (y1 + (geti r1 (z1 * 2 + 1)))) * g1)) + (w64 (x1 + (geti r1 (z1 * 2)))))] : List Int))) :: fs) := hS
                refine at_do (d := 75) hF (by kernel_rfl) (by kernel_rfl) hrun (fun a hF => ?_)
                refine at_run 1 [] [] [1, 2, 3, 7, 9, 10, 11, 12, 20, 21] [pl 1 (.int .i64 who1), pl 2 (.int .i64 at1), pl 3 (.pointer (some ⟨g4, 0, none⟩)), pl 7 (.slice A2 l1.length c2), pl 9 (.pointer (some ⟨g5, 0, none⟩)), pl 10 (.slice A6 ((line1 ++ ([w64 ((w64 ((w64 (y1 + (geti r1 (z1 * 2 + 1)))) * g1)) + (w64 (x1 + (geti r1 (z1 * 2)))))] : List Int)).length) c6), pl 11 (.int .i64 (w64 (x1 + (geti r1 (z1 * 2))))), pl 12 (.int .i64 (w64 (y1 + (geti r1 (z1 * 2 + 1))))), pl 20 (.agg (List.toArray (([] : List Value) ++ (arr1 (Value.int .i64) (0 : Int) 16 r1 ++ ([] : List Value))))), pl 21 (.int .i64 z1)] hF hS (by kernel_rfl) (by kernel_rfl) ?_ (fun a w hF hS => ?_)
                · exact obs_nil
                refine at_end [1, 2, 3, 7, 9, 10, 11, 12, 20, 21] [pl 1 (.int .i64 who1), pl 2 (.int .i64 at1), pl 3 (.pointer (some ⟨g4, 0, none⟩)), pl 7 (.slice A2 l1.length c2), pl 9 (.pointer (some ⟨g5, 0, none⟩)), pl 10 (.slice A6 ((line1 ++ ([w64 ((w64 ((w64 (y1 + (geti r1 (z1 * 2 + 1)))) * g1)) + (w64 (x1 + (geti r1 (z1 * 2)))))] : List Int)).length) c6), pl 11 (.int .i64 (w64 (x1 + (geti r1 (z1 * 2))))), pl 12 (.int .i64 (w64 (y1 + (geti r1 (z1 * 2 + 1))))), pl 20 (.agg (List.toArray (([] : List Value) ++ (arr1 (Value.int .i64) (0 : Int) 16 r1 ++ ([] : List Value))))), pl 21 (.int .i64 z1)] hF rfl (by kernel_rfl) (fun hF => ?_)
                refine then_n ?_
                refine wp_exit ?_
                refine then_e (block_e (then_n ?_))
                have hS := hS.pickN 5 [1, 2, 3, 4] (by decide)
                rw [← hφ2] at hm
                exact ⟨((line1 ++ ([w64 ((w64 ((w64 (y1 + (geti r1 (z1 * 2 + 1)))) * g1)) + (w64 (x1 + (geti r1 (z1 * 2)))))] : List Int)), (w64 (x1 + (geti r1 (z1 * 2)))), (w64 (y1 + (geti r1 (z1 * 2 + 1))))), ⟨A6, c6, hF.weak [1, 2, 3, 7, 9, 10, 11, 12, 20, 21] (by kernel_rfl), hS⟩, hm⟩
              · replace hm := if_f hm hb
                refine wp_skip ?_
                refine then_n ?_
                have hS := hS.pickN 4 [0, 1, 3] (by decide)
                exact ⟨hF.weak [1, 2, 3, 7, 10, 13, 20, 21] (by kernel_rfl), hS, hm⟩
          · refine reg [⟨false, [(decide ((w64 (x1 + (geti r1 (z1 * 2)))) < 0), false)], vS (Instr.loadAt 3 (.pointer (some ⟨g4, 0, none⟩))), .int .i64 g1⟩, ⟨false, [(((decide ((w64 (x1 + (geti r1 (z1 * 2)))) < 0)) || (decide (g1 ≤ (w64 (x1 + (geti r1 (z1 * 2))))))) || (decide ((w64 (y1 + (geti r1 (z1 * 2 + 1)))) < 0)), false)], vS (Instr.loadAt 3 (.pointer (some ⟨g4, 1, none⟩))), .int .i64 g2⟩] [none, none, none, none, none, some (.int .i64 g1), none, none, none, none, none, none, none, none, none, some (.int .i64 g2), none, none] [1, 2, 3, 7, 9, 10, 11, 12, 20, 21, 57] [pl 1 (.int .i64 who1), pl 2 (.int .i64 at1), pl 3 (.pointer (some ⟨g4, 0, none⟩)), pl 7 (.slice A2 l1.length c2), pl 9 (.pointer (some ⟨g5, 0, none⟩)), pl 10 (.slice A4 line1.length c4), pl 11 (.int .i64 (w64 (x1 + (geti r1 (z1 * 2))))), pl 12 (.int .i64 (w64 (y1 + (geti r1 (z1 * 2 + 1))))), pl 20 (.agg (List.toArray (([] : List Value) ++ (arr1 (Value.int .i64) (0 : Int) 16 r1 ++ ([] : List Value))))), pl 21 (.int .i64 z1), pl 57 (.bool ((((decide ((w64 (x1 + (geti r1 (z1 * 2)))) < 0)) || (decide (g1 ≤ (w64 (x1 + (geti r1 (z1 * 2))))))) || (decide ((w64 (y1 + (geti r1 (z1 * 2 + 1)))) < 0))) || (decide (g2 ≤ (w64 (y1 + (geti r1 (z1 * 2 + 1))))))))] hF hS Fol (by kernel_rfl) (by kernel_rfl) (by kernel_rfl) ?_ (fun a w hF hS => ?_)
            · exact obs_cons (ob_load Agg3 (fun _ _ hS => (hS.at_ 0 rfl).cell rfl)) <| obs_cons (ob_load Agg3 (fun _ _ hS => (hS.at_ 0 rfl).cell rfl)) <| obs_nil
            refine cond_ev (t := 57) (b := (((decide ((w64 (x1 + (geti r1 (z1 * 2)))) < 0)) || (decide (g1 ≤ (w64 (x1 + (geti r1 (z1 * 2))))))) || (decide ((w64 (y1 + (geti r1 (z1 * 2 + 1)))) < 0))) || (decide (g2 ≤ (w64 (y1 + (geti r1 (z1 * 2 + 1))))))) hF (by kernel_rfl) (fun hb => ?_) (fun hb => ?_)
            · replace hm := if_t hm hb
              refine wp_exit ?_
              refine then_e (block_o rfl (then_e (block_e (block_n (then_n ?_)))))
              have hS := hS.pickN 4 [0, 1] (by decide)
              rw [← hφ2] at hm
              replace hm := done_b hm
              unfold othello_turned_K2 at hm
              try dsimp only at hm
              have hm : ((othello_turned_J4 z1) l1).bind φ1 = some r := hm
              exact ⟨l1, A2, c2, hF.weak [1, 2, 3, 7, 20, 21] (by kernel_rfl), hS, hm⟩
            · replace hm := if_f hm hb
              refine wp_skip ?_
              refine then_n ?_
              exact ⟨hF.weak [1, 2, 3, 7, 9, 10, 11, 12, 20, 21] (by kernel_rfl), hS, hm⟩
      · refine cond_ev (t := 22) (b := decide (z1 < 8)) hF (by kernel_rfl) (fun hb => ?_) (fun hb => ?_)
        · replace hm := if_t hm hb
          refine wp_skip ?_
          refine then_n ?_
          exact ⟨hF.weak [1, 2, 3, 7, 20, 21] (by kernel_rfl), hS, hm⟩
        · replace hm := if_f hm hb
          refine wp_exit ?_
          refine then_e (then_e (block_e (then_n ?_)))
          have hS := hS.pickN 2 [1] (by decide)
          rw [← hφ1] at hm
          replace hm := done_b hm
          unfold othello_turned_K1 at hm
          try dsimp only at hm
          have hm : (othello_turned_J2 l1).bind some = some r := hm
          exact ⟨l1, A2, c2, hF.weak [7] (by kernel_rfl), hS, hm⟩
  · obtain ⟨hp1, hm⟩ := asrt_b hm
    refine reg [⟨false, [], vS (Instr.loadAt 22 (.pointer (some ⟨g4, 2, none⟩))), .slice A1 g3.length c1⟩, ⟨true, [], vS (Instr.indexAt 22 (.slice A1 g3.length c1) (.int .i64 at1)), .pointer (some (sAddr A1 at1))⟩, ⟨false, [], vS (Instr.loadAt 3 (.pointer (some (sAddr A1 at1)))), .int .i64 (geti g3 at1)⟩] [none, some (.slice A1 g3.length c1), none, some (.pointer (some (sAddr A1 at1))), some (.int .i64 (geti g3 at1)), none] [1, 2, 3, 7, 19] [pl 1 (.int .i64 who1), pl 2 (.int .i64 at1), pl 3 (.pointer (some ⟨g4, 0, none⟩)), pl 7 (.slice none 0 0), pl 19 (.bool ((geti g3 at1) != 0))] hF hS Fol (by kernel_rfl) (by kernel_rfl) (by kernel_rfl) ?_ (fun a w hF hS => ?_)
    · exact obs_cons (ob_load Agg22 (fun _ _ hS => (hS.at_ 0 rfl).cell rfl)) <| obs_cons (ob_ix1 (f := (Value.int .i64)) (m := g3) Und22 hi3 hs3 (hr_g3 _ (hS.dropN 1)) rfl (fun _ => hp1)) <| obs_cons (ob_get1 (n := g3.length) (m := g3) (Value.int .i64) (0 : Int) Agg3 (fun _ hS => ⟨_, (hr_g3 _ (hS.dropN 1))⟩) (fun _ hS => rfl) (fun _ => hp1)) <| obs_nil
    refine cond_ev (t := 19) (b := ((geti g3 at1) != 0)) hF (by kernel_rfl) (fun hb => ?_) (fun hb => ?_)
    · replace hm := if_t hm hb
      refine reg [] [] [6] [pl 6 (.slice none 0 0)] hF hS Fol (by kernel_rfl) (by kernel_rfl) (by kernel_rfl) ?_ (fun a w hF hS => ?_)
      · exact obs_nil
      refine wp_ret ?_
      refine then_r ?_
      have hS : Sep w0 B w (own 3 (.slice none 0 0) (vI ([] : List Int)) :: blk g4 24 #[.int .i64 g1, .int .i64 g2, .slice A1 g3.length c1] :: fs) := hS.nil 3
      have hl1 := (hS.at_ 0 rfl).len1
      have hS := (hS.at_ 0 rfl).reN hl1
      have hS : Sep w0 B w (own 3 (.slice none (([] : List Int).length) 0) (vI ([] : List Int)) :: blk g4 24 #[.int .i64 g1, .int .i64 g2, .slice A1 g3.length c1] :: fs) := hS
      have hS := hS.pickN 2 [0] (by decide)
      have hm : some ([] : List Int) = some r := hm
      obtain rfl := Option.some.inj hm
      exact retV (rs := [.tmp 6]) (vs := [.slice none (([] : List Int).length) 0]) hF rfl (rv_t (by kernel_rfl) <| rv_nil) rfl ⟨_, rfl, none, 0, rfl, hS⟩
    · replace hm := if_f hm hb
      refine wp_skip ?_
      refine then_n ?_
      exact ⟨hF.weak [1, 2, 3, 7] (by kernel_rfl), hS, hm⟩

noncomputable def othello_places_J3 (z1 : Int) (l3 : List Int) : Option (St (List Int × Int) (List Int)) :=
  some (.next (l3, (w64 (z1 + 1))))

noncomputable def othello_places_J2 (g1 : Int) (g2 : Int) (g3 : List Int) (who1 : Int) (l1 : List Int) (z1 : Int) : Option (St (List Int × Int) (List Int)) :=
  (othello_turned_m g1 g2 g3 who1 z1).bind fun r1 => if (decide ((0 : Int) < (r1.length : Int))) then (asrt ((l1.length : Int) + 1 ≤ bigN) <| (othello_places_J3 z1) (l1 ++ ([z1] : List Int))) else ((othello_places_J3 z1) l1)

noncomputable def othello_places_J1 (l2 : List Int) : Option (List Int) :=
  some l2

noncomputable def othello_places_K1 : (List Int) → Option (List Int) :=
  fun (x : (List Int)) => match x with | l2 => othello_places_J1 l2

noncomputable def othello_places_L1 (g1 : Int) (g2 : Int) (g3 : List Int) (who1 : Int) : (List Int × Int) → Option (St (List Int × Int) (List Int)) :=
  fun (x : (List Int × Int)) => match x with | (l1, z1) => if (decide (z1 < (g3.length : Int))) then ((othello_places_J2 g1 g2 g3 who1 l1 z1)) else (some (.done l1))

noncomputable def othello_places_m (g1 : Int) (g2 : Int) (g3 : List Int) (who1 : Int) : Option (List Int) :=
  (loop (othello_places_L1 g1 g2 g3 who1) (([] : List Int), 0)).bind othello_places_K1

set_option maxRecDepth 100000 in
set_option maxHeartbeats 4000000 in
theorem othello_places_w {g1 : Int} {g2 : Int} {A1 : Option Addr} {c1 : Nat} {n1 : Nat} {g3 : List Int} {who1 : Int} {r : (List Int)} {w0 w : World} {B : Nat} {fs : List HP} (hm : othello_places_m g1 g2 g3 who1 = some r) (hS : Sep w0 B w (fs)) (hr_g3 : RdF w0 B fs A1 (vI g3)) (_hc_g3 : g3.length ≤ c1) (_hn_g3 : n1 = g3.length) :
    Calls Try.prog 57 #[.agg #[.int .i64 g1, .int .i64 g2, .slice A1 n1 c1], .int .i64 who1] w fun e w' => ∃ v, e = .returned v ∧ ∃ (A7 : Option Addr) (c7 : Nat), v = .slice A7 r.length c7 ∧ Sep w0 B w' (own 3 (.slice A7 r.length c7) (vI r) :: fs) := by
  obtain ⟨i3, hi3, hz3, hs3, hb3⟩ := info_parts Info3
  obtain rfl := _hn_g3
  unfold othello_places_m at hm
  replace hm := start_b hm
  refine enter (l := [.agg #[.int .i64 g1, .int .i64 g2, .slice A1 g3.length c1], .int .i64 who1]) (n := 25) Try.func57 rfl rfl (by simp) (fun a hF => ?_)
  refine seqR ?_
  refine at_do (d := 2) (s := vS (Instr.box 24 (.agg #[.int .i64 g1, .int .i64 g2, .slice A1 g3.length c1]))) (v := .pointer (some ⟨w.heap.size, 0, none⟩)) (w' := w.alloc (.cells #[.int .i64 g1, .int .i64 g2, .slice A1 g3.length c1] 24)) hF (by kernel_rfl) (by kernel_rfl) (by kernel_rfl) (fun a hF => ?_)
  have hS : Sep w0 B (w.alloc (.cells #[.int .i64 g1, .int .i64 g2, .slice A1 g3.length c1] 24)) (blk w.heap.size 24 #[.int .i64 g1, .int .i64 g2, .slice A1 g3.length c1] :: (fs)) := hS.box 24 #[.int .i64 g1, .int .i64 g2, .slice A1 g3.length c1]
  generalize w.heap.size = g4 at hF hS
  generalize w.alloc (.cells #[.int .i64 g1, .int .i64 g2, .slice A1 g3.length c1] 24) = w at hS ⊢
  refine at_run 1 [] [] [1, 2] [pl 1 (.int .i64 who1), pl 2 (.pointer (some ⟨g4, 0, none⟩))] hF hS (by kernel_rfl) (by kernel_rfl) ?_ (fun a w hF hS => ?_)
  · exact obs_nil
  refine at_end [1, 2] [pl 1 (.int .i64 who1), pl 2 (.pointer (some ⟨g4, 0, none⟩))] hF rfl (by kernel_rfl) (fun hF => ?_)
  refine then_n ?_
  refine reg [] [] [1, 2, 5] [pl 1 (.int .i64 who1), pl 2 (.pointer (some ⟨g4, 0, none⟩)), pl 5 (.slice none 0 0)] hF hS Fol (by kernel_rfl) (by kernel_rfl) (by kernel_rfl) ?_ (fun a w hF hS => ?_)
  · exact obs_nil
  refine seq_cut (fun a w => ∃ (l2 : List Int) (A3 : Option Addr) (c3 : Nat), Fr 25 [pl 5 (.slice A3 l2.length c3)] a ∧ Sep w0 B w (own 3 (.slice A3 l2.length c3) (vI l2) :: fs) ∧ (othello_places_J1 l2).bind some = some r) ?_ ?_
  · rintro a w ⟨l2, A3, c3, hF, hS, hm⟩
    unfold othello_places_J1 at hm
    refine reg [] [] [4] [pl 4 (.slice A3 l2.length c3)] hF hS Fol (by kernel_rfl) (by kernel_rfl) (by kernel_rfl) ?_ (fun a w hF hS => ?_)
    · exact obs_nil
    refine wp_ret ?_
    have hm : some l2 = some r := hm
    obtain rfl := Option.some.inj hm
    exact retV (rs := [.tmp 4]) (vs := [.slice A3 l2.length c3]) hF rfl (rv_t (by kernel_rfl) <| rv_nil) rfl ⟨_, rfl, A3, c3, rfl, hS⟩
  · refine reg [⟨false, [], vS (Instr.loadAt 22 (.pointer (some ⟨g4, 2, none⟩))), .slice A1 g3.length c1⟩] [none, some (.slice A1 g3.length c1), none, none] [1, 2, 5, 9, 10] [pl 1 (.int .i64 who1), pl 2 (.pointer (some ⟨g4, 0, none⟩)), pl 5 (.slice none 0 0), pl 9 (.int .i64 (g3.length : Int)), pl 10 (.int .i64 0)] hF hS Fol (by kernel_rfl) (by kernel_rfl) (by kernel_rfl) ?_ (fun a w hF hS => ?_)
    · exact obs_cons (ob_load Agg22 (fun _ _ hS => (hS.at_ 0 rfl).cell rfl)) <| obs_nil
    refine wp_block ?_
    have hS : Sep w0 B w (own 3 (.slice none 0 0) (vI ([] : List Int)) :: blk g4 24 #[.int .i64 g1, .int .i64 g2, .slice A1 g3.length c1] :: fs) := hS.nil 3
    have hl1 := (hS.at_ 0 rfl).len1
    have hS := (hS.at_ 0 rfl).reN hl1
    have hS : Sep w0 B w (own 3 (.slice none (([] : List Int).length) 0) (vI ([] : List Int)) :: blk g4 24 #[.int .i64 g1, .int .i64 g2, .slice A1 g3.length c1] :: fs) := hS
    have hF := hF.cast (t := 5) (v := .slice none 0 0) (v' := .slice none (([] : List Int).length) 0) rfl rfl (congrArg (fun k => Value.slice none k 0) hl1)
    have hS := hS.pickN 2 [1, 0] (by decide)
    refine wp_loop_model (S := (List Int × Int)) (R := (List Int)) (othello_places_L1 g1 g2 g3 who1) (fun x => (othello_places_K1 x).bind some) r (fun (x : (List Int × Int)) a w => ∃ (A2 : Option Addr) (c2 : Nat), Fr 25 [pl 1 (.int .i64 who1), pl 2 (.pointer (some ⟨g4, 0, none⟩)), pl 5 (.slice A2 x.1.length c2), pl 9 (.int .i64 (g3.length : Int)), pl 10 (.int .i64 x.2)] a ∧ Sep w0 B w (blk g4 24 #[.int .i64 g1, .int .i64 g2, .slice A1 g3.length c1] :: own 3 (.slice A2 x.1.length c2) (vI x.1) :: fs)) (assoc_b hm) ⟨none, 0, hF.weak [1, 2, 5, 9, 10] (by kernel_rfl), hS⟩ ?_
    clear hF hS hm
    rintro nn1 ⟨l1, z1⟩ a w ⟨A2, c2, hF, hS⟩ hm
    generalize hφ1 : stK (othello_places_L1 g1 g2 g3 who1) nn1 (fun x => (othello_places_K1 x).bind some) = φ1 at hm
    unfold othello_places_L1 at hm
    dsimp only at hF hS hm
    refine reg [] [] [1, 2, 5, 9, 10, 11] [pl 1 (.int .i64 who1), pl 2 (.pointer (some ⟨g4, 0, none⟩)), pl 5 (.slice A2 l1.length c2), pl 9 (.int .i64 (g3.length : Int)), pl 10 (.int .i64 z1), pl 11 (.bool (decide (z1 < (g3.length : Int))))] hF hS Fol (by kernel_rfl) (by kernel_rfl) (by kernel_rfl) ?_ (fun a w hF hS => ?_)
    · exact obs_nil
    refine seq_cut (fun a w => Fr 25 [pl 1 (.int .i64 who1), pl 2 (.pointer (some ⟨g4, 0, none⟩)), pl 5 (.slice A2 l1.length c2), pl 9 (.int .i64 (g3.length : Int)), pl 10 (.int .i64 z1)] a ∧ Sep w0 B w (blk g4 24 #[.int .i64 g1, .int .i64 g2, .slice A1 g3.length c1] :: own 3 (.slice A2 l1.length c2) (vI l1) :: fs) ∧ ((othello_places_J2 g1 g2 g3 who1 l1 z1)).bind φ1 = some r) ?_ ?_
    · rintro a w ⟨hF, hS, hm⟩
      unfold othello_places_J2 at hm
      refine seq_cut (fun a w => ∃ (l3 : List Int) (A6 : Option Addr) (c6 : Nat), Fr 25 [pl 1 (.int .i64 who1), pl 2 (.pointer (some ⟨g4, 0, none⟩)), pl 5 (.slice A6 l3.length c6), pl 9 (.int .i64 (g3.length : Int)), pl 10 (.int .i64 z1)] a ∧ Sep w0 B w (blk g4 24 #[.int .i64 g1, .int .i64 g2, .slice A1 g3.length c1] :: own 3 (.slice A6 l3.length c6) (vI l3) :: fs) ∧ ((othello_places_J3 z1) l3).bind φ1 = some r) ?_ ?_
      · rintro a w ⟨l3, A6, c6, hF, hS, hm⟩
        unfold othello_places_J3 at hm
        refine reg1 [] [] [1, 2, 5, 9, 10] [pl 1 (.int .i64 who1), pl 2 (.pointer (some ⟨g4, 0, none⟩)), pl 5 (.slice A6 l3.length c6), pl 9 (.int .i64 (g3.length : Int)), pl 10 (.int .i64 (w64 (z1 + 1)))] hF hS Fol (by kernel_rfl) (by kernel_rfl) (by kernel_rfl) ?_ (fun a w hF hS => ?_)
        · exact obs_nil
        refine then_n ?_
        rw [← hφ1] at hm
        exact ⟨(l3, (w64 (z1 + 1))), ⟨A6, c6, hF.weak [1, 2, 5, 9, 10] (by kernel_rfl), hS⟩, hm⟩
      · refine wp_block ?_
        refine reg [] [] [1, 2, 5, 6, 9, 10] [pl 1 (.int .i64 who1), pl 2 (.pointer (some ⟨g4, 0, none⟩)), pl 5 (.slice A2 l1.length c2), pl 6 (.int .i64 z1), pl 9 (.int .i64 (g3.length : Int)), pl 10 (.int .i64 z1)] hF hS Fol (by kernel_rfl) (by kernel_rfl) (by kernel_rfl) ?_ (fun a w hF hS => ?_)
        · exact obs_nil
        refine seqR ?_
        obtain ⟨r1, hr1, hm⟩ := call_b hm
        refine at_run 3 [⟨false, [], vS (Instr.loadAt 24 (.pointer (some ⟨g4, 0, none⟩))), .agg #[.int .i64 g1, .int .i64 g2, .slice A1 g3.length c1]⟩] [some (.agg #[.int .i64 g1, .int .i64 g2, .slice A1 g3.length c1]), none, none] [1, 2, 5, 6, 9, 10, 13, 14, 15] [pl 1 (.int .i64 who1), pl 2 (.pointer (some ⟨g4, 0, none⟩)), pl 5 (.slice A2 l1.length c2), pl 6 (.int .i64 z1), pl 9 (.int .i64 (g3.length : Int)), pl 10 (.int .i64 z1), pl 13 (.agg #[.int .i64 g1, .int .i64 g2, .slice A1 g3.length c1]), pl 14 (.int .i64 who1), pl 15 (.int .i64 z1)] hF hS (by kernel_rfl) (by kernel_rfl) ?_ (fun a w hF hS => ?_)
        · exact obs_cons (ob_loadA (cs := #[.int .i64 g1, .int .i64 g2, .slice A1 g3.length c1]) (by kernel_rfl) (by kernel_rfl) (fun _ _ hS => (hS.at_ 0 rfl).cellsAt 0 (by rfl))) <| obs_nil
        refine at_call (f := 59) (args := #[.agg #[.int .i64 g1, .int .i64 g2, .slice A1 g3.length c1], .int .i64 who1, .int .i64 z1]) (d := 16) hF (by kernel_rfl) (by kernel_rfl) Try.func59 (by kernel_rfl) rfl (othello_turned_w hr1 hS (fun _ hS => (hr_g3 _ (hS.dropN 2))) _hc_g3 rfl) (fun v a w hR hF => ?_)
        clear hS
        obtain ⟨A4, c4, rfl, hS⟩ := hR
        have hS : Sep w0 B w (own 3 (.slice A4 r1.length c4) (vI r1) :: blk g4 24 #[.int .i64 g1, .int .i64 g2, .slice A1 g3.length c1] :: own 3 (.slice A2 l1.length c2) (vI l1) :: fs) := hS
        refine at_run 2 [] [] [1, 2, 5, 6, 9, 10, 18] [pl 1 (.int .i64 who1), pl 2 (.pointer (some ⟨g4, 0, none⟩)), pl 5 (.slice A2 l1.length c2), pl 6 (.int .i64 z1), pl 9 (.int .i64 (g3.length : Int)), pl 10 (.int .i64 z1), pl 18 (.bool (decide ((0 : Int) < (r1.length : Int))))] hF hS (by kernel_rfl) (by kernel_rfl) ?_ (fun a w hF hS => ?_)
        · exact obs_nil
        refine at_end [1, 2, 5, 6, 9, 10, 18] [pl 1 (.int .i64 who1), pl 2 (.pointer (some ⟨g4, 0, none⟩)), pl 5 (.slice A2 l1.length c2), pl 6 (.int .i64 z1), pl 9 (.int .i64 (g3.length : Int)), pl 10 (.int .i64 z1), pl 18 (.bool (decide ((0 : Int) < (r1.length : Int))))] hF rfl (by kernel_rfl) (fun hF => ?_)
        refine then_n ?_
        refine cond_ev (t := 18) (b := decide ((0 : Int) < (r1.length : Int))) hF (by kernel_rfl) (fun hb => ?_) (fun hb => ?_)
        · replace hm := if_t hm hb
          refine oneR ?_
          obtain ⟨hp1, hm⟩ := asrt_b hm
          refine at_run 2 [] [] [1, 2, 9, 10, 19, 20] [pl 1 (.int .i64 who1), pl 2 (.pointer (some ⟨g4, 0, none⟩)), pl 9 (.int .i64 (g3.length : Int)), pl 10 (.int .i64 z1), pl 19 (.slice A2 l1.length c2), pl 20 (.int .i64 z1)] hF hS (by kernel_rfl) (by kernel_rfl) ?_ (fun a w hF hS => ?_)
          · exact obs_nil
          refine at_do (d := 21) (s := vS (Instr.buildSlice 22 1 #[(0, .int .i64 z1)])) (v := .slice (some ⟨w.heap.size, 0, none⟩) 1 1) (w' := w.alloc (.cells #[.int .i64 z1] 3)) hF (by kernel_rfl) (by kernel_rfl) (by kernel_rfl) (fun a hF => ?_)
          have hS : Sep w0 B (w.alloc (.cells #[.int .i64 z1] 3)) (own 3 (.slice (some (⟨w.heap.size, 0, none⟩ : Addr)) 1 1) (vI ([z1] : List Int)) :: (own 3 (.slice A4 r1.length c4) (vI r1) :: blk g4 24 #[.int .i64 g1, .int .i64 g2, .slice A1 g3.length c1] :: own 3 (.slice A2 l1.length c2) (vI l1) :: fs)) := hS.lit 3 #[.int .i64 z1] 1 rfl (by omega)
          generalize (some (⟨w.heap.size, 0, none⟩ : Addr)) = g5 at hF hS
          generalize w.alloc (.cells #[.int .i64 z1] 3) = w at hS ⊢
          obtain ⟨A5, c5, w, hrun, hS⟩ := run_app1 (P := Try.prog) (t := 22) (m := l1) (ys := ([z1] : List Int)) (A2 := g5) (m2 := 1) (c2 := 1) (Value.int .i64) (0 : Int) (hS.at_ 3 rfl) (hS.at_ 0 rfl).rd ((hS.at_ 0 rfl).len1) 22 Und22 hi3 hz3 hs3 (by omega) rfl (fun _ => rfl) hp1
          have hS : Sep w0 B w (own 3 (.slice g5 1 1) (vI ([z1] : List Int)) :: own 3 (.slice A4 r1.length c4) (vI r1) :: blk g4 24 #[.int .i64 g1, .int .i64 g2, .slice A1 g3.length c1] :: own 3 (.slice A5 ((l1 ++ ([z1] : List Int)).length) c5) (vI (l1 ++ ([z1] : List Int))) :: fs) := hS
          refine at_do (d := 22) hF (by kernel_rfl) (by kernel_rfl) hrun (fun a hF => ?_)
          refine at_run 1 [] [] [1, 2, 5, 9, 10] [pl 1 (.int .i64 who1), pl 2 (.pointer (some ⟨g4, 0, none⟩)), pl 5 (.slice A5 ((l1 ++ ([z1] : List Int)).length) c5), pl 9 (.int .i64 (g3.length : Int)), pl 10 (.int .i64 z1)] hF hS (by kernel_rfl) (by kernel_rfl) ?_ (fun a w hF hS => ?_)
          · exact obs_nil
          refine at_end [1, 2, 5, 9, 10] [pl 1 (.int .i64 who1), pl 2 (.pointer (some ⟨g4, 0, none⟩)), pl 5 (.slice A5 ((l1 ++ ([z1] : List Int)).length) c5), pl 9 (.int .i64 (g3.length : Int)), pl 10 (.int .i64 z1)] hF rfl (by kernel_rfl) (fun hF => ?_)
          refine block_n ?_
          refine then_n ?_
          have hS := hS.pickN 4 [2, 3] (by decide)
          exact ⟨(l1 ++ ([z1] : List Int)), A5, c5, hF.weak [1, 2, 5, 9, 10] (by kernel_rfl), hS, hm⟩
        · replace hm := if_f hm hb
          refine wp_skip ?_
          refine block_n ?_
          refine then_n ?_
          have hS := hS.pickN 3 [1, 2] (by decide)
          exact ⟨l1, A2, c2, hF.weak [1, 2, 5, 9, 10] (by kernel_rfl), hS, hm⟩
    · refine cond_ev (t := 11) (b := decide (z1 < (g3.length : Int))) hF (by kernel_rfl) (fun hb => ?_) (fun hb => ?_)
      · replace hm := if_t hm hb
        refine wp_skip ?_
        refine then_n ?_
        exact ⟨hF.weak [1, 2, 5, 9, 10] (by kernel_rfl), hS, hm⟩
      · replace hm := if_f hm hb
        refine wp_exit ?_
        refine then_e (then_e (block_e (then_n ?_)))
        have hS := hS.pickN 2 [1] (by decide)
        rw [← hφ1] at hm
        replace hm := done_b hm
        unfold othello_places_K1 at hm
        try dsimp only at hm
        have hm : (othello_places_J1 l1).bind some = some r := hm
        exact ⟨l1, A2, c2, hF.weak [5] (by kernel_rfl), hS, hm⟩

noncomputable def othello_Places_J1 (g1 : Int) (g2 : Int) (g3 : List Int) (who1 : Int) : Option (List Int × Int) :=
  (othello_places_m g1 g2 g3 who1).bind fun r2 => some (r2, 0)

noncomputable def othello_Places_m (g1 : Int) (g2 : Int) (g3 : List Int) (who1 : Int) : Option (List Int × Int) :=
  (othello_check_m g1 g2 g3 who1).bind fun r1 => if (r1 != 0) then (some (([] : List Int), r1)) else ((othello_Places_J1 g1 g2 g3 who1))

set_option maxRecDepth 100000 in
set_option maxHeartbeats 4000000 in
theorem othello_Places_w {g1 : Int} {g2 : Int} {A1 : Option Addr} {c1 : Nat} {n1 : Nat} {g3 : List Int} {who1 : Int} {r : (List Int × Int)} {w0 w : World} {B : Nat} {fs : List HP} (hm : othello_Places_m g1 g2 g3 who1 = some r) (hS : Sep w0 B w (fs)) (hr_g3 : RdF w0 B fs A1 (vI g3)) (_hc_g3 : g3.length ≤ c1) (_hn_g3 : n1 = g3.length) :
    Calls Try.prog 12 #[.agg #[.int .i64 g1, .int .i64 g2, .slice A1 n1 c1], .int .i64 who1] w fun e w' => ∃ v, e = .returned v ∧ ∃ (A3 : Option Addr) (c3 : Nat), v = .tuple #[.slice A3 r.1.length c3, .int .i64 r.2] ∧ Sep w0 B w' (own 3 (.slice A3 r.1.length c3) (vI r.1) :: fs) := by
  obtain ⟨i3, hi3, hz3, hs3, hb3⟩ := info_parts Info3
  obtain rfl := _hn_g3
  unfold othello_Places_m at hm
  replace hm := start_b hm
  refine enter (l := [.agg #[.int .i64 g1, .int .i64 g2, .slice A1 g3.length c1], .int .i64 who1]) (n := 16) Try.func12 rfl rfl (by simp) (fun a hF => ?_)
  refine seqR ?_
  refine at_do (d := 2) (s := vS (Instr.box 24 (.agg #[.int .i64 g1, .int .i64 g2, .slice A1 g3.length c1]))) (v := .pointer (some ⟨w.heap.size, 0, none⟩)) (w' := w.alloc (.cells #[.int .i64 g1, .int .i64 g2, .slice A1 g3.length c1] 24)) hF (by kernel_rfl) (by kernel_rfl) (by kernel_rfl) (fun a hF => ?_)
  have hS : Sep w0 B (w.alloc (.cells #[.int .i64 g1, .int .i64 g2, .slice A1 g3.length c1] 24)) (blk w.heap.size 24 #[.int .i64 g1, .int .i64 g2, .slice A1 g3.length c1] :: (fs)) := hS.box 24 #[.int .i64 g1, .int .i64 g2, .slice A1 g3.length c1]
  generalize w.heap.size = g4 at hF hS
  generalize w.alloc (.cells #[.int .i64 g1, .int .i64 g2, .slice A1 g3.length c1] 24) = w at hS ⊢
  refine at_run 2 [] [] [1, 2] [pl 1 (.int .i64 who1), pl 2 (.pointer (some ⟨g4, 0, none⟩))] hF hS (by kernel_rfl) (by kernel_rfl) ?_ (fun a w hF hS => ?_)
  · exact obs_nil
  refine at_end [1, 2] [pl 1 (.int .i64 who1), pl 2 (.pointer (some ⟨g4, 0, none⟩))] hF rfl (by kernel_rfl) (fun hF => ?_)
  refine then_n ?_
  refine seq_cut (fun a w => Fr 16 [pl 1 (.int .i64 who1), pl 2 (.pointer (some ⟨g4, 0, none⟩))] a ∧ Sep w0 B w (blk g4 24 #[.int .i64 g1, .int .i64 g2, .slice A1 g3.length c1] :: fs) ∧ ((othello_Places_J1 g1 g2 g3 who1)).bind some = some r) ?_ ?_
  · rintro a w ⟨hF, hS, hm⟩
    unfold othello_Places_J1 at hm
    refine seqR ?_
    obtain ⟨r2, hr2, hm⟩ := call_b hm
    refine at_run 2 [⟨false, [], vS (Instr.loadAt 24 (.pointer (some ⟨g4, 0, none⟩))), .agg #[.int .i64 g1, .int .i64 g2, .slice A1 g3.length c1]⟩] [some (.agg #[.int .i64 g1, .int .i64 g2, .slice A1 g3.length c1]), none] [13, 14] [pl 13 (.agg #[.int .i64 g1, .int .i64 g2, .slice A1 g3.length c1]), pl 14 (.int .i64 who1)] hF hS (by kernel_rfl) (by kernel_rfl) ?_ (fun a w hF hS => ?_)
    · exact obs_cons (ob_loadA (cs := #[.int .i64 g1, .int .i64 g2, .slice A1 g3.length c1]) (by kernel_rfl) (by kernel_rfl) (fun _ _ hS => (hS.at_ 0 rfl).cellsAt 0 (by rfl))) <| obs_nil
    refine at_call (f := 57) (args := #[.agg #[.int .i64 g1, .int .i64 g2, .slice A1 g3.length c1], .int .i64 who1]) (d := 15) hF (by kernel_rfl) (by kernel_rfl) Try.func57 (by kernel_rfl) rfl (othello_places_w hr2 hS (fun _ hS => (hr_g3 _ (hS.dropN 1))) _hc_g3 rfl) (fun v a w hR hF => ?_)
    clear hS
    obtain ⟨A2, c2, rfl, hS⟩ := hR
    have hS : Sep w0 B w (own 3 (.slice A2 r2.length c2) (vI r2) :: blk g4 24 #[.int .i64 g1, .int .i64 g2, .slice A1 g3.length c1] :: fs) := hS
    refine at_run 2 [] [] [4, 5] [pl 4 (.slice A2 r2.length c2), pl 5 (.int .i64 0)] hF hS (by kernel_rfl) (by kernel_rfl) ?_ (fun a w hF hS => ?_)
    · exact obs_nil
    refine at_end [4, 5] [pl 4 (.slice A2 r2.length c2), pl 5 (.int .i64 0)] hF rfl (by kernel_rfl) (fun hF => ?_)
    refine then_n ?_
    refine wp_ret ?_
    have hS := hS.pickN 2 [0] (by decide)
    have hm : some (r2, 0) = some r := hm
    obtain rfl := Option.some.inj hm
    exact retV (rs := [.tmp 4, .tmp 5]) (vs := [.slice A2 r2.length c2, .int .i64 0]) hF rfl (rv_t (by kernel_rfl) <| rv_t (by kernel_rfl) <| rv_nil) rfl ⟨_, rfl, A2, c2, rfl, hS⟩
  · obtain ⟨r1, hr1, hm⟩ := call_b hm
    refine reg [⟨false, [], vS (Instr.loadAt 24 (.pointer (some ⟨g4, 0, none⟩))), .agg #[.int .i64 g1, .int .i64 g2, .slice A1 g3.length c1]⟩, ⟨false, [], callFunc 56 #[.agg #[.int .i64 g1, .int .i64 g2, .slice A1 g3.length c1], .int .i64 who1], .int .i64 r1⟩] [some (.agg #[.int .i64 g1, .int .i64 g2, .slice A1 g3.length c1]), none, some (.int .i64 r1), none] [1, 2, 6] [pl 1 (.int .i64 who1), pl 2 (.pointer (some ⟨g4, 0, none⟩)), pl 6 (.int .i64 r1)] hF hS Fol (by kernel_rfl) (by kernel_rfl) (by kernel_rfl) ?_ (fun a w hF hS => ?_)
    · exact obs_cons (ob_loadA (cs := #[.int .i64 g1, .int .i64 g2, .slice A1 g3.length c1]) (by kernel_rfl) (by kernel_rfl) (fun _ _ hS => (hS.at_ 0 rfl).cellsAt 0 (by rfl))) <| obs_cons (ob_call Try.func56 (by kernel_rfl) rfl (fun _ _ hS => othello_check_w hr1 hS (fun _ hS => (hr_g3 _ (hS.dropN 1))) _hc_g3 rfl)) <| obs_nil
    refine reg [] [] [1, 2, 6, 11] [pl 1 (.int .i64 who1), pl 2 (.pointer (some ⟨g4, 0, none⟩)), pl 6 (.int .i64 r1), pl 11 (.bool (r1 != 0))] hF hS Fol (by kernel_rfl) (by kernel_rfl) (by kernel_rfl) ?_ (fun a w hF hS => ?_)
    · exact obs_nil
    refine cond_ev (t := 11) (b := (r1 != 0)) hF (by kernel_rfl) (fun hb => ?_) (fun hb => ?_)
    · replace hm := if_t hm hb
      refine reg [] [] [4, 5] [pl 4 (.slice none 0 0), pl 5 (.int .i64 r1)] hF hS Fol (by kernel_rfl) (by kernel_rfl) (by kernel_rfl) ?_ (fun a w hF hS => ?_)
      · exact obs_nil
      refine wp_ret ?_
      refine then_r ?_
      have hS : Sep w0 B w (own 3 (.slice none 0 0) (vI ([] : List Int)) :: blk g4 24 #[.int .i64 g1, .int .i64 g2, .slice A1 g3.length c1] :: fs) := hS.nil 3
      have hl1 := (hS.at_ 0 rfl).len1
      have hS := (hS.at_ 0 rfl).reN hl1
      have hS : Sep w0 B w (own 3 (.slice none (([] : List Int).length) 0) (vI ([] : List Int)) :: blk g4 24 #[.int .i64 g1, .int .i64 g2, .slice A1 g3.length c1] :: fs) := hS
      have hS := hS.pickN 2 [0] (by decide)
      have hm : some (([] : List Int), r1) = some r := hm
      obtain rfl := Option.some.inj hm
      exact retV (rs := [.tmp 4, .tmp 5]) (vs := [.slice none (([] : List Int).length) 0, .int .i64 r1]) hF rfl (rv_t (by kernel_rfl) <| rv_t (by kernel_rfl) <| rv_nil) rfl ⟨_, rfl, none, 0, rfl, hS⟩
    · replace hm := if_f hm hb
      refine wp_skip ?_
      refine then_n ?_
      exact ⟨hF.weak [1, 2] (by kernel_rfl), hS, hm⟩

noncomputable def slices_Clone_J1 (s1 : List Int) : Option (List Int) :=
  asrt ((0 : Int) + (s1.length : Int) ≤ bigN) <| some (([] : List Int) ++ s1)

noncomputable def slices_Clone_m (s1 : List Int) : Option (List Int) :=
  (slices_Clone_J1 s1)

set_option maxRecDepth 100000 in
set_option maxHeartbeats 4000000 in
theorem slices_Clone_w {A1 : Option Addr} {c1 : Nat} {n1 : Nat} {s1 : List Int} {r : (List Int)} {w0 w : World} {B : Nat} {fs : List HP} (hm : slices_Clone_m s1 = some r) (hS : Sep w0 B w (fs)) (hr_s1 : RdF w0 B fs A1 (vI s1)) (_hc_s1 : s1.length ≤ c1) (_hn_s1 : n1 = s1.length) :
    Calls Try.prog 113 #[.slice A1 n1 c1] w fun e w' => ∃ v, e = .returned v ∧ ∃ (A3 : Option Addr) (c3 : Nat), v = .slice A3 r.length c3 ∧ Sep w0 B w' (own 3 (.slice A3 r.length c3) (vI r) :: fs) := by
  obtain ⟨i3, hi3, hz3, hs3, hb3⟩ := info_parts Info3
  obtain rfl := _hn_s1
  unfold slices_Clone_m at hm
  replace hm := start_b hm
  refine enter (l := [.slice A1 s1.length c1]) (n := 8) Try.func113 rfl rfl (by simp) (fun a hF => ?_)
  refine reg [] [] [0] [pl 0 (.slice A1 s1.length c1)] hF hS Fol (by kernel_rfl) (by kernel_rfl) (by kernel_rfl) ?_ (fun a w hF hS => ?_)
  · exact obs_nil
  refine seq_cut (fun a w => Fr 8 [pl 0 (.slice A1 s1.length c1)] a ∧ Sep w0 B w (fs) ∧ ((slices_Clone_J1 s1)).bind some = some r) ?_ ?_
  · rintro a w ⟨hF, hS, hm⟩
    unfold slices_Clone_J1 at hm
    refine seqR ?_
    obtain ⟨hp1, hm⟩ := asrt_b hm
    refine at_do (d := 5) (s := vS (Instr.buildSlice 22 0 #[])) (v := .slice (some ⟨w.heap.size, 0, none⟩) 0 0) (w' := w.alloc (.cells #[] 3)) hF (by kernel_rfl) (by kernel_rfl) (by kernel_rfl) (fun a hF => ?_)
    have hS : Sep w0 B (w.alloc (.cells #[] 3)) (own 3 (.slice (some (⟨w.heap.size, 0, none⟩ : Addr)) 0 0) (vI ([] : List Int)) :: (fs)) := hS.lit 3 #[] 0 rfl (by omega)
    generalize (some (⟨w.heap.size, 0, none⟩ : Addr)) = g1 at hF hS
    generalize w.alloc (.cells #[] 3) = w at hS ⊢
    refine at_run 1 [] [] [5, 6] [pl 5 (.slice g1 0 0), pl 6 (.slice A1 s1.length c1)] hF hS (by kernel_rfl) (by kernel_rfl) ?_ (fun a w hF hS => ?_)
    · exact obs_nil
    obtain ⟨A2, c2, w, hrun, hS⟩ := run_app1 (P := Try.prog) (t := 22) (m := ([] : List Int)) (ys := s1) (A2 := A1) (m2 := s1.length) (c2 := c1) (Value.int .i64) (0 : Int) (hS.at_ 0 rfl) (hr_s1 _ (hS.dropN 1)) rfl 22 Und22 hi3 hz3 hs3 (by omega) rfl (fun _ => rfl) hp1
    have hS : Sep w0 B w (own 3 (.slice A2 ((([] : List Int) ++ s1).length) c2) (vI (([] : List Int) ++ s1)) :: fs) := hS
    refine at_do (d := 7) hF (by kernel_rfl) (by kernel_rfl) hrun (fun a hF => ?_)
    refine at_run 1 [] [] [2] [pl 2 (.slice A2 ((([] : List Int) ++ s1).length) c2)] hF hS (by kernel_rfl) (by kernel_rfl) ?_ (fun a w hF hS => ?_)
    · exact obs_nil
    refine at_end [2] [pl 2 (.slice A2 ((([] : List Int) ++ s1).length) c2)] hF rfl (by kernel_rfl) (fun hF => ?_)
    refine then_n ?_
    refine wp_ret ?_
    have hm : some (([] : List Int) ++ s1) = some r := hm
    obtain rfl := Option.some.inj hm
    exact retV (rs := [.tmp 2]) (vs := [.slice A2 ((([] : List Int) ++ s1).length) c2]) hF rfl (rv_t (by kernel_rfl) <| rv_nil) rfl ⟨_, rfl, A2, c2, rfl, hS⟩
  · refine reg [⟨true, [], vS (binOp .eql 22 (.slice A1 s1.length c1) (.slice none 0 0)), .bool A1.isNone⟩] [none, some (.bool A1.isNone)] [0, 4] [pl 0 (.slice A1 s1.length c1), pl 4 (.bool A1.isNone)] hF hS Fol (by kernel_rfl) (by kernel_rfl) (by kernel_rfl) ?_ (fun a w hF hS => ?_)
    · exact obs_cons (ob_isnil Und22 rfl) <| obs_nil
    refine cond_ev (t := 4) (b := A1.isNone) hF (by kernel_rfl) (fun hb => ?_) (fun hb => ?_)
    · have hA9 := Option.isNone_iff_eq_none.1 hb
      have hnil9 : s1 = [] := by have h9 := (hr_s1 _ (hS.dropN 0)); rw [hA9] at h9; exact h9.none_nil
      have hm : (some ([] : List Int)).bind some = some r := by rw [hnil9] at hm; simpa [asrt, bigN, slices_Clone_J1] using hm
      refine reg [] [] [2] [pl 2 (.slice none 0 0)] hF hS Fol (by kernel_rfl) (by kernel_rfl) (by kernel_rfl) ?_ (fun a w hF hS => ?_)
      · exact obs_nil
      refine wp_ret ?_
      refine then_r ?_
      have hS : Sep w0 B w (own 3 (.slice none 0 0) (vI ([] : List Int)) :: fs) := hS.nil 3
      have hl1 := (hS.at_ 0 rfl).len1
      have hS := (hS.at_ 0 rfl).reN hl1
      have hS : Sep w0 B w (own 3 (.slice none (([] : List Int).length) 0) (vI ([] : List Int)) :: fs) := hS
      have hm : some ([] : List Int) = some r := hm
      obtain rfl := Option.some.inj hm
      exact retV (rs := [.tmp 2]) (vs := [.slice none (([] : List Int).length) 0]) hF rfl (rv_t (by kernel_rfl) <| rv_nil) rfl ⟨_, rfl, none, 0, rfl, hS⟩
    · refine wp_skip ?_
      refine then_n ?_
      exact ⟨hF.weak [0] (by kernel_rfl), hS, hm⟩

noncomputable def othello_put_J3 (who1 : Int) (r1 : (List Int)) (g6 : List Int) (z1 : Int) : Option (St (List Int × Int) (List Int)) :=
  some (.next ((g6.set (Int.toNat (geti r1 z1)) who1), (w64 (z1 + 1))))

noncomputable def othello_put_J2 (who1 : Int) (r1 : (List Int)) (r2 : (List Int)) (g6 : List Int) (z1 : Int) : Option (St (List Int × Int) (List Int)) :=
  asrt (0 ≤ z1 ∧ z1 < (r1.length : Int)) <| asrt (0 ≤ (geti r1 z1) ∧ (geti r1 z1) < (r2.length : Int)) <| (othello_put_J3 who1 r1 g6 z1)

noncomputable def othello_put_J1 (g1 : Int) (g2 : Int) (g7 : List Int) : Option (Int × Int × List Int) :=
  some (g1, g2, g7)

noncomputable def othello_put_K1 (g1 : Int) (g2 : Int) : (List Int) → Option (Int × Int × List Int) :=
  fun (x : (List Int)) => match x with | g7 => (othello_put_J1 g1 g2) g7

noncomputable def othello_put_L1 (who1 : Int) (r1 : (List Int)) (r2 : (List Int)) : (List Int × Int) → Option (St (List Int × Int) (List Int)) :=
  fun (x : (List Int × Int)) => match x with | (g6, z1) => if (decide (z1 < (r1.length : Int))) then ((othello_put_J2 who1 r1 r2 g6 z1)) else (some (.done g6))

noncomputable def othello_put_m (g1 : Int) (g2 : Int) (g3 : List Int) (who1 : Int) (at1 : Int) : Option (Int × Int × List Int) :=
  (othello_turned_m g1 g2 g3 who1 at1).bind fun r1 => (slices_Clone_m g3).bind fun r2 => asrt (0 ≤ at1 ∧ at1 < (r2.length : Int)) <| (loop (othello_put_L1 who1 r1 r2) ((r2.set (Int.toNat at1) who1), 0)).bind (othello_put_K1 g1 g2)

set_option maxRecDepth 100000 in
set_option maxHeartbeats 4000000 in
theorem othello_put_w {g1 : Int} {g2 : Int} {A1 : Option Addr} {c1 : Nat} {n1 : Nat} {g3 : List Int} {who1 : Int} {at1 : Int} {r : (Int × Int × List Int)} {w0 w : World} {B : Nat} {fs : List HP} (hm : othello_put_m g1 g2 g3 who1 at1 = some r) (hS : Sep w0 B w (fs)) (hr_g3 : RdF w0 B fs A1 (vI g3)) (_hc_g3 : g3.length ≤ c1) (_hn_g3 : n1 = g3.length) :
    Calls Try.prog 60 #[.agg #[.int .i64 g1, .int .i64 g2, .slice A1 n1 c1], .int .i64 who1, .int .i64 at1] w fun e w' => ∃ v, e = .returned v ∧ ∃ (A4 : Option Addr) (c4 : Nat), v = .agg #[.int .i64 r.1, .int .i64 r.2.1, .slice A4 r.2.2.length c4] ∧ Sep w0 B w' (own 3 (.slice A4 r.2.2.length c4) (vI r.2.2) :: fs) := by
  obtain ⟨i3, hi3, hz3, hs3, hb3⟩ := info_parts Info3
  obtain ⟨i22, hi22, hz22, hs22, hb22⟩ := info_parts Info22
  obtain rfl := _hn_g3
  unfold othello_put_m at hm
  replace hm := start_b hm
  refine enter (l := [.agg #[.int .i64 g1, .int .i64 g2, .slice A1 g3.length c1], .int .i64 who1, .int .i64 at1]) (n := 36) Try.func60 rfl rfl (by simp) (fun a hF => ?_)
  refine seqR ?_
  refine at_do (d := 3) (s := vS (Instr.box 24 (.agg #[.int .i64 g1, .int .i64 g2, .slice A1 g3.length c1]))) (v := .pointer (some ⟨w.heap.size, 0, none⟩)) (w' := w.alloc (.cells #[.int .i64 g1, .int .i64 g2, .slice A1 g3.length c1] 24)) hF (by kernel_rfl) (by kernel_rfl) (by kernel_rfl) (fun a hF => ?_)
  have hS : Sep w0 B (w.alloc (.cells #[.int .i64 g1, .int .i64 g2, .slice A1 g3.length c1] 24)) (blk w.heap.size 24 #[.int .i64 g1, .int .i64 g2, .slice A1 g3.length c1] :: (fs)) := hS.box 24 #[.int .i64 g1, .int .i64 g2, .slice A1 g3.length c1]
  generalize w.heap.size = g4 at hF hS
  generalize w.alloc (.cells #[.int .i64 g1, .int .i64 g2, .slice A1 g3.length c1] 24) = w at hS ⊢
  refine at_do (d := 6) (s := vS (Instr.alloc 24 true (.tuple #[]))) (v := .pointer (some ⟨w.heap.size, 0, none⟩)) (w' := w.alloc (.cells #[.int .i64 0, .int .i64 0, .slice none 0 0] 24)) hF (by kernel_rfl) (by kernel_rfl) (by kernel_rfl) (fun a hF => ?_)
  have hS : Sep w0 B (w.alloc (.cells #[.int .i64 0, .int .i64 0, .slice none 0 0] 24)) (blk w.heap.size 24 #[.int .i64 0, .int .i64 0, .slice none 0 0] :: (blk g4 24 #[.int .i64 g1, .int .i64 g2, .slice A1 g3.length c1] :: fs)) := hS.box 24 #[.int .i64 0, .int .i64 0, .slice none 0 0]
  generalize w.heap.size = g5 at hF hS
  generalize w.alloc (.cells #[.int .i64 0, .int .i64 0, .slice none 0 0] 24) = w at hS ⊢
  refine at_end [1, 2, 3, 6] [pl 1 (.int .i64 who1), pl 2 (.int .i64 at1), pl 3 (.pointer (some ⟨g4, 0, none⟩)), pl 6 (.pointer (some ⟨g5, 0, none⟩))] hF rfl (by kernel_rfl) (fun hF => ?_)
  refine then_n ?_
  refine seqR ?_
  obtain ⟨r1, hr1, hm⟩ := call_b hm
  refine at_run 3 [⟨false, [], vS (Instr.loadAt 24 (.pointer (some ⟨g4, 0, none⟩))), .agg #[.int .i64 g1, .int .i64 g2, .slice A1 g3.length c1]⟩] [some (.agg #[.int .i64 g1, .int .i64 g2, .slice A1 g3.length c1]), none, none] [1, 2, 3, 6, 10, 11, 12] [pl 1 (.int .i64 who1), pl 2 (.int .i64 at1), pl 3 (.pointer (some ⟨g4, 0, none⟩)), pl 6 (.pointer (some ⟨g5, 0, none⟩)), pl 10 (.agg #[.int .i64 g1, .int .i64 g2, .slice A1 g3.length c1]), pl 11 (.int .i64 who1), pl 12 (.int .i64 at1)] hF hS (by kernel_rfl) (by kernel_rfl) ?_ (fun a w hF hS => ?_)
  · exact obs_cons (ob_loadA (cs := #[.int .i64 g1, .int .i64 g2, .slice A1 g3.length c1]) (by kernel_rfl) (by kernel_rfl) (fun _ _ hS => (hS.at_ 1 rfl).cellsAt 0 (by rfl))) <| obs_nil
  refine at_call (f := 59) (args := #[.agg #[.int .i64 g1, .int .i64 g2, .slice A1 g3.length c1], .int .i64 who1, .int .i64 at1]) (d := 13) hF (by kernel_rfl) (by kernel_rfl) Try.func59 (by kernel_rfl) rfl (othello_turned_w hr1 hS (fun _ hS => (hr_g3 _ (hS.dropN 2))) _hc_g3 rfl) (fun v a w hR hF => ?_)
  clear hS
  obtain ⟨A2, c2, rfl, hS⟩ := hR
  have hS : Sep w0 B w (own 3 (.slice A2 r1.length c2) (vI r1) :: blk g5 24 #[.int .i64 0, .int .i64 0, .slice none 0 0] :: blk g4 24 #[.int .i64 g1, .int .i64 g2, .slice A1 g3.length c1] :: fs) := hS
  refine at_run 1 [] [] [1, 2, 3, 6, 7] [pl 1 (.int .i64 who1), pl 2 (.int .i64 at1), pl 3 (.pointer (some ⟨g4, 0, none⟩)), pl 6 (.pointer (some ⟨g5, 0, none⟩)), pl 7 (.slice A2 r1.length c2)] hF hS (by kernel_rfl) (by kernel_rfl) ?_ (fun a w hF hS => ?_)
  · exact obs_nil
  refine at_end [1, 2, 3, 6, 7] [pl 1 (.int .i64 who1), pl 2 (.int .i64 at1), pl 3 (.pointer (some ⟨g4, 0, none⟩)), pl 6 (.pointer (some ⟨g5, 0, none⟩)), pl 7 (.slice A2 r1.length c2)] hF rfl (by kernel_rfl) (fun hF => ?_)
  refine then_n ?_
  refine seqR ?_
  obtain ⟨r2, hr2, hm⟩ := call_b hm
  refine at_run 2 [⟨false, [], vS (Instr.loadAt 22 (.pointer (some ⟨g4, 2, none⟩))), .slice A1 g3.length c1⟩] [none, some (.slice A1 g3.length c1)] [1, 2, 3, 6, 7, 15] [pl 1 (.int .i64 who1), pl 2 (.int .i64 at1), pl 3 (.pointer (some ⟨g4, 0, none⟩)), pl 6 (.pointer (some ⟨g5, 0, none⟩)), pl 7 (.slice A2 r1.length c2), pl 15 (.slice A1 g3.length c1)] hF hS (by kernel_rfl) (by kernel_rfl) ?_ (fun a w hF hS => ?_)
  · exact obs_cons (ob_load Agg22 (fun _ _ hS => (hS.at_ 2 rfl).cell rfl)) <| obs_nil
  refine at_call (f := 113) (args := #[.slice A1 g3.length c1]) (d := 16) hF (by kernel_rfl) (by kernel_rfl) Try.func113 (by kernel_rfl) rfl (slices_Clone_w hr2 hS (fun _ hS => (hr_g3 _ (hS.dropN 3))) _hc_g3 rfl) (fun v a w hR hF => ?_)
  clear hS
  obtain ⟨A3, c3, rfl, hS⟩ := hR
  have hS : Sep w0 B w (own 3 (.slice A3 r2.length c3) (vI r2) :: own 3 (.slice A2 r1.length c2) (vI r1) :: blk g5 24 #[.int .i64 0, .int .i64 0, .slice none 0 0] :: blk g4 24 #[.int .i64 g1, .int .i64 g2, .slice A1 g3.length c1] :: fs) := hS
  refine at_run 1 [] [] [1, 2, 3, 6, 7, 16, 17] [pl 1 (.int .i64 who1), pl 2 (.int .i64 at1), pl 3 (.pointer (some ⟨g4, 0, none⟩)), pl 6 (.pointer (some ⟨g5, 0, none⟩)), pl 7 (.slice A2 r1.length c2), pl 16 (.slice A3 r2.length c3), pl 17 (.pointer (some ⟨g4, 2, none⟩))] hF hS (by kernel_rfl) (by kernel_rfl) ?_ (fun a w hF hS => ?_)
  · exact obs_nil
  obtain ⟨w, hrun, hS⟩ := run_put (P := Try.prog) (t := 22) (u := .slice A3 r2.length c3) (i := 2) (hS.at_ 3 rfl) hi22 hs22 rfl (Nat.lt_of_lt_of_eq (Nat.lt_of_succ_le (Nat.le_of_ble_eq_true (by kernel_rfl))) rfl)
  refine at_skip hF (by kernel_rfl) hrun ?_
  have hS : Sep w0 B w (own 3 (.slice A3 r2.length c3) (vI r2) :: own 3 (.slice A2 r1.length c2) (vI r1) :: blk g5 24 #[.int .i64 0, .int .i64 0, .slice none 0 0] :: blk g4 24 #[.int .i64 g1, .int .i64 g2, .slice A3 r2.length c3] :: fs) := hS
  refine at_end [1, 2, 3, 6, 7] [pl 1 (.int .i64 who1), pl 2 (.int .i64 at1), pl 3 (.pointer (some ⟨g4, 0, none⟩)), pl 6 (.pointer (some ⟨g5, 0, none⟩)), pl 7 (.slice A2 r1.length c2)] hF rfl (by kernel_rfl) (fun hF => ?_)
  refine then_n ?_
  refine seqR ?_
  obtain ⟨hp1, hm⟩ := asrt_b hm
  refine at_run 5 [⟨false, [], vS (Instr.loadAt 22 (.pointer (some ⟨g4, 2, none⟩))), .slice A3 r2.length c3⟩, ⟨true, [], vS (Instr.indexAt 22 (.slice A3 r2.length c3) (.int .i64 at1)), .pointer (some (sAddr A3 at1))⟩] [none, some (.slice A3 r2.length c3), none, none, some (.pointer (some (sAddr A3 at1)))] [1, 3, 6, 7, 21, 22] [pl 1 (.int .i64 who1), pl 3 (.pointer (some ⟨g4, 0, none⟩)), pl 6 (.pointer (some ⟨g5, 0, none⟩)), pl 7 (.slice A2 r1.length c2), pl 21 (.int .i64 who1), pl 22 (.pointer (some (sAddr A3 at1)))] hF hS (by kernel_rfl) (by kernel_rfl) ?_ (fun a w hF hS => ?_)
  · exact obs_cons (ob_load Agg22 (fun _ _ hS => (hS.at_ 3 rfl).cell rfl)) <| obs_cons (ob_ix1 (f := (Value.int .i64)) (m := r2) Und22 hi3 hs3 (hS.at_ 0 rfl).rd rfl (fun _ => hp1)) <| obs_nil
  obtain ⟨w, hrun, hS⟩ := run_set1 (P := Try.prog) (t := 3) (x := who1) (Value.int .i64) (hS.at_ 0 rfl) hi3 hs3 rfl rfl hp1
  refine at_skip hF (by kernel_rfl) hrun ?_
  have hS : Sep w0 B w (own 3 (.slice A3 r2.length c3) (vI (r2.set (Int.toNat at1) who1)) :: own 3 (.slice A2 r1.length c2) (vI r1) :: blk g5 24 #[.int .i64 0, .int .i64 0, .slice none 0 0] :: blk g4 24 #[.int .i64 g1, .int .i64 g2, .slice A3 r2.length c3] :: fs) := hS
  refine at_end [1, 3, 6, 7] [pl 1 (.int .i64 who1), pl 3 (.pointer (some ⟨g4, 0, none⟩)), pl 6 (.pointer (some ⟨g5, 0, none⟩)), pl 7 (.slice A2 r1.length c2)] hF rfl (by kernel_rfl) (fun hF => ?_)
  refine then_n ?_
  refine seq_cut (fun a w => ∃ (g7 : List Int), Fr 36 [pl 3 (.pointer (some ⟨g4, 0, none⟩)), pl 6 (.pointer (some ⟨g5, 0, none⟩))] a ∧ Sep w0 B w (blk g4 24 #[.int .i64 g1, .int .i64 g2, .slice A3 r2.length c3] :: own 3 (.slice A3 r2.length c3) (vI g7) :: blk g5 24 #[.int .i64 0, .int .i64 0, .slice none 0 0] :: fs) ∧ ((othello_put_J1 g1 g2) g7).bind some = some r) ?_ ?_
  · rintro a w ⟨g7, hF, hS, hm⟩
    unfold othello_put_J1 at hm
    refine seqR ?_
    refine at_run 1 [⟨false, [], vS (Instr.loadAt 24 (.pointer (some ⟨g4, 0, none⟩))), .agg #[.int .i64 g1, .int .i64 g2, .slice A3 r2.length c3]⟩] [some (.agg #[.int .i64 g1, .int .i64 g2, .slice A3 r2.length c3])] [6, 35] [pl 6 (.pointer (some ⟨g5, 0, none⟩)), pl 35 (.agg #[.int .i64 g1, .int .i64 g2, .slice A3 r2.length c3])] hF hS (by kernel_rfl) (by kernel_rfl) ?_ (fun a w hF hS => ?_)
    · exact obs_cons (ob_loadA (cs := #[.int .i64 g1, .int .i64 g2, .slice A3 r2.length c3]) (by kernel_rfl) (by kernel_rfl) (fun _ _ hS => (hS.at_ 0 rfl).cellsAt 0 (by rfl))) <| obs_nil
    obtain ⟨w, hrun, hS⟩ := run_putA (P := Try.prog) (t := 24) (us := #[.int .i64 g1, .int .i64 g2, .slice A3 r2.length c3]) (o := 0) (hS.at_ 2 rfl) (by kernel_rfl) (all_one (by kernel_rfl)) (Nat.le_of_ble_eq_true (by kernel_rfl))
    refine at_skip hF (by kernel_rfl) hrun ?_
    have hS : Sep w0 B w (blk g4 24 #[.int .i64 g1, .int .i64 g2, .slice A3 r2.length c3] :: own 3 (.slice A3 r2.length c3) (vI g7) :: blk g5 24 #[.int .i64 g1, .int .i64 g2, .slice A3 r2.length c3] :: fs) := hS
    refine at_end [6] [pl 6 (.pointer (some ⟨g5, 0, none⟩))] hF rfl (by kernel_rfl) (fun hF => ?_)
    refine then_n ?_
    refine wp_ret ?_
    have hl1 := (hS.at_ 1 rfl).len1
    have hS := (hS.at_ 1 rfl).reN hl1
    have hS := (hS.at_ 0 rfl).reBlk (congrArg (fun k9 => (#[.int .i64 g1, .int .i64 g2, .slice A3 k9 c3] : Array Value)) hl1)
    have hS := (hS.at_ 2 rfl).reBlk (congrArg (fun k9 => (#[.int .i64 g1, .int .i64 g2, .slice A3 k9 c3] : Array Value)) hl1)
    have hS : Sep w0 B w (blk g4 24 #[.int .i64 g1, .int .i64 g2, .slice A3 g7.length c3] :: own 3 (.slice A3 g7.length c3) (vI g7) :: blk g5 24 #[.int .i64 g1, .int .i64 g2, .slice A3 g7.length c3] :: fs) := hS
    have hld0 := run_loadVarA (P := Try.prog) (t := 24) (cs := #[.int .i64 g1, .int .i64 g2, .slice A3 g7.length c3]) (by kernel_rfl) (by kernel_rfl) ((hS.at_ 2 rfl).cellsAt 0 (by rfl))
    have hS := hS.pickN 3 [1] (by decide)
    have hm : some (g1, g2, g7) = some r := hm
    obtain rfl := Option.some.inj hm
    exact retV (rs := [.cell 6 24]) (vs := [.agg #[.int .i64 g1, .int .i64 g2, .slice A3 g7.length c3]]) hF rfl (rv_c (by kernel_rfl) hld0 <| rv_nil) rfl ⟨_, rfl, A3, c3, rfl, hS⟩
  · refine reg [] [] [1, 3, 6, 23, 24, 25] [pl 1 (.int .i64 who1), pl 3 (.pointer (some ⟨g4, 0, none⟩)), pl 6 (.pointer (some ⟨g5, 0, none⟩)), pl 23 (.slice A2 r1.length c2), pl 24 (.int .i64 (r1.length : Int)), pl 25 (.int .i64 0)] hF hS Fol (by kernel_rfl) (by kernel_rfl) (by kernel_rfl) ?_ (fun a w hF hS => ?_)
    · exact obs_nil
    refine wp_block ?_
    have hS := hS.pickN 4 [3, 0, 2, 1] (by decide)
    refine wp_loop_model (S := (List Int × Int)) (R := (List Int)) (othello_put_L1 who1 r1 r2) (fun x => ((othello_put_K1 g1 g2) x).bind some) r (fun (x : (List Int × Int)) a w => Fr 36 [pl 1 (.int .i64 who1), pl 3 (.pointer (some ⟨g4, 0, none⟩)), pl 6 (.pointer (some ⟨g5, 0, none⟩)), pl 23 (.slice A2 r1.length c2), pl 24 (.int .i64 (r1.length : Int)), pl 25 (.int .i64 x.2)] a ∧ Sep w0 B w (blk g4 24 #[.int .i64 g1, .int .i64 g2, .slice A3 r2.length c3] :: own 3 (.slice A3 r2.length c3) (vI x.1) :: blk g5 24 #[.int .i64 0, .int .i64 0, .slice none 0 0] :: own 3 (.slice A2 r1.length c2) (vI r1) :: fs)) (assoc_b hm) ⟨hF.weak [1, 3, 6, 23, 24, 25] (by kernel_rfl), hS⟩ ?_
    clear hF hS hm
    rintro nn1 ⟨g6, z1⟩ a w ⟨hF, hS⟩ hm
    generalize hφ1 : stK (othello_put_L1 who1 r1 r2) nn1 (fun x => ((othello_put_K1 g1 g2) x).bind some) = φ1 at hm
    unfold othello_put_L1 at hm
    dsimp only at hF hS hm
    refine reg [] [] [1, 3, 6, 23, 24, 25, 26] [pl 1 (.int .i64 who1), pl 3 (.pointer (some ⟨g4, 0, none⟩)), pl 6 (.pointer (some ⟨g5, 0, none⟩)), pl 23 (.slice A2 r1.length c2), pl 24 (.int .i64 (r1.length : Int)), pl 25 (.int .i64 z1), pl 26 (.bool (decide (z1 < (r1.length : Int))))] hF hS Fol (by kernel_rfl) (by kernel_rfl) (by kernel_rfl) ?_ (fun a w hF hS => ?_)
    · exact obs_nil
    refine seq_cut (fun a w => Fr 36 [pl 1 (.int .i64 who1), pl 3 (.pointer (some ⟨g4, 0, none⟩)), pl 6 (.pointer (some ⟨g5, 0, none⟩)), pl 23 (.slice A2 r1.length c2), pl 24 (.int .i64 (r1.length : Int)), pl 25 (.int .i64 z1)] a ∧ Sep w0 B w (blk g4 24 #[.int .i64 g1, .int .i64 g2, .slice A3 r2.length c3] :: own 3 (.slice A3 r2.length c3) (vI g6) :: blk g5 24 #[.int .i64 0, .int .i64 0, .slice none 0 0] :: own 3 (.slice A2 r1.length c2) (vI r1) :: fs) ∧ ((othello_put_J2 who1 r1 r2 g6 z1)).bind φ1 = some r) ?_ ?_
    · rintro a w ⟨hF, hS, hm⟩
      unfold othello_put_J2 at hm
      refine seq_cut (fun a w => Fr 36 [pl 1 (.int .i64 who1), pl 3 (.pointer (some ⟨g4, 0, none⟩)), pl 6 (.pointer (some ⟨g5, 0, none⟩)), pl 23 (.slice A2 r1.length c2), pl 24 (.int .i64 (r1.length : Int)), pl 25 (.int .i64 z1)] a ∧ Sep w0 B w (blk g4 24 #[.int .i64 g1, .int .i64 g2, .slice A3 r2.length c3] :: own 3 (.slice A3 r2.length c3) (vI (g6.set (Int.toNat (geti r1 z1)) who1)) :: blk g5 24 #[.int .i64 0, .int .i64 0, .slice none 0 0] :: own 3 (.slice A2 r1.length c2) (vI r1) :: fs) ∧ ((othello_put_J3 who1 r1 g6 z1)).bind φ1 = some r) ?_ ?_
      · rintro a w ⟨hF, hS, hm⟩
        unfold othello_put_J3 at hm
        refine reg1 [] [] [1, 3, 6, 23, 24, 25] [pl 1 (.int .i64 who1), pl 3 (.pointer (some ⟨g4, 0, none⟩)), pl 6 (.pointer (some ⟨g5, 0, none⟩)), pl 23 (.slice A2 r1.length c2), pl 24 (.int .i64 (r1.length : Int)), pl 25 (.int .i64 (w64 (z1 + 1)))] hF hS Fol (by kernel_rfl) (by kernel_rfl) (by kernel_rfl) ?_ (fun a w hF hS => ?_)
        · exact obs_nil
        refine then_n ?_
        rw [← hφ1] at hm
        exact ⟨((g6.set (Int.toNat (geti r1 z1)) who1), (w64 (z1 + 1))), ⟨hF.weak [1, 3, 6, 23, 24, 25] (by kernel_rfl), hS⟩, hm⟩
      · refine wp_block ?_
        obtain ⟨hp2, hm⟩ := asrt_b hm
        refine reg [⟨true, [], vS (Instr.indexAt 22 (.slice A2 r1.length c2) (.int .i64 z1)), .pointer (some (sAddr A2 z1))⟩, ⟨false, [], vS (Instr.loadAt 3 (.pointer (some (sAddr A2 z1)))), .int .i64 (geti r1 z1)⟩] [some (.pointer (some (sAddr A2 z1))), some (.int .i64 (geti r1 z1)), none] [1, 3, 6, 9, 23, 24, 25] [pl 1 (.int .i64 who1), pl 3 (.pointer (some ⟨g4, 0, none⟩)), pl 6 (.pointer (some ⟨g5, 0, none⟩)), pl 9 (.int .i64 (geti r1 z1)), pl 23 (.slice A2 r1.length c2), pl 24 (.int .i64 (r1.length : Int)), pl 25 (.int .i64 z1)] hF hS Fol (by kernel_rfl) (by kernel_rfl) (by kernel_rfl) ?_ (fun a w hF hS => ?_)
        · exact obs_cons (ob_ix1 (f := (Value.int .i64)) (m := r1) Und22 hi3 hs3 (hS.at_ 3 rfl).rd rfl (fun _ => hp2)) <| obs_cons (ob_get1 (n := r1.length) (m := r1) (Value.int .i64) (0 : Int) Agg3 (fun _ hS => ⟨_, (hS.at_ 3 rfl).rd⟩) (fun _ hS => rfl) (fun _ => hp2)) <| obs_nil
        refine oneR ?_
        obtain ⟨hp3, hm⟩ := asrt_b hm
        refine at_run 5 [⟨false, [], vS (Instr.loadAt 22 (.pointer (some ⟨g4, 2, none⟩))), .slice A3 r2.length c3⟩, ⟨true, [], vS (Instr.indexAt 22 (.slice A3 r2.length c3) (.int .i64 (geti r1 z1))), .pointer (some (sAddr A3 (geti r1 z1)))⟩] [none, some (.slice A3 r2.length c3), none, none, some (.pointer (some (sAddr A3 (geti r1 z1))))] [1, 3, 6, 23, 24, 25, 32, 33] [pl 1 (.int .i64 who1), pl 3 (.pointer (some ⟨g4, 0, none⟩)), pl 6 (.pointer (some ⟨g5, 0, none⟩)), pl 23 (.slice A2 r1.length c2), pl 24 (.int .i64 (r1.length : Int)), pl 25 (.int .i64 z1), pl 32 (.int .i64 who1), pl 33 (.pointer (some (sAddr A3 (geti r1 z1))))] hF hS (by kernel_rfl) (by kernel_rfl) ?_ (fun a w hF hS => ?_)
        · exact obs_cons (ob_load Agg22 (fun _ _ hS => (hS.at_ 0 rfl).cell rfl)) <| obs_cons (ob_ix1 (f := (Value.int .i64)) (m := g6) Und22 hi3 hs3 (hS.at_ 1 rfl).rd ((hS.at_ 1 rfl).len1) (fun _ => hp3)) <| obs_nil
        obtain ⟨w, hrun, hS⟩ := run_set1 (P := Try.prog) (t := 3) (x := who1) (Value.int .i64) (hS.at_ 1 rfl) hi3 hs3 rfl rfl hp3
        refine at_skip hF (by kernel_rfl) hrun ?_
        have hS : Sep w0 B w (blk g4 24 #[.int .i64 g1, .int .i64 g2, .slice A3 r2.length c3] :: own 3 (.slice A3 r2.length c3) (vI (g6.set (Int.toNat (geti r1 z1)) who1)) :: blk g5 24 #[.int .i64 0, .int .i64 0, .slice none 0 0] :: own 3 (.slice A2 r1.length c2) (vI r1) :: fs) := hS
        refine at_end [1, 3, 6, 23, 24, 25] [pl 1 (.int .i64 who1), pl 3 (.pointer (some ⟨g4, 0, none⟩)), pl 6 (.pointer (some ⟨g5, 0, none⟩)), pl 23 (.slice A2 r1.length c2), pl 24 (.int .i64 (r1.length : Int)), pl 25 (.int .i64 z1)] hF rfl (by kernel_rfl) (fun hF => ?_)
        refine block_n ?_
        refine then_n ?_
        exact ⟨hF.weak [1, 3, 6, 23, 24, 25] (by kernel_rfl), hS, hm⟩
    · refine cond_ev (t := 26) (b := decide (z1 < (r1.length : Int))) hF (by kernel_rfl) (fun hb => ?_) (fun hb => ?_)
      · replace hm := if_t hm hb
        refine wp_skip ?_
        refine then_n ?_
        exact ⟨hF.weak [1, 3, 6, 23, 24, 25] (by kernel_rfl), hS, hm⟩
      · replace hm := if_f hm hb
        refine wp_exit ?_
        refine then_e (then_e (block_e (then_n ?_)))
        have hS := hS.pickN 4 [0, 1, 2] (by decide)
        rw [← hφ1] at hm
        replace hm := done_b hm
        unfold othello_put_K1 at hm
        try dsimp only at hm
        have hm : ((othello_put_J1 g1 g2) g6).bind some = some r := hm
        exact ⟨g6, hF.weak [3, 6] (by kernel_rfl), hS, hm⟩

noncomputable def othello_Put_J2 (g1 : Int) (g2 : Int) (g3 : List Int) (who1 : Int) (at1 : Int) : Option (Int × Int × List Int × Int) :=
  (othello_put_m g1 g2 g3 who1 at1).bind fun r3 => some (r3.1, r3.2.1, r3.2.2, 0)

noncomputable def othello_Put_J1 (g1 : Int) (g2 : Int) (g3 : List Int) (who1 : Int) (at1 : Int) : Option (Int × Int × List Int × Int) :=
  if ((decide (at1 < 0)) || (decide ((g3.length : Int) ≤ at1))) then (some (0, 0, ([] : List Int), 3)) else ((othello_turned_m g1 g2 g3 who1 at1).bind fun r2 => if ((r2.length : Int) == 0) then (some (0, 0, ([] : List Int), 8)) else ((othello_Put_J2 g1 g2 g3 who1 at1)))

noncomputable def othello_Put_m (g1 : Int) (g2 : Int) (g3 : List Int) (who1 : Int) (at1 : Int) : Option (Int × Int × List Int × Int) :=
  (othello_check_m g1 g2 g3 who1).bind fun r1 => if (r1 != 0) then (some (0, 0, ([] : List Int), r1)) else ((othello_Put_J1 g1 g2 g3 who1 at1))

set_option maxRecDepth 100000 in
set_option maxHeartbeats 4000000 in
theorem othello_Put_w {g1 : Int} {g2 : Int} {A1 : Option Addr} {c1 : Nat} {n1 : Nat} {g3 : List Int} {who1 : Int} {at1 : Int} {r : (Int × Int × List Int × Int)} {w0 w : World} {B : Nat} {fs : List HP} (hm : othello_Put_m g1 g2 g3 who1 at1 = some r) (hS : Sep w0 B w (fs)) (hr_g3 : RdF w0 B fs A1 (vI g3)) (_hc_g3 : g3.length ≤ c1) (_hn_g3 : n1 = g3.length) :
    Calls Try.prog 14 #[.agg #[.int .i64 g1, .int .i64 g2, .slice A1 n1 c1], .int .i64 who1, .int .i64 at1] w fun e w' => ∃ v, e = .returned v ∧ ∃ (A4 : Option Addr) (c4 : Nat), v = .tuple #[.agg #[.int .i64 r.1, .int .i64 r.2.1, .slice A4 r.2.2.1.length c4], .int .i64 r.2.2.2] ∧ Sep w0 B w' (own 3 (.slice A4 r.2.2.1.length c4) (vI r.2.2.1) :: fs) := by
  obtain ⟨i3, hi3, hz3, hs3, hb3⟩ := info_parts Info3
  obtain rfl := _hn_g3
  unfold othello_Put_m at hm
  replace hm := start_b hm
  refine enter (l := [.agg #[.int .i64 g1, .int .i64 g2, .slice A1 g3.length c1], .int .i64 who1, .int .i64 at1]) (n := 39) Try.func14 rfl rfl (by simp) (fun a hF => ?_)
  refine seqR ?_
  refine at_do (d := 3) (s := vS (Instr.box 24 (.agg #[.int .i64 g1, .int .i64 g2, .slice A1 g3.length c1]))) (v := .pointer (some ⟨w.heap.size, 0, none⟩)) (w' := w.alloc (.cells #[.int .i64 g1, .int .i64 g2, .slice A1 g3.length c1] 24)) hF (by kernel_rfl) (by kernel_rfl) (by kernel_rfl) (fun a hF => ?_)
  have hS : Sep w0 B (w.alloc (.cells #[.int .i64 g1, .int .i64 g2, .slice A1 g3.length c1] 24)) (blk w.heap.size 24 #[.int .i64 g1, .int .i64 g2, .slice A1 g3.length c1] :: (fs)) := hS.box 24 #[.int .i64 g1, .int .i64 g2, .slice A1 g3.length c1]
  generalize w.heap.size = g4 at hF hS
  generalize w.alloc (.cells #[.int .i64 g1, .int .i64 g2, .slice A1 g3.length c1] 24) = w at hS ⊢
  refine at_do (d := 6) (s := vS (Instr.alloc 24 true (.tuple #[]))) (v := .pointer (some ⟨w.heap.size, 0, none⟩)) (w' := w.alloc (.cells #[.int .i64 0, .int .i64 0, .slice none 0 0] 24)) hF (by kernel_rfl) (by kernel_rfl) (by kernel_rfl) (fun a hF => ?_)
  have hS : Sep w0 B (w.alloc (.cells #[.int .i64 0, .int .i64 0, .slice none 0 0] 24)) (blk w.heap.size 24 #[.int .i64 0, .int .i64 0, .slice none 0 0] :: (blk g4 24 #[.int .i64 g1, .int .i64 g2, .slice A1 g3.length c1] :: fs)) := hS.box 24 #[.int .i64 0, .int .i64 0, .slice none 0 0]
  generalize w.heap.size = g5 at hF hS
  generalize w.alloc (.cells #[.int .i64 0, .int .i64 0, .slice none 0 0] 24) = w at hS ⊢
  refine at_run 1 [] [] [1, 2, 3, 6] [pl 1 (.int .i64 who1), pl 2 (.int .i64 at1), pl 3 (.pointer (some ⟨g4, 0, none⟩)), pl 6 (.pointer (some ⟨g5, 0, none⟩))] hF hS (by kernel_rfl) (by kernel_rfl) ?_ (fun a w hF hS => ?_)
  · exact obs_nil
  refine at_end [1, 2, 3, 6] [pl 1 (.int .i64 who1), pl 2 (.int .i64 at1), pl 3 (.pointer (some ⟨g4, 0, none⟩)), pl 6 (.pointer (some ⟨g5, 0, none⟩))] hF rfl (by kernel_rfl) (fun hF => ?_)
  refine then_n ?_
  refine seq_cut (fun a w => Fr 39 [pl 1 (.int .i64 who1), pl 2 (.int .i64 at1), pl 3 (.pointer (some ⟨g4, 0, none⟩)), pl 6 (.pointer (some ⟨g5, 0, none⟩))] a ∧ Sep w0 B w (blk g4 24 #[.int .i64 g1, .int .i64 g2, .slice A1 g3.length c1] :: blk g5 24 #[.int .i64 0, .int .i64 0, .slice none 0 0] :: fs) ∧ ((othello_Put_J1 g1 g2 g3 who1 at1)).bind some = some r) ?_ ?_
  · rintro a w ⟨hF, hS, hm⟩
    unfold othello_Put_J1 at hm
    refine seq_cut (fun a w => Fr 39 [pl 1 (.int .i64 who1), pl 2 (.int .i64 at1), pl 3 (.pointer (some ⟨g4, 0, none⟩)), pl 6 (.pointer (some ⟨g5, 0, none⟩))] a ∧ Sep w0 B w (blk g4 24 #[.int .i64 g1, .int .i64 g2, .slice A1 g3.length c1] :: blk g5 24 #[.int .i64 0, .int .i64 0, .slice none 0 0] :: fs) ∧ ((othello_Put_J2 g1 g2 g3 who1 at1)).bind some = some r) ?_ ?_
    · rintro a w ⟨hF, hS, hm⟩
      unfold othello_Put_J2 at hm
      refine seqR ?_
      obtain ⟨r3, hr3, hm⟩ := call_b hm
      refine at_run 3 [⟨false, [], vS (Instr.loadAt 24 (.pointer (some ⟨g4, 0, none⟩))), .agg #[.int .i64 g1, .int .i64 g2, .slice A1 g3.length c1]⟩] [some (.agg #[.int .i64 g1, .int .i64 g2, .slice A1 g3.length c1]), none, none] [6, 35, 36, 37] [pl 6 (.pointer (some ⟨g5, 0, none⟩)), pl 35 (.agg #[.int .i64 g1, .int .i64 g2, .slice A1 g3.length c1]), pl 36 (.int .i64 who1), pl 37 (.int .i64 at1)] hF hS (by kernel_rfl) (by kernel_rfl) ?_ (fun a w hF hS => ?_)
      · exact obs_cons (ob_loadA (cs := #[.int .i64 g1, .int .i64 g2, .slice A1 g3.length c1]) (by kernel_rfl) (by kernel_rfl) (fun _ _ hS => (hS.at_ 0 rfl).cellsAt 0 (by rfl))) <| obs_nil
      refine at_call (f := 60) (args := #[.agg #[.int .i64 g1, .int .i64 g2, .slice A1 g3.length c1], .int .i64 who1, .int .i64 at1]) (d := 38) hF (by kernel_rfl) (by kernel_rfl) Try.func60 (by kernel_rfl) rfl (othello_put_w hr3 hS (fun _ hS => (hr_g3 _ (hS.dropN 2))) _hc_g3 rfl) (fun v a w hR hF => ?_)
      clear hS
      obtain ⟨A3, c3, rfl, hS⟩ := hR
      have hS : Sep w0 B w (own 3 (.slice A3 r3.2.2.length c3) (vI r3.2.2) :: blk g4 24 #[.int .i64 g1, .int .i64 g2, .slice A1 g3.length c1] :: blk g5 24 #[.int .i64 0, .int .i64 0, .slice none 0 0] :: fs) := hS
      obtain ⟨w, hrun, hS⟩ := run_putA (P := Try.prog) (t := 24) (us := #[.int .i64 r3.1, .int .i64 r3.2.1, .slice A3 r3.2.2.length c3]) (o := 0) (hS.at_ 2 rfl) (by kernel_rfl) (all_one (by kernel_rfl)) (Nat.le_of_ble_eq_true (by kernel_rfl))
      refine at_skip hF (by kernel_rfl) hrun ?_
      have hS : Sep w0 B w (own 3 (.slice A3 r3.2.2.length c3) (vI r3.2.2) :: blk g4 24 #[.int .i64 g1, .int .i64 g2, .slice A1 g3.length c1] :: blk g5 24 #[.int .i64 r3.1, .int .i64 r3.2.1, .slice A3 r3.2.2.length c3] :: fs) := hS
      refine at_run 1 [] [] [6, 7] [pl 6 (.pointer (some ⟨g5, 0, none⟩)), pl 7 (.int .i64 0)] hF hS (by kernel_rfl) (by kernel_rfl) ?_ (fun a w hF hS => ?_)
      · exact obs_nil
      refine at_end [6, 7] [pl 6 (.pointer (some ⟨g5, 0, none⟩)), pl 7 (.int .i64 0)] hF rfl (by kernel_rfl) (fun hF => ?_)
      refine then_n ?_
      refine wp_ret ?_
      have hld0 := run_loadVarA (P := Try.prog) (t := 24) (cs := #[.int .i64 r3.1, .int .i64 r3.2.1, .slice A3 r3.2.2.length c3]) (by kernel_rfl) (by kernel_rfl) ((hS.at_ 2 rfl).cellsAt 0 (by rfl))
      have hS := hS.pickN 3 [0] (by decide)
      have hm : some (r3.1, r3.2.1, r3.2.2, 0) = some r := hm
      obtain rfl := Option.some.inj hm
      exact retV (rs := [.cell 6 24, .tmp 7]) (vs := [.agg #[.int .i64 r3.1, .int .i64 r3.2.1, .slice A3 r3.2.2.length c3], .int .i64 0]) hF rfl (rv_c (by kernel_rfl) hld0 <| rv_t (by kernel_rfl) <| rv_nil) rfl ⟨_, rfl, A3, c3, rfl, hS⟩
    · refine wp_block ?_
      refine reg [⟨false, [(decide (at1 < 0), false)], vS (Instr.loadAt 22 (.pointer (some ⟨g4, 2, none⟩))), .slice A1 g3.length c1⟩] [none, none, none, none, none, some (.slice A1 g3.length c1), none, none, none, none] [1, 2, 3, 6, 16] [pl 1 (.int .i64 who1), pl 2 (.int .i64 at1), pl 3 (.pointer (some ⟨g4, 0, none⟩)), pl 6 (.pointer (some ⟨g5, 0, none⟩)), pl 16 (.bool ((decide (at1 < 0)) || (decide ((g3.length : Int) ≤ at1))))] hF hS Fol (by kernel_rfl) (by kernel_rfl) (by kernel_rfl) ?_ (fun a w hF hS => ?_)
      · exact obs_cons (ob_load Agg22 (fun _ _ hS => (hS.at_ 0 rfl).cell rfl)) <| obs_nil
      refine cond_ev (t := 16) (b := (decide (at1 < 0)) || (decide ((g3.length : Int) ≤ at1))) hF (by kernel_rfl) (fun hb => ?_) (fun hb => ?_)
      · replace hm := if_t hm hb
        refine seqR ?_
        refine at_run 1 [] [] [6, 26] [pl 6 (.pointer (some ⟨g5, 0, none⟩)), pl 26 (.agg #[.int .i64 0, .int .i64 0, .slice none 0 0])] hF hS (by kernel_rfl) (by kernel_rfl) ?_ (fun a w hF hS => ?_)
        · exact obs_nil
        obtain ⟨w, hrun, hS⟩ := run_putA (P := Try.prog) (t := 24) (us := #[.int .i64 0, .int .i64 0, .slice none 0 0]) (o := 0) (hS.at_ 1 rfl) (by kernel_rfl) (all_one (by kernel_rfl)) (Nat.le_of_ble_eq_true (by kernel_rfl))
        refine at_skip hF (by kernel_rfl) hrun ?_
        have hS : Sep w0 B w (blk g4 24 #[.int .i64 g1, .int .i64 g2, .slice A1 g3.length c1] :: blk g5 24 #[.int .i64 0, .int .i64 0, .slice none 0 0] :: fs) := hS
        refine at_run 1 [] [] [6, 7] [pl 6 (.pointer (some ⟨g5, 0, none⟩)), pl 7 (.int .i64 3)] hF hS (by kernel_rfl) (by kernel_rfl) ?_ (fun a w hF hS => ?_)
        · exact obs_nil
        refine at_end [6, 7] [pl 6 (.pointer (some ⟨g5, 0, none⟩)), pl 7 (.int .i64 3)] hF rfl (by kernel_rfl) (fun hF => ?_)
        refine then_n ?_
        refine wp_ret ?_
        refine block_r (then_r ?_)
        have hS : Sep w0 B w (own 3 (.slice none 0 0) (vI ([] : List Int)) :: blk g4 24 #[.int .i64 g1, .int .i64 g2, .slice A1 g3.length c1] :: blk g5 24 #[.int .i64 0, .int .i64 0, .slice none 0 0] :: fs) := hS.nil 3
        have hl2 := (hS.at_ 0 rfl).len1
        have hS := (hS.at_ 0 rfl).reN hl2
        have hS : Sep w0 B w (own 3 (.slice none (([] : List Int).length) 0) (vI ([] : List Int)) :: blk g4 24 #[.int .i64 g1, .int .i64 g2, .slice A1 g3.length c1] :: blk g5 24 #[.int .i64 0, .int .i64 0, .slice none 0 0] :: fs) := hS
        have hld0 := run_loadVarA (P := Try.prog) (t := 24) (cs := #[.int .i64 0, .int .i64 0, .slice none (([] : List Int).length) 0]) (by kernel_rfl) (by kernel_rfl) ((hS.at_ 2 rfl).cellsAt 0 (by rfl))
        have hS := hS.pickN 3 [0] (by decide)
        have hm : some (0, 0, ([] : List Int), 3) = some r := hm
        obtain rfl := Option.some.inj hm
        exact retV (rs := [.cell 6 24, .tmp 7]) (vs := [.agg #[.int .i64 0, .int .i64 0, .slice none (([] : List Int).length) 0], .int .i64 3]) hF rfl (rv_c (by kernel_rfl) hld0 <| rv_t (by kernel_rfl) <| rv_nil) rfl ⟨_, rfl, none, 0, rfl, hS⟩
      · replace hm := if_f hm hb
        refine seqR ?_
        obtain ⟨r2, hr2, hm⟩ := call_b hm
        refine at_run 3 [⟨false, [], vS (Instr.loadAt 24 (.pointer (some ⟨g4, 0, none⟩))), .agg #[.int .i64 g1, .int .i64 g2, .slice A1 g3.length c1]⟩] [some (.agg #[.int .i64 g1, .int .i64 g2, .slice A1 g3.length c1]), none, none] [1, 2, 3, 6, 28, 29, 30] [pl 1 (.int .i64 who1), pl 2 (.int .i64 at1), pl 3 (.pointer (some ⟨g4, 0, none⟩)), pl 6 (.pointer (some ⟨g5, 0, none⟩)), pl 28 (.agg #[.int .i64 g1, .int .i64 g2, .slice A1 g3.length c1]), pl 29 (.int .i64 who1), pl 30 (.int .i64 at1)] hF hS (by kernel_rfl) (by kernel_rfl) ?_ (fun a w hF hS => ?_)
        · exact obs_cons (ob_loadA (cs := #[.int .i64 g1, .int .i64 g2, .slice A1 g3.length c1]) (by kernel_rfl) (by kernel_rfl) (fun _ _ hS => (hS.at_ 0 rfl).cellsAt 0 (by rfl))) <| obs_nil
        refine at_call (f := 59) (args := #[.agg #[.int .i64 g1, .int .i64 g2, .slice A1 g3.length c1], .int .i64 who1, .int .i64 at1]) (d := 31) hF (by kernel_rfl) (by kernel_rfl) Try.func59 (by kernel_rfl) rfl (othello_turned_w hr2 hS (fun _ hS => (hr_g3 _ (hS.dropN 2))) _hc_g3 rfl) (fun v a w hR hF => ?_)
        clear hS
        obtain ⟨A2, c2, rfl, hS⟩ := hR
        have hS : Sep w0 B w (own 3 (.slice A2 r2.length c2) (vI r2) :: blk g4 24 #[.int .i64 g1, .int .i64 g2, .slice A1 g3.length c1] :: blk g5 24 #[.int .i64 0, .int .i64 0, .slice none 0 0] :: fs) := hS
        refine at_run 3 [] [] [1, 2, 3, 6, 27] [pl 1 (.int .i64 who1), pl 2 (.int .i64 at1), pl 3 (.pointer (some ⟨g4, 0, none⟩)), pl 6 (.pointer (some ⟨g5, 0, none⟩)), pl 27 (.bool ((r2.length : Int) == 0))] hF hS (by kernel_rfl) (by kernel_rfl) ?_ (fun a w hF hS => ?_)
        · exact obs_nil
        refine at_end [1, 2, 3, 6, 27] [pl 1 (.int .i64 who1), pl 2 (.int .i64 at1), pl 3 (.pointer (some ⟨g4, 0, none⟩)), pl 6 (.pointer (some ⟨g5, 0, none⟩)), pl 27 (.bool ((r2.length : Int) == 0))] hF rfl (by kernel_rfl) (fun hF => ?_)
        refine then_n ?_
        refine cond_ev (t := 27) (b := ((r2.length : Int) == 0)) hF (by kernel_rfl) (fun hb => ?_) (fun hb => ?_)
        · replace hm := if_t hm hb
          refine seqR ?_
          refine at_run 1 [] [] [6, 34] [pl 6 (.pointer (some ⟨g5, 0, none⟩)), pl 34 (.agg #[.int .i64 0, .int .i64 0, .slice none 0 0])] hF hS (by kernel_rfl) (by kernel_rfl) ?_ (fun a w hF hS => ?_)
          · exact obs_nil
          obtain ⟨w, hrun, hS⟩ := run_putA (P := Try.prog) (t := 24) (us := #[.int .i64 0, .int .i64 0, .slice none 0 0]) (o := 0) (hS.at_ 2 rfl) (by kernel_rfl) (all_one (by kernel_rfl)) (Nat.le_of_ble_eq_true (by kernel_rfl))
          refine at_skip hF (by kernel_rfl) hrun ?_
          have hS : Sep w0 B w (own 3 (.slice A2 r2.length c2) (vI r2) :: blk g4 24 #[.int .i64 g1, .int .i64 g2, .slice A1 g3.length c1] :: blk g5 24 #[.int .i64 0, .int .i64 0, .slice none 0 0] :: fs) := hS
          refine at_run 1 [] [] [6, 7] [pl 6 (.pointer (some ⟨g5, 0, none⟩)), pl 7 (.int .i64 8)] hF hS (by kernel_rfl) (by kernel_rfl) ?_ (fun a w hF hS => ?_)
          · exact obs_nil
          refine at_end [6, 7] [pl 6 (.pointer (some ⟨g5, 0, none⟩)), pl 7 (.int .i64 8)] hF rfl (by kernel_rfl) (fun hF => ?_)
          refine then_n ?_
          refine wp_ret ?_
          refine block_r (then_r ?_)
          have hS : Sep w0 B w (own 3 (.slice none 0 0) (vI ([] : List Int)) :: own 3 (.slice A2 r2.length c2) (vI r2) :: blk g4 24 #[.int .i64 g1, .int .i64 g2, .slice A1 g3.length c1] :: blk g5 24 #[.int .i64 0, .int .i64 0, .slice none 0 0] :: fs) := hS.nil 3
          have hl3 := (hS.at_ 0 rfl).len1
          have hS := (hS.at_ 0 rfl).reN hl3
          have hS : Sep w0 B w (own 3 (.slice none (([] : List Int).length) 0) (vI ([] : List Int)) :: own 3 (.slice A2 r2.length c2) (vI r2) :: blk g4 24 #[.int .i64 g1, .int .i64 g2, .slice A1 g3.length c1] :: blk g5 24 #[.int .i64 0, .int .i64 0, .slice none 0 0] :: fs) := hS
          have hld0 := run_loadVarA (P := Try.prog) (t := 24) (cs := #[.int .i64 0, .int .i64 0, .slice none (([] : List Int).length) 0]) (by kernel_rfl) (by kernel_rfl) ((hS.at_ 3 rfl).cellsAt 0 (by rfl))
          have hS := hS.pickN 4 [0] (by decide)
          have hm : some (0, 0, ([] : List Int), 8) = some r := hm
          obtain rfl := Option.some.inj hm
          exact retV (rs := [.cell 6 24, .tmp 7]) (vs := [.agg #[.int .i64 0, .int .i64 0, .slice none (([] : List Int).length) 0], .int .i64 8]) hF rfl (rv_c (by kernel_rfl) hld0 <| rv_t (by kernel_rfl) <| rv_nil) rfl ⟨_, rfl, none, 0, rfl, hS⟩
        · replace hm := if_f hm hb
          refine wp_skip ?_
          refine block_n ?_
          refine then_n ?_
          have hS := hS.pickN 3 [1, 2] (by decide)
          exact ⟨hF.weak [1, 2, 3, 6] (by kernel_rfl), hS, hm⟩
  · obtain ⟨r1, hr1, hm⟩ := call_b hm
    refine reg [⟨false, [], vS (Instr.loadAt 24 (.pointer (some ⟨g4, 0, none⟩))), .agg #[.int .i64 g1, .int .i64 g2, .slice A1 g3.length c1]⟩, ⟨false, [], callFunc 56 #[.agg #[.int .i64 g1, .int .i64 g2, .slice A1 g3.length c1], .int .i64 who1], .int .i64 r1⟩] [some (.agg #[.int .i64 g1, .int .i64 g2, .slice A1 g3.length c1]), none, some (.int .i64 r1), none] [1, 2, 3, 6, 8] [pl 1 (.int .i64 who1), pl 2 (.int .i64 at1), pl 3 (.pointer (some ⟨g4, 0, none⟩)), pl 6 (.pointer (some ⟨g5, 0, none⟩)), pl 8 (.int .i64 r1)] hF hS Fol (by kernel_rfl) (by kernel_rfl) (by kernel_rfl) ?_ (fun a w hF hS => ?_)
    · exact obs_cons (ob_loadA (cs := #[.int .i64 g1, .int .i64 g2, .slice A1 g3.length c1]) (by kernel_rfl) (by kernel_rfl) (fun _ _ hS => (hS.at_ 1 rfl).cellsAt 0 (by rfl))) <| obs_cons (ob_call Try.func56 (by kernel_rfl) rfl (fun _ _ hS => othello_check_w hr1 hS (fun _ hS => (hr_g3 _ (hS.dropN 2))) _hc_g3 rfl)) <| obs_nil
    refine reg [] [] [1, 2, 3, 6, 8, 13] [pl 1 (.int .i64 who1), pl 2 (.int .i64 at1), pl 3 (.pointer (some ⟨g4, 0, none⟩)), pl 6 (.pointer (some ⟨g5, 0, none⟩)), pl 8 (.int .i64 r1), pl 13 (.bool (r1 != 0))] hF hS Fol (by kernel_rfl) (by kernel_rfl) (by kernel_rfl) ?_ (fun a w hF hS => ?_)
    · exact obs_nil
    refine cond_ev (t := 13) (b := (r1 != 0)) hF (by kernel_rfl) (fun hb => ?_) (fun hb => ?_)
    · replace hm := if_t hm hb
      refine seqR ?_
      refine at_run 2 [] [] [6, 14, 15] [pl 6 (.pointer (some ⟨g5, 0, none⟩)), pl 14 (.agg #[.int .i64 0, .int .i64 0, .slice none 0 0]), pl 15 (.int .i64 r1)] hF hS (by kernel_rfl) (by kernel_rfl) ?_ (fun a w hF hS => ?_)
      · exact obs_nil
      obtain ⟨w, hrun, hS⟩ := run_putA (P := Try.prog) (t := 24) (us := #[.int .i64 0, .int .i64 0, .slice none 0 0]) (o := 0) (hS.at_ 0 rfl) (by kernel_rfl) (all_one (by kernel_rfl)) (Nat.le_of_ble_eq_true (by kernel_rfl))
      refine at_skip hF (by kernel_rfl) hrun ?_
      have hS : Sep w0 B w (blk g5 24 #[.int .i64 0, .int .i64 0, .slice none 0 0] :: blk g4 24 #[.int .i64 g1, .int .i64 g2, .slice A1 g3.length c1] :: fs) := hS
      refine at_run 1 [] [] [6, 7] [pl 6 (.pointer (some ⟨g5, 0, none⟩)), pl 7 (.int .i64 r1)] hF hS (by kernel_rfl) (by kernel_rfl) ?_ (fun a w hF hS => ?_)
      · exact obs_nil
      refine at_end [6, 7] [pl 6 (.pointer (some ⟨g5, 0, none⟩)), pl 7 (.int .i64 r1)] hF rfl (by kernel_rfl) (fun hF => ?_)
      refine then_n ?_
      refine wp_ret ?_
      refine then_r ?_
      have hS : Sep w0 B w (own 3 (.slice none 0 0) (vI ([] : List Int)) :: blk g5 24 #[.int .i64 0, .int .i64 0, .slice none 0 0] :: blk g4 24 #[.int .i64 g1, .int .i64 g2, .slice A1 g3.length c1] :: fs) := hS.nil 3
      have hl1 := (hS.at_ 0 rfl).len1
      have hS := (hS.at_ 0 rfl).reN hl1
      have hS : Sep w0 B w (own 3 (.slice none (([] : List Int).length) 0) (vI ([] : List Int)) :: blk g5 24 #[.int .i64 0, .int .i64 0, .slice none 0 0] :: blk g4 24 #[.int .i64 g1, .int .i64 g2, .slice A1 g3.length c1] :: fs) := hS
      have hld0 := run_loadVarA (P := Try.prog) (t := 24) (cs := #[.int .i64 0, .int .i64 0, .slice none (([] : List Int).length) 0]) (by kernel_rfl) (by kernel_rfl) ((hS.at_ 1 rfl).cellsAt 0 (by rfl))
      have hS := hS.pickN 3 [0] (by decide)
      have hm : some (0, 0, ([] : List Int), r1) = some r := hm
      obtain rfl := Option.some.inj hm
      exact retV (rs := [.cell 6 24, .tmp 7]) (vs := [.agg #[.int .i64 0, .int .i64 0, .slice none (([] : List Int).length) 0], .int .i64 r1]) hF rfl (rv_c (by kernel_rfl) hld0 <| rv_t (by kernel_rfl) <| rv_nil) rfl ⟨_, rfl, none, 0, rfl, hS⟩
    · replace hm := if_f hm hb
      refine wp_skip ?_
      refine then_n ?_
      have hS := hS.pickN 2 [1, 0] (by decide)
      exact ⟨hF.weak [1, 2, 3, 6] (by kernel_rfl), hS, hm⟩

noncomputable def othello_mover_J3 (z1 : Int) : Option (St Int (Fl Unit Int)) :=
  some (.next (w64 (z1 + 1)))

noncomputable def othello_mover_J2 (g1 : Int) (g2 : Int) (g3 : List Int) (first1 : Int) (z1 : Int) : Option (St Int (Fl Unit Int)) :=
  asrt (0 ≤ z1 ∧ z1 < 2) <| (othello_places_m g1 g2 g3 (geti ([first1, w64 (3 - first1)] : List Int) z1)).bind fun r1 => if (decide ((0 : Int) < (r1.length : Int))) then (some (.done (.ret (geti ([first1, w64 (3 - first1)] : List Int) z1)))) else ((othello_mover_J3 z1))

noncomputable def othello_mover_J1 : Option Int :=
  some 0

noncomputable def othello_mover_K1 : (Fl Unit Int) → Option Int :=
  fun (x : (Fl Unit Int)) => match x with | .go _ => othello_mover_J1 | .ret x => some x

noncomputable def othello_mover_L1 (g1 : Int) (g2 : Int) (g3 : List Int) (first1 : Int) : Int → Option (St Int (Fl Unit Int)) :=
  fun (x : Int) => match x with | z1 => if (decide (z1 < 2)) then ((othello_mover_J2 g1 g2 g3 first1 z1)) else (some (.done (.go ())))

noncomputable def othello_mover_m (g1 : Int) (g2 : Int) (g3 : List Int) (first1 : Int) : Option Int :=
  (loop (othello_mover_L1 g1 g2 g3 first1) 0).bind othello_mover_K1

set_option maxRecDepth 100000 in
set_option maxHeartbeats 4000000 in
theorem othello_mover_w {g1 : Int} {g2 : Int} {A1 : Option Addr} {c1 : Nat} {n1 : Nat} {g3 : List Int} {first1 : Int} {r : Int} {w0 w : World} {B : Nat} {fs : List HP} (hm : othello_mover_m g1 g2 g3 first1 = some r) (hS : Sep w0 B w (fs)) (hr_g3 : RdF w0 B fs A1 (vI g3)) (_hc_g3 : g3.length ≤ c1) (_hn_g3 : n1 = g3.length) :
    Calls Try.prog 61 #[.agg #[.int .i64 g1, .int .i64 g2, .slice A1 n1 c1], .int .i64 first1] w fun e w' => e = .returned (.int .i64 r) ∧ Sep w0 B w' (fs) := by
  obtain ⟨i3, hi3, hz3, hs3, hb3⟩ := info_parts Info3
  obtain rfl := _hn_g3
  unfold othello_mover_m at hm
  replace hm := start_b hm
  refine enter (l := [.agg #[.int .i64 g1, .int .i64 g2, .slice A1 g3.length c1], .int .i64 first1]) (n := 21) Try.func61 rfl rfl (by simp) (fun a hF => ?_)
  refine seqR ?_
  refine at_do (d := 2) (s := vS (Instr.box 24 (.agg #[.int .i64 g1, .int .i64 g2, .slice A1 g3.length c1]))) (v := .pointer (some ⟨w.heap.size, 0, none⟩)) (w' := w.alloc (.cells #[.int .i64 g1, .int .i64 g2, .slice A1 g3.length c1] 24)) hF (by kernel_rfl) (by kernel_rfl) (by kernel_rfl) (fun a hF => ?_)
  have hS : Sep w0 B (w.alloc (.cells #[.int .i64 g1, .int .i64 g2, .slice A1 g3.length c1] 24)) (blk w.heap.size 24 #[.int .i64 g1, .int .i64 g2, .slice A1 g3.length c1] :: (fs)) := hS.box 24 #[.int .i64 g1, .int .i64 g2, .slice A1 g3.length c1]
  generalize w.heap.size = g4 at hF hS
  generalize w.alloc (.cells #[.int .i64 g1, .int .i64 g2, .slice A1 g3.length c1] 24) = w at hS ⊢
  refine at_run 1 [] [] [1, 2] [pl 1 (.int .i64 first1), pl 2 (.pointer (some ⟨g4, 0, none⟩))] hF hS (by kernel_rfl) (by kernel_rfl) ?_ (fun a w hF hS => ?_)
  · exact obs_nil
  refine at_end [1, 2] [pl 1 (.int .i64 first1), pl 2 (.pointer (some ⟨g4, 0, none⟩))] hF rfl (by kernel_rfl) (fun hF => ?_)
  refine then_n ?_
  refine seq_cut (fun a w => Fr 21 [] a ∧ Sep w0 B w (fs) ∧ (othello_mover_J1).bind some = some r) ?_ ?_
  · rintro a w ⟨hF, hS, hm⟩
    unfold othello_mover_J1 at hm
    refine reg [] [] [4] [pl 4 (.int .i64 0)] hF hS Fol (by kernel_rfl) (by kernel_rfl) (by kernel_rfl) ?_ (fun a w hF hS => ?_)
    · exact obs_nil
    refine wp_ret ?_
    have hm : some 0 = some r := hm
    obtain rfl := Option.some.inj hm
    exact retV (rs := [.tmp 4]) (vs := [.int .i64 0]) hF rfl (rv_t (by kernel_rfl) <| rv_nil) rfl ⟨rfl, hS⟩
  · refine reg [] [] [2, 10, 11] [pl 2 (.pointer (some ⟨g4, 0, none⟩)), pl 10 (.agg #[.int .i64 first1, .int .i64 (w64 (3 - first1))]), pl 11 (.int .i64 0)] hF hS Fol (by kernel_rfl) (by kernel_rfl) (by kernel_rfl) ?_ (fun a w hF hS => ?_)
    · exact obs_nil
    refine wp_block ?_
    refine wp_loop_model (S := Int) (R := (Fl Unit Int)) (othello_mover_L1 g1 g2 g3 first1) (fun x => (othello_mover_K1 x).bind some) r (fun (x : Int) a w => Fr 21 [pl 2 (.pointer (some ⟨g4, 0, none⟩)), pl 10 (.agg #[.int .i64 first1, .int .i64 (w64 (3 - first1))]), pl 11 (.int .i64 x)] a ∧ Sep w0 B w (blk g4 24 #[.int .i64 g1, .int .i64 g2, .slice A1 g3.length c1] :: fs)) (assoc_b hm) ⟨hF.weak [2, 10, 11] (by kernel_rfl), hS⟩ ?_
    clear hF hS hm
    rintro nn1 z1 a w ⟨hF, hS⟩ hm
    generalize hφ1 : stK (othello_mover_L1 g1 g2 g3 first1) nn1 (fun x => (othello_mover_K1 x).bind some) = φ1 at hm
    unfold othello_mover_L1 at hm
    dsimp only at hm
    refine reg [] [] [2, 10, 11, 12] [pl 2 (.pointer (some ⟨g4, 0, none⟩)), pl 10 (.agg #[.int .i64 first1, .int .i64 (w64 (3 - first1))]), pl 11 (.int .i64 z1), pl 12 (.bool (decide (z1 < 2)))] hF hS Fol (by kernel_rfl) (by kernel_rfl) (by kernel_rfl) ?_ (fun a w hF hS => ?_)
    · exact obs_nil
    refine seq_cut (fun a w => Fr 21 [pl 2 (.pointer (some ⟨g4, 0, none⟩)), pl 10 (.agg #[.int .i64 first1, .int .i64 (w64 (3 - first1))]), pl 11 (.int .i64 z1)] a ∧ Sep w0 B w (blk g4 24 #[.int .i64 g1, .int .i64 g2, .slice A1 g3.length c1] :: fs) ∧ ((othello_mover_J2 g1 g2 g3 first1 z1)).bind φ1 = some r) ?_ ?_
    · rintro a w ⟨hF, hS, hm⟩
      unfold othello_mover_J2 at hm
      refine seq_cut (fun a w => Fr 21 [pl 2 (.pointer (some ⟨g4, 0, none⟩)), pl 10 (.agg #[.int .i64 first1, .int .i64 (w64 (3 - first1))]), pl 11 (.int .i64 z1)] a ∧ Sep w0 B w (blk g4 24 #[.int .i64 g1, .int .i64 g2, .slice A1 g3.length c1] :: fs) ∧ ((othello_mover_J3 z1)).bind φ1 = some r) ?_ ?_
      · rintro a w ⟨hF, hS, hm⟩
        unfold othello_mover_J3 at hm
        refine reg1 [] [] [2, 10, 11] [pl 2 (.pointer (some ⟨g4, 0, none⟩)), pl 10 (.agg #[.int .i64 first1, .int .i64 (w64 (3 - first1))]), pl 11 (.int .i64 (w64 (z1 + 1)))] hF hS Fol (by kernel_rfl) (by kernel_rfl) (by kernel_rfl) ?_ (fun a w hF hS => ?_)
        · exact obs_nil
        refine then_n ?_
        rw [← hφ1] at hm
        exact ⟨(w64 (z1 + 1)), ⟨hF.weak [2, 10, 11] (by kernel_rfl), hS⟩, hm⟩
      · refine wp_block ?_
        obtain ⟨hp1, hm⟩ := asrt_b hm
        refine reg [⟨true, [], vS (Instr.index 127 (.agg (List.toArray (([] : List Value) ++ (arr1 (Value.int .i64) (0 : Int) 2 ([first1, w64 (3 - first1)] : List Int) ++ ([] : List Value))))) (.int .i64 z1)), .int .i64 (geti ([first1, w64 (3 - first1)] : List Int) z1)⟩] [some (.int .i64 (geti ([first1, w64 (3 - first1)] : List Int) z1)), none] [2, 6, 10, 11] [pl 2 (.pointer (some ⟨g4, 0, none⟩)), pl 6 (.int .i64 (geti ([first1, w64 (3 - first1)] : List Int) z1)), pl 10 (.agg #[.int .i64 first1, .int .i64 (w64 (3 - first1))]), pl 11 (.int .i64 z1)] hF hS Fol (by kernel_rfl) (by kernel_rfl) (by kernel_rfl) ?_ (fun a w hF hS => ?_)
        · exact obs_cons (ob_idx1 (f := (Value.int .i64)) (z := (0 : Int)) (m := ([first1, w64 (3 - first1)] : List Int)) UndA127 (by kernel_rfl) (by kernel_rfl) (fun _ => hp1)) <| obs_nil
        refine seqR ?_
        obtain ⟨r1, hr1, hm⟩ := call_b hm
        refine at_run 2 [⟨false, [], vS (Instr.loadAt 24 (.pointer (some ⟨g4, 0, none⟩))), .agg #[.int .i64 g1, .int .i64 g2, .slice A1 g3.length c1]⟩] [some (.agg #[.int .i64 g1, .int .i64 g2, .slice A1 g3.length c1]), none] [2, 6, 10, 11, 14, 15] [pl 2 (.pointer (some ⟨g4, 0, none⟩)), pl 6 (.int .i64 (geti ([first1, w64 (3 - first1)] : List Int) z1)), pl 10 (.agg #[.int .i64 first1, .int .i64 (w64 (3 - first1))]), pl 11 (.int .i64 z1), pl 14 (.agg #[.int .i64 g1, .int .i64 g2, .slice A1 g3.length c1]), pl 15 (.int .i64 (geti ([first1, w64 (3 - first1)] : List Int) z1))] hF hS (by kernel_rfl) (by kernel_rfl) ?_ (fun a w hF hS => ?_)
        · exact obs_cons (ob_loadA (cs := #[.int .i64 g1, .int .i64 g2, .slice A1 g3.length c1]) (by kernel_rfl) (by kernel_rfl) (fun _ _ hS => (hS.at_ 0 rfl).cellsAt 0 (by rfl))) <| obs_nil
        refine at_call (f := 57) (args := #[.agg #[.int .i64 g1, .int .i64 g2, .slice A1 g3.length c1], .int .i64 (geti ([first1, w64 (3 - first1)] : List Int) z1)]) (d := 16) hF (by kernel_rfl) (by kernel_rfl) Try.func57 (by kernel_rfl) rfl (othello_places_w hr1 hS (fun _ hS => (hr_g3 _ (hS.dropN 1))) _hc_g3 rfl) (fun v a w hR hF => ?_)
        clear hS
        obtain ⟨A2, c2, rfl, hS⟩ := hR
        have hS : Sep w0 B w (own 3 (.slice A2 r1.length c2) (vI r1) :: blk g4 24 #[.int .i64 g1, .int .i64 g2, .slice A1 g3.length c1] :: fs) := hS
        refine at_run 2 [] [] [2, 6, 10, 11, 18] [pl 2 (.pointer (some ⟨g4, 0, none⟩)), pl 6 (.int .i64 (geti ([first1, w64 (3 - first1)] : List Int) z1)), pl 10 (.agg #[.int .i64 first1, .int .i64 (w64 (3 - first1))]), pl 11 (.int .i64 z1), pl 18 (.bool (decide ((0 : Int) < (r1.length : Int))))] hF hS (by kernel_rfl) (by kernel_rfl) ?_ (fun a w hF hS => ?_)
        · exact obs_nil
        refine at_end [2, 6, 10, 11, 18] [pl 2 (.pointer (some ⟨g4, 0, none⟩)), pl 6 (.int .i64 (geti ([first1, w64 (3 - first1)] : List Int) z1)), pl 10 (.agg #[.int .i64 first1, .int .i64 (w64 (3 - first1))]), pl 11 (.int .i64 z1), pl 18 (.bool (decide ((0 : Int) < (r1.length : Int))))] hF rfl (by kernel_rfl) (fun hF => ?_)
        refine then_n ?_
        refine cond_ev (t := 18) (b := decide ((0 : Int) < (r1.length : Int))) hF (by kernel_rfl) (fun hb => ?_) (fun hb => ?_)
        · replace hm := if_t hm hb
          refine reg [] [] [4] [pl 4 (.int .i64 (geti ([first1, w64 (3 - first1)] : List Int) z1))] hF hS Fol (by kernel_rfl) (by kernel_rfl) (by kernel_rfl) ?_ (fun a w hF hS => ?_)
          · exact obs_nil
          refine wp_ret ?_
          refine block_r (then_r (then_r (block_r (then_r ?_))))
          rw [← hφ1] at hm
          replace hm := done_b hm
          unfold othello_mover_K1 at hm
          try dsimp only at hm
          have hS := hS.pickN 2 [] (by decide)
          have hm : some (geti ([first1, w64 (3 - first1)] : List Int) z1) = some r := hm
          obtain rfl := Option.some.inj hm
          exact retV (rs := [.tmp 4]) (vs := [.int .i64 (geti ([first1, w64 (3 - first1)] : List Int) z1)]) hF rfl (rv_t (by kernel_rfl) <| rv_nil) rfl ⟨rfl, hS⟩
        · replace hm := if_f hm hb
          refine wp_skip ?_
          refine block_n ?_
          refine then_n ?_
          have hS := hS.pickN 2 [1] (by decide)
          exact ⟨hF.weak [2, 10, 11] (by kernel_rfl), hS, hm⟩
    · refine cond_ev (t := 12) (b := decide (z1 < 2)) hF (by kernel_rfl) (fun hb => ?_) (fun hb => ?_)
      · replace hm := if_t hm hb
        refine wp_skip ?_
        refine then_n ?_
        exact ⟨hF.weak [2, 10, 11] (by kernel_rfl), hS, hm⟩
      · replace hm := if_f hm hb
        refine wp_exit ?_
        refine then_e (then_e (block_e (then_n ?_)))
        have hS := hS.pickN 1 [] (by decide)
        rw [← hφ1] at hm
        replace hm := done_b hm
        unfold othello_mover_K1 at hm
        try dsimp only at hm
        have hm : (othello_mover_J1).bind some = some r := hm
        exact ⟨hF.weak [] (by kernel_rfl), hS, hm⟩

noncomputable def othello_Next_J1 (g1 : Int) (g2 : Int) (g3 : List Int) (who1 : Int) : Option (Int × Int) :=
  (othello_mover_m g1 g2 g3 (w64 (3 - who1))).bind fun r2 => some (r2, 0)

noncomputable def othello_Next_m (g1 : Int) (g2 : Int) (g3 : List Int) (who1 : Int) : Option (Int × Int) :=
  (othello_check_m g1 g2 g3 who1).bind fun r1 => if (r1 != 0) then (some (0, r1)) else ((othello_Next_J1 g1 g2 g3 who1))

set_option maxRecDepth 100000 in
set_option maxHeartbeats 4000000 in
theorem othello_Next_w {g1 : Int} {g2 : Int} {A1 : Option Addr} {c1 : Nat} {n1 : Nat} {g3 : List Int} {who1 : Int} {r : (Int × Int)} {w0 w : World} {B : Nat} {fs : List HP} (hm : othello_Next_m g1 g2 g3 who1 = some r) (hS : Sep w0 B w (fs)) (hr_g3 : RdF w0 B fs A1 (vI g3)) (_hc_g3 : g3.length ≤ c1) (_hn_g3 : n1 = g3.length) :
    Calls Try.prog 15 #[.agg #[.int .i64 g1, .int .i64 g2, .slice A1 n1 c1], .int .i64 who1] w fun e w' => e = .returned (.tuple #[.int .i64 r.1, .int .i64 r.2]) ∧ Sep w0 B w' (fs) := by
  obtain ⟨i3, hi3, hz3, hs3, hb3⟩ := info_parts Info3
  obtain rfl := _hn_g3
  unfold othello_Next_m at hm
  replace hm := start_b hm
  refine enter (l := [.agg #[.int .i64 g1, .int .i64 g2, .slice A1 g3.length c1], .int .i64 who1]) (n := 17) Try.func15 rfl rfl (by simp) (fun a hF => ?_)
  refine seqR ?_
  refine at_do (d := 2) (s := vS (Instr.box 24 (.agg #[.int .i64 g1, .int .i64 g2, .slice A1 g3.length c1]))) (v := .pointer (some ⟨w.heap.size, 0, none⟩)) (w' := w.alloc (.cells #[.int .i64 g1, .int .i64 g2, .slice A1 g3.length c1] 24)) hF (by kernel_rfl) (by kernel_rfl) (by kernel_rfl) (fun a hF => ?_)
  have hS : Sep w0 B (w.alloc (.cells #[.int .i64 g1, .int .i64 g2, .slice A1 g3.length c1] 24)) (blk w.heap.size 24 #[.int .i64 g1, .int .i64 g2, .slice A1 g3.length c1] :: (fs)) := hS.box 24 #[.int .i64 g1, .int .i64 g2, .slice A1 g3.length c1]
  generalize w.heap.size = g4 at hF hS
  generalize w.alloc (.cells #[.int .i64 g1, .int .i64 g2, .slice A1 g3.length c1] 24) = w at hS ⊢
  refine at_run 2 [] [] [1, 2] [pl 1 (.int .i64 who1), pl 2 (.pointer (some ⟨g4, 0, none⟩))] hF hS (by kernel_rfl) (by kernel_rfl) ?_ (fun a w hF hS => ?_)
  · exact obs_nil
  refine at_end [1, 2] [pl 1 (.int .i64 who1), pl 2 (.pointer (some ⟨g4, 0, none⟩))] hF rfl (by kernel_rfl) (fun hF => ?_)
  refine then_n ?_
  refine seq_cut (fun a w => Fr 17 [pl 1 (.int .i64 who1), pl 2 (.pointer (some ⟨g4, 0, none⟩))] a ∧ Sep w0 B w (blk g4 24 #[.int .i64 g1, .int .i64 g2, .slice A1 g3.length c1] :: fs) ∧ ((othello_Next_J1 g1 g2 g3 who1)).bind some = some r) ?_ ?_
  · rintro a w ⟨hF, hS, hm⟩
    unfold othello_Next_J1 at hm
    obtain ⟨r2, hr2, hm⟩ := call_b hm
    refine reg [⟨false, [], vS (Instr.loadAt 24 (.pointer (some ⟨g4, 0, none⟩))), .agg #[.int .i64 g1, .int .i64 g2, .slice A1 g3.length c1]⟩, ⟨false, [], callFunc 61 #[.agg #[.int .i64 g1, .int .i64 g2, .slice A1 g3.length c1], .int .i64 (w64 (3 - who1))], .int .i64 r2⟩] [some (.agg #[.int .i64 g1, .int .i64 g2, .slice A1 g3.length c1]), none, none, some (.int .i64 r2), none, none] [4, 5] [pl 4 (.int .i64 r2), pl 5 (.int .i64 0)] hF hS Fol (by kernel_rfl) (by kernel_rfl) (by kernel_rfl) ?_ (fun a w hF hS => ?_)
    · exact obs_cons (ob_loadA (cs := #[.int .i64 g1, .int .i64 g2, .slice A1 g3.length c1]) (by kernel_rfl) (by kernel_rfl) (fun _ _ hS => (hS.at_ 0 rfl).cellsAt 0 (by rfl))) <| obs_cons (ob_call Try.func61 (by kernel_rfl) rfl (fun _ _ hS => othello_mover_w hr2 hS (fun _ hS => (hr_g3 _ (hS.dropN 1))) _hc_g3 rfl)) <| obs_nil
    refine wp_ret ?_
    have hS := hS.pickN 1 [] (by decide)
    have hm : some (r2, 0) = some r := hm
    obtain rfl := Option.some.inj hm
    exact retV (rs := [.tmp 4, .tmp 5]) (vs := [.int .i64 r2, .int .i64 0]) hF rfl (rv_t (by kernel_rfl) <| rv_t (by kernel_rfl) <| rv_nil) rfl ⟨rfl, hS⟩
  · obtain ⟨r1, hr1, hm⟩ := call_b hm
    refine reg [⟨false, [], vS (Instr.loadAt 24 (.pointer (some ⟨g4, 0, none⟩))), .agg #[.int .i64 g1, .int .i64 g2, .slice A1 g3.length c1]⟩, ⟨false, [], callFunc 56 #[.agg #[.int .i64 g1, .int .i64 g2, .slice A1 g3.length c1], .int .i64 who1], .int .i64 r1⟩] [some (.agg #[.int .i64 g1, .int .i64 g2, .slice A1 g3.length c1]), none, some (.int .i64 r1), none] [1, 2, 6] [pl 1 (.int .i64 who1), pl 2 (.pointer (some ⟨g4, 0, none⟩)), pl 6 (.int .i64 r1)] hF hS Fol (by kernel_rfl) (by kernel_rfl) (by kernel_rfl) ?_ (fun a w hF hS => ?_)
    · exact obs_cons (ob_loadA (cs := #[.int .i64 g1, .int .i64 g2, .slice A1 g3.length c1]) (by kernel_rfl) (by kernel_rfl) (fun _ _ hS => (hS.at_ 0 rfl).cellsAt 0 (by rfl))) <| obs_cons (ob_call Try.func56 (by kernel_rfl) rfl (fun _ _ hS => othello_check_w hr1 hS (fun _ hS => (hr_g3 _ (hS.dropN 1))) _hc_g3 rfl)) <| obs_nil
    refine reg [] [] [1, 2, 6, 11] [pl 1 (.int .i64 who1), pl 2 (.pointer (some ⟨g4, 0, none⟩)), pl 6 (.int .i64 r1), pl 11 (.bool (r1 != 0))] hF hS Fol (by kernel_rfl) (by kernel_rfl) (by kernel_rfl) ?_ (fun a w hF hS => ?_)
    · exact obs_nil
    refine cond_ev (t := 11) (b := (r1 != 0)) hF (by kernel_rfl) (fun hb => ?_) (fun hb => ?_)
    · replace hm := if_t hm hb
      refine reg [] [] [4, 5] [pl 4 (.int .i64 0), pl 5 (.int .i64 r1)] hF hS Fol (by kernel_rfl) (by kernel_rfl) (by kernel_rfl) ?_ (fun a w hF hS => ?_)
      · exact obs_nil
      refine wp_ret ?_
      refine then_r ?_
      have hS := hS.pickN 1 [] (by decide)
      have hm : some (0, r1) = some r := hm
      obtain rfl := Option.some.inj hm
      exact retV (rs := [.tmp 4, .tmp 5]) (vs := [.int .i64 0, .int .i64 r1]) hF rfl (rv_t (by kernel_rfl) <| rv_t (by kernel_rfl) <| rv_nil) rfl ⟨rfl, hS⟩
    · replace hm := if_f hm hb
      refine wp_skip ?_
      refine then_n ?_
      exact ⟨hF.weak [1, 2] (by kernel_rfl), hS, hm⟩

noncomputable def gameroomlaw_noGrid_m (g1 : Int) (g2 : Int) (g3 : List Int) : Option Bool :=
  some (((g1 == 0) && (g2 == 0)) && ((g3.length : Int) == 0))

set_option maxRecDepth 100000 in
set_option maxHeartbeats 4000000 in
theorem gameroomlaw_noGrid_w {g1 : Int} {g2 : Int} {A1 : Option Addr} {c1 : Nat} {n1 : Nat} {g3 : List Int} {r : Bool} {w0 w : World} {B : Nat} {fs : List HP} (hm : gameroomlaw_noGrid_m g1 g2 g3 = some r) (hS : Sep w0 B w (fs)) (hr_g3 : RdF w0 B fs A1 (vI g3)) (_hc_g3 : g3.length ≤ c1) (_hn_g3 : n1 = g3.length) :
    Calls Try.prog 16 #[.agg #[.int .i64 g1, .int .i64 g2, .slice A1 n1 c1]] w fun e w' => e = .returned (.bool r) ∧ Sep w0 B w' (fs) := by
  obtain ⟨i3, hi3, hz3, hs3, hb3⟩ := info_parts Info3
  obtain rfl := _hn_g3
  unfold gameroomlaw_noGrid_m at hm
  replace hm := start_b hm
  refine enter (l := [.agg #[.int .i64 g1, .int .i64 g2, .slice A1 g3.length c1]]) (n := 17) Try.func16 rfl rfl (by simp) (fun a hF => ?_)
  refine seqR ?_
  refine at_do (d := 1) (s := vS (Instr.box 24 (.agg #[.int .i64 g1, .int .i64 g2, .slice A1 g3.length c1]))) (v := .pointer (some ⟨w.heap.size, 0, none⟩)) (w' := w.alloc (.cells #[.int .i64 g1, .int .i64 g2, .slice A1 g3.length c1] 24)) hF (by kernel_rfl) (by kernel_rfl) (by kernel_rfl) (fun a hF => ?_)
  have hS : Sep w0 B (w.alloc (.cells #[.int .i64 g1, .int .i64 g2, .slice A1 g3.length c1] 24)) (blk w.heap.size 24 #[.int .i64 g1, .int .i64 g2, .slice A1 g3.length c1] :: (fs)) := hS.box 24 #[.int .i64 g1, .int .i64 g2, .slice A1 g3.length c1]
  generalize w.heap.size = g4 at hF hS
  generalize w.alloc (.cells #[.int .i64 g1, .int .i64 g2, .slice A1 g3.length c1] 24) = w at hS ⊢
  refine at_run 1 [] [] [1] [pl 1 (.pointer (some ⟨g4, 0, none⟩))] hF hS (by kernel_rfl) (by kernel_rfl) ?_ (fun a w hF hS => ?_)
  · exact obs_nil
  refine at_end [1] [pl 1 (.pointer (some ⟨g4, 0, none⟩))] hF rfl (by kernel_rfl) (fun hF => ?_)
  refine then_n ?_
  refine reg [⟨false, [], vS (Instr.loadAt 3 (.pointer (some ⟨g4, 0, none⟩))), .int .i64 g1⟩, ⟨false, [((g1 == 0), true)], vS (Instr.loadAt 3 (.pointer (some ⟨g4, 1, none⟩))), .int .i64 g2⟩, ⟨false, [((g1 == 0) && (g2 == 0), true)], vS (Instr.loadAt 22 (.pointer (some ⟨g4, 2, none⟩))), .slice A1 g3.length c1⟩] [none, some (.int .i64 g1), none, none, none, some (.int .i64 g2), none, none, none, none, some (.slice A1 g3.length c1), none, none, none, none] [2] [pl 2 (.bool (((g1 == 0) && (g2 == 0)) && ((g3.length : Int) == 0)))] hF hS Fol (by kernel_rfl) (by kernel_rfl) (by kernel_rfl) ?_ (fun a w hF hS => ?_)
  · exact obs_cons (ob_load Agg3 (fun _ _ hS => (hS.at_ 0 rfl).cell rfl)) <| obs_cons (ob_load Agg3 (fun _ _ hS => (hS.at_ 0 rfl).cell rfl)) <| obs_cons (ob_load Agg22 (fun _ _ hS => (hS.at_ 0 rfl).cell rfl)) <| obs_nil
  refine wp_ret ?_
  have hS := hS.pickN 1 [] (by decide)
  have hm : some (((g1 == 0) && (g2 == 0)) && ((g3.length : Int) == 0)) = some r := hm
  obtain rfl := Option.some.inj hm
  exact retV (rs := [.tmp 2]) (vs := [.bool (((g1 == 0) && (g2 == 0)) && ((g3.length : Int) == 0))]) hF rfl (rv_t (by kernel_rfl) <| rv_nil) rfl ⟨rfl, hS⟩

noncomputable def gameroomref_sameInts_J4 (i1 : Int) : Option (St Int (Fl Unit Bool)) :=
  some (.next (w64 (i1 + 1)))

noncomputable def gameroomref_sameInts_J3 (a1 : List Int) (b1 : List Int) (i1 : Int) : Option (St Int (Fl Unit Bool)) :=
  asrt (0 ≤ i1 ∧ i1 < (a1.length : Int)) <| asrt (0 ≤ i1 ∧ i1 < (b1.length : Int)) <| if ((geti a1 i1) != (geti b1 i1)) then (some (.done (.ret false))) else ((gameroomref_sameInts_J4 i1))

noncomputable def gameroomref_sameInts_J2 : Option Bool :=
  some true

noncomputable def gameroomref_sameInts_K1 : (Fl Unit Bool) → Option Bool :=
  fun (x : (Fl Unit Bool)) => match x with | .go _ => gameroomref_sameInts_J2 | .ret x => some x

noncomputable def gameroomref_sameInts_L1 (a1 : List Int) (b1 : List Int) : Int → Option (St Int (Fl Unit Bool)) :=
  fun (x : Int) => match x with | i1 => if (decide (i1 < (a1.length : Int))) then ((gameroomref_sameInts_J3 a1 b1 i1)) else (some (.done (.go ())))

noncomputable def gameroomref_sameInts_J1 (a1 : List Int) (b1 : List Int) : Option Bool :=
  (loop (gameroomref_sameInts_L1 a1 b1) 0).bind gameroomref_sameInts_K1

noncomputable def gameroomref_sameInts_m (a1 : List Int) (b1 : List Int) : Option Bool :=
  if ((a1.length : Int) != (b1.length : Int)) then (some false) else ((gameroomref_sameInts_J1 a1 b1))

set_option maxRecDepth 100000 in
set_option maxHeartbeats 4000000 in
theorem gameroomref_sameInts_w {A1 : Option Addr} {c1 : Nat} {n1 : Nat} {a1 : List Int} {A2 : Option Addr} {c2 : Nat} {n2 : Nat} {b1 : List Int} {r : Bool} {w0 w : World} {B : Nat} {fs : List HP} (hm : gameroomref_sameInts_m a1 b1 = some r) (hS : Sep w0 B w (fs)) (hr_a1 : RdF w0 B fs A1 (vI a1)) (_hc_a1 : a1.length ≤ c1) (_hn_a1 : n1 = a1.length) (hr_b1 : RdF w0 B fs A2 (vI b1)) (_hc_b1 : b1.length ≤ c2) (_hn_b1 : n2 = b1.length) :
    Calls Try.prog 62 #[.slice A1 n1 c1, .slice A2 n2 c2] w fun e w' => e = .returned (.bool r) ∧ Sep w0 B w' (fs) := by
  obtain ⟨i3, hi3, hz3, hs3, hb3⟩ := info_parts Info3
  obtain rfl := _hn_a1
  obtain rfl := _hn_b1
  unfold gameroomref_sameInts_m at hm
  replace hm := start_b hm
  refine enter (l := [.slice A1 a1.length c1, .slice A2 b1.length c2]) (n := 26) Try.func62 rfl rfl (by simp) (fun a hF => ?_)
  refine reg [] [] [0, 1] [pl 0 (.slice A1 a1.length c1), pl 1 (.slice A2 b1.length c2)] hF hS Fol (by kernel_rfl) (by kernel_rfl) (by kernel_rfl) ?_ (fun a w hF hS => ?_)
  · exact obs_nil
  refine seq_cut (fun a w => Fr 26 [pl 0 (.slice A1 a1.length c1), pl 1 (.slice A2 b1.length c2)] a ∧ Sep w0 B w (fs) ∧ ((gameroomref_sameInts_J1 a1 b1)).bind some = some r) ?_ ?_
  · rintro a w ⟨hF, hS, hm⟩
    unfold gameroomref_sameInts_J1 at hm
    refine seq_cut (fun a w => Fr 26 [] a ∧ Sep w0 B w (fs) ∧ (gameroomref_sameInts_J2).bind some = some r) ?_ ?_
    · rintro a w ⟨hF, hS, hm⟩
      unfold gameroomref_sameInts_J2 at hm
      refine reg [] [] [4] [pl 4 (.bool true)] hF hS Fol (by kernel_rfl) (by kernel_rfl) (by kernel_rfl) ?_ (fun a w hF hS => ?_)
      · exact obs_nil
      refine wp_ret ?_
      have hm : some true = some r := hm
      obtain rfl := Option.some.inj hm
      exact retV (rs := [.tmp 4]) (vs := [.bool true]) hF rfl (rv_t (by kernel_rfl) <| rv_nil) rfl ⟨rfl, hS⟩
    · refine reg [] [] [0, 1, 5] [pl 0 (.slice A1 a1.length c1), pl 1 (.slice A2 b1.length c2), pl 5 (.int .i64 0)] hF hS Fol (by kernel_rfl) (by kernel_rfl) (by kernel_rfl) ?_ (fun a w hF hS => ?_)
      · exact obs_nil
      refine wp_block ?_
      refine wp_loop_model (S := Int) (R := (Fl Unit Bool)) (gameroomref_sameInts_L1 a1 b1) (fun x => (gameroomref_sameInts_K1 x).bind some) r (fun (x : Int) a w => Fr 26 [pl 0 (.slice A1 a1.length c1), pl 1 (.slice A2 b1.length c2), pl 5 (.int .i64 x)] a ∧ Sep w0 B w (fs)) (assoc_b hm) ⟨hF.weak [0, 1, 5] (by kernel_rfl), hS⟩ ?_
      clear hF hS hm
      rintro nn1 i1 a w ⟨hF, hS⟩ hm
      generalize hφ1 : stK (gameroomref_sameInts_L1 a1 b1) nn1 (fun x => (gameroomref_sameInts_K1 x).bind some) = φ1 at hm
      unfold gameroomref_sameInts_L1 at hm
      dsimp only at hm
      refine seq_cut (fun a w => Fr 26 [pl 0 (.slice A1 a1.length c1), pl 1 (.slice A2 b1.length c2), pl 5 (.int .i64 i1)] a ∧ Sep w0 B w (fs) ∧ ((gameroomref_sameInts_J3 a1 b1 i1)).bind φ1 = some r) ?_ ?_
      · rintro a w ⟨hF, hS, hm⟩
        unfold gameroomref_sameInts_J3 at hm
        refine seq_cut (fun a w => Fr 26 [pl 0 (.slice A1 a1.length c1), pl 1 (.slice A2 b1.length c2), pl 5 (.int .i64 i1)] a ∧ Sep w0 B w (fs) ∧ ((gameroomref_sameInts_J4 i1)).bind φ1 = some r) ?_ ?_
        · rintro a w ⟨hF, hS, hm⟩
          unfold gameroomref_sameInts_J4 at hm
          refine reg1 [] [] [0, 1, 5] [pl 0 (.slice A1 a1.length c1), pl 1 (.slice A2 b1.length c2), pl 5 (.int .i64 (w64 (i1 + 1)))] hF hS Fol (by kernel_rfl) (by kernel_rfl) (by kernel_rfl) ?_ (fun a w hF hS => ?_)
          · exact obs_nil
          refine then_n ?_
          rw [← hφ1] at hm
          exact ⟨(w64 (i1 + 1)), ⟨hF.weak [0, 1, 5] (by kernel_rfl), hS⟩, hm⟩
        · refine wp_block ?_
          obtain ⟨hp1, hm⟩ := asrt_b hm
          obtain ⟨hp2, hm⟩ := asrt_b hm
          refine reg [⟨true, [], vS (Instr.indexAt 22 (.slice A1 a1.length c1) (.int .i64 i1)), .pointer (some (sAddr A1 i1))⟩, ⟨false, [], vS (Instr.loadAt 3 (.pointer (some (sAddr A1 i1)))), .int .i64 (geti a1 i1)⟩, ⟨true, [], vS (Instr.indexAt 22 (.slice A2 b1.length c2) (.int .i64 i1)), .pointer (some (sAddr A2 i1))⟩, ⟨false, [], vS (Instr.loadAt 3 (.pointer (some (sAddr A2 i1)))), .int .i64 (geti b1 i1)⟩] [none, none, some (.pointer (some (sAddr A1 i1))), some (.int .i64 (geti a1 i1)), none, none, some (.pointer (some (sAddr A2 i1))), some (.int .i64 (geti b1 i1)), none] [0, 1, 5, 25] [pl 0 (.slice A1 a1.length c1), pl 1 (.slice A2 b1.length c2), pl 5 (.int .i64 i1), pl 25 (.bool ((geti a1 i1) != (geti b1 i1)))] hF hS Fol (by kernel_rfl) (by kernel_rfl) (by kernel_rfl) ?_ (fun a w hF hS => ?_)
          · exact obs_cons (ob_ix1 (f := (Value.int .i64)) (m := a1) Und22 hi3 hs3 (hr_a1 _ (hS.dropN 0)) rfl (fun _ => hp1)) <| obs_cons (ob_get1 (n := a1.length) (m := a1) (Value.int .i64) (0 : Int) Agg3 (fun _ hS => ⟨_, (hr_a1 _ (hS.dropN 0))⟩) (fun _ hS => rfl) (fun _ => hp1)) <| obs_cons (ob_ix1 (f := (Value.int .i64)) (m := b1) Und22 hi3 hs3 (hr_b1 _ (hS.dropN 0)) rfl (fun _ => hp2)) <| obs_cons (ob_get1 (n := b1.length) (m := b1) (Value.int .i64) (0 : Int) Agg3 (fun _ hS => ⟨_, (hr_b1 _ (hS.dropN 0))⟩) (fun _ hS => rfl) (fun _ => hp2)) <| obs_nil
          refine cond_ev (t := 25) (b := ((geti a1 i1) != (geti b1 i1))) hF (by kernel_rfl) (fun hb => ?_) (fun hb => ?_)
          · replace hm := if_t hm hb
            refine reg [] [] [4] [pl 4 (.bool false)] hF hS Fol (by kernel_rfl) (by kernel_rfl) (by kernel_rfl) ?_ (fun a w hF hS => ?_)
            · exact obs_nil
            refine wp_ret ?_
            refine block_r (then_r (then_r (block_r (then_r ?_))))
            rw [← hφ1] at hm
            replace hm := done_b hm
            unfold gameroomref_sameInts_K1 at hm
            try dsimp only at hm
            have hm : some false = some r := hm
            obtain rfl := Option.some.inj hm
            exact retV (rs := [.tmp 4]) (vs := [.bool false]) hF rfl (rv_t (by kernel_rfl) <| rv_nil) rfl ⟨rfl, hS⟩
          · replace hm := if_f hm hb
            refine wp_skip ?_
            refine block_n ?_
            refine then_n ?_
            exact ⟨hF.weak [0, 1, 5] (by kernel_rfl), hS, hm⟩
      · refine reg [] [] [0, 1, 5, 14] [pl 0 (.slice A1 a1.length c1), pl 1 (.slice A2 b1.length c2), pl 5 (.int .i64 i1), pl 14 (.bool (decide (i1 < (a1.length : Int))))] hF hS Fol (by kernel_rfl) (by kernel_rfl) (by kernel_rfl) ?_ (fun a w hF hS => ?_)
        · exact obs_nil
        refine cond_ev (t := 14) (b := decide (i1 < (a1.length : Int))) hF (by kernel_rfl) (fun hb => ?_) (fun hb => ?_)
        · replace hm := if_t hm hb
          refine wp_skip ?_
          refine then_n ?_
          exact ⟨hF.weak [0, 1, 5] (by kernel_rfl), hS, hm⟩
        · replace hm := if_f hm hb
          refine wp_exit ?_
          refine then_e (then_e (block_e (then_n ?_)))
          rw [← hφ1] at hm
          replace hm := done_b hm
          unfold gameroomref_sameInts_K1 at hm
          try dsimp only at hm
          have hm : (gameroomref_sameInts_J2).bind some = some r := hm
          exact ⟨hF.weak [] (by kernel_rfl), hS, hm⟩
  · refine reg [] [] [0, 1, 10] [pl 0 (.slice A1 a1.length c1), pl 1 (.slice A2 b1.length c2), pl 10 (.bool ((a1.length : Int) != (b1.length : Int)))] hF hS Fol (by kernel_rfl) (by kernel_rfl) (by kernel_rfl) ?_ (fun a w hF hS => ?_)
    · exact obs_nil
    refine cond_ev (t := 10) (b := ((a1.length : Int) != (b1.length : Int))) hF (by kernel_rfl) (fun hb => ?_) (fun hb => ?_)
    · replace hm := if_t hm hb
      refine reg [] [] [4] [pl 4 (.bool false)] hF hS Fol (by kernel_rfl) (by kernel_rfl) (by kernel_rfl) ?_ (fun a w hF hS => ?_)
      · exact obs_nil
      refine wp_ret ?_
      refine then_r ?_
      have hm : some false = some r := hm
      obtain rfl := Option.some.inj hm
      exact retV (rs := [.tmp 4]) (vs := [.bool false]) hF rfl (rv_t (by kernel_rfl) <| rv_nil) rfl ⟨rfl, hS⟩
    · replace hm := if_f hm hb
      refine wp_skip ?_
      refine then_n ?_
      exact ⟨hF.weak [0, 1] (by kernel_rfl), hS, hm⟩

noncomputable def gameroomref_SameGrid_m (a1 : Int) (a2 : Int) (a3 : List Int) (b1 : Int) (b2 : Int) (b3 : List Int) : Option Bool :=
  ((if ((a1 == b1) && (a2 == b2)) then gameroomref_sameInts_m a3 b3 else some false)).bind fun r1 => some (((a1 == b1) && (a2 == b2)) && r1)

set_option maxRecDepth 100000 in
set_option maxHeartbeats 4000000 in
theorem gameroomref_SameGrid_w {a1 : Int} {a2 : Int} {A1 : Option Addr} {c1 : Nat} {n1 : Nat} {a3 : List Int} {b1 : Int} {b2 : Int} {A2 : Option Addr} {c2 : Nat} {n2 : Nat} {b3 : List Int} {r : Bool} {w0 w : World} {B : Nat} {fs : List HP} (hm : gameroomref_SameGrid_m a1 a2 a3 b1 b2 b3 = some r) (hS : Sep w0 B w (fs)) (hr_a3 : RdF w0 B fs A1 (vI a3)) (_hc_a3 : a3.length ≤ c1) (_hn_a3 : n1 = a3.length) (hr_b3 : RdF w0 B fs A2 (vI b3)) (_hc_b3 : b3.length ≤ c2) (_hn_b3 : n2 = b3.length) :
    Calls Try.prog 17 #[.agg #[.int .i64 a1, .int .i64 a2, .slice A1 n1 c1], .agg #[.int .i64 b1, .int .i64 b2, .slice A2 n2 c2]] w fun e w' => e = .returned (.bool r) ∧ Sep w0 B w' (fs) := by
  obtain ⟨i3, hi3, hz3, hs3, hb3⟩ := info_parts Info3
  obtain rfl := _hn_a3
  obtain rfl := _hn_b3
  unfold gameroomref_SameGrid_m at hm
  replace hm := start_b hm
  refine enter (l := [.agg #[.int .i64 a1, .int .i64 a2, .slice A1 a3.length c1], .agg #[.int .i64 b1, .int .i64 b2, .slice A2 b3.length c2]]) (n := 24) Try.func17 rfl rfl (by simp) (fun a hF => ?_)
  refine seqR ?_
  refine at_do (d := 2) (s := vS (Instr.box 24 (.agg #[.int .i64 a1, .int .i64 a2, .slice A1 a3.length c1]))) (v := .pointer (some ⟨w.heap.size, 0, none⟩)) (w' := w.alloc (.cells #[.int .i64 a1, .int .i64 a2, .slice A1 a3.length c1] 24)) hF (by kernel_rfl) (by kernel_rfl) (by kernel_rfl) (fun a hF => ?_)
  have hS : Sep w0 B (w.alloc (.cells #[.int .i64 a1, .int .i64 a2, .slice A1 a3.length c1] 24)) (blk w.heap.size 24 #[.int .i64 a1, .int .i64 a2, .slice A1 a3.length c1] :: (fs)) := hS.box 24 #[.int .i64 a1, .int .i64 a2, .slice A1 a3.length c1]
  generalize w.heap.size = g1 at hF hS
  generalize w.alloc (.cells #[.int .i64 a1, .int .i64 a2, .slice A1 a3.length c1] 24) = w at hS ⊢
  refine at_do (d := 3) (s := vS (Instr.box 24 (.agg #[.int .i64 b1, .int .i64 b2, .slice A2 b3.length c2]))) (v := .pointer (some ⟨w.heap.size, 0, none⟩)) (w' := w.alloc (.cells #[.int .i64 b1, .int .i64 b2, .slice A2 b3.length c2] 24)) hF (by kernel_rfl) (by kernel_rfl) (by kernel_rfl) (fun a hF => ?_)
  have hS : Sep w0 B (w.alloc (.cells #[.int .i64 b1, .int .i64 b2, .slice A2 b3.length c2] 24)) (blk w.heap.size 24 #[.int .i64 b1, .int .i64 b2, .slice A2 b3.length c2] :: (blk g1 24 #[.int .i64 a1, .int .i64 a2, .slice A1 a3.length c1] :: fs)) := hS.box 24 #[.int .i64 b1, .int .i64 b2, .slice A2 b3.length c2]
  generalize w.heap.size = g2 at hF hS
  generalize w.alloc (.cells #[.int .i64 b1, .int .i64 b2, .slice A2 b3.length c2] 24) = w at hS ⊢
  refine at_run 1 [] [] [2, 3] [pl 2 (.pointer (some ⟨g1, 0, none⟩)), pl 3 (.pointer (some ⟨g2, 0, none⟩))] hF hS (by kernel_rfl) (by kernel_rfl) ?_ (fun a w hF hS => ?_)
  · exact obs_nil
  refine at_end [2, 3] [pl 2 (.pointer (some ⟨g1, 0, none⟩)), pl 3 (.pointer (some ⟨g2, 0, none⟩))] hF rfl (by kernel_rfl) (fun hF => ?_)
  refine then_n ?_
  obtain ⟨r1, hr1, hm⟩ := call_b hm
  refine reg [⟨false, [], vS (Instr.loadAt 3 (.pointer (some ⟨g1, 0, none⟩))), .int .i64 a1⟩, ⟨false, [], vS (Instr.loadAt 3 (.pointer (some ⟨g2, 0, none⟩))), .int .i64 b1⟩, ⟨false, [((a1 == b1), true)], vS (Instr.loadAt 3 (.pointer (some ⟨g1, 1, none⟩))), .int .i64 a2⟩, ⟨false, [((a1 == b1), true)], vS (Instr.loadAt 3 (.pointer (some ⟨g2, 1, none⟩))), .int .i64 b2⟩, ⟨false, [((a1 == b1) && (a2 == b2), true)], vS (Instr.loadAt 22 (.pointer (some ⟨g1, 2, none⟩))), .slice A1 a3.length c1⟩, ⟨false, [((a1 == b1) && (a2 == b2), true)], vS (Instr.loadAt 22 (.pointer (some ⟨g2, 2, none⟩))), .slice A2 b3.length c2⟩, ⟨false, [((a1 == b1) && (a2 == b2), true)], callFunc 62 #[.slice A1 a3.length c1, .slice A2 b3.length c2], .bool r1⟩] [none, some (.int .i64 a1), none, some (.int .i64 b1), none, none, none, some (.int .i64 a2), none, some (.int .i64 b2), none, none, none, none, some (.slice A1 a3.length c1), none, some (.slice A2 b3.length c2), some (.bool r1), none, none] [4] [pl 4 (.bool (((a1 == b1) && (a2 == b2)) && r1))] hF hS Fol (by kernel_rfl) (by kernel_rfl) (by kernel_rfl) ?_ (fun a w hF hS => ?_)
  · exact obs_cons (ob_load Agg3 (fun _ _ hS => (hS.at_ 1 rfl).cell rfl)) <| obs_cons (ob_load Agg3 (fun _ _ hS => (hS.at_ 0 rfl).cell rfl)) <| obs_cons (ob_load Agg3 (fun _ _ hS => (hS.at_ 1 rfl).cell rfl)) <| obs_cons (ob_load Agg3 (fun _ _ hS => (hS.at_ 0 rfl).cell rfl)) <| obs_cons (ob_load Agg22 (fun _ _ hS => (hS.at_ 1 rfl).cell rfl)) <| obs_cons (ob_load Agg22 (fun _ _ hS => (hS.at_ 0 rfl).cell rfl)) <| obs_cons (ob_call Try.func62 (by kernel_rfl) rfl (fun hy _ hS => gameroomref_sameInts_w (ite_some hr1 (by rw [show ((a1 == b1) && (a2 == b2)) = true from hy ((a1 == b1) && (a2 == b2), true) (by simp)]; try rfl)) hS (fun _ hS => (hr_a3 _ (hS.dropN 2))) _hc_a3 rfl (fun _ hS => (hr_b3 _ (hS.dropN 2))) _hc_b3 rfl)) <| obs_nil
  refine wp_ret ?_
  have hS := hS.pickN 2 [] (by decide)
  have hm : some (((a1 == b1) && (a2 == b2)) && r1) = some r := hm
  obtain rfl := Option.some.inj hm
  exact retV (rs := [.tmp 4]) (vs := [.bool (((a1 == b1) && (a2 == b2)) && r1)]) hF rfl (rv_t (by kernel_rfl) <| rv_nil) rfl ⟨rfl, hS⟩

noncomputable def gameroomref_OthelloNew_J5 (x1 : Int) (g8 : List Int) : Option (St (List Int × Int) (List Int)) :=
  some (.next (g8, (w64 (x1 + 1))))

noncomputable def gameroomref_OthelloNew_J6 (g5 : List Int) (x1 : Int) (c5 : Int) : Option (St (List Int × Int) (List Int)) :=
  asrt ((g5.length : Int) + 1 ≤ bigN) <| (gameroomref_OthelloNew_J5 x1) (g5 ++ ([c5] : List Int))

noncomputable def gameroomref_OthelloNew_J4 (w1 : Int) (h1 : Int) (y1 : Int) (g5 : List Int) (x1 : Int) : Option (St (List Int × Int) (List Int)) :=
  if (((x1 == (w64 ((w64 (Int.tdiv w1 2)) - 1))) || (x1 == (w64 (Int.tdiv w1 2)))) && ((y1 == (w64 ((w64 (Int.tdiv h1 2)) - 1))) || (y1 == (w64 (Int.tdiv h1 2))))) then (if ((x1 == (w64 (Int.tdiv w1 2))) == (y1 == (w64 (Int.tdiv h1 2)))) then ((gameroomref_OthelloNew_J6 g5 x1) 2) else ((gameroomref_OthelloNew_J6 g5 x1) 1)) else ((gameroomref_OthelloNew_J6 g5 x1) 0)

noncomputable def gameroomref_OthelloNew_J3 (y1 : Int) (g6 : List Int) : Option (St (List Int × Int) (List Int)) :=
  some (.next (g6, (w64 (y1 + 1))))

noncomputable def gameroomref_OthelloNew_K2 (y1 : Int) : (List Int) → Option (St (List Int × Int) (List Int)) :=
  fun (x : (List Int)) => match x with | g6 => (gameroomref_OthelloNew_J3 y1) g6

noncomputable def gameroomref_OthelloNew_L2 (w1 : Int) (h1 : Int) (y1 : Int) : (List Int × Int) → Option (St (List Int × Int) (List Int)) :=
  fun (x : (List Int × Int)) => match x with | (g5, x1) => if (decide (x1 < w1)) then ((gameroomref_OthelloNew_J4 w1 h1 y1 g5 x1)) else (some (.done g5))

noncomputable def gameroomref_OthelloNew_J2 (w1 : Int) (h1 : Int) (g3 : List Int) (y1 : Int) : Option (St (List Int × Int) (List Int)) :=
  (loop (gameroomref_OthelloNew_L2 w1 h1 y1) (g3, 0)).bind (gameroomref_OthelloNew_K2 y1)

noncomputable def gameroomref_OthelloNew_J1 (w1 : Int) (h1 : Int) (g4 : List Int) : Option (Int × Int × List Int) :=
  some (w1, h1, g4)

noncomputable def gameroomref_OthelloNew_K1 (w1 : Int) (h1 : Int) : (List Int) → Option (Int × Int × List Int) :=
  fun (x : (List Int)) => match x with | g4 => (gameroomref_OthelloNew_J1 w1 h1) g4

noncomputable def gameroomref_OthelloNew_L1 (w1 : Int) (h1 : Int) : (List Int × Int) → Option (St (List Int × Int) (List Int)) :=
  fun (x : (List Int × Int)) => match x with | (g3, y1) => if (decide (y1 < h1)) then ((gameroomref_OthelloNew_J2 w1 h1 g3 y1)) else (some (.done g3))
end Go.Proofs.Ytogecbgngnjhgaa
