/-
  Models and walks, printed by our own program (wip/gen).
-/
import Derived.Test.YtgogihcmnkncjaaFB
import Derived.Test.YtgogihcmnkncjaaLibD
import Derived.Test.YtgogihcmnkncjaaLibRF
import Derived.Test.YtgogihcmnkncjaaSH
import Derived.Test.YtgogihcmnkncjaaNTHa
namespace Go.Proofs.Ytgogihcmnkncjaa
open Go Go.GL Go.RowKit

noncomputable def hex_Shortest_2_m  (at1 : Int) (n1 : Int) (p2_W1 : Int) (p2_H1 : Int) (p2_Cells1 : List Int) (p31 : Int) (p41 : List Int) (p51 : List (List Int)) : Option (List Int × List (List Int)) :=
  asrt (0 ≤ at1 ∧ at1 < (p2_Cells1.length : Int)) <| asrt (((geti p2_Cells1 at1) == (w64 (3 - p31))) = false → 0 ≤ at1 ∧ at1 < (p41.length : Int)) <| asrt ((decide ((0 : Int) ≤ (geti p41 at1))) = true → ((geti p2_Cells1 at1) == (w64 (3 - p31))) = false → 0 ≤ at1 ∧ at1 < (p41.length : Int)) <| if (((geti p2_Cells1 at1) == (w64 (3 - p31))) || ((decide ((0 : Int) ≤ (geti p41 at1))) && (decide ((geti p41 at1) ≤ n1)))) then (some (p41, p51)) else ((hex_Shortest_2_J2 at1 n1 p41 p51))

set_option maxRecDepth 100000 in
set_option maxHeartbeats 4000000 in
theorem hex_Shortest_2_w {at1 : Int} {n1 : Int} {g1 : Nat} {p2_W1 : Int} {p2_H1 : Int} {A1 : Option Addr} {c1 : Nat} {n2 : Nat} {p2_Cells1 : List Int} {g2 : Nat} {p31 : Int} {g3 : Nat} {A2 : Option Addr} {c2 : Nat} {n3 : Nat} {p41 : List Int} {g4 : Nat} {A3 : Option Addr} {c3 : Nat} {n4 : Nat} {hd1 : List Hd} {p51 : List (List Int)} {r : (List Int × List (List Int))} {w0 w : World} {B : Nat} {fs : List HP} (hm : hex_Shortest_2_m at1 n1 p2_W1 p2_H1 p2_Cells1 p31 p41 p51 = some r) (hS : Sep w0 B w (blk g1 24 #[.int .i64 p2_W1, .int .i64 p2_H1, .slice A1 n2 c1] :: blk g2 3 #[.int .i64 p31] :: blk g3 22 #[.slice A2 n3 c2] :: own 3 (.slice A2 n3 c2) (vI p41) :: blk g4 40 #[.slice A3 n4 c3] :: rows 22 3 (.slice A3 n4 c3) hd1 p51 :: fs)) (hr_p2_Cells1 : RdF w0 B fs A1 (vI p2_Cells1)) (_hc_p2_Cells1 : p2_Cells1.length ≤ c1) (_hn_p2_Cells1 : n2 = p2_Cells1.length) :
    Calls Try.prog 97 #[.int .i64 at1, .int .i64 n1, .pointer (some ⟨g1, 0, none⟩), .pointer (some ⟨g2, 0, none⟩), .pointer (some ⟨g3, 0, none⟩), .pointer (some ⟨g4, 0, none⟩)] w fun e w' => ∃ v, e = .returned v ∧ ∃ (A4 : Option Addr) (c4 : Nat) (hd2 : List Hd), v = .tuple #[] ∧ Sep w0 B w' (blk g1 24 #[.int .i64 p2_W1, .int .i64 p2_H1, .slice A1 n2 c1] :: blk g2 3 #[.int .i64 p31] :: blk g3 22 #[.slice A2 n3 c2] :: own 3 (.slice A2 n3 c2) (vI r.1) :: blk g4 40 #[.slice A4 r.2.length c4] :: rows 22 3 (.slice A4 r.2.length c4) hd2 r.2 :: fs) := by
  obtain ⟨i3, hi3, hz3, hs3, hb3⟩ := info_parts Info3
  obtain ⟨i22, hi22, hz22, hs22, hb22⟩ := info_parts Info22
  obtain ⟨i40, hi40, hz40, hs40, hb40⟩ := info_parts Info40
  obtain rfl := (hS.at_ 3 rfl).len1
  obtain rfl := (hS.at_ 5 rfl).lenR
  obtain rfl := _hn_p2_Cells1
  unfold hex_Shortest_2_m at hm
  replace hm := start_b hm
  refine enter (l := [.int .i64 at1, .int .i64 n1, .pointer (some ⟨g1, 0, none⟩), .pointer (some ⟨g2, 0, none⟩), .pointer (some ⟨g3, 0, none⟩), .pointer (some ⟨g4, 0, none⟩)]) (n := 52) Try.func97 rfl rfl (by simp) (fun a hF => ?_)
  refine end_cut (fun a w => ∃ (p53 : List (List Int)) (A10 : Option Addr) (c10 : Nat) (hd5 : List Hd), Fr 52 [] a ∧ Sep w0 B w (blk g1 24 #[.int .i64 p2_W1, .int .i64 p2_H1, .slice A1 p2_Cells1.length c1] :: blk g2 3 #[.int .i64 p31] :: blk g3 22 #[.slice A2 p41.length c2] :: own 3 (.slice A2 p41.length c2) (vI (p41.set (Int.toNat at1) n1)) :: blk g4 40 #[.slice A10 p53.length c10] :: rows 22 3 (.slice A10 p53.length c10) hd5 p53 :: fs) ∧ ((hex_Shortest_2_J1 at1 n1 p41) p53).bind some = some r) ?_ ?_
  · rintro a w ⟨p53, A10, c10, hd5, hF, hS, hm⟩
    unfold hex_Shortest_2_J1 at hm
    have hm : some ((p41.set (Int.toNat at1) n1), p53) = some r := hm
    obtain rfl := Option.some.inj hm
    exact endV (rs := []) (vs := []) hF rfl (rv_nil) rfl ⟨_, rfl, A10, c10, hd5, rfl, hS⟩ rfl
  · refine seq_cut (fun a w => Fr 52 [pl 0 (.int .i64 at1), pl 1 (.int .i64 n1), pl 4 (.pointer (some ⟨g3, 0, none⟩)), pl 5 (.pointer (some ⟨g4, 0, none⟩))] a ∧ Sep w0 B w (blk g3 22 #[.slice A2 p41.length c2] :: own 3 (.slice A2 p41.length c2) (vI p41) :: blk g4 40 #[.slice A3 p51.length c3] :: rows 22 3 (.slice A3 p51.length c3) hd1 p51 :: blk g1 24 #[.int .i64 p2_W1, .int .i64 p2_H1, .slice A1 p2_Cells1.length c1] :: blk g2 3 #[.int .i64 p31] :: fs) ∧ ((hex_Shortest_2_J2 at1 n1 p41 p51)).bind some = some r) ?_ ?_
    · rintro a w ⟨hF, hS, hm⟩
      unfold hex_Shortest_2_J2 at hm
      refine seqR ?_
      obtain ⟨hp4, hm⟩ := asrt_b hm
      refine at_run 4 [⟨false, [], vS (Instr.loadAt 22 (.pointer (some ⟨g3, 0, none⟩))), .slice A2 p41.length c2⟩, ⟨true, [], vS (Instr.indexAt 22 (.slice A2 p41.length c2) (.int .i64 at1)), .pointer (some (sAddr A2 at1))⟩] [some (.slice A2 p41.length c2), none, none, some (.pointer (some (sAddr A2 at1)))] [0, 1, 5, 33, 34] [pl 0 (.int .i64 at1), pl 1 (.int .i64 n1), pl 5 (.pointer (some ⟨g4, 0, none⟩)), pl 33 (.int .i64 n1), pl 34 (.pointer (some (sAddr A2 at1)))] hF hS (by kernel_rfl) (by kernel_rfl) ?_ (fun a w hF hS => ?_)
      · exact obs_cons (ob_load Agg22 (fun _ _ hS => (hS.at_ 0 rfl).cell rfl)) <| obs_cons (ob_ix1 (f := (Value.int .i64)) (m := p41) Und22 hi3 hs3 (hS.at_ 1 rfl).rd rfl (fun _ => hp4)) <| obs_nil
      obtain ⟨w, hrun, hS⟩ := run_set1 (P := Try.prog) (t := 3) (x := n1) (Value.int .i64) (hS.at_ 1 rfl) hi3 hs3 rfl rfl hp4
      refine at_skip hF (by kernel_rfl) hrun ?_
      have hS : Sep w0 B w (blk g3 22 #[.slice A2 p41.length c2] :: own 3 (.slice A2 p41.length c2) (vI (p41.set (Int.toNat at1) n1)) :: blk g4 40 #[.slice A3 p51.length c3] :: rows 22 3 (.slice A3 p51.length c3) hd1 p51 :: blk g1 24 #[.int .i64 p2_W1, .int .i64 p2_H1, .slice A1 p2_Cells1.length c1] :: blk g2 3 #[.int .i64 p31] :: fs) := hS
      refine at_end [0, 1, 5] [pl 0 (.int .i64 at1), pl 1 (.int .i64 n1), pl 5 (.pointer (some ⟨g4, 0, none⟩))] hF rfl (by kernel_rfl) (fun hF => ?_)
      refine then_n ?_
      refine seq_cut (fun a w => ∃ (z2 : List (List Int)) (A6 : Option Addr) (c6 : Nat) (hd4 : List Hd), Fr 52 [pl 0 (.int .i64 at1), pl 1 (.int .i64 n1), pl 5 (.pointer (some ⟨g4, 0, none⟩))] a ∧ Sep w0 B w (blk g4 40 #[.slice A6 z2.length c6] :: rows 22 3 (.slice A6 z2.length c6) hd4 z2 :: blk g1 24 #[.int .i64 p2_W1, .int .i64 p2_H1, .slice A1 p2_Cells1.length c1] :: blk g2 3 #[.int .i64 p31] :: blk g3 22 #[.slice A2 p41.length c2] :: own 3 (.slice A2 p41.length c2) (vI (p41.set (Int.toNat at1) n1)) :: fs) ∧ ((hex_Shortest_2_J3 at1 n1 p41) z2).bind some = some r) ?_ ?_
      · rintro a w ⟨z2, A6, c6, hd4, hF, hS, hm⟩
        unfold hex_Shortest_2_J3 at hm
        obtain ⟨hp9, hm⟩ := asrt_b hm
        obtain ⟨hp10, hm⟩ := asrt_b hm
        obtain ⟨hp11, hm⟩ := asrt_b hm
        have hb3 := rowb (n := z2.length) (hS.at_ 1 rfl).lenR hp9
        refine regMix5 [1, 2, 3, 4, 5, 6] [8, 10] 5 #[false, true, true, true, true, true, true, false, false, false, false] [⟨false, [], vS (Instr.loadAt 40 (.pointer (some ⟨g4, 0, none⟩))), .slice A6 z2.length c6⟩, ⟨true, [], vS (Instr.indexAt 40 (.slice A6 z2.length c6) (.int .i64 n1)), .pointer (some (sAddr A6 n1))⟩, ⟨false, [], vS (Instr.loadAt 22 (.pointer (some (sAddr A6 n1)))), .slice (hdA hd4 n1) ((geti2 z2 n1).length) (hdC hd4 n1)⟩] [none, some (.slice A6 z2.length c6), none, some (.pointer (some (sAddr A6 n1))), some (.slice (hdA hd4 n1) ((geti2 z2 n1).length) (hdC hd4 n1)), none] [5, 43, 47, 48] [pl 5 (.pointer (some ⟨g4, 0, none⟩)), pl 43 (.int .i64 n1), pl 47 (.slice (hdA hd4 n1) ((geti2 z2 n1).length) (hdC hd4 n1)), pl 48 (.int .i64 at1)] hF hS Fol (by kernel_rfl) (by kernel_rfl) (by kernel_rfl) (by kernel_rfl) ?_ (fun a w hF hS => ?_)
        · exact obs_cons (ob_load Agg40 (fun _ _ hS => (hS.at_ 0 rfl).cell rfl)) <| obs_cons (ob_ixRn Und40 hi22 hs22 (hS.at_ 1 rfl).rdRows (hS.at_ 1 rfl).lenR (fun _ => hp9)) <| obs_cons (ob_getR Agg22 (fun _ hS => ⟨_, (hS.at_ 1 rfl).rdRows⟩) (fun _ => hb3)) <| obs_nil
        refine any_step [0, 7] (by kernel_rfl) rfl ?_
        refine (all_cons ?_ (all_cons ?_ all_nil))
        · refine any_op (listed' := #[true, true, true, true, true, true, true, false, false, false, false]) (by kernel_rfl) (by kernel_rfl) ?_
          refine at_runW 1 [⟨false, [], vS (Instr.loadAt 40 (.pointer (some ⟨g4, 0, none⟩))), .slice A6 z2.length c6⟩] [some (.slice A6 z2.length c6)] [42, 43, 47, 48] [pl 42 (.slice A6 z2.length c6), pl 43 (.int .i64 n1), pl 47 (.slice (hdA hd4 n1) ((geti2 z2 n1).length) (hdC hd4 n1)), pl 48 (.int .i64 at1)] hF hS (by kernel_rfl) (by kernel_rfl) ?_ (fun a hF => ?_)
          · exact obs_cons (ob_load Agg40 (fun _ _ hS => (hS.at_ 0 rfl).cell rfl)) <| obs_nil
          refine any_finI rfl (fun h => h) ?_
          refine any_step [7] (by kernel_rfl) rfl ?_
          refine (all_cons ?_ all_nil)
          · refine any_op (listed' := #[true, true, true, true, true, true, true, true, false, false, false]) (by kernel_rfl) (by kernel_rfl) ?_
            refine at_do (d := 49) (s := vS (Instr.buildSlice 22 1 #[(0, .int .i64 at1)])) (v := .slice (some ⟨w.heap.size, 0, none⟩) 1 1) (w' := w.alloc (.cells #[.int .i64 at1] 3)) hF (by kernel_rfl) (by kernel_rfl) (by kernel_rfl) (fun a hF => ?_)
            have hS : Sep w0 B (w.alloc (.cells #[.int .i64 at1] 3)) (own 3 (.slice (some (⟨w.heap.size, 0, none⟩ : Addr)) 1 1) (vI ([at1] : List Int)) :: (blk g4 40 #[.slice A6 z2.length c6] :: rows 22 3 (.slice A6 z2.length c6) hd4 z2 :: blk g1 24 #[.int .i64 p2_W1, .int .i64 p2_H1, .slice A1 p2_Cells1.length c1] :: blk g2 3 #[.int .i64 p31] :: blk g3 22 #[.slice A2 p41.length c2] :: own 3 (.slice A2 p41.length c2) (vI (p41.set (Int.toNat at1) n1)) :: fs)) := hS.lit 3 #[.int .i64 at1] 1 rfl (by omega)
            generalize (some (⟨w.heap.size, 0, none⟩ : Addr)) = g7 at hF hS
            generalize w.alloc (.cells #[.int .i64 at1] 3) = w at hS ⊢
            refine any_fin rfl (hS.pickN 7 [1, 2, 3, 4, 5, 6] (by decide)) ?_
            refine any_step [8] (by kernel_rfl) rfl ?_
            refine (all_cons ?_ all_nil)
            · refine any_op (listed' := #[true, true, true, true, true, true, true, true, true, false, false]) (by kernel_rfl) (by kernel_rfl) ?_
              have hS : Sep w0 B w (own 3 (.slice (hdA hd4 n1) ((geti2 z2 n1).length) (hdC hd4 n1)) (vI (geti2 z2 n1)) :: own 3 (.slice g7 1 1) (vI ([at1] : List Int)) :: blk g4 40 #[.slice A6 z2.length c6] :: rowsBut 22 3 (.slice A6 z2.length c6) hd4 z2 (Int.toNat n1) :: blk g1 24 #[.int .i64 p2_W1, .int .i64 p2_H1, .slice A1 p2_Cells1.length c1] :: blk g2 3 #[.int .i64 p31] :: blk g3 22 #[.slice A2 p41.length c2] :: own 3 (.slice A2 p41.length c2) (vI (p41.set (Int.toNat at1) n1)) :: fs) := (hS.at_ 2 rfl).takeRow hb3
              obtain ⟨A9, c9, w, hrun, hS⟩ := run_app1 (P := Try.prog) (t := 22) (m := (geti2 z2 n1)) (ys := ([at1] : List Int)) (A2 := g7) (m2 := 1) (c2 := 1) (Value.int .i64) (0 : Int) (hS.at_ 0 rfl) (hS.at_ 1 rfl).rd ((hS.at_ 1 rfl).len1) 22 Und22 hi3 hz3 hs3 (by omega) rfl (fun _ => rfl) hp10
              have hS : Sep w0 B w (own 3 (.slice A9 (((geti2 z2 n1) ++ ([at1] : List Int)).length) c9) (vI ((geti2 z2 n1) ++ ([at1] : List Int))) :: own 3 (.slice g7 1 1) (vI ([at1] : List Int)) :: blk g4 40 #[.slice A6 z2.length c6] :: rowsBut 22 3 (.slice A6 z2.length c6) hd4 z2 (Int.toNat n1) :: blk g1 24 #[.int .i64 p2_W1, .int .i64 p2_H1, .slice A1 p2_Cells1.length c1] :: blk g2 3 #[.int .i64 p31] :: blk g3 22 #[.slice A2 p41.length c2] :: own 3 (.slice A2 p41.length c2) (vI (p41.set (Int.toNat at1) n1)) :: fs) := hS
              refine at_do (d := 50) hF (by kernel_rfl) (by kernel_rfl) hrun (fun a hF => ?_)
              refine any_finE rfl (by decide) ?_
              refine any_step [9] (by kernel_rfl) rfl ?_
              refine (all_cons ?_ all_nil)
              · refine any_op (listed' := #[true, true, true, true, true, true, true, true, true, true, false]) (by kernel_rfl) (by kernel_rfl) ?_
                refine at_runW 1 [⟨true, [], vS (Instr.indexAt 40 (.slice A6 z2.length c6) (.int .i64 n1)), .pointer (some (sAddr A6 n1))⟩] [some (.pointer (some (sAddr A6 n1)))] [50, 51] [pl 50 (.slice A9 (((geti2 z2 n1) ++ ([at1] : List Int)).length) c9), pl 51 (.pointer (some (sAddr A6 n1)))] hF hS (by kernel_rfl) (by kernel_rfl) ?_ (fun a hF => ?_)
                · exact obs_cons (ob_ixHn Und40 hi22 hs22 (hS.at_ 3 rfl).butRd (hS.at_ 3 rfl).butLen (fun _ => hp11)) <| obs_nil
                refine any_finI rfl (fun h => h) ?_
                refine any_step [10] (by kernel_rfl) rfl ?_
                refine (all_cons ?_ all_nil)
                · refine any_op (listed' := #[true, true, true, true, true, true, true, true, true, true, true]) (by kernel_rfl) (by kernel_rfl) ?_
                  have hb4 := (rowb (hS.at_ 3 rfl).butLen hp11)
                  have hS := hS.pickN 8 [0, 1, 2, 3, 4, 5, 6, 7] (by decide)
                  have hS : Sep w0 B w (own 3 (.slice A9 (((geti2 z2 n1) ++ ([at1] : List Int)).length) c9) (vI ((geti2 z2 n1) ++ ([at1] : List Int))) :: own 3 (.slice g7 1 1) (vI ([at1] : List Int)) :: blk g4 40 #[.slice A6 z2.length c6] :: rowsBut 22 3 (.slice A6 z2.length c6) hd4 z2 (Int.toNat n1) :: blk g1 24 #[.int .i64 p2_W1, .int .i64 p2_H1, .slice A1 p2_Cells1.length c1] :: blk g2 3 #[.int .i64 p31] :: blk g3 22 #[.slice A2 p41.length c2] :: own 3 (.slice A2 p41.length c2) (vI (p41.set (Int.toNat at1) n1)) :: fs) := hS
                  obtain ⟨w, hrun, hS⟩ := run_storeRow (P := Try.prog) (t := 22) (hS.at2 2 rfl) hi22 hs22 hb4
                  refine at_skip hF (by kernel_rfl) hrun ?_
                  try simp only [List.length_set] at hS
                  have hS : Sep w0 B w (own 3 (.slice g7 1 1) (vI ([at1] : List Int)) :: blk g4 40 #[.slice A6 z2.length c6] :: rows 22 3 (.slice A6 z2.length c6) (hd4.set (Int.toNat n1) (A9, c9)) (z2.set (Int.toNat n1) ((geti2 z2 n1) ++ ([at1] : List Int))) :: blk g1 24 #[.int .i64 p2_W1, .int .i64 p2_H1, .slice A1 p2_Cells1.length c1] :: blk g2 3 #[.int .i64 p31] :: blk g3 22 #[.slice A2 p41.length c2] :: own 3 (.slice A2 p41.length c2) (vI (p41.set (Int.toNat at1) n1)) :: fs) := hS
                  refine any_finE rfl (by decide) ?_
                  refine any_end (by kernel_rfl) ?_
                  refine np_n ?_
                  refine then_n ?_
                  have hl1 := (hS.at_ 2 rfl).lenR
                  have hS := (hS.at_ 2 rfl).reNR hl1
                  have hS := (hS.at_ 1 rfl).reBlk (congrArg (fun k9 => (#[.slice A6 k9 c6] : Array Value)) hl1)
                  have hS : Sep w0 B w (own 3 (.slice g7 1 1) (vI ([at1] : List Int)) :: blk g4 40 #[.slice A6 ((z2.set (Int.toNat n1) ((geti2 z2 n1) ++ ([at1] : List Int))).length) c6] :: rows 22 3 (.slice A6 ((z2.set (Int.toNat n1) ((geti2 z2 n1) ++ ([at1] : List Int))).length) c6) (hd4.set (Int.toNat n1) (A9, c9)) (z2.set (Int.toNat n1) ((geti2 z2 n1) ++ ([at1] : List Int))) :: blk g1 24 #[.int .i64 p2_W1, .int .i64 p2_H1, .slice A1 p2_Cells1.length c1] :: blk g2 3 #[.int .i64 p31] :: blk g3 22 #[.slice A2 p41.length c2] :: own 3 (.slice A2 p41.length c2) (vI (p41.set (Int.toNat at1) n1)) :: fs) := hS
                  have hS := hS.pickN 7 [3, 4, 5, 6, 1, 2] (by decide)
                  exact ⟨(z2.set (Int.toNat n1) ((geti2 z2 n1) ++ ([at1] : List Int))), A6, c6, (hd4.set (Int.toNat n1) (A9, c9)), hF.weak [] (by kernel_rfl), hS, hm⟩
        · refine any_op (listed' := #[false, true, true, true, true, true, true, true, false, false, false]) (by kernel_rfl) (by kernel_rfl) ?_
          refine at_do (d := 49) (s := vS (Instr.buildSlice 22 1 #[(0, .int .i64 at1)])) (v := .slice (some ⟨w.heap.size, 0, none⟩) 1 1) (w' := w.alloc (.cells #[.int .i64 at1] 3)) hF (by kernel_rfl) (by kernel_rfl) (by kernel_rfl) (fun a hF => ?_)
          have hS : Sep w0 B (w.alloc (.cells #[.int .i64 at1] 3)) (own 3 (.slice (some (⟨w.heap.size, 0, none⟩ : Addr)) 1 1) (vI ([at1] : List Int)) :: (blk g4 40 #[.slice A6 z2.length c6] :: rows 22 3 (.slice A6 z2.length c6) hd4 z2 :: blk g1 24 #[.int .i64 p2_W1, .int .i64 p2_H1, .slice A1 p2_Cells1.length c1] :: blk g2 3 #[.int .i64 p31] :: blk g3 22 #[.slice A2 p41.length c2] :: own 3 (.slice A2 p41.length c2) (vI (p41.set (Int.toNat at1) n1)) :: fs)) := hS.lit 3 #[.int .i64 at1] 1 rfl (by omega)
          generalize (some (⟨w.heap.size, 0, none⟩ : Addr)) = g7 at hF hS
          generalize w.alloc (.cells #[.int .i64 at1] 3) = w at hS ⊢
          refine any_fin rfl (hS.pickN 7 [1, 2, 3, 4, 5, 6] (by decide)) ?_
          refine any_step [0, 8] (by kernel_rfl) rfl ?_
          refine (all_cons ?_ (all_cons ?_ all_nil))
          · refine any_op (listed' := #[true, true, true, true, true, true, true, true, false, false, false]) (by kernel_rfl) (by kernel_rfl) ?_
            refine at_runW 1 [⟨false, [], vS (Instr.loadAt 40 (.pointer (some ⟨g4, 0, none⟩))), .slice A6 z2.length c6⟩] [some (.slice A6 z2.length c6)] [42, 43, 47, 49] [pl 42 (.slice A6 z2.length c6), pl 43 (.int .i64 n1), pl 47 (.slice (hdA hd4 n1) ((geti2 z2 n1).length) (hdC hd4 n1)), pl 49 (.slice g7 1 1)] hF hS (by kernel_rfl) (by kernel_rfl) ?_ (fun a hF => ?_)
            · exact obs_cons (ob_load Agg40 (fun _ _ hS => (hS.at_ 1 rfl).cell rfl)) <| obs_nil
            refine any_finI rfl (fun h => h) ?_
            refine any_step [8] (by kernel_rfl) rfl ?_
            refine (all_cons ?_ all_nil)
            · refine any_op (listed' := #[true, true, true, true, true, true, true, true, true, false, false]) (by kernel_rfl) (by kernel_rfl) ?_
              have hS : Sep w0 B w (own 3 (.slice (hdA hd4 n1) ((geti2 z2 n1).length) (hdC hd4 n1)) (vI (geti2 z2 n1)) :: own 3 (.slice g7 1 1) (vI ([at1] : List Int)) :: blk g4 40 #[.slice A6 z2.length c6] :: rowsBut 22 3 (.slice A6 z2.length c6) hd4 z2 (Int.toNat n1) :: blk g1 24 #[.int .i64 p2_W1, .int .i64 p2_H1, .slice A1 p2_Cells1.length c1] :: blk g2 3 #[.int .i64 p31] :: blk g3 22 #[.slice A2 p41.length c2] :: own 3 (.slice A2 p41.length c2) (vI (p41.set (Int.toNat at1) n1)) :: fs) := (hS.at_ 2 rfl).takeRow hb3
              obtain ⟨A9, c9, w, hrun, hS⟩ := run_app1 (P := Try.prog) (t := 22) (m := (geti2 z2 n1)) (ys := ([at1] : List Int)) (A2 := g7) (m2 := 1) (c2 := 1) (Value.int .i64) (0 : Int) (hS.at_ 0 rfl) (hS.at_ 1 rfl).rd ((hS.at_ 1 rfl).len1) 22 Und22 hi3 hz3 hs3 (by omega) rfl (fun _ => rfl) hp10
              have hS : Sep w0 B w (own 3 (.slice A9 (((geti2 z2 n1) ++ ([at1] : List Int)).length) c9) (vI ((geti2 z2 n1) ++ ([at1] : List Int))) :: own 3 (.slice g7 1 1) (vI ([at1] : List Int)) :: blk g4 40 #[.slice A6 z2.length c6] :: rowsBut 22 3 (.slice A6 z2.length c6) hd4 z2 (Int.toNat n1) :: blk g1 24 #[.int .i64 p2_W1, .int .i64 p2_H1, .slice A1 p2_Cells1.length c1] :: blk g2 3 #[.int .i64 p31] :: blk g3 22 #[.slice A2 p41.length c2] :: own 3 (.slice A2 p41.length c2) (vI (p41.set (Int.toNat at1) n1)) :: fs) := hS
              refine at_do (d := 50) hF (by kernel_rfl) (by kernel_rfl) hrun (fun a hF => ?_)
              refine any_finE rfl (by decide) ?_
              refine any_step [9] (by kernel_rfl) rfl ?_
              refine (all_cons ?_ all_nil)
              · refine any_op (listed' := #[true, true, true, true, true, true, true, true, true, true, false]) (by kernel_rfl) (by kernel_rfl) ?_
                refine at_runW 1 [⟨true, [], vS (Instr.indexAt 40 (.slice A6 z2.length c6) (.int .i64 n1)), .pointer (some (sAddr A6 n1))⟩] [some (.pointer (some (sAddr A6 n1)))] [50, 51] [pl 50 (.slice A9 (((geti2 z2 n1) ++ ([at1] : List Int)).length) c9), pl 51 (.pointer (some (sAddr A6 n1)))] hF hS (by kernel_rfl) (by kernel_rfl) ?_ (fun a hF => ?_)
                · exact obs_cons (ob_ixHn Und40 hi22 hs22 (hS.at_ 3 rfl).butRd (hS.at_ 3 rfl).butLen (fun _ => hp11)) <| obs_nil
                refine any_finI rfl (fun h => h) ?_
                refine any_step [10] (by kernel_rfl) rfl ?_
                refine (all_cons ?_ all_nil)
                · refine any_op (listed' := #[true, true, true, true, true, true, true, true, true, true, true]) (by kernel_rfl) (by kernel_rfl) ?_
                  have hb4 := (rowb (hS.at_ 3 rfl).butLen hp11)
                  have hS := hS.pickN 8 [0, 1, 2, 3, 4, 5, 6, 7] (by decide)
                  have hS : Sep w0 B w (own 3 (.slice A9 (((geti2 z2 n1) ++ ([at1] : List Int)).length) c9) (vI ((geti2 z2 n1) ++ ([at1] : List Int))) :: own 3 (.slice g7 1 1) (vI ([at1] : List Int)) :: blk g4 40 #[.slice A6 z2.length c6] :: rowsBut 22 3 (.slice A6 z2.length c6) hd4 z2 (Int.toNat n1) :: blk g1 24 #[.int .i64 p2_W1, .int .i64 p2_H1, .slice A1 p2_Cells1.length c1] :: blk g2 3 #[.int .i64 p31] :: blk g3 22 #[.slice A2 p41.length c2] :: own 3 (.slice A2 p41.length c2) (vI (p41.set (Int.toNat at1) n1)) :: fs) := hS
                  obtain ⟨w, hrun, hS⟩ := run_storeRow (P := Try.prog) (t := 22) (hS.at2 2 rfl) hi22 hs22 hb4
                  refine at_skip hF (by kernel_rfl) hrun ?_
                  try simp only [List.length_set] at hS
                  have hS : Sep w0 B w (own 3 (.slice g7 1 1) (vI ([at1] : List Int)) :: blk g4 40 #[.slice A6 z2.length c6] :: rows 22 3 (.slice A6 z2.length c6) (hd4.set (Int.toNat n1) (A9, c9)) (z2.set (Int.toNat n1) ((geti2 z2 n1) ++ ([at1] : List Int))) :: blk g1 24 #[.int .i64 p2_W1, .int .i64 p2_H1, .slice A1 p2_Cells1.length c1] :: blk g2 3 #[.int .i64 p31] :: blk g3 22 #[.slice A2 p41.length c2] :: own 3 (.slice A2 p41.length c2) (vI (p41.set (Int.toNat at1) n1)) :: fs) := hS
                  refine any_finE rfl (by decide) ?_
                  refine any_end (by kernel_rfl) ?_
                  refine np_n ?_
                  refine then_n ?_
                  have hl2 := (hS.at_ 2 rfl).lenR
                  have hS := (hS.at_ 2 rfl).reNR hl2
                  have hS := (hS.at_ 1 rfl).reBlk (congrArg (fun k9 => (#[.slice A6 k9 c6] : Array Value)) hl2)
                  have hS : Sep w0 B w (own 3 (.slice g7 1 1) (vI ([at1] : List Int)) :: blk g4 40 #[.slice A6 ((z2.set (Int.toNat n1) ((geti2 z2 n1) ++ ([at1] : List Int))).length) c6] :: rows 22 3 (.slice A6 ((z2.set (Int.toNat n1) ((geti2 z2 n1) ++ ([at1] : List Int))).length) c6) (hd4.set (Int.toNat n1) (A9, c9)) (z2.set (Int.toNat n1) ((geti2 z2 n1) ++ ([at1] : List Int))) :: blk g1 24 #[.int .i64 p2_W1, .int .i64 p2_H1, .slice A1 p2_Cells1.length c1] :: blk g2 3 #[.int .i64 p31] :: blk g3 22 #[.slice A2 p41.length c2] :: own 3 (.slice A2 p41.length c2) (vI (p41.set (Int.toNat at1) n1)) :: fs) := hS
                  have hS := hS.pickN 7 [3, 4, 5, 6, 1, 2] (by decide)
                  exact ⟨(z2.set (Int.toNat n1) ((geti2 z2 n1) ++ ([at1] : List Int))), A6, c6, (hd4.set (Int.toNat n1) (A9, c9)), hF.weak [] (by kernel_rfl), hS, hm⟩
          · refine any_op (listed' := #[false, true, true, true, true, true, true, true, true, false, false]) (by kernel_rfl) (by kernel_rfl) ?_
            have hS : Sep w0 B w (own 3 (.slice (hdA hd4 n1) ((geti2 z2 n1).length) (hdC hd4 n1)) (vI (geti2 z2 n1)) :: own 3 (.slice g7 1 1) (vI ([at1] : List Int)) :: blk g4 40 #[.slice A6 z2.length c6] :: rowsBut 22 3 (.slice A6 z2.length c6) hd4 z2 (Int.toNat n1) :: blk g1 24 #[.int .i64 p2_W1, .int .i64 p2_H1, .slice A1 p2_Cells1.length c1] :: blk g2 3 #[.int .i64 p31] :: blk g3 22 #[.slice A2 p41.length c2] :: own 3 (.slice A2 p41.length c2) (vI (p41.set (Int.toNat at1) n1)) :: fs) := (hS.at_ 2 rfl).takeRow hb3
            obtain ⟨A9, c9, w, hrun, hS⟩ := run_app1 (P := Try.prog) (t := 22) (m := (geti2 z2 n1)) (ys := ([at1] : List Int)) (A2 := g7) (m2 := 1) (c2 := 1) (Value.int .i64) (0 : Int) (hS.at_ 0 rfl) (hS.at_ 1 rfl).rd ((hS.at_ 1 rfl).len1) 22 Und22 hi3 hz3 hs3 (by omega) rfl (fun _ => rfl) hp10
            have hS : Sep w0 B w (own 3 (.slice A9 (((geti2 z2 n1) ++ ([at1] : List Int)).length) c9) (vI ((geti2 z2 n1) ++ ([at1] : List Int))) :: own 3 (.slice g7 1 1) (vI ([at1] : List Int)) :: blk g4 40 #[.slice A6 z2.length c6] :: rowsBut 22 3 (.slice A6 z2.length c6) hd4 z2 (Int.toNat n1) :: blk g1 24 #[.int .i64 p2_W1, .int .i64 p2_H1, .slice A1 p2_Cells1.length c1] :: blk g2 3 #[.int .i64 p31] :: blk g3 22 #[.slice A2 p41.length c2] :: own 3 (.slice A2 p41.length c2) (vI (p41.set (Int.toNat at1) n1)) :: fs) := hS
            refine at_do (d := 50) hF (by kernel_rfl) (by kernel_rfl) hrun (fun a hF => ?_)
            refine any_finE rfl (by decide) ?_
            refine any_step [0] (by kernel_rfl) rfl ?_
            refine (all_cons ?_ all_nil)
            · refine any_op (listed' := #[true, true, true, true, true, true, true, true, true, false, false]) (by kernel_rfl) (by kernel_rfl) ?_
              refine at_runW 1 [⟨false, [], vS (Instr.loadAt 40 (.pointer (some ⟨g4, 0, none⟩))), .slice A6 z2.length c6⟩] [some (.slice A6 z2.length c6)] [42, 43, 50] [pl 42 (.slice A6 z2.length c6), pl 43 (.int .i64 n1), pl 50 (.slice A9 (((geti2 z2 n1) ++ ([at1] : List Int)).length) c9)] hF hS (by kernel_rfl) (by kernel_rfl) ?_ (fun a hF => ?_)
              · exact obs_cons (ob_load Agg40 (fun _ _ hS => (hS.at_ 2 rfl).cell rfl)) <| obs_nil
              refine any_finI rfl (fun h => h) ?_
              refine any_step [9] (by kernel_rfl) rfl ?_
              refine (all_cons ?_ all_nil)
              · refine any_op (listed' := #[true, true, true, true, true, true, true, true, true, true, false]) (by kernel_rfl) (by kernel_rfl) ?_
                refine at_runW 1 [⟨true, [], vS (Instr.indexAt 40 (.slice A6 z2.length c6) (.int .i64 n1)), .pointer (some (sAddr A6 n1))⟩] [some (.pointer (some (sAddr A6 n1)))] [50, 51] [pl 50 (.slice A9 (((geti2 z2 n1) ++ ([at1] : List Int)).length) c9), pl 51 (.pointer (some (sAddr A6 n1)))] hF hS (by kernel_rfl) (by kernel_rfl) ?_ (fun a hF => ?_)
                · exact obs_cons (ob_ixHn Und40 hi22 hs22 (hS.at_ 3 rfl).butRd (hS.at_ 3 rfl).butLen (fun _ => hp11)) <| obs_nil
                refine any_finI rfl (fun h => h) ?_
                refine any_step [10] (by kernel_rfl) rfl ?_
                refine (all_cons ?_ all_nil)
                · refine any_op (listed' := #[true, true, true, true, true, true, true, true, true, true, true]) (by kernel_rfl) (by kernel_rfl) ?_
                  have hb4 := (rowb (hS.at_ 3 rfl).butLen hp11)
                  have hS := hS.pickN 8 [0, 1, 2, 3, 4, 5, 6, 7] (by decide)
                  have hS : Sep w0 B w (own 3 (.slice A9 (((geti2 z2 n1) ++ ([at1] : List Int)).length) c9) (vI ((geti2 z2 n1) ++ ([at1] : List Int))) :: own 3 (.slice g7 1 1) (vI ([at1] : List Int)) :: blk g4 40 #[.slice A6 z2.length c6] :: rowsBut 22 3 (.slice A6 z2.length c6) hd4 z2 (Int.toNat n1) :: blk g1 24 #[.int .i64 p2_W1, .int .i64 p2_H1, .slice A1 p2_Cells1.length c1] :: blk g2 3 #[.int .i64 p31] :: blk g3 22 #[.slice A2 p41.length c2] :: own 3 (.slice A2 p41.length c2) (vI (p41.set (Int.toNat at1) n1)) :: fs) := hS
                  obtain ⟨w, hrun, hS⟩ := run_storeRow (P := Try.prog) (t := 22) (hS.at2 2 rfl) hi22 hs22 hb4
                  refine at_skip hF (by kernel_rfl) hrun ?_
                  try simp only [List.length_set] at hS
                  have hS : Sep w0 B w (own 3 (.slice g7 1 1) (vI ([at1] : List Int)) :: blk g4 40 #[.slice A6 z2.length c6] :: rows 22 3 (.slice A6 z2.length c6) (hd4.set (Int.toNat n1) (A9, c9)) (z2.set (Int.toNat n1) ((geti2 z2 n1) ++ ([at1] : List Int))) :: blk g1 24 #[.int .i64 p2_W1, .int .i64 p2_H1, .slice A1 p2_Cells1.length c1] :: blk g2 3 #[.int .i64 p31] :: blk g3 22 #[.slice A2 p41.length c2] :: own 3 (.slice A2 p41.length c2) (vI (p41.set (Int.toNat at1) n1)) :: fs) := hS
                  refine any_finE rfl (by decide) ?_
                  refine any_end (by kernel_rfl) ?_
                  refine np_n ?_
                  refine then_n ?_
                  have hl3 := (hS.at_ 2 rfl).lenR
                  have hS := (hS.at_ 2 rfl).reNR hl3
                  have hS := (hS.at_ 1 rfl).reBlk (congrArg (fun k9 => (#[.slice A6 k9 c6] : Array Value)) hl3)
                  have hS : Sep w0 B w (own 3 (.slice g7 1 1) (vI ([at1] : List Int)) :: blk g4 40 #[.slice A6 ((z2.set (Int.toNat n1) ((geti2 z2 n1) ++ ([at1] : List Int))).length) c6] :: rows 22 3 (.slice A6 ((z2.set (Int.toNat n1) ((geti2 z2 n1) ++ ([at1] : List Int))).length) c6) (hd4.set (Int.toNat n1) (A9, c9)) (z2.set (Int.toNat n1) ((geti2 z2 n1) ++ ([at1] : List Int))) :: blk g1 24 #[.int .i64 p2_W1, .int .i64 p2_H1, .slice A1 p2_Cells1.length c1] :: blk g2 3 #[.int .i64 p31] :: blk g3 22 #[.slice A2 p41.length c2] :: own 3 (.slice A2 p41.length c2) (vI (p41.set (Int.toNat at1) n1)) :: fs) := hS
                  have hS := hS.pickN 7 [3, 4, 5, 6, 1, 2] (by decide)
                  exact ⟨(z2.set (Int.toNat n1) ((geti2 z2 n1) ++ ([at1] : List Int))), A6, c6, (hd4.set (Int.toNat n1) (A9, c9)), hF.weak [] (by kernel_rfl), hS, hm⟩
      · refine wpIn_block ?_
        have hS := hS.pickN 6 [2, 3, 4, 5, 0, 1] (by decide)
        refine wp_loop_model (S := (List (List Int))) (R := (List (List Int))) (hex_Shortest_2_L1 n1) (fun x => ((hex_Shortest_2_K1 at1 n1 p41) x).bind some) r (fun (x : (List (List Int))) a w => ∃ (A5 : Option Addr) (c5 : Nat) (hd3 : List Hd), Fr 52 [pl 0 (.int .i64 at1), pl 1 (.int .i64 n1), pl 5 (.pointer (some ⟨g4, 0, none⟩))] a ∧ Sep w0 B w (blk g4 40 #[.slice A5 x.length c5] :: rows 22 3 (.slice A5 x.length c5) hd3 x :: blk g1 24 #[.int .i64 p2_W1, .int .i64 p2_H1, .slice A1 p2_Cells1.length c1] :: blk g2 3 #[.int .i64 p31] :: blk g3 22 #[.slice A2 p41.length c2] :: own 3 (.slice A2 p41.length c2) (vI (p41.set (Int.toNat at1) n1)) :: fs)) (assoc_b hm) ⟨A3, c3, hd1, hF.weak [0, 1, 5] (by kernel_rfl), hS⟩ ?_
        clear hF hS hm
        rintro nn1 z1 a w ⟨A5, c5, hd3, hF, hS⟩ hm
        generalize hφ1 : stK (hex_Shortest_2_L1 n1) nn1 (fun x => ((hex_Shortest_2_K1 at1 n1 p41) x).bind some) = φ1 at hm
        unfold hex_Shortest_2_L1 at hm
        dsimp only at hm
        refine seq_cut (fun a w => Fr 52 [pl 0 (.int .i64 at1), pl 1 (.int .i64 n1), pl 5 (.pointer (some ⟨g4, 0, none⟩))] a ∧ Sep w0 B w (blk g4 40 #[.slice A5 z1.length c5] :: rows 22 3 (.slice A5 z1.length c5) hd3 z1 :: blk g1 24 #[.int .i64 p2_W1, .int .i64 p2_H1, .slice A1 p2_Cells1.length c1] :: blk g2 3 #[.int .i64 p31] :: blk g3 22 #[.slice A2 p41.length c2] :: own 3 (.slice A2 p41.length c2) (vI (p41.set (Int.toNat at1) n1)) :: fs) ∧ ((hex_Shortest_2_J4 z1)).bind φ1 = some r) ?_ ?_
        · rintro a w ⟨hF, hS, hm⟩
          unfold hex_Shortest_2_J4 at hm
          refine wpIn_block ?_
          refine oneR ?_
          obtain ⟨hp5, hm⟩ := asrt_b hm
          refine at_run 1 [⟨false, [], vS (Instr.loadAt 40 (.pointer (some ⟨g4, 0, none⟩))), .slice A5 z1.length c5⟩] [some (.slice A5 z1.length c5)] [0, 1, 5, 39] [pl 0 (.int .i64 at1), pl 1 (.int .i64 n1), pl 5 (.pointer (some ⟨g4, 0, none⟩)), pl 39 (.slice A5 z1.length c5)] hF hS (by kernel_rfl) (by kernel_rfl) ?_ (fun a w hF hS => ?_)
          · exact obs_cons (ob_load Agg40 (fun _ _ hS => (hS.at_ 0 rfl).cell rfl)) <| obs_nil
          refine at_do (d := 40) (s := vS (Instr.buildSlice 40 1 #[(0, .slice none 0 0)])) (v := .slice (some ⟨w.heap.size, 0, none⟩) 1 1) (w' := w.alloc (.cells #[.slice none 0 0] 22)) hF (by kernel_rfl) (by kernel_rfl) (by kernel_rfl) (fun a hF => ?_)
          have hS : Sep w0 B (w.alloc (.cells #[.slice none 0 0] 22)) (own 22 (.slice (some (⟨w.heap.size, 0, none⟩ : Addr)) 1 1) [.slice none 0 0] :: (blk g4 40 #[.slice A5 z1.length c5] :: rows 22 3 (.slice A5 z1.length c5) hd3 z1 :: blk g1 24 #[.int .i64 p2_W1, .int .i64 p2_H1, .slice A1 p2_Cells1.length c1] :: blk g2 3 #[.int .i64 p31] :: blk g3 22 #[.slice A2 p41.length c2] :: own 3 (.slice A2 p41.length c2) (vI (p41.set (Int.toNat at1) n1)) :: fs)) := hS.lit 22 #[.slice none 0 0] 1 rfl (by omega)
          generalize (some (⟨w.heap.size, 0, none⟩ : Addr)) = g5 at hF hS
          generalize w.alloc (.cells #[.slice none 0 0] 22) = w at hS ⊢
          have hS : Sep w0 B w (own 3 (.slice none (([] : List Int).length) 0) (vI ([] : List Int)) :: own 22 (.slice g5 1 1) [.slice none 0 0] :: blk g4 40 #[.slice A5 z1.length c5] :: rows 22 3 (.slice A5 z1.length c5) hd3 z1 :: blk g1 24 #[.int .i64 p2_W1, .int .i64 p2_H1, .slice A1 p2_Cells1.length c1] :: blk g2 3 #[.int .i64 p31] :: blk g3 22 #[.slice A2 p41.length c2] :: own 3 (.slice A2 p41.length c2) (vI (p41.set (Int.toNat at1) n1)) :: fs) := hS.nil 3
          have hS : Sep w0 B w (own 3 (.slice none (([] : List Int).length) 0) (vI ([] : List Int)) :: own 22 (.slice g5 1 1) [.slice none 0 0] :: blk g4 40 #[.slice A5 z1.length c5] :: rows 22 3 (.slice A5 z1.length c5) hd3 z1 :: blk g1 24 #[.int .i64 p2_W1, .int .i64 p2_H1, .slice A1 p2_Cells1.length c1] :: blk g2 3 #[.int .i64 p31] :: blk g3 22 #[.slice A2 p41.length c2] :: own 3 (.slice A2 p41.length c2) (vI (p41.set (Int.toNat at1) n1)) :: fs) := hS
          obtain ⟨A7, c7, w, hrun, hS⟩ := run_appRow (P := Try.prog) (t := 40) (A2 := g5) (c2 := 1) (hS.at2 2 rfl) (hS.at_ 1 rfl).rd 40 Und40 hi22 hz22 hs22 hb22 hp5
          have hS : Sep w0 B w (own 22 (.slice g5 1 1) [.slice none 0 0] :: blk g4 40 #[.slice A5 z1.length c5] :: rows 22 3 (.slice A7 ((z1 ++ [([] : List Int)]).length) c7) (hd3 ++ [((none : Option Addr), 0)]) (z1 ++ [([] : List Int)]) :: blk g1 24 #[.int .i64 p2_W1, .int .i64 p2_H1, .slice A1 p2_Cells1.length c1] :: blk g2 3 #[.int .i64 p31] :: blk g3 22 #[.slice A2 p41.length c2] :: own 3 (.slice A2 p41.length c2) (vI (p41.set (Int.toNat at1) n1)) :: fs) := hS
          refine at_do (d := 41) hF (by kernel_rfl) (by kernel_rfl) hrun (fun a hF => ?_)
          obtain ⟨w, hrun, hS⟩ := run_put (P := Try.prog) (t := 40) (u := .slice A7 ((z1 ++ [([] : List Int)]).length) c7) (i := 0) (hS.at_ 1 rfl) hi40 hs40 rfl (Nat.lt_of_lt_of_eq (Nat.lt_of_succ_le (Nat.le_of_ble_eq_true (by kernel_rfl))) rfl)
          refine at_skip hF (by kernel_rfl) hrun ?_
          have hS : Sep w0 B w (own 22 (.slice g5 1 1) [.slice none 0 0] :: blk g4 40 #[.slice A7 ((z1 ++ [([] : List Int)]).length) c7] :: rows 22 3 (.slice A7 ((z1 ++ [([] : List Int)]).length) c7) (hd3 ++ [((none : Option Addr), 0)]) (z1 ++ [([] : List Int)]) :: blk g1 24 #[.int .i64 p2_W1, .int .i64 p2_H1, .slice A1 p2_Cells1.length c1] :: blk g2 3 #[.int .i64 p31] :: blk g3 22 #[.slice A2 p41.length c2] :: own 3 (.slice A2 p41.length c2) (vI (p41.set (Int.toNat at1) n1)) :: fs) := hS
          refine at_end [0, 1, 5] [pl 0 (.int .i64 at1), pl 1 (.int .i64 n1), pl 5 (.pointer (some ⟨g4, 0, none⟩))] hF rfl (by kernel_rfl) (fun hF => ?_)
          refine block_n ?_
          refine then_n ?_
          have hS := hS.pickN 7 [1, 2, 3, 4, 5, 6] (by decide)
          rw [← hφ1] at hm
          exact ⟨(z1 ++ [([] : List Int)]), ⟨A7, c7, (hd3 ++ [((none : Option Addr), 0)]), hF.weak [0, 1, 5] (by kernel_rfl), hS⟩, hm⟩
        · refine reg [⟨false, [], vS (Instr.loadAt 40 (.pointer (some ⟨g4, 0, none⟩))), .slice A5 z1.length c5⟩] [some (.slice A5 z1.length c5), none, none, none] [0, 1, 5, 38] [pl 0 (.int .i64 at1), pl 1 (.int .i64 n1), pl 5 (.pointer (some ⟨g4, 0, none⟩)), pl 38 (.bool (decide ((z1.length : Int) ≤ n1)))] hF hS Fol (by kernel_rfl) (by kernel_rfl) (by kernel_rfl) ?_ (fun a w hF hS => ?_)
          · exact obs_cons (ob_load Agg40 (fun _ _ hS => (hS.at_ 0 rfl).cell rfl)) <| obs_nil
          refine cond_ev (t := 38) (b := decide ((z1.length : Int) ≤ n1)) hF (by kernel_rfl) (fun hb => ?_) (fun hb => ?_)
          · replace hm := if_t hm hb
            refine wpIn_skip ?_
            refine then_n ?_
            exact ⟨hF.weak [0, 1, 5] (by kernel_rfl), hS, hm⟩
          · replace hm := if_f hm hb
            refine wpIn_exit ?_
            refine then_e (then_e (block_e (then_n ?_)))
            rw [← hφ1] at hm
            replace hm := done_b hm
            unfold hex_Shortest_2_K1 at hm
            try dsimp only at hm
            have hm : ((hex_Shortest_2_J3 at1 n1 p41) z1).bind some = some r := hm
            exact ⟨z1, A5, c5, hd3, hF.weak [0, 1, 5] (by kernel_rfl), hS, hm⟩
    · obtain ⟨hp1, hm⟩ := asrt_b hm
      obtain ⟨hp2, hm⟩ := asrt_b hm
      obtain ⟨hp3, hm⟩ := asrt_b hm
      refine reg [⟨false, [], vS (Instr.loadAt 22 (.pointer (some ⟨g1, 2, none⟩))), .slice A1 p2_Cells1.length c1⟩, ⟨true, [], vS (Instr.indexAt 22 (.slice A1 p2_Cells1.length c1) (.int .i64 at1)), .pointer (some (sAddr A1 at1))⟩, ⟨false, [], vS (Instr.loadAt 3 (.pointer (some (sAddr A1 at1)))), .int .i64 (geti p2_Cells1 at1)⟩, ⟨false, [], vS (Instr.loadAt 3 (.pointer (some ⟨g2, 0, none⟩))), .int .i64 p31⟩, ⟨false, [(((geti p2_Cells1 at1) == (w64 (3 - p31))), false)], vS (Instr.loadAt 22 (.pointer (some ⟨g3, 0, none⟩))), .slice A2 p41.length c2⟩, ⟨true, [(((geti p2_Cells1 at1) == (w64 (3 - p31))), false)], vS (Instr.indexAt 22 (.slice A2 p41.length c2) (.int .i64 at1)), .pointer (some (sAddr A2 at1))⟩, ⟨false, [(((geti p2_Cells1 at1) == (w64 (3 - p31))), false)], vS (Instr.loadAt 3 (.pointer (some (sAddr A2 at1)))), .int .i64 (geti p41 at1)⟩, ⟨false, [(decide ((0 : Int) ≤ (geti p41 at1)), true), (((geti p2_Cells1 at1) == (w64 (3 - p31))), false)], vS (Instr.loadAt 22 (.pointer (some ⟨g3, 0, none⟩))), .slice A2 p41.length c2⟩, ⟨true, [(decide ((0 : Int) ≤ (geti p41 at1)), true), (((geti p2_Cells1 at1) == (w64 (3 - p31))), false)], vS (Instr.indexAt 22 (.slice A2 p41.length c2) (.int .i64 at1)), .pointer (some (sAddr A2 at1))⟩, ⟨false, [(decide ((0 : Int) ≤ (geti p41 at1)), true), (((geti p2_Cells1 at1) == (w64 (3 - p31))), false)], vS (Instr.loadAt 3 (.pointer (some (sAddr A2 at1)))), .int .i64 (geti p41 at1)⟩] [none, some (.slice A1 p2_Cells1.length c1), none, some (.pointer (some (sAddr A1 at1))), some (.int .i64 (geti p2_Cells1 at1)), some (.int .i64 p31), none, none, none, some (.slice A2 p41.length c2), none, some (.pointer (some (sAddr A2 at1))), some (.int .i64 (geti p41 at1)), none, none, some (.slice A2 p41.length c2), none, some (.pointer (some (sAddr A2 at1))), some (.int .i64 (geti p41 at1)), none, none, none, none] [0, 1, 4, 5, 30] [pl 0 (.int .i64 at1), pl 1 (.int .i64 n1), pl 4 (.pointer (some ⟨g3, 0, none⟩)), pl 5 (.pointer (some ⟨g4, 0, none⟩)), pl 30 (.bool (((geti p2_Cells1 at1) == (w64 (3 - p31))) || ((decide ((0 : Int) ≤ (geti p41 at1))) && (decide ((geti p41 at1) ≤ n1)))))] hF hS Fol (by kernel_rfl) (by kernel_rfl) (by kernel_rfl) ?_ (fun a w hF hS => ?_)
      · exact obs_cons (ob_load Agg22 (fun _ _ hS => (hS.at_ 0 rfl).cell rfl)) <| obs_cons (ob_ix1 (f := (Value.int .i64)) (m := p2_Cells1) Und22 hi3 hs3 (hr_p2_Cells1 _ (hS.dropN 6)) rfl (fun _ => hp1)) <| obs_cons (ob_get1 (n := p2_Cells1.length) (m := p2_Cells1) (Value.int .i64) (0 : Int) Agg3 (fun _ hS => ⟨_, (hr_p2_Cells1 _ (hS.dropN 6))⟩) (fun _ hS => rfl) (fun _ => hp1)) <| obs_cons (ob_load Agg3 (fun _ _ hS => (hS.at_ 1 rfl).cell rfl)) <| obs_cons (ob_load Agg22 (fun _ _ hS => (hS.at_ 2 rfl).cell rfl)) <| obs_cons (ob_ix1 (f := (Value.int .i64)) (m := p41) Und22 hi3 hs3 (hS.at_ 3 rfl).rd rfl (fun hy => hp2 (hy (((geti p2_Cells1 at1) == (w64 (3 - p31))), false) (by simp)))) <| obs_cons (ob_get1 (n := p41.length) (m := p41) (Value.int .i64) (0 : Int) Agg3 (fun _ hS => ⟨_, (hS.at_ 3 rfl).rd⟩) (fun _ hS => rfl) (fun hy => hp2 (hy (((geti p2_Cells1 at1) == (w64 (3 - p31))), false) (by simp)))) <| obs_cons (ob_load Agg22 (fun _ _ hS => (hS.at_ 2 rfl).cell rfl)) <| obs_cons (ob_ix1 (f := (Value.int .i64)) (m := p41) Und22 hi3 hs3 (hS.at_ 3 rfl).rd rfl (fun hy => hp3 (hy (decide ((0 : Int) ≤ (geti p41 at1)), true) (by simp)) (hy (((geti p2_Cells1 at1) == (w64 (3 - p31))), false) (by simp)))) <| obs_cons (ob_get1 (n := p41.length) (m := p41) (Value.int .i64) (0 : Int) Agg3 (fun _ hS => ⟨_, (hS.at_ 3 rfl).rd⟩) (fun _ hS => rfl) (fun hy => hp3 (hy (decide ((0 : Int) ≤ (geti p41 at1)), true) (by simp)) (hy (((geti p2_Cells1 at1) == (w64 (3 - p31))), false) (by simp)))) <| obs_nil
      refine cond_ev (t := 30) (b := ((geti p2_Cells1 at1) == (w64 (3 - p31))) || ((decide ((0 : Int) ≤ (geti p41 at1))) && (decide ((geti p41 at1) ≤ n1)))) hF (by kernel_rfl) (fun hb => ?_) (fun hb => ?_)
      · replace hm := if_t hm hb
        refine wpIn_ret ?_
        refine then_r (then_r ?_)
        have hm : some (p41, p51) = some r := hm
        obtain rfl := Option.some.inj hm
        exact retV (rs := []) (vs := []) hF rfl (rv_nil) rfl ⟨_, rfl, A3, c3, hd1, rfl, hS⟩
      · replace hm := if_f hm hb
        refine wpIn_skip ?_
        refine then_n ?_
        have hS := hS.pickN 6 [2, 3, 4, 5, 0, 1] (by decide)
        exact ⟨hF.weak [0, 1, 4, 5] (by kernel_rfl), hS, hm⟩

noncomputable def hex_Shortest_J4  (z1 : Int) (far3 : List Int) (rounds3 : List (List Int)) : Option (St (List Int × List (List Int) × Int) (List Int × List (List Int))) :=
  some (.next (far3, rounds3, (w64 (z1 + 1))))

noncomputable def hex_Shortest_J3  (g1 : Int) (g2 : Int) (g3 : List Int) (who1 : Int) (far1 : List Int) (rounds1 : List (List Int)) (z1 : Int) : Option (St (List Int × List (List Int) × Int) (List Int × List (List Int))) :=
  (hex_along_m g1 who1 z1).bind fun r3 => if (r3 == 0) then ((hex_Shortest_1_m z1 g1 g2 g3).bind fun r4 => (hex_Shortest_2_m z1 r4 g1 g2 g3 who1 far1 rounds1).bind fun r5 => (hex_Shortest_J4 z1) r5.1 r5.2) else ((hex_Shortest_J4 z1) far1 rounds1)

noncomputable def hex_Shortest_J9  (i1 : Int) (far7 : List Int) (rounds7 : List (List Int)) : Option (St (List Int × List (List Int) × Int) (Fl (List Int × List (List Int)) (Int × Int))) :=
  some (.next (far7, rounds7, (w64 (i1 + 1))))

noncomputable def hex_Shortest_L4  (g1 : Int) (g2 : Int) (g3 : List Int) (who1 : Int) (n2 : Int) : (Int × (List Int × List (List Int))) → Option (St (List Int × List (List Int)) Unit) :=
  fun (x : Int × (List Int × List (List Int))) => match x with | (x1, (far8, rounds8)) => (hex_Shortest_1_m x1 g1 g2 g3).bind fun r8 => (hex_Shortest_2_m x1 (w64 (n2 + r8)) g1 g2 g3 who1 far8 rounds8).bind fun r9 => some (.next (r9.1, r9.2))

noncomputable def hex_Shortest_K4  (i1 : Int) : (St (List Int × List (List Int)) Unit) → Option (St (List Int × List (List Int) × Int) (Fl (List Int × List (List Int)) (Int × Int))) :=
  fun (x : St (List Int × List (List Int)) Unit) => match x with | .next (far8, rounds8) => (hex_Shortest_J9 i1) far8 rounds8 | .done _ => none

noncomputable def hex_Shortest_J11  (g1 : Int) (g2 : Int) (g3 : List Int) (who1 : Int) (n2 : Int) (far5 : List Int) (rounds5 : List (List Int)) (i1 : Int) : Option (St (List Int × List (List Int) × Int) (Fl (List Int × List (List Int)) (Int × Int))) :=
  (hex_near_m g1 (geti (geti2 rounds5 n2) i1)).bind fun r7 => (hex_near_1_m (ydOf (fun x s => (hex_Shortest_L4 g1 g2 g3 who1 n2) (x, s))) (.next (far5, rounds5)) r7.1 r7.2).bind (hex_Shortest_K4 i1)

noncomputable def hex_Shortest_J10  (g1 : Int) (g2 : Int) (g3 : List Int) (who1 : Int) (n2 : Int) (far5 : List Int) (rounds5 : List (List Int)) (i1 : Int) : Option (St (List Int × List (List Int) × Int) (Fl (List Int × List (List Int)) (Int × Int))) :=
  (hex_along_m g1 who1 (geti (geti2 rounds5 n2) i1)).bind fun r6 => if (r6 == (w64 (g1 - 1))) then (some (.done (.ret (n2, 0)))) else ((hex_Shortest_J11 g1 g2 g3 who1 n2 far5 rounds5 i1))

noncomputable def hex_Shortest_J8  (g1 : Int) (g2 : Int) (g3 : List Int) (who1 : Int) (r2 : (List Int)) (n2 : Int) (far5 : List Int) (rounds5 : List (List Int)) (i1 : Int) : Option (St (List Int × List (List Int) × Int) (Fl (List Int × List (List Int)) (Int × Int))) :=
  asrt (0 ≤ n2 ∧ n2 < (rounds5.length : Int)) <| asrt (0 ≤ i1 ∧ i1 < (((geti2 rounds5 n2).length : Nat) : Int)) <| asrt (0 ≤ (geti (geti2 rounds5 n2) i1) ∧ (geti (geti2 rounds5 n2) i1) < (r2.length : Int)) <| if (decide ((geti far5 (geti (geti2 rounds5 n2) i1)) < n2)) then ((hex_Shortest_J9 i1) far5 rounds5) else ((hex_Shortest_J10 g1 g2 g3 who1 n2 far5 rounds5 i1))

noncomputable def hex_Shortest_L3  (g1 : Int) (g2 : Int) (g3 : List Int) (who1 : Int) (r2 : (List Int)) (n2 : Int) : (List Int × List (List Int) × Int) → Option (St (List Int × List (List Int) × Int) (Fl (List Int × List (List Int)) (Int × Int))) :=
  fun (x : (List Int × List (List Int) × Int)) => match x with | (far5, rounds5, i1) => asrt (0 ≤ n2 ∧ n2 < (rounds5.length : Int)) <| if (decide (i1 < (((geti2 rounds5 n2).length : Nat) : Int))) then ((hex_Shortest_J8 g1 g2 g3 who1 r2 n2 far5 rounds5 i1)) else (some (.done (.go (far5, rounds5))))

noncomputable def hex_Shortest_J12  (n2 : Int) (far6 : List Int) (rounds6 : List (List Int)) : Option (St (List Int × List (List Int) × Int) (Fl Unit (Int × Int))) :=
  some (.next (far6, rounds6, (w64 (n2 + 1))))

noncomputable def hex_Shortest_J7  (n2 : Int) (far6 : List Int) (rounds6 : List (List Int)) : Option (St (List Int × List (List Int) × Int) (Fl Unit (Int × Int))) :=
  (hex_Shortest_J12 n2 far6 rounds6)

noncomputable def hex_Shortest_K3  (n2 : Int) : (Fl (List Int × List (List Int)) (Int × Int)) → Option (St (List Int × List (List Int) × Int) (Fl Unit (Int × Int))) :=
  fun (x : (Fl (List Int × List (List Int)) (Int × Int))) => match x with | .go (far6, rounds6) => (hex_Shortest_J7 n2) far6 rounds6 | .ret x => some (.done (.ret x))

noncomputable def hex_Shortest_J6  (g1 : Int) (g2 : Int) (g3 : List Int) (who1 : Int) (r2 : (List Int)) (far4 : List Int) (rounds4 : List (List Int)) (n2 : Int) : Option (St (List Int × List (List Int) × Int) (Fl Unit (Int × Int))) :=
  (loop (hex_Shortest_L3 g1 g2 g3 who1 r2 n2) (far4, rounds4, 0)).bind (hex_Shortest_K3 n2)

noncomputable def hex_Shortest_L2  (g1 : Int) (g2 : Int) (g3 : List Int) (who1 : Int) (r2 : (List Int)) : (List Int × List (List Int) × Int) → Option (St (List Int × List (List Int) × Int) (Fl Unit (Int × Int))) :=
  fun (x : (List Int × List (List Int) × Int)) => match x with | (far4, rounds4, n2) => if (decide (n2 < (rounds4.length : Int))) then ((hex_Shortest_J6 g1 g2 g3 who1 r2 far4 rounds4 n2)) else (some (.done (.go ())))

noncomputable def hex_Shortest_J5  : Option (Int × Int) :=
  some ((-1), 0)

noncomputable def hex_Shortest_K2  : (Fl Unit (Int × Int)) → Option (Int × Int) :=
  fun (x : (Fl Unit (Int × Int))) => match x with | .go _ => hex_Shortest_J5 | .ret x => some x

noncomputable def hex_Shortest_J2  (g1 : Int) (g2 : Int) (g3 : List Int) (who1 : Int) (r2 : (List Int)) (far2 : List Int) (rounds2 : List (List Int)) : Option (Int × Int) :=
  (loop (hex_Shortest_L2 g1 g2 g3 who1 r2) (far2, rounds2, 0)).bind hex_Shortest_K2

noncomputable def hex_Shortest_K1  (g1 : Int) (g2 : Int) (g3 : List Int) (who1 : Int) (r2 : (List Int)) : (List Int × List (List Int)) → Option (Int × Int) :=
  fun (x : (List Int × List (List Int))) => match x with | (far2, rounds2) => (hex_Shortest_J2 g1 g2 g3 who1 r2) far2 rounds2

noncomputable def hex_Shortest_L1  (g1 : Int) (g2 : Int) (g3 : List Int) (who1 : Int) : (List Int × List (List Int) × Int) → Option (St (List Int × List (List Int) × Int) (List Int × List (List Int))) :=
  fun (x : (List Int × List (List Int) × Int)) => match x with | (far1, rounds1, z1) => if (decide (z1 < (g3.length : Int))) then ((hex_Shortest_J3 g1 g2 g3 who1 far1 rounds1 z1)) else (some (.done (far1, rounds1)))

noncomputable def hex_Shortest_J1  (g1 : Int) (g2 : Int) (g3 : List Int) (who1 : Int) : Option (Int × Int) :=
  (slices_Repeat_m ([(-1)] : List Int) (g3.length : Int)).bind fun r2 => (loop (hex_Shortest_L1 g1 g2 g3 who1) (r2, ([] : List (List Int)), 0)).bind (hex_Shortest_K1 g1 g2 g3 who1 r2)

noncomputable def hex_Shortest_m  (g1 : Int) (g2 : Int) (g3 : List Int) (who1 : Int) : Option (Int × Int) :=
  (hex_player_m g1 g2 g3 who1).bind fun r1 => if (r1 != 0) then (some (0, r1)) else ((hex_Shortest_J1 g1 g2 g3 who1))

set_option maxRecDepth 100000 in
set_option maxHeartbeats 4000000 in
theorem hex_Shortest_w {g1 : Int} {g2 : Int} {A1 : Option Addr} {c1 : Nat} {n1 : Nat} {g3 : List Int} {who1 : Int} {r : (Int × Int)} {w0 w : World} {B : Nat} {fs : List HP} (hm : hex_Shortest_m g1 g2 g3 who1 = some r) (hS : Sep w0 B w (fs)) (hr_g3 : RdF w0 B fs A1 (vI g3)) (_hc_g3 : g3.length ≤ c1) (_hn_g3 : n1 = g3.length) :
    Calls Try.prog 35 #[.agg #[.int .i64 g1, .int .i64 g2, .slice A1 n1 c1], .int .i64 who1] w fun e w' => e = .returned (.tuple #[.int .i64 r.1, .int .i64 r.2]) ∧ Sep w0 B w' (fs) := by
  obtain ⟨i3, hi3, hz3, hs3, hb3⟩ := info_parts Info3
  obtain ⟨i22, hi22, hz22, hs22, hb22⟩ := info_parts Info22
  obtain ⟨i115, hi115, hz115, hs115, hb115⟩ := info_parts Info115
  obtain ⟨i145, hi145, hz145, hs145, hb145⟩ := info_parts Info145
  obtain rfl := _hn_g3
  unfold hex_Shortest_m at hm
  replace hm := start_b hm
  refine enter (l := [.agg #[.int .i64 g1, .int .i64 g2, .slice A1 g3.length c1], .int .i64 who1]) (n := 100) Try.func35 rfl rfl (by simp) (fun a hF => ?_)
  have hS := hS.defs0
  refine seqR ?_
  refine at_do (d := 2) (s := vS (Instr.box 24 (.agg #[.int .i64 g1, .int .i64 g2, .slice A1 g3.length c1]))) (v := .pointer (some ⟨w.heap.size, 0, none⟩)) (w' := w.alloc (.cells #[.int .i64 g1, .int .i64 g2, .slice A1 g3.length c1] 24)) hF (by kernel_rfl) (by kernel_rfl) (by kernel_rfl) (fun a hF => ?_)
  have hS : Sep w0 B (w.alloc (.cells #[.int .i64 g1, .int .i64 g2, .slice A1 g3.length c1] 24)) (blk w.heap.size 24 #[.int .i64 g1, .int .i64 g2, .slice A1 g3.length c1] :: (defsH ([]) :: fs)) := hS.box 24 #[.int .i64 g1, .int .i64 g2, .slice A1 g3.length c1]
  generalize w.heap.size = g4 at hF hS
  generalize w.alloc (.cells #[.int .i64 g1, .int .i64 g2, .slice A1 g3.length c1] 24) = w at hS ⊢
  refine at_do (d := 3) (s := vS (Instr.box 3 (.int .i64 who1))) (v := .pointer (some ⟨w.heap.size, 0, none⟩)) (w' := w.alloc (.cells #[.int .i64 who1] 3)) hF (by kernel_rfl) (by kernel_rfl) (by kernel_rfl) (fun a hF => ?_)
  have hS : Sep w0 B (w.alloc (.cells #[.int .i64 who1] 3)) (blk w.heap.size 3 #[.int .i64 who1] :: (blk g4 24 #[.int .i64 g1, .int .i64 g2, .slice A1 g3.length c1] :: defsH ([]) :: fs)) := hS.box 3 #[.int .i64 who1]
  generalize w.heap.size = g5 at hF hS
  generalize w.alloc (.cells #[.int .i64 who1] 3) = w at hS ⊢
  refine at_run 2 [] [] [2, 3] [pl 2 (.pointer (some ⟨g4, 0, none⟩)), pl 3 (.pointer (some ⟨g5, 0, none⟩))] hF hS (by kernel_rfl) (by kernel_rfl) ?_ (fun a w hF hS => ?_)
  · exact obs_nil
  refine at_end [2, 3] [pl 2 (.pointer (some ⟨g4, 0, none⟩)), pl 3 (.pointer (some ⟨g5, 0, none⟩))] hF rfl (by kernel_rfl) (fun hF => ?_)
  refine then_n ?_
  refine seq_cut (fun a w => ∃ (Ds1 : List Nat), FrD Ds1 100 [pl 2 (.pointer (some ⟨g4, 0, none⟩)), pl 3 (.pointer (some ⟨g5, 0, none⟩))] a ∧ Sep w0 B w (blk g4 24 #[.int .i64 g1, .int .i64 g2, .slice A1 g3.length c1] :: blk g5 3 #[.int .i64 who1] :: defsH Ds1 :: fs) ∧ ((hex_Shortest_J1 g1 g2 g3 who1)).bind some = some r) ?_ ?_
  · rintro a w ⟨Ds1, hF, hS, hm⟩
    unfold hex_Shortest_J1 at hm
    refine seqR ?_
    obtain ⟨r2, hr2, hm⟩ := call_b hm
    refine at_do (d := 22) (s := vS (Instr.buildSlice 22 1 #[(0, .int .i64 (-1))])) (v := .slice (some ⟨w.heap.size, 0, none⟩) 1 1) (w' := w.alloc (.cells #[.int .i64 (-1)] 3)) hF (by kernel_rfl) (by kernel_rfl) (by kernel_rfl) (fun a hF => ?_)
    have hS : Sep w0 B (w.alloc (.cells #[.int .i64 (-1)] 3)) (own 3 (.slice (some (⟨w.heap.size, 0, none⟩ : Addr)) 1 1) (vI ([(-1)] : List Int)) :: (blk g4 24 #[.int .i64 g1, .int .i64 g2, .slice A1 g3.length c1] :: blk g5 3 #[.int .i64 who1] :: defsH Ds1 :: fs)) := hS.lit 3 #[.int .i64 (-1)] 1 rfl (by omega)
    generalize (some (⟨w.heap.size, 0, none⟩ : Addr)) = g6 at hF hS
    generalize w.alloc (.cells #[.int .i64 (-1)] 3) = w at hS ⊢
    refine at_run 3 [⟨false, [], vS (Instr.loadAt 22 (.pointer (some ⟨g4, 2, none⟩))), .slice A1 g3.length c1⟩] [none, some (.slice A1 g3.length c1), none] [2, 3, 22, 25] [pl 2 (.pointer (some ⟨g4, 0, none⟩)), pl 3 (.pointer (some ⟨g5, 0, none⟩)), pl 22 (.slice g6 1 1), pl 25 (.int .i64 (g3.length : Int))] hF hS (by kernel_rfl) (by kernel_rfl) ?_ (fun a w hF hS => ?_)
    · exact obs_cons (ob_load Agg22 (fun _ _ hS => (hS.at_ 1 rfl).cell rfl)) <| obs_nil
    refine at_call (f := 95) (args := #[.slice g6 1 1, .int .i64 (g3.length : Int)]) (d := 26) hF (by kernel_rfl) (by kernel_rfl) Try.func95 (by kernel_rfl) rfl (slices_Repeat_w hr2 hS (fun _ hS => (hS.at_ 0 rfl).rd) ((hS.at_ 0 rfl).cap1) ((hS.at_ 0 rfl).len1)) (fun v a w hR hF => ?_)
    clear hS
    obtain ⟨A2, c2, rfl, hS⟩ := hR
    have hS : Sep w0 B w (own 3 (.slice A2 r2.length c2) (vI r2) :: own 3 (.slice g6 1 1) (vI ([(-1)] : List Int)) :: blk g4 24 #[.int .i64 g1, .int .i64 g2, .slice A1 g3.length c1] :: blk g5 3 #[.int .i64 who1] :: defsH Ds1 :: fs) := hS
    refine at_do (d := 7) (s := vS (Instr.alloc 22 true (.tuple #[]))) (v := .pointer (some ⟨w.heap.size, 0, none⟩)) (w' := w.alloc (.cells #[.slice none 0 0] 22)) hF (by kernel_rfl) (by kernel_rfl) (by kernel_rfl) (fun a hF => ?_)
    have hS : Sep w0 B (w.alloc (.cells #[.slice none 0 0] 22)) (blk w.heap.size 22 #[.slice none 0 0] :: (own 3 (.slice A2 r2.length c2) (vI r2) :: own 3 (.slice g6 1 1) (vI ([(-1)] : List Int)) :: blk g4 24 #[.int .i64 g1, .int .i64 g2, .slice A1 g3.length c1] :: blk g5 3 #[.int .i64 who1] :: defsH Ds1 :: fs)) := hS.box 22 #[.slice none 0 0]
    generalize w.heap.size = g7 at hF hS
    generalize w.alloc (.cells #[.slice none 0 0] 22) = w at hS ⊢
    obtain ⟨w, hrun, hS⟩ := run_put (P := Try.prog) (t := 22) (u := .slice A2 r2.length c2) (i := 0) (hS.at_ 0 rfl) hi22 hs22 rfl (Nat.lt_of_lt_of_eq (Nat.lt_of_succ_le (Nat.le_of_ble_eq_true (by kernel_rfl))) rfl)
    refine at_skip hF (by kernel_rfl) hrun ?_
    have hS : Sep w0 B w (blk g7 22 #[.slice A2 r2.length c2] :: own 3 (.slice A2 r2.length c2) (vI r2) :: own 3 (.slice g6 1 1) (vI ([(-1)] : List Int)) :: blk g4 24 #[.int .i64 g1, .int .i64 g2, .slice A1 g3.length c1] :: blk g5 3 #[.int .i64 who1] :: defsH Ds1 :: fs) := hS
    refine at_end [2, 3, 7] [pl 2 (.pointer (some ⟨g4, 0, none⟩)), pl 3 (.pointer (some ⟨g5, 0, none⟩)), pl 7 (.pointer (some ⟨g7, 0, none⟩))] hF rfl (by kernel_rfl) (fun hF => ?_)
    refine then_n ?_
    refine seqR ?_
    refine at_run 1 [] [] [2, 3, 7, 27] [pl 2 (.pointer (some ⟨g4, 0, none⟩)), pl 3 (.pointer (some ⟨g5, 0, none⟩)), pl 7 (.pointer (some ⟨g7, 0, none⟩)), pl 27 (.func (.func 96) #[] #[.pointer (some ⟨g4, 0, none⟩)])] hF hS (by kernel_rfl) (by kernel_rfl) ?_ (fun a w hF hS => ?_)
    · exact obs_nil
    refine at_do (d := 8) (s := vS (Instr.alloc 115 true (.tuple #[]))) (v := .pointer (some ⟨w.heap.size, 0, none⟩)) (w' := w.alloc (.cells #[.nilFunc] 115)) hF (by kernel_rfl) (by kernel_rfl) (by kernel_rfl) (fun a hF => ?_)
    have hS : Sep w0 B (w.alloc (.cells #[.nilFunc] 115)) (blk w.heap.size 115 #[.nilFunc] :: (blk g7 22 #[.slice A2 r2.length c2] :: own 3 (.slice A2 r2.length c2) (vI r2) :: own 3 (.slice g6 1 1) (vI ([(-1)] : List Int)) :: blk g4 24 #[.int .i64 g1, .int .i64 g2, .slice A1 g3.length c1] :: blk g5 3 #[.int .i64 who1] :: defsH Ds1 :: fs)) := hS.box 115 #[.nilFunc]
    generalize w.heap.size = g8 at hF hS
    generalize w.alloc (.cells #[.nilFunc] 115) = w at hS ⊢
    obtain ⟨w, hrun, hS⟩ := run_put (P := Try.prog) (t := 115) (u := .func (.func 96) #[] #[.pointer (some ⟨g4, 0, none⟩)]) (i := 0) (hS.at_ 0 rfl) hi115 hs115 rfl (Nat.lt_of_lt_of_eq (Nat.lt_of_succ_le (Nat.le_of_ble_eq_true (by kernel_rfl))) rfl)
    refine at_skip hF (by kernel_rfl) hrun ?_
    have hS : Sep w0 B w (blk g8 115 #[.func (.func 96) #[] #[.pointer (some ⟨g4, 0, none⟩)]] :: blk g7 22 #[.slice A2 r2.length c2] :: own 3 (.slice A2 r2.length c2) (vI r2) :: own 3 (.slice g6 1 1) (vI ([(-1)] : List Int)) :: blk g4 24 #[.int .i64 g1, .int .i64 g2, .slice A1 g3.length c1] :: blk g5 3 #[.int .i64 who1] :: defsH Ds1 :: fs) := hS
    refine at_end [2, 3, 7, 8] [pl 2 (.pointer (some ⟨g4, 0, none⟩)), pl 3 (.pointer (some ⟨g5, 0, none⟩)), pl 7 (.pointer (some ⟨g7, 0, none⟩)), pl 8 (.pointer (some ⟨g8, 0, none⟩))] hF rfl (by kernel_rfl) (fun hF => ?_)
    refine then_n ?_
    refine seqR ?_
    refine at_do (d := 9) (s := vS (Instr.alloc 40 true (.tuple #[]))) (v := .pointer (some ⟨w.heap.size, 0, none⟩)) (w' := w.alloc (.cells #[.slice none 0 0] 40)) hF (by kernel_rfl) (by kernel_rfl) (by kernel_rfl) (fun a hF => ?_)
    have hS : Sep w0 B (w.alloc (.cells #[.slice none 0 0] 40)) (blk w.heap.size 40 #[.slice none 0 0] :: (blk g8 115 #[.func (.func 96) #[] #[.pointer (some ⟨g4, 0, none⟩)]] :: blk g7 22 #[.slice A2 r2.length c2] :: own 3 (.slice A2 r2.length c2) (vI r2) :: own 3 (.slice g6 1 1) (vI ([(-1)] : List Int)) :: blk g4 24 #[.int .i64 g1, .int .i64 g2, .slice A1 g3.length c1] :: blk g5 3 #[.int .i64 who1] :: defsH Ds1 :: fs)) := hS.box 40 #[.slice none 0 0]
    generalize w.heap.size = g9 at hF hS
    generalize w.alloc (.cells #[.slice none 0 0] 40) = w at hS ⊢
    refine at_end [2, 3, 7, 8, 9] [pl 2 (.pointer (some ⟨g4, 0, none⟩)), pl 3 (.pointer (some ⟨g5, 0, none⟩)), pl 7 (.pointer (some ⟨g7, 0, none⟩)), pl 8 (.pointer (some ⟨g8, 0, none⟩)), pl 9 (.pointer (some ⟨g9, 0, none⟩))] hF rfl (by kernel_rfl) (fun hF => ?_)
    refine then_n ?_
    refine seqR ?_
    refine at_run 1 [] [] [2, 3, 7, 8, 9, 28] [pl 2 (.pointer (some ⟨g4, 0, none⟩)), pl 3 (.pointer (some ⟨g5, 0, none⟩)), pl 7 (.pointer (some ⟨g7, 0, none⟩)), pl 8 (.pointer (some ⟨g8, 0, none⟩)), pl 9 (.pointer (some ⟨g9, 0, none⟩)), pl 28 (.func (.func 97) #[] #[.pointer (some ⟨g4, 0, none⟩), .pointer (some ⟨g5, 0, none⟩), .pointer (some ⟨g7, 0, none⟩), .pointer (some ⟨g9, 0, none⟩)])] hF hS (by kernel_rfl) (by kernel_rfl) ?_ (fun a w hF hS => ?_)
    · exact obs_nil
    refine at_do (d := 10) (s := vS (Instr.alloc 145 true (.tuple #[]))) (v := .pointer (some ⟨w.heap.size, 0, none⟩)) (w' := w.alloc (.cells #[.nilFunc] 145)) hF (by kernel_rfl) (by kernel_rfl) (by kernel_rfl) (fun a hF => ?_)
    have hS : Sep w0 B (w.alloc (.cells #[.nilFunc] 145)) (blk w.heap.size 145 #[.nilFunc] :: (blk g9 40 #[.slice none 0 0] :: blk g8 115 #[.func (.func 96) #[] #[.pointer (some ⟨g4, 0, none⟩)]] :: blk g7 22 #[.slice A2 r2.length c2] :: own 3 (.slice A2 r2.length c2) (vI r2) :: own 3 (.slice g6 1 1) (vI ([(-1)] : List Int)) :: blk g4 24 #[.int .i64 g1, .int .i64 g2, .slice A1 g3.length c1] :: blk g5 3 #[.int .i64 who1] :: defsH Ds1 :: fs)) := hS.box 145 #[.nilFunc]
    generalize w.heap.size = g10 at hF hS
    generalize w.alloc (.cells #[.nilFunc] 145) = w at hS ⊢
    obtain ⟨w, hrun, hS⟩ := run_put (P := Try.prog) (t := 145) (u := .func (.func 97) #[] #[.pointer (some ⟨g4, 0, none⟩), .pointer (some ⟨g5, 0, none⟩), .pointer (some ⟨g7, 0, none⟩), .pointer (some ⟨g9, 0, none⟩)]) (i := 0) (hS.at_ 0 rfl) hi145 hs145 rfl (Nat.lt_of_lt_of_eq (Nat.lt_of_succ_le (Nat.le_of_ble_eq_true (by kernel_rfl))) rfl)
    refine at_skip hF (by kernel_rfl) hrun ?_
    have hS : Sep w0 B w (blk g10 145 #[.func (.func 97) #[] #[.pointer (some ⟨g4, 0, none⟩), .pointer (some ⟨g5, 0, none⟩), .pointer (some ⟨g7, 0, none⟩), .pointer (some ⟨g9, 0, none⟩)]] :: blk g9 40 #[.slice none 0 0] :: blk g8 115 #[.func (.func 96) #[] #[.pointer (some ⟨g4, 0, none⟩)]] :: blk g7 22 #[.slice A2 r2.length c2] :: own 3 (.slice A2 r2.length c2) (vI r2) :: own 3 (.slice g6 1 1) (vI ([(-1)] : List Int)) :: blk g4 24 #[.int .i64 g1, .int .i64 g2, .slice A1 g3.length c1] :: blk g5 3 #[.int .i64 who1] :: defsH Ds1 :: fs) := hS
    refine at_end [2, 3, 7, 8, 9, 10] [pl 2 (.pointer (some ⟨g4, 0, none⟩)), pl 3 (.pointer (some ⟨g5, 0, none⟩)), pl 7 (.pointer (some ⟨g7, 0, none⟩)), pl 8 (.pointer (some ⟨g8, 0, none⟩)), pl 9 (.pointer (some ⟨g9, 0, none⟩)), pl 10 (.pointer (some ⟨g10, 0, none⟩))] hF rfl (by kernel_rfl) (fun hF => ?_)
    refine then_n ?_
    refine seq_cut (fun a w => ∃ (far2 : List Int) (rounds2 : List (List Int)) (A4 : Option Addr) (c4 : Nat) (hd2 : List Hd) (Ds4 : List Nat), FrD Ds4 100 [pl 2 (.pointer (some ⟨g4, 0, none⟩)), pl 3 (.pointer (some ⟨g5, 0, none⟩)), pl 7 (.pointer (some ⟨g7, 0, none⟩)), pl 8 (.pointer (some ⟨g8, 0, none⟩)), pl 9 (.pointer (some ⟨g9, 0, none⟩)), pl 10 (.pointer (some ⟨g10, 0, none⟩))] a ∧ Sep w0 B w (blk g4 24 #[.int .i64 g1, .int .i64 g2, .slice A1 g3.length c1] :: blk g5 3 #[.int .i64 who1] :: blk g7 22 #[.slice A2 r2.length c2] :: own 3 (.slice A2 r2.length c2) (vI far2) :: blk g8 115 #[.func (.func 96) #[] #[.pointer (some ⟨g4, 0, none⟩)]] :: blk g9 40 #[.slice A4 rounds2.length c4] :: rows 22 3 (.slice A4 rounds2.length c4) hd2 rounds2 :: blk g10 145 #[.func (.func 97) #[] #[.pointer (some ⟨g4, 0, none⟩), .pointer (some ⟨g5, 0, none⟩), .pointer (some ⟨g7, 0, none⟩), .pointer (some ⟨g9, 0, none⟩)]] :: defsH Ds4 :: fs) ∧ ((hex_Shortest_J2 g1 g2 g3 who1 r2) far2 rounds2).bind some = some r) ?_ ?_
    · rintro a w ⟨far2, rounds2, A4, c4, hd2, Ds4, hF, hS, hm⟩
      unfold hex_Shortest_J2 at hm
      refine seq_cut (fun a w => ∃ (Ds8 : List Nat), FrD Ds8 100 [] a ∧ Sep w0 B w (defsH Ds8 :: fs) ∧ (hex_Shortest_J5).bind some = some r) ?_ ?_
      · rintro a w ⟨Ds8, hF, hS, hm⟩
        unfold hex_Shortest_J5 at hm
        refine reg [] [] [4, 5] [pl 4 (.int .i64 (-1)), pl 5 (.int .i64 0)] hF hS Fol (by kernel_rfl) (by kernel_rfl) (by kernel_rfl) ?_ (fun a w hF hS => ?_)
        · exact obs_nil
        refine wpIn_ret ?_
        have hm : some ((-1), 0) = some r := hm
        obtain rfl := Option.some.inj hm
        exact retD (rs := [.tmp 4, .tmp 5]) (vs := [.int .i64 (-1), .int .i64 0]) hF hS rfl (fun w hS => by exact rv_t (by kernel_rfl) <| rv_t (by kernel_rfl) <| rv_nil) rfl (fun w hS => ⟨rfl, hS⟩)
      · refine seqR ?_
        refine at_do (d := 12) (s := vS (Instr.alloc 3 true (.tuple #[]))) (v := .pointer (some ⟨w.heap.size, 0, none⟩)) (w' := w.alloc (.cells #[.int .i64 0] 3)) hF (by kernel_rfl) (by kernel_rfl) (by kernel_rfl) (fun a hF => ?_)
        have hS : Sep w0 B (w.alloc (.cells #[.int .i64 0] 3)) (blk w.heap.size 3 #[.int .i64 0] :: (blk g4 24 #[.int .i64 g1, .int .i64 g2, .slice A1 g3.length c1] :: blk g5 3 #[.int .i64 who1] :: blk g7 22 #[.slice A2 r2.length c2] :: own 3 (.slice A2 r2.length c2) (vI far2) :: blk g8 115 #[.func (.func 96) #[] #[.pointer (some ⟨g4, 0, none⟩)]] :: blk g9 40 #[.slice A4 rounds2.length c4] :: rows 22 3 (.slice A4 rounds2.length c4) hd2 rounds2 :: blk g10 145 #[.func (.func 97) #[] #[.pointer (some ⟨g4, 0, none⟩), .pointer (some ⟨g5, 0, none⟩), .pointer (some ⟨g7, 0, none⟩), .pointer (some ⟨g9, 0, none⟩)]] :: defsH Ds4 :: fs)) := hS.box 3 #[.int .i64 0]
        generalize w.heap.size = g11 at hF hS
        generalize w.alloc (.cells #[.int .i64 0] 3) = w at hS ⊢
        obtain ⟨w, hrun, hS⟩ := run_put (P := Try.prog) (t := 3) (u := .int .i64 0) (i := 0) (hS.at_ 0 rfl) hi3 hs3 rfl (Nat.lt_of_lt_of_eq (Nat.lt_of_succ_le (Nat.le_of_ble_eq_true (by kernel_rfl))) rfl)
        refine at_skip hF (by kernel_rfl) hrun ?_
        have hS : Sep w0 B w (blk g11 3 #[.int .i64 0] :: blk g4 24 #[.int .i64 g1, .int .i64 g2, .slice A1 g3.length c1] :: blk g5 3 #[.int .i64 who1] :: blk g7 22 #[.slice A2 r2.length c2] :: own 3 (.slice A2 r2.length c2) (vI far2) :: blk g8 115 #[.func (.func 96) #[] #[.pointer (some ⟨g4, 0, none⟩)]] :: blk g9 40 #[.slice A4 rounds2.length c4] :: rows 22 3 (.slice A4 rounds2.length c4) hd2 rounds2 :: blk g10 145 #[.func (.func 97) #[] #[.pointer (some ⟨g4, 0, none⟩), .pointer (some ⟨g5, 0, none⟩), .pointer (some ⟨g7, 0, none⟩), .pointer (some ⟨g9, 0, none⟩)]] :: defsH Ds4 :: fs) := hS
        refine at_end [2, 3, 7, 8, 9, 10, 12] [pl 2 (.pointer (some ⟨g4, 0, none⟩)), pl 3 (.pointer (some ⟨g5, 0, none⟩)), pl 7 (.pointer (some ⟨g7, 0, none⟩)), pl 8 (.pointer (some ⟨g8, 0, none⟩)), pl 9 (.pointer (some ⟨g9, 0, none⟩)), pl 10 (.pointer (some ⟨g10, 0, none⟩)), pl 12 (.pointer (some ⟨g11, 0, none⟩))] hF rfl (by kernel_rfl) (fun hF => ?_)
        refine then_n ?_
        refine wpIn_block ?_
        have hS := hS.pickN 10 [1, 2, 3, 4, 5, 6, 7, 8, 0, 9] (by decide)
        refine wp_loop_model (S := (List Int × List (List Int) × Int)) (R := (Fl Unit (Int × Int))) (hex_Shortest_L2 g1 g2 g3 who1 r2) (fun x => (hex_Shortest_K2 x).bind some) r (fun (x : (List Int × List (List Int) × Int)) a w => ∃ (A7 : Option Addr) (c7 : Nat) (hd5 : List Hd) (g12 : Nat) (Ds6 : List Nat), FrD Ds6 100 [pl 2 (.pointer (some ⟨g4, 0, none⟩)), pl 3 (.pointer (some ⟨g5, 0, none⟩)), pl 7 (.pointer (some ⟨g7, 0, none⟩)), pl 8 (.pointer (some ⟨g8, 0, none⟩)), pl 9 (.pointer (some ⟨g9, 0, none⟩)), pl 10 (.pointer (some ⟨g10, 0, none⟩)), pl 12 (.pointer (some ⟨g12, 0, none⟩))] a ∧ Sep w0 B w (blk g4 24 #[.int .i64 g1, .int .i64 g2, .slice A1 g3.length c1] :: blk g5 3 #[.int .i64 who1] :: blk g7 22 #[.slice A2 r2.length c2] :: own 3 (.slice A2 r2.length c2) (vI x.1) :: blk g8 115 #[.func (.func 96) #[] #[.pointer (some ⟨g4, 0, none⟩)]] :: blk g9 40 #[.slice A7 x.2.1.length c7] :: rows 22 3 (.slice A7 x.2.1.length c7) hd5 x.2.1 :: blk g10 145 #[.func (.func 97) #[] #[.pointer (some ⟨g4, 0, none⟩), .pointer (some ⟨g5, 0, none⟩), .pointer (some ⟨g7, 0, none⟩), .pointer (some ⟨g9, 0, none⟩)]] :: blk g12 3 #[.int .i64 x.2.2] :: defsH Ds6 :: fs)) (assoc_b hm) ⟨A4, c4, hd2, g11, Ds4, hF.weak [2, 3, 7, 8, 9, 10, 12] (by kernel_rfl), hS⟩ ?_
        clear hF hS hm
        rintro nn2 ⟨far4, rounds4, n2⟩ a w ⟨A7, c7, hd5, g12, Ds6, hF, hS⟩ hm
        generalize hφ2 : stK (hex_Shortest_L2 g1 g2 g3 who1 r2) nn2 (fun x => (hex_Shortest_K2 x).bind some) = φ2 at hm
        unfold hex_Shortest_L2 at hm
        dsimp only at hF hS hm
        refine seq_cut (fun a w => ∃ (Ds7 : List Nat), FrD Ds7 100 [pl 2 (.pointer (some ⟨g4, 0, none⟩)), pl 3 (.pointer (some ⟨g5, 0, none⟩)), pl 7 (.pointer (some ⟨g7, 0, none⟩)), pl 8 (.pointer (some ⟨g8, 0, none⟩)), pl 9 (.pointer (some ⟨g9, 0, none⟩)), pl 10 (.pointer (some ⟨g10, 0, none⟩)), pl 12 (.pointer (some ⟨g12, 0, none⟩))] a ∧ Sep w0 B w (blk g4 24 #[.int .i64 g1, .int .i64 g2, .slice A1 g3.length c1] :: blk g5 3 #[.int .i64 who1] :: blk g7 22 #[.slice A2 r2.length c2] :: own 3 (.slice A2 r2.length c2) (vI far4) :: blk g8 115 #[.func (.func 96) #[] #[.pointer (some ⟨g4, 0, none⟩)]] :: blk g9 40 #[.slice A7 rounds4.length c7] :: rows 22 3 (.slice A7 rounds4.length c7) hd5 rounds4 :: blk g10 145 #[.func (.func 97) #[] #[.pointer (some ⟨g4, 0, none⟩), .pointer (some ⟨g5, 0, none⟩), .pointer (some ⟨g7, 0, none⟩), .pointer (some ⟨g9, 0, none⟩)]] :: blk g12 3 #[.int .i64 n2] :: defsH Ds7 :: fs) ∧ ((hex_Shortest_J6 g1 g2 g3 who1 r2 far4 rounds4 n2)).bind φ2 = some r) ?_ ?_
        · rintro a w ⟨Ds7, hF, hS, hm⟩
          unfold hex_Shortest_J6 at hm
          refine seq_cut (fun a w => ∃ (far6 : List Int) (rounds6 : List (List Int)) (A9 : Option Addr) (c9 : Nat) (hd7 : List Hd) (Ds11 : List Nat), FrD Ds11 100 [pl 2 (.pointer (some ⟨g4, 0, none⟩)), pl 3 (.pointer (some ⟨g5, 0, none⟩)), pl 7 (.pointer (some ⟨g7, 0, none⟩)), pl 8 (.pointer (some ⟨g8, 0, none⟩)), pl 9 (.pointer (some ⟨g9, 0, none⟩)), pl 10 (.pointer (some ⟨g10, 0, none⟩)), pl 12 (.pointer (some ⟨g12, 0, none⟩))] a ∧ Sep w0 B w (blk g4 24 #[.int .i64 g1, .int .i64 g2, .slice A1 g3.length c1] :: blk g5 3 #[.int .i64 who1] :: blk g7 22 #[.slice A2 r2.length c2] :: own 3 (.slice A2 r2.length c2) (vI far6) :: blk g8 115 #[.func (.func 96) #[] #[.pointer (some ⟨g4, 0, none⟩)]] :: blk g9 40 #[.slice A9 rounds6.length c9] :: rows 22 3 (.slice A9 rounds6.length c9) hd7 rounds6 :: blk g10 145 #[.func (.func 97) #[] #[.pointer (some ⟨g4, 0, none⟩), .pointer (some ⟨g5, 0, none⟩), .pointer (some ⟨g7, 0, none⟩), .pointer (some ⟨g9, 0, none⟩)]] :: blk g12 3 #[.int .i64 n2] :: defsH Ds11 :: fs) ∧ ((hex_Shortest_J7 n2) far6 rounds6).bind φ2 = some r) ?_ ?_
          · rintro a w ⟨far6, rounds6, A9, c9, hd7, Ds11, hF, hS, hm⟩
            unfold hex_Shortest_J7 at hm
            refine seq_cut (fun a w => ∃ (g16 : Nat) (Ds16 : List Nat), FrD Ds16 100 [pl 2 (.pointer (some ⟨g4, 0, none⟩)), pl 3 (.pointer (some ⟨g5, 0, none⟩)), pl 7 (.pointer (some ⟨g7, 0, none⟩)), pl 8 (.pointer (some ⟨g8, 0, none⟩)), pl 9 (.pointer (some ⟨g9, 0, none⟩)), pl 10 (.pointer (some ⟨g10, 0, none⟩)), pl 12 (.pointer (some ⟨g16, 0, none⟩))] a ∧ Sep w0 B w (blk g4 24 #[.int .i64 g1, .int .i64 g2, .slice A1 g3.length c1] :: blk g5 3 #[.int .i64 who1] :: blk g7 22 #[.slice A2 r2.length c2] :: own 3 (.slice A2 r2.length c2) (vI far6) :: blk g8 115 #[.func (.func 96) #[] #[.pointer (some ⟨g4, 0, none⟩)]] :: blk g9 40 #[.slice A9 rounds6.length c9] :: rows 22 3 (.slice A9 rounds6.length c9) hd7 rounds6 :: blk g10 145 #[.func (.func 97) #[] #[.pointer (some ⟨g4, 0, none⟩), .pointer (some ⟨g5, 0, none⟩), .pointer (some ⟨g7, 0, none⟩), .pointer (some ⟨g9, 0, none⟩)]] :: blk g16 3 #[.int .i64 n2] :: defsH Ds16 :: fs) ∧ ((hex_Shortest_J12 n2 far6 rounds6)).bind φ2 = some r) ?_ ?_
            · rintro a w ⟨g16, Ds16, hF, hS, hm⟩
              unfold hex_Shortest_J12 at hm
              refine oneR ?_
              refine at_run 2 [⟨false, [], vS (Instr.loadAt 3 (.pointer (some ⟨g16, 0, none⟩))), .int .i64 n2⟩] [some (.int .i64 n2), none] [2, 3, 7, 8, 9, 10, 12, 53] [pl 2 (.pointer (some ⟨g4, 0, none⟩)), pl 3 (.pointer (some ⟨g5, 0, none⟩)), pl 7 (.pointer (some ⟨g7, 0, none⟩)), pl 8 (.pointer (some ⟨g8, 0, none⟩)), pl 9 (.pointer (some ⟨g9, 0, none⟩)), pl 10 (.pointer (some ⟨g10, 0, none⟩)), pl 12 (.pointer (some ⟨g16, 0, none⟩)), pl 53 (.int .i64 (w64 (n2 + 1)))] hF hS (by kernel_rfl) (by kernel_rfl) ?_ (fun a w hF hS => ?_)
              · exact obs_cons (ob_load Agg3 (fun _ _ hS => (hS.at_ 8 rfl).cell rfl)) <| obs_nil
              obtain ⟨w, hrun, hS⟩ := run_put (P := Try.prog) (t := 3) (u := .int .i64 (w64 (n2 + 1))) (i := 0) (hS.at_ 8 rfl) hi3 hs3 rfl (Nat.lt_of_lt_of_eq (Nat.lt_of_succ_le (Nat.le_of_ble_eq_true (by kernel_rfl))) rfl)
              refine at_skip hF (by kernel_rfl) hrun ?_
              have hS : Sep w0 B w (blk g4 24 #[.int .i64 g1, .int .i64 g2, .slice A1 g3.length c1] :: blk g5 3 #[.int .i64 who1] :: blk g7 22 #[.slice A2 r2.length c2] :: own 3 (.slice A2 r2.length c2) (vI far6) :: blk g8 115 #[.func (.func 96) #[] #[.pointer (some ⟨g4, 0, none⟩)]] :: blk g9 40 #[.slice A9 rounds6.length c9] :: rows 22 3 (.slice A9 rounds6.length c9) hd7 rounds6 :: blk g10 145 #[.func (.func 97) #[] #[.pointer (some ⟨g4, 0, none⟩), .pointer (some ⟨g5, 0, none⟩), .pointer (some ⟨g7, 0, none⟩), .pointer (some ⟨g9, 0, none⟩)]] :: blk g16 3 #[.int .i64 (w64 (n2 + 1))] :: defsH Ds16 :: fs) := hS
              refine at_end [2, 3, 7, 8, 9, 10, 12] [pl 2 (.pointer (some ⟨g4, 0, none⟩)), pl 3 (.pointer (some ⟨g5, 0, none⟩)), pl 7 (.pointer (some ⟨g7, 0, none⟩)), pl 8 (.pointer (some ⟨g8, 0, none⟩)), pl 9 (.pointer (some ⟨g9, 0, none⟩)), pl 10 (.pointer (some ⟨g10, 0, none⟩)), pl 12 (.pointer (some ⟨g16, 0, none⟩))] hF rfl (by kernel_rfl) (fun hF => ?_)
              refine then_n ?_
              rw [← hφ2] at hm
              exact ⟨(far6, rounds6, (w64 (n2 + 1))), ⟨A9, c9, hd7, g16, Ds16, hF.weak [2, 3, 7, 8, 9, 10, 12] (by kernel_rfl), hS⟩, hm⟩
            · refine reg [⟨false, [], vS (Instr.loadAt 3 (.pointer (some ⟨g12, 0, none⟩))), .int .i64 n2⟩] [some (.int .i64 n2)] [2, 3, 7, 8, 9, 10, 99] [pl 2 (.pointer (some ⟨g4, 0, none⟩)), pl 3 (.pointer (some ⟨g5, 0, none⟩)), pl 7 (.pointer (some ⟨g7, 0, none⟩)), pl 8 (.pointer (some ⟨g8, 0, none⟩)), pl 9 (.pointer (some ⟨g9, 0, none⟩)), pl 10 (.pointer (some ⟨g10, 0, none⟩)), pl 99 (.int .i64 n2)] hF hS Fol (by kernel_rfl) (by kernel_rfl) (by kernel_rfl) ?_ (fun a w hF hS => ?_)
              · exact obs_cons (ob_load Agg3 (fun _ _ hS => (hS.at_ 8 rfl).cell rfl)) <| obs_nil
              refine oneR ?_
              refine at_do (d := 12) (s := vS (Instr.alloc 3 true (.tuple #[]))) (v := .pointer (some ⟨w.heap.size, 0, none⟩)) (w' := w.alloc (.cells #[.int .i64 0] 3)) hF (by kernel_rfl) (by kernel_rfl) (by kernel_rfl) (fun a hF => ?_)
              have hS : Sep w0 B (w.alloc (.cells #[.int .i64 0] 3)) (blk w.heap.size 3 #[.int .i64 0] :: (blk g4 24 #[.int .i64 g1, .int .i64 g2, .slice A1 g3.length c1] :: blk g5 3 #[.int .i64 who1] :: blk g7 22 #[.slice A2 r2.length c2] :: own 3 (.slice A2 r2.length c2) (vI far6) :: blk g8 115 #[.func (.func 96) #[] #[.pointer (some ⟨g4, 0, none⟩)]] :: blk g9 40 #[.slice A9 rounds6.length c9] :: rows 22 3 (.slice A9 rounds6.length c9) hd7 rounds6 :: blk g10 145 #[.func (.func 97) #[] #[.pointer (some ⟨g4, 0, none⟩), .pointer (some ⟨g5, 0, none⟩), .pointer (some ⟨g7, 0, none⟩), .pointer (some ⟨g9, 0, none⟩)]] :: blk g12 3 #[.int .i64 n2] :: defsH Ds11 :: fs)) := hS.box 3 #[.int .i64 0]
              generalize w.heap.size = g15 at hF hS
              generalize w.alloc (.cells #[.int .i64 0] 3) = w at hS ⊢
              obtain ⟨w, hrun, hS⟩ := run_put (P := Try.prog) (t := 3) (u := .int .i64 n2) (i := 0) (hS.at_ 0 rfl) hi3 hs3 rfl (Nat.lt_of_lt_of_eq (Nat.lt_of_succ_le (Nat.le_of_ble_eq_true (by kernel_rfl))) rfl)
              refine at_skip hF (by kernel_rfl) hrun ?_
              have hS : Sep w0 B w (blk g15 3 #[.int .i64 n2] :: blk g4 24 #[.int .i64 g1, .int .i64 g2, .slice A1 g3.length c1] :: blk g5 3 #[.int .i64 who1] :: blk g7 22 #[.slice A2 r2.length c2] :: own 3 (.slice A2 r2.length c2) (vI far6) :: blk g8 115 #[.func (.func 96) #[] #[.pointer (some ⟨g4, 0, none⟩)]] :: blk g9 40 #[.slice A9 rounds6.length c9] :: rows 22 3 (.slice A9 rounds6.length c9) hd7 rounds6 :: blk g10 145 #[.func (.func 97) #[] #[.pointer (some ⟨g4, 0, none⟩), .pointer (some ⟨g5, 0, none⟩), .pointer (some ⟨g7, 0, none⟩), .pointer (some ⟨g9, 0, none⟩)]] :: blk g12 3 #[.int .i64 n2] :: defsH Ds11 :: fs) := hS
              refine at_end [2, 3, 7, 8, 9, 10, 12] [pl 2 (.pointer (some ⟨g4, 0, none⟩)), pl 3 (.pointer (some ⟨g5, 0, none⟩)), pl 7 (.pointer (some ⟨g7, 0, none⟩)), pl 8 (.pointer (some ⟨g8, 0, none⟩)), pl 9 (.pointer (some ⟨g9, 0, none⟩)), pl 10 (.pointer (some ⟨g10, 0, none⟩)), pl 12 (.pointer (some ⟨g15, 0, none⟩))] hF rfl (by kernel_rfl) (fun hF => ?_)
              refine then_n ?_
              have hS := hS.pickN 11 [1, 2, 3, 4, 5, 6, 7, 8, 0, 10] (by decide)
              exact ⟨g15, Ds11, hF.weak [2, 3, 7, 8, 9, 10, 12] (by kernel_rfl), hS, hm⟩
          · refine wpIn_block ?_
            refine reg [] [] [2, 3, 7, 8, 9, 10, 12, 13] [pl 2 (.pointer (some ⟨g4, 0, none⟩)), pl 3 (.pointer (some ⟨g5, 0, none⟩)), pl 7 (.pointer (some ⟨g7, 0, none⟩)), pl 8 (.pointer (some ⟨g8, 0, none⟩)), pl 9 (.pointer (some ⟨g9, 0, none⟩)), pl 10 (.pointer (some ⟨g10, 0, none⟩)), pl 12 (.pointer (some ⟨g12, 0, none⟩)), pl 13 (.int .i64 0)] hF hS Fol (by kernel_rfl) (by kernel_rfl) (by kernel_rfl) ?_ (fun a w hF hS => ?_)
            · exact obs_nil
            refine wpIn_block ?_
            refine wp_loop_model (S := (List Int × List (List Int) × Int)) (R := (Fl (List Int × List (List Int)) (Int × Int))) (hex_Shortest_L3 g1 g2 g3 who1 r2 n2) (fun x => ((hex_Shortest_K3 n2) x).bind φ2) r (fun (x : (List Int × List (List Int) × Int)) a w => ∃ (A8 : Option Addr) (c8 : Nat) (hd6 : List Hd) (Ds9 : List Nat), FrD Ds9 100 [pl 2 (.pointer (some ⟨g4, 0, none⟩)), pl 3 (.pointer (some ⟨g5, 0, none⟩)), pl 7 (.pointer (some ⟨g7, 0, none⟩)), pl 8 (.pointer (some ⟨g8, 0, none⟩)), pl 9 (.pointer (some ⟨g9, 0, none⟩)), pl 10 (.pointer (some ⟨g10, 0, none⟩)), pl 12 (.pointer (some ⟨g12, 0, none⟩)), pl 13 (.int .i64 x.2.2)] a ∧ Sep w0 B w (blk g4 24 #[.int .i64 g1, .int .i64 g2, .slice A1 g3.length c1] :: blk g5 3 #[.int .i64 who1] :: blk g7 22 #[.slice A2 r2.length c2] :: own 3 (.slice A2 r2.length c2) (vI x.1) :: blk g8 115 #[.func (.func 96) #[] #[.pointer (some ⟨g4, 0, none⟩)]] :: blk g9 40 #[.slice A8 x.2.1.length c8] :: rows 22 3 (.slice A8 x.2.1.length c8) hd6 x.2.1 :: blk g10 145 #[.func (.func 97) #[] #[.pointer (some ⟨g4, 0, none⟩), .pointer (some ⟨g5, 0, none⟩), .pointer (some ⟨g7, 0, none⟩), .pointer (some ⟨g9, 0, none⟩)]] :: blk g12 3 #[.int .i64 n2] :: defsH Ds9 :: fs)) (assoc_b hm) ⟨A7, c7, hd5, Ds7, hF.weak [2, 3, 7, 8, 9, 10, 12, 13] (by kernel_rfl), hS⟩ ?_
            clear hF hS hm
            rintro nn3 ⟨far5, rounds5, i1⟩ a w ⟨A8, c8, hd6, Ds9, hF, hS⟩ hm
            generalize hφ3 : stK (hex_Shortest_L3 g1 g2 g3 who1 r2 n2) nn3 (fun x => ((hex_Shortest_K3 n2) x).bind φ2) = φ3 at hm
            unfold hex_Shortest_L3 at hm
            dsimp only at hF hS hm
            refine seq_cut (fun a w => ∃ (Ds10 : List Nat), FrD Ds10 100 [pl 2 (.pointer (some ⟨g4, 0, none⟩)), pl 3 (.pointer (some ⟨g5, 0, none⟩)), pl 7 (.pointer (some ⟨g7, 0, none⟩)), pl 8 (.pointer (some ⟨g8, 0, none⟩)), pl 9 (.pointer (some ⟨g9, 0, none⟩)), pl 10 (.pointer (some ⟨g10, 0, none⟩)), pl 12 (.pointer (some ⟨g12, 0, none⟩)), pl 13 (.int .i64 i1)] a ∧ Sep w0 B w (blk g4 24 #[.int .i64 g1, .int .i64 g2, .slice A1 g3.length c1] :: blk g5 3 #[.int .i64 who1] :: blk g7 22 #[.slice A2 r2.length c2] :: own 3 (.slice A2 r2.length c2) (vI far5) :: blk g8 115 #[.func (.func 96) #[] #[.pointer (some ⟨g4, 0, none⟩)]] :: blk g9 40 #[.slice A8 rounds5.length c8] :: rows 22 3 (.slice A8 rounds5.length c8) hd6 rounds5 :: blk g10 145 #[.func (.func 97) #[] #[.pointer (some ⟨g4, 0, none⟩), .pointer (some ⟨g5, 0, none⟩), .pointer (some ⟨g7, 0, none⟩), .pointer (some ⟨g9, 0, none⟩)]] :: blk g12 3 #[.int .i64 n2] :: defsH Ds10 :: fs) ∧ ((hex_Shortest_J8 g1 g2 g3 who1 r2 n2 far5 rounds5 i1)).bind φ3 = some r) ?_ ?_
            · rintro a w ⟨Ds10, hF, hS, hm⟩
              unfold hex_Shortest_J8 at hm
              refine seq_cut (fun a w => ∃ (far7 : List Int) (rounds7 : List (List Int)) (A10 : Option Addr) (c10 : Nat) (hd8 : List Hd) (Ds12 : List Nat), FrD Ds12 100 [pl 2 (.pointer (some ⟨g4, 0, none⟩)), pl 3 (.pointer (some ⟨g5, 0, none⟩)), pl 7 (.pointer (some ⟨g7, 0, none⟩)), pl 8 (.pointer (some ⟨g8, 0, none⟩)), pl 9 (.pointer (some ⟨g9, 0, none⟩)), pl 10 (.pointer (some ⟨g10, 0, none⟩)), pl 12 (.pointer (some ⟨g12, 0, none⟩)), pl 13 (.int .i64 i1)] a ∧ Sep w0 B w (blk g4 24 #[.int .i64 g1, .int .i64 g2, .slice A1 g3.length c1] :: blk g5 3 #[.int .i64 who1] :: blk g7 22 #[.slice A2 r2.length c2] :: own 3 (.slice A2 r2.length c2) (vI far7) :: blk g8 115 #[.func (.func 96) #[] #[.pointer (some ⟨g4, 0, none⟩)]] :: blk g9 40 #[.slice A10 rounds7.length c10] :: rows 22 3 (.slice A10 rounds7.length c10) hd8 rounds7 :: blk g10 145 #[.func (.func 97) #[] #[.pointer (some ⟨g4, 0, none⟩), .pointer (some ⟨g5, 0, none⟩), .pointer (some ⟨g7, 0, none⟩), .pointer (some ⟨g9, 0, none⟩)]] :: blk g12 3 #[.int .i64 n2] :: defsH Ds12 :: fs) ∧ ((hex_Shortest_J9 i1) far7 rounds7).bind φ3 = some r) ?_ ?_
              · rintro a w ⟨far7, rounds7, A10, c10, hd8, Ds12, hF, hS, hm⟩
                unfold hex_Shortest_J9 at hm
                refine reg1 [] [] [2, 3, 7, 8, 9, 10, 12, 13] [pl 2 (.pointer (some ⟨g4, 0, none⟩)), pl 3 (.pointer (some ⟨g5, 0, none⟩)), pl 7 (.pointer (some ⟨g7, 0, none⟩)), pl 8 (.pointer (some ⟨g8, 0, none⟩)), pl 9 (.pointer (some ⟨g9, 0, none⟩)), pl 10 (.pointer (some ⟨g10, 0, none⟩)), pl 12 (.pointer (some ⟨g12, 0, none⟩)), pl 13 (.int .i64 (w64 (i1 + 1)))] hF hS Fol (by kernel_rfl) (by kernel_rfl) (by kernel_rfl) ?_ (fun a w hF hS => ?_)
                · exact obs_nil
                refine then_n ?_
                rw [← hφ3] at hm
                exact ⟨(far7, rounds7, (w64 (i1 + 1))), ⟨A10, c10, hd8, Ds12, hF.weak [2, 3, 7, 8, 9, 10, 12, 13] (by kernel_rfl), hS⟩, hm⟩
              · refine wpIn_block ?_
                obtain ⟨hp2, hm⟩ := asrt_b hm
                obtain ⟨hp3, hm⟩ := asrt_b hm
                have hb2 := rowb (n := rounds5.length) (hS.at_ 6 rfl).lenR hp2
                refine reg [⟨false, [], vS (Instr.loadAt 40 (.pointer (some ⟨g9, 0, none⟩))), .slice A8 rounds5.length c8⟩, ⟨false, [], vS (Instr.loadAt 3 (.pointer (some ⟨g12, 0, none⟩))), .int .i64 n2⟩, ⟨true, [], vS (Instr.indexAt 40 (.slice A8 rounds5.length c8) (.int .i64 n2)), .pointer (some (sAddr A8 n2))⟩, ⟨false, [], vS (Instr.loadAt 22 (.pointer (some (sAddr A8 n2)))), .slice (hdA hd6 n2) ((geti2 rounds5 n2).length) (hdC hd6 n2)⟩, ⟨true, [], vS (Instr.indexAt 22 (.slice (hdA hd6 n2) ((geti2 rounds5 n2).length) (hdC hd6 n2)) (.int .i64 i1)), .pointer (some (sAddr (hdA hd6 n2) i1))⟩, ⟨false, [], vS (Instr.loadAt 3 (.pointer (some (sAddr (hdA hd6 n2) i1)))), .int .i64 (geti (geti2 rounds5 n2) i1)⟩] [some (.slice A8 rounds5.length c8), some (.int .i64 n2), some (.pointer (some (sAddr A8 n2))), some (.slice (hdA hd6 n2) ((geti2 rounds5 n2).length) (hdC hd6 n2)), none, some (.pointer (some (sAddr (hdA hd6 n2) i1))), some (.int .i64 (geti (geti2 rounds5 n2) i1)), none] [2, 3, 7, 8, 9, 10, 12, 13, 14] [pl 2 (.pointer (some ⟨g4, 0, none⟩)), pl 3 (.pointer (some ⟨g5, 0, none⟩)), pl 7 (.pointer (some ⟨g7, 0, none⟩)), pl 8 (.pointer (some ⟨g8, 0, none⟩)), pl 9 (.pointer (some ⟨g9, 0, none⟩)), pl 10 (.pointer (some ⟨g10, 0, none⟩)), pl 12 (.pointer (some ⟨g12, 0, none⟩)), pl 13 (.int .i64 i1), pl 14 (.int .i64 (geti (geti2 rounds5 n2) i1))] hF hS Fol (by kernel_rfl) (by kernel_rfl) (by kernel_rfl) ?_ (fun a w hF hS => ?_)
                · exact obs_cons (ob_load Agg40 (fun _ _ hS => (hS.at_ 5 rfl).cell rfl)) <| obs_cons (ob_load Agg3 (fun _ _ hS => (hS.at_ 8 rfl).cell rfl)) <| obs_cons (ob_ixRn Und40 hi22 hs22 (hS.at_ 6 rfl).rdRows (hS.at_ 6 rfl).lenR (fun _ => hp2)) <| obs_cons (ob_getR Agg22 (fun _ hS => ⟨_, (hS.at_ 6 rfl).rdRows⟩) (fun _ => hb2)) <| obs_cons (ob_ix1 (f := (Value.int .i64)) (m := (geti2 rounds5 n2)) Und22 hi3 hs3 ((hS.at_ 6 rfl).rdRows.row _ hb2).1 rfl (fun _ => hp3)) <| obs_cons (ob_get1 (n := (geti2 rounds5 n2).length) (m := (geti2 rounds5 n2)) (Value.int .i64) (0 : Int) Agg3 (fun _ hS => ⟨_, ((hS.at_ 6 rfl).rdRows.row _ hb2).1⟩) (fun _ hS => rfl) (fun _ => hp3)) <| obs_nil
                refine seq_cut (fun a w => ∃ (Ds13 : List Nat), FrD Ds13 100 [pl 2 (.pointer (some ⟨g4, 0, none⟩)), pl 3 (.pointer (some ⟨g5, 0, none⟩)), pl 7 (.pointer (some ⟨g7, 0, none⟩)), pl 8 (.pointer (some ⟨g8, 0, none⟩)), pl 9 (.pointer (some ⟨g9, 0, none⟩)), pl 10 (.pointer (some ⟨g10, 0, none⟩)), pl 12 (.pointer (some ⟨g12, 0, none⟩)), pl 13 (.int .i64 i1), pl 14 (.int .i64 (geti (geti2 rounds5 n2) i1))] a ∧ Sep w0 B w (blk g4 24 #[.int .i64 g1, .int .i64 g2, .slice A1 g3.length c1] :: blk g5 3 #[.int .i64 who1] :: blk g7 22 #[.slice A2 r2.length c2] :: own 3 (.slice A2 r2.length c2) (vI far5) :: blk g8 115 #[.func (.func 96) #[] #[.pointer (some ⟨g4, 0, none⟩)]] :: blk g9 40 #[.slice A8 rounds5.length c8] :: rows 22 3 (.slice A8 rounds5.length c8) hd6 rounds5 :: blk g10 145 #[.func (.func 97) #[] #[.pointer (some ⟨g4, 0, none⟩), .pointer (some ⟨g5, 0, none⟩), .pointer (some ⟨g7, 0, none⟩), .pointer (some ⟨g9, 0, none⟩)]] :: blk g12 3 #[.int .i64 n2] :: defsH Ds13 :: fs) ∧ ((hex_Shortest_J10 g1 g2 g3 who1 n2 far5 rounds5 i1)).bind φ3 = some r) ?_ ?_
                · rintro a w ⟨Ds13, hF, hS, hm⟩
                  unfold hex_Shortest_J10 at hm
                  refine seq_cut (fun a w => ∃ (Ds14 : List Nat), FrD Ds14 100 [pl 2 (.pointer (some ⟨g4, 0, none⟩)), pl 3 (.pointer (some ⟨g5, 0, none⟩)), pl 7 (.pointer (some ⟨g7, 0, none⟩)), pl 8 (.pointer (some ⟨g8, 0, none⟩)), pl 9 (.pointer (some ⟨g9, 0, none⟩)), pl 10 (.pointer (some ⟨g10, 0, none⟩)), pl 12 (.pointer (some ⟨g12, 0, none⟩)), pl 13 (.int .i64 i1), pl 14 (.int .i64 (geti (geti2 rounds5 n2) i1))] a ∧ Sep w0 B w (blk g4 24 #[.int .i64 g1, .int .i64 g2, .slice A1 g3.length c1] :: blk g5 3 #[.int .i64 who1] :: blk g7 22 #[.slice A2 r2.length c2] :: own 3 (.slice A2 r2.length c2) (vI far5) :: blk g8 115 #[.func (.func 96) #[] #[.pointer (some ⟨g4, 0, none⟩)]] :: blk g9 40 #[.slice A8 rounds5.length c8] :: rows 22 3 (.slice A8 rounds5.length c8) hd6 rounds5 :: blk g10 145 #[.func (.func 97) #[] #[.pointer (some ⟨g4, 0, none⟩), .pointer (some ⟨g5, 0, none⟩), .pointer (some ⟨g7, 0, none⟩), .pointer (some ⟨g9, 0, none⟩)]] :: blk g12 3 #[.int .i64 n2] :: defsH Ds14 :: fs) ∧ ((hex_Shortest_J11 g1 g2 g3 who1 n2 far5 rounds5 i1)).bind φ3 = some r) ?_ ?_
                  · rintro a w ⟨Ds14, hF, hS, hm⟩
                    unfold hex_Shortest_J11 at hm
                    refine seqR ?_
                    obtain ⟨r7, hr7, hm⟩ := call_b hm
                    refine at_run 3 [⟨false, [], vS (Instr.loadAt 3 (.pointer (some ⟨g4, 0, none⟩))), .int .i64 g1⟩] [none, some (.int .i64 g1), none] [2, 3, 7, 8, 9, 10, 12, 13, 87, 88] [pl 2 (.pointer (some ⟨g4, 0, none⟩)), pl 3 (.pointer (some ⟨g5, 0, none⟩)), pl 7 (.pointer (some ⟨g7, 0, none⟩)), pl 8 (.pointer (some ⟨g8, 0, none⟩)), pl 9 (.pointer (some ⟨g9, 0, none⟩)), pl 10 (.pointer (some ⟨g10, 0, none⟩)), pl 12 (.pointer (some ⟨g12, 0, none⟩)), pl 13 (.int .i64 i1), pl 87 (.int .i64 g1), pl 88 (.int .i64 (geti (geti2 rounds5 n2) i1))] hF hS (by kernel_rfl) (by kernel_rfl) ?_ (fun a w hF hS => ?_)
                    · exact obs_cons (ob_load Agg3 (fun _ _ hS => (hS.at_ 0 rfl).cell rfl)) <| obs_nil
                    refine at_call (f := 99) (args := #[.int .i64 g1, .int .i64 (geti (geti2 rounds5 n2) i1)]) (d := 89) hF (by kernel_rfl) (by kernel_rfl) Try.func99 (by kernel_rfl) rfl (hex_near_w hr7 hS ) (fun v a w hR hF => ?_)
                    clear hS
                    obtain ⟨g13, g14, rfl, hS⟩ := hR
                    have hS : Sep w0 B w (blk g13 3 #[.int .i64 r7.1] :: blk g14 3 #[.int .i64 r7.2] :: blk g4 24 #[.int .i64 g1, .int .i64 g2, .slice A1 g3.length c1] :: blk g5 3 #[.int .i64 who1] :: blk g7 22 #[.slice A2 r2.length c2] :: own 3 (.slice A2 r2.length c2) (vI far5) :: blk g8 115 #[.func (.func 96) #[] #[.pointer (some ⟨g4, 0, none⟩)]] :: blk g9 40 #[.slice A8 rounds5.length c8] :: rows 22 3 (.slice A8 rounds5.length c8) hd6 rounds5 :: blk g10 145 #[.func (.func 97) #[] #[.pointer (some ⟨g4, 0, none⟩), .pointer (some ⟨g5, 0, none⟩), .pointer (some ⟨g7, 0, none⟩), .pointer (some ⟨g9, 0, none⟩)]] :: blk g12 3 #[.int .i64 n2] :: defsH Ds14 :: fs) := hS
                    refine at_end [2, 3, 7, 8, 9, 10, 12, 13, 89] [pl 2 (.pointer (some ⟨g4, 0, none⟩)), pl 3 (.pointer (some ⟨g5, 0, none⟩)), pl 7 (.pointer (some ⟨g7, 0, none⟩)), pl 8 (.pointer (some ⟨g8, 0, none⟩)), pl 9 (.pointer (some ⟨g9, 0, none⟩)), pl 10 (.pointer (some ⟨g10, 0, none⟩)), pl 12 (.pointer (some ⟨g12, 0, none⟩)), pl 13 (.int .i64 i1), pl 89 (.func (.func 149) #[] #[.pointer (some ⟨g13, 0, none⟩), .pointer (some ⟨g14, 0, none⟩)])] hF rfl (by kernel_rfl) (fun hF => ?_)
                    refine then_n ?_
                    refine wpIn_block ?_
                    have hS := hS.pickN 12 [5, 7, 8, 11, 2, 3, 4, 6, 9, 10, 0, 1] (by decide)
                    obtain ⟨y1, hy1, hm⟩ := call_b hm
                    refine range_out (ρ := [pl 2 (.pointer (some ⟨g4, 0, none⟩)), pl 3 (.pointer (some ⟨g5, 0, none⟩)), pl 7 (.pointer (some ⟨g7, 0, none⟩)), pl 8 (.pointer (some ⟨g8, 0, none⟩)), pl 9 (.pointer (some ⟨g9, 0, none⟩)), pl 10 (.pointer (some ⟨g10, 0, none⟩)), pl 12 (.pointer (some ⟨g12, 0, none⟩)), pl 13 (.int .i64 i1), pl 89 (.func (.func 149) #[] #[.pointer (some ⟨g13, 0, none⟩), .pointer (some ⟨g14, 0, none⟩)])]) (lb := [.pointer (some ⟨g13, 0, none⟩), .pointer (some ⟨g14, 0, none⟩)]) (y := y1) (enc := (fun (x : Int) => #[.int .i64 x])) (qs := [own 3 (.slice A2 r2.length c2) (vI far5), blk g9 40 #[.slice A8 rounds5.length c8], rows 22 3 (.slice A8 rounds5.length c8) hd6 rounds5]) (fun (x : Int) => [(90, .int .i64 x)]) (fun (s : (List Int × List (List Int))) qs => ∃ (A11 : Option Addr) (c11 : Nat) (hd9 : List Hd), qs = [own 3 (.slice A2 r2.length c2) (vI s.1), blk g9 40 #[.slice A11 s.2.length c11], rows 22 3 (.slice A11 s.2.length c11) hd9 s.2]) (fun (_ : Unit) _ _ => False) (fun x s => (hex_Shortest_L4 g1 g2 g3 who1 n2) (x, s)) (far5, rounds5) (hF.weak [2, 3, 7, 8, 9, 10, 12, 13, 89] (by kernel_rfl)) hS (by kernel_rfl) Try.func149 (by kernel_rfl) rfl (by kernel_rfl) (by intro x; simp) (fun _ => rfl) (fun x p hp => ?_) ⟨A8, c8, hd6, rfl⟩ ?_ ?_ ?_ ?_
                    · simp only [List.mem_cons, List.not_mem_nil, or_false] at hp
                      rcases hp with rfl <;> (dsimp only; decide)
                    · intro lr1 D1 RS w hY hS
                      exact Calls.mono (hex_near_1_w hy1 (hS.pickN 10 [0, 8, 9, 1, 2, 3, 4, 5, 6, 7] (by decide)) (YieldC.perm (blk g13 3 #[.int .i64 r7.1] :: blk g14 3 #[.int .i64 r7.2] :: defsH (D1 :: Ds14) :: blk g4 24 #[.int .i64 g1, .int .i64 g2, .slice A1 g3.length c1] :: blk g5 3 #[.int .i64 who1] :: blk g7 22 #[.slice A2 r2.length c2] :: blk g8 115 #[.func (.func 96) #[] #[.pointer (some ⟨g4, 0, none⟩)]] :: blk g10 145 #[.func (.func 97) #[] #[.pointer (some ⟨g4, 0, none⟩), .pointer (some ⟨g5, 0, none⟩), .pointer (some ⟨g7, 0, none⟩), .pointer (some ⟨g9, 0, none⟩)]] :: blk g12 3 #[.int .i64 n2] :: fs) hY (fun hS => hS.pickN 10 [0, 3, 4, 5, 6, 7, 8, 9, 1, 2] (by decide)) (fun hS => hS.pickN 10 [0, 8, 9, 1, 2, 3, 4, 5, 6, 7] (by decide))) ) (fun e w' h => by obtain ⟨_, rfl, _, hS⟩ := h; exact hS.pickN 10 [0, 3, 4, 5, 6, 7, 8, 9, 1, 2] (by decide))
                    · rintro lr1 D1 rr1 x1 ⟨far8, rounds8⟩ r qs us1 a w hrr1 hm hI hF hS
                      obtain ⟨A11, c11, hd9, rfl⟩ := hI
                      replace hm := start_b hm
                      unfold hex_Shortest_L4 at hm
                      dsimp only at hm hF hS
                      have hF : Fr 100 [pl 2 (.pointer (some ⟨g4, 0, none⟩)), pl 3 (.pointer (some ⟨g5, 0, none⟩)), pl 7 (.pointer (some ⟨g7, 0, none⟩)), pl 8 (.pointer (some ⟨g8, 0, none⟩)), pl 9 (.pointer (some ⟨g9, 0, none⟩)), pl 10 (.pointer (some ⟨g10, 0, none⟩)), pl 12 (.pointer (some ⟨g12, 0, none⟩)), pl 13 (.int .i64 i1), pl 89 (.func (.func 149) #[] #[.pointer (some ⟨g13, 0, none⟩), .pointer (some ⟨g14, 0, none⟩)]), pl 90 (.int .i64 x1)] a := hF.weak [2, 3, 7, 8, 9, 10, 12, 13, 89, 90] (by kernel_rfl)
                      have hS : Sep w0 B w (recH lr1 rr1 :: own 3 (.slice A2 r2.length c2) (vI far8) :: blk g9 40 #[.slice A11 rounds8.length c11] :: rows 22 3 (.slice A11 rounds8.length c11) hd9 rounds8 :: defsH (D1 :: Ds14) :: blk g4 24 #[.int .i64 g1, .int .i64 g2, .slice A1 g3.length c1] :: blk g5 3 #[.int .i64 who1] :: blk g7 22 #[.slice A2 r2.length c2] :: blk g8 115 #[.func (.func 96) #[] #[.pointer (some ⟨g4, 0, none⟩)]] :: blk g10 145 #[.func (.func 97) #[] #[.pointer (some ⟨g4, 0, none⟩), .pointer (some ⟨g5, 0, none⟩), .pointer (some ⟨g7, 0, none⟩), .pointer (some ⟨g9, 0, none⟩)]] :: blk g12 3 #[.int .i64 n2] :: blk g13 3 #[.int .i64 r7.1] :: blk g14 3 #[.int .i64 r7.2] :: (fs ++ us1)) := hS
                      refine reg1 [] [] [8, 10, 12, 15] [pl 8 (.pointer (some ⟨g8, 0, none⟩)), pl 10 (.pointer (some ⟨g10, 0, none⟩)), pl 12 (.pointer (some ⟨g12, 0, none⟩)), pl 15 (.int .i64 x1)] hF hS Fol (by kernel_rfl) (by kernel_rfl) (by kernel_rfl) ?_ (fun a w hF hS => ?_)
                      · exact obs_nil
                      refine then_n ?_
                      refine begin_r hS hrr1 (fun w hS => ?_)
                      have hS : Sep w0 B w (recH lr1 { rr1 with state := .busy } :: own 3 (.slice A2 r2.length c2) (vI far8) :: blk g9 40 #[.slice A11 rounds8.length c11] :: rows 22 3 (.slice A11 rounds8.length c11) hd9 rounds8 :: defsH (D1 :: Ds14) :: blk g4 24 #[.int .i64 g1, .int .i64 g2, .slice A1 g3.length c1] :: blk g5 3 #[.int .i64 who1] :: blk g7 22 #[.slice A2 r2.length c2] :: blk g8 115 #[.func (.func 96) #[] #[.pointer (some ⟨g4, 0, none⟩)]] :: blk g10 145 #[.func (.func 97) #[] #[.pointer (some ⟨g4, 0, none⟩), .pointer (some ⟨g5, 0, none⟩), .pointer (some ⟨g7, 0, none⟩), .pointer (some ⟨g9, 0, none⟩)]] :: blk g12 3 #[.int .i64 n2] :: blk g13 3 #[.int .i64 r7.1] :: blk g14 3 #[.int .i64 r7.2] :: (fs ++ us1)) := hS
                      refine wpIn_block ?_
                      obtain ⟨r8, hr8, hm⟩ := call_b hm
                      obtain ⟨r9, hr9, hm⟩ := call_b hm
                      refine regMix5 [0, 1, 2, 3, 4] [7] 3 #[true, true, true, true, true, false, false, false] [⟨false, [], vS (Instr.loadAt 145 (.pointer (some ⟨g10, 0, none⟩))), .func (.func 97) #[] #[.pointer (some ⟨g4, 0, none⟩), .pointer (some ⟨g5, 0, none⟩), .pointer (some ⟨g7, 0, none⟩), .pointer (some ⟨g9, 0, none⟩)]⟩, ⟨false, [], vS (Instr.loadAt 3 (.pointer (some ⟨g12, 0, none⟩))), .int .i64 n2⟩, ⟨false, [], vS (Instr.loadAt 115 (.pointer (some ⟨g8, 0, none⟩))), .func (.func 96) #[] #[.pointer (some ⟨g4, 0, none⟩)]⟩] [some (.func (.func 97) #[] #[.pointer (some ⟨g4, 0, none⟩), .pointer (some ⟨g5, 0, none⟩), .pointer (some ⟨g7, 0, none⟩), .pointer (some ⟨g9, 0, none⟩)]), none, some (.int .i64 n2), some (.func (.func 96) #[] #[.pointer (some ⟨g4, 0, none⟩)]), none] [91, 92, 93, 94, 95] [pl 91 (.func (.func 97) #[] #[.pointer (some ⟨g4, 0, none⟩), .pointer (some ⟨g5, 0, none⟩), .pointer (some ⟨g7, 0, none⟩), .pointer (some ⟨g9, 0, none⟩)]), pl 92 (.int .i64 x1), pl 93 (.int .i64 n2), pl 94 (.func (.func 96) #[] #[.pointer (some ⟨g4, 0, none⟩)]), pl 95 (.int .i64 x1)] hF hS Fol (by kernel_rfl) (by kernel_rfl) (by kernel_rfl) (by kernel_rfl) ?_ (fun a w hF hS => ?_)
                      · exact obs_cons (ob_load Agg145 (fun _ _ hS => (hS.at_ 9 rfl).cell rfl)) <| obs_cons (ob_load Agg3 (fun _ _ hS => (hS.at_ 10 rfl).cell rfl)) <| obs_cons (ob_load Agg115 (fun _ _ hS => (hS.at_ 8 rfl).cell rfl)) <| obs_nil
                      refine any_step [5] (by kernel_rfl) rfl ?_
                      refine (all_cons ?_ all_nil)
                      · refine any_op (listed' := #[true, true, true, true, true, true, false, false]) (by kernel_rfl) (by kernel_rfl) ?_
                        refine at_run 1 [⟨false, [], callFunc 96 #[.int .i64 x1, .pointer (some ⟨g4, 0, none⟩)], .int .i64 r8⟩] [some (.int .i64 r8)] [91, 92, 93, 96] [pl 91 (.func (.func 97) #[] #[.pointer (some ⟨g4, 0, none⟩), .pointer (some ⟨g5, 0, none⟩), .pointer (some ⟨g7, 0, none⟩), .pointer (some ⟨g9, 0, none⟩)]), pl 92 (.int .i64 x1), pl 93 (.int .i64 n2), pl 96 (.int .i64 r8)] hF hS (by kernel_rfl) (by kernel_rfl) ?_ (fun a w hF hS => ?_)
                        · exact obs_cons (ob_call Try.func96 (by kernel_rfl) rfl (fun _ _ hS => quiet_pick hS 13 [5, 0, 1, 2, 3, 4, 6, 7, 8, 9, 10, 11, 12] (by decide) [1, 2, 3, 4, 5, 0, 6, 7, 8, 9, 10, 11, 12] (by decide) (qs := (blk g4 24 #[.int .i64 g1, .int .i64 g2, .slice A1 g3.length c1] :: recH lr1 { rr1 with state := .busy } :: own 3 (.slice A2 r2.length c2) (vI far8) :: blk g9 40 #[.slice A11 rounds8.length c11] :: rows 22 3 (.slice A11 rounds8.length c11) hd9 rounds8 :: defsH (D1 :: Ds14) :: blk g5 3 #[.int .i64 who1] :: blk g7 22 #[.slice A2 r2.length c2] :: blk g8 115 #[.func (.func 96) #[] #[.pointer (some ⟨g4, 0, none⟩)]] :: blk g10 145 #[.func (.func 97) #[] #[.pointer (some ⟨g4, 0, none⟩), .pointer (some ⟨g5, 0, none⟩), .pointer (some ⟨g7, 0, none⟩), .pointer (some ⟨g9, 0, none⟩)]] :: blk g12 3 #[.int .i64 n2] :: blk g13 3 #[.int .i64 r7.1] :: blk g14 3 #[.int .i64 r7.2] :: (fs ++ us1))) rfl (fun hS => hex_Shortest_1_w hr8 hS (fun _ hS => (hr_g3 _ (hS.dropN 12).pre)) _hc_g3 rfl) 13 rfl)) <| obs_nil
                        refine any_fin rfl hS ?_
                        refine any_step [6] (by kernel_rfl) rfl ?_
                        refine (all_cons ?_ all_nil)
                        · refine any_op (listed' := #[true, true, true, true, true, true, true, false]) (by kernel_rfl) (by kernel_rfl) ?_
                          refine at_runW 1 [] [] [91, 92, 97] [pl 91 (.func (.func 97) #[] #[.pointer (some ⟨g4, 0, none⟩), .pointer (some ⟨g5, 0, none⟩), .pointer (some ⟨g7, 0, none⟩), .pointer (some ⟨g9, 0, none⟩)]), pl 92 (.int .i64 x1), pl 97 (.int .i64 (w64 (n2 + r8)))] hF hS (by kernel_rfl) (by kernel_rfl) ?_ (fun a hF => ?_)
                          · exact obs_nil
                          refine any_finI rfl (fun h => h) ?_
                          refine any_step [7] (by kernel_rfl) rfl ?_
                          refine (all_cons ?_ all_nil)
                          · refine any_op (listed' := #[true, true, true, true, true, true, true, true]) (by kernel_rfl) (by kernel_rfl) ?_
                            have hS : Sep w0 B w (blk g4 24 #[.int .i64 g1, .int .i64 g2, .slice A1 g3.length c1] :: blk g5 3 #[.int .i64 who1] :: blk g7 22 #[.slice A2 r2.length c2] :: own 3 (.slice A2 r2.length c2) (vI far8) :: blk g9 40 #[.slice A11 rounds8.length c11] :: rows 22 3 (.slice A11 rounds8.length c11) hd9 rounds8 :: recH lr1 { rr1 with state := .busy } :: defsH (D1 :: Ds14) :: blk g8 115 #[.func (.func 96) #[] #[.pointer (some ⟨g4, 0, none⟩)]] :: blk g10 145 #[.func (.func 97) #[] #[.pointer (some ⟨g4, 0, none⟩), .pointer (some ⟨g5, 0, none⟩), .pointer (some ⟨g7, 0, none⟩), .pointer (some ⟨g9, 0, none⟩)]] :: blk g12 3 #[.int .i64 n2] :: blk g13 3 #[.int .i64 r7.1] :: blk g14 3 #[.int .i64 r7.2] :: (fs ++ us1)) := hS.pickN 13 [5, 6, 7, 1, 2, 3, 0, 4, 8, 9, 10, 11, 12] (by decide)
                            refine at_call (f := 97) (args := #[.int .i64 x1, .int .i64 (w64 (n2 + r8)), .pointer (some ⟨g4, 0, none⟩), .pointer (some ⟨g5, 0, none⟩), .pointer (some ⟨g7, 0, none⟩), .pointer (some ⟨g9, 0, none⟩)]) (d := 98) hF (by kernel_rfl) (by kernel_rfl) Try.func97 (by kernel_rfl) rfl (hex_Shortest_2_w hr9 hS (fun _ hS => (hr_g3 _ (hS.dropN 7).pre)) _hc_g3 rfl) (fun v a w hR hF => ?_)
                            clear hS
                            obtain ⟨A12, c12, hd10, rfl, hS⟩ := hR
                            have hS : Sep w0 B w (blk g4 24 #[.int .i64 g1, .int .i64 g2, .slice A1 g3.length c1] :: blk g5 3 #[.int .i64 who1] :: blk g7 22 #[.slice A2 r2.length c2] :: own 3 (.slice A2 r2.length c2) (vI r9.1) :: blk g9 40 #[.slice A12 r9.2.length c12] :: rows 22 3 (.slice A12 r9.2.length c12) hd10 r9.2 :: recH lr1 { rr1 with state := .busy } :: defsH (D1 :: Ds14) :: blk g8 115 #[.func (.func 96) #[] #[.pointer (some ⟨g4, 0, none⟩)]] :: blk g10 145 #[.func (.func 97) #[] #[.pointer (some ⟨g4, 0, none⟩), .pointer (some ⟨g5, 0, none⟩), .pointer (some ⟨g7, 0, none⟩), .pointer (some ⟨g9, 0, none⟩)]] :: blk g12 3 #[.int .i64 n2] :: blk g13 3 #[.int .i64 r7.1] :: blk g14 3 #[.int .i64 r7.2] :: (fs ++ us1)) := hS
                            refine any_finE rfl (by decide) ?_
                            refine any_end (by kernel_rfl) ?_
                            refine np_n ?_
                            refine block_n ?_
                            have hS := hS.pickN 13 [6, 3, 4, 5, 7, 0, 1, 2, 8, 9, 10, 11, 12] (by decide)
                            have hm : some (.next (r9.1, r9.2)) = some r := hm
                            obtain rfl := Option.some.inj hm
                            exact ⟨_, _, rfl, ⟨A12, c12, hd10, rfl⟩, hS⟩
                    · rintro ⟨far8, rounds8⟩ D1 qs a w hy1e hI hF hS
                      obtain ⟨A11, c11, hd9, rfl⟩ := hI
                      rw [hy1e] at hm
                      unfold hex_Shortest_K4 at hm
                      dsimp only at hm hF hS
                      have hF : FrD (D1 :: Ds14) 100 [pl 2 (.pointer (some ⟨g4, 0, none⟩)), pl 3 (.pointer (some ⟨g5, 0, none⟩)), pl 7 (.pointer (some ⟨g7, 0, none⟩)), pl 8 (.pointer (some ⟨g8, 0, none⟩)), pl 9 (.pointer (some ⟨g9, 0, none⟩)), pl 10 (.pointer (some ⟨g10, 0, none⟩)), pl 12 (.pointer (some ⟨g12, 0, none⟩)), pl 13 (.int .i64 i1), pl 89 (.func (.func 149) #[] #[.pointer (some ⟨g13, 0, none⟩), .pointer (some ⟨g14, 0, none⟩)])] a := hF
                      have hS : Sep w0 B w (own 3 (.slice A2 r2.length c2) (vI far8) :: blk g9 40 #[.slice A11 rounds8.length c11] :: rows 22 3 (.slice A11 rounds8.length c11) hd9 rounds8 :: defsH (D1 :: Ds14) :: blk g4 24 #[.int .i64 g1, .int .i64 g2, .slice A1 g3.length c1] :: blk g5 3 #[.int .i64 who1] :: blk g7 22 #[.slice A2 r2.length c2] :: blk g8 115 #[.func (.func 96) #[] #[.pointer (some ⟨g4, 0, none⟩)]] :: blk g10 145 #[.func (.func 97) #[] #[.pointer (some ⟨g4, 0, none⟩), .pointer (some ⟨g5, 0, none⟩), .pointer (some ⟨g7, 0, none⟩), .pointer (some ⟨g9, 0, none⟩)]] :: blk g12 3 #[.int .i64 n2] :: blk g13 3 #[.int .i64 r7.1] :: blk g14 3 #[.int .i64 r7.2] :: fs) := hS
                      refine block_n ?_
                      refine block_n ?_
                      refine then_n ?_
                      have hS := hS.pickN 12 [4, 5, 6, 0, 7, 1, 2, 8, 9, 3] (by decide)
                      exact ⟨far8, rounds8, A11, c11, hd9, (D1 :: Ds14), hF.weak [2, 3, 7, 8, 9, 10, 12, 13] (by kernel_rfl), hS, hm⟩
                    · intro x c D1 qs a w _ h
                      exact h.elim
                  · obtain ⟨r6, hr6, hm⟩ := call_b hm
                    refine reg [⟨false, [], vS (Instr.loadAt 3 (.pointer (some ⟨g4, 0, none⟩))), .int .i64 g1⟩, ⟨false, [], vS (Instr.loadAt 3 (.pointer (some ⟨g5, 0, none⟩))), .int .i64 who1⟩, ⟨false, [], callFunc 98 #[.int .i64 g1, .int .i64 who1, .int .i64 (geti (geti2 rounds5 n2) i1)], .int .i64 r6⟩, ⟨false, [], vS (Instr.loadAt 3 (.pointer (some ⟨g4, 0, none⟩))), .int .i64 g1⟩] [none, some (.int .i64 g1), some (.int .i64 who1), none, some (.int .i64 r6), none, some (.int .i64 g1), none, none] [2, 3, 7, 8, 9, 10, 12, 13, 14, 84] [pl 2 (.pointer (some ⟨g4, 0, none⟩)), pl 3 (.pointer (some ⟨g5, 0, none⟩)), pl 7 (.pointer (some ⟨g7, 0, none⟩)), pl 8 (.pointer (some ⟨g8, 0, none⟩)), pl 9 (.pointer (some ⟨g9, 0, none⟩)), pl 10 (.pointer (some ⟨g10, 0, none⟩)), pl 12 (.pointer (some ⟨g12, 0, none⟩)), pl 13 (.int .i64 i1), pl 14 (.int .i64 (geti (geti2 rounds5 n2) i1)), pl 84 (.bool (r6 == (w64 (g1 - 1))))] hF hS Fol (by kernel_rfl) (by kernel_rfl) (by kernel_rfl) ?_ (fun a w hF hS => ?_)
                    · exact obs_cons (ob_load Agg3 (fun _ _ hS => (hS.at_ 0 rfl).cell rfl)) <| obs_cons (ob_load Agg3 (fun _ _ hS => (hS.at_ 1 rfl).cell rfl)) <| obs_cons (ob_call Try.func98 (by kernel_rfl) rfl (fun _ _ hS => hex_along_w hr6 hS )) <| obs_cons (ob_load Agg3 (fun _ _ hS => (hS.at_ 0 rfl).cell rfl)) <| obs_nil
                    refine cond_ev (t := 84) (b := (r6 == (w64 (g1 - 1)))) hF (by kernel_rfl) (fun hb => ?_) (fun hb => ?_)
                    · replace hm := if_t hm hb
                      refine reg [⟨false, [], vS (Instr.loadAt 3 (.pointer (some ⟨g12, 0, none⟩))), .int .i64 n2⟩] [some (.int .i64 n2), none, none] [4, 5] [pl 4 (.int .i64 n2), pl 5 (.int .i64 0)] hF hS Fol (by kernel_rfl) (by kernel_rfl) (by kernel_rfl) ?_ (fun a w hF hS => ?_)
                      · exact obs_cons (ob_load Agg3 (fun _ _ hS => (hS.at_ 8 rfl).cell rfl)) <| obs_nil
                      refine wpIn_ret ?_
                      refine then_r (block_r (then_r (then_r (block_r (block_r (then_r (then_r (block_r (then_r ?_)))))))))
                      rw [← hφ3] at hm
                      replace hm := done_b hm
                      unfold hex_Shortest_K3 at hm
                      try dsimp only at hm
                      rw [← hφ2] at hm
                      replace hm := done_b hm
                      unfold hex_Shortest_K2 at hm
                      try dsimp only at hm
                      have hS := hS.pickN 10 [9, 0, 1, 2, 3, 4, 5, 6, 7, 8] (by decide)
                      have hm : some (n2, 0) = some r := hm
                      obtain rfl := Option.some.inj hm
                      exact retD (rs := [.tmp 4, .tmp 5]) (vs := [.int .i64 n2, .int .i64 0]) hF hS rfl (fun w hS => by exact rv_t (by kernel_rfl) <| rv_t (by kernel_rfl) <| rv_nil) rfl (fun w hS => ⟨rfl, hS.pickN 9 [] (by decide)⟩)
                    · replace hm := if_f hm hb
                      refine wpIn_skip ?_
                      refine then_n ?_
                      exact ⟨Ds13, hF.weak [2, 3, 7, 8, 9, 10, 12, 13, 14] (by kernel_rfl), hS, hm⟩
                · obtain ⟨hp4, hm⟩ := asrt_b hm
                  refine reg [⟨false, [], vS (Instr.loadAt 22 (.pointer (some ⟨g7, 0, none⟩))), .slice A2 r2.length c2⟩, ⟨true, [], vS (Instr.indexAt 22 (.slice A2 r2.length c2) (.int .i64 (geti (geti2 rounds5 n2) i1))), .pointer (some (sAddr A2 (geti (geti2 rounds5 n2) i1)))⟩, ⟨false, [], vS (Instr.loadAt 3 (.pointer (some (sAddr A2 (geti (geti2 rounds5 n2) i1))))), .int .i64 (geti far5 (geti (geti2 rounds5 n2) i1))⟩, ⟨false, [], vS (Instr.loadAt 3 (.pointer (some ⟨g12, 0, none⟩))), .int .i64 n2⟩] [some (.slice A2 r2.length c2), none, some (.pointer (some (sAddr A2 (geti (geti2 rounds5 n2) i1)))), some (.int .i64 (geti far5 (geti (geti2 rounds5 n2) i1))), some (.int .i64 n2), none] [2, 3, 7, 8, 9, 10, 12, 13, 14, 75] [pl 2 (.pointer (some ⟨g4, 0, none⟩)), pl 3 (.pointer (some ⟨g5, 0, none⟩)), pl 7 (.pointer (some ⟨g7, 0, none⟩)), pl 8 (.pointer (some ⟨g8, 0, none⟩)), pl 9 (.pointer (some ⟨g9, 0, none⟩)), pl 10 (.pointer (some ⟨g10, 0, none⟩)), pl 12 (.pointer (some ⟨g12, 0, none⟩)), pl 13 (.int .i64 i1), pl 14 (.int .i64 (geti (geti2 rounds5 n2) i1)), pl 75 (.bool (decide ((geti far5 (geti (geti2 rounds5 n2) i1)) < n2)))] hF hS Fol (by kernel_rfl) (by kernel_rfl) (by kernel_rfl) ?_ (fun a w hF hS => ?_)
                  · exact obs_cons (ob_load Agg22 (fun _ _ hS => (hS.at_ 2 rfl).cell rfl)) <| obs_cons (ob_ix1 (f := (Value.int .i64)) (m := far5) Und22 hi3 hs3 (hS.at_ 3 rfl).rd ((hS.at_ 3 rfl).len1) (fun _ => hp4)) <| obs_cons (ob_get1 (n := r2.length) (m := far5) (Value.int .i64) (0 : Int) Agg3 (fun _ hS => ⟨_, (hS.at_ 3 rfl).rd⟩) (fun _ hS => ((hS.at_ 3 rfl).len1)) (fun _ => hp4)) <| obs_cons (ob_load Agg3 (fun _ _ hS => (hS.at_ 8 rfl).cell rfl)) <| obs_nil
                  refine cond_ev (t := 75) (b := decide ((geti far5 (geti (geti2 rounds5 n2) i1)) < n2)) hF (by kernel_rfl) (fun hb => ?_) (fun hb => ?_)
                  · replace hm := if_t hm hb
                    refine wpIn_exit ?_
                    refine then_e (block_e (then_n ?_))
                    exact ⟨far5, rounds5, A8, c8, hd6, Ds10, hF.weak [2, 3, 7, 8, 9, 10, 12, 13] (by kernel_rfl), hS, hm⟩
                  · replace hm := if_f hm hb
                    refine wpIn_skip ?_
                    refine then_n ?_
                    exact ⟨Ds10, hF.weak [2, 3, 7, 8, 9, 10, 12, 13, 14] (by kernel_rfl), hS, hm⟩
            · obtain ⟨hp1, hm⟩ := asrt_b hm
              have hb1 := rowb (n := rounds5.length) (hS.at_ 6 rfl).lenR hp1
              refine reg [⟨false, [], vS (Instr.loadAt 40 (.pointer (some ⟨g9, 0, none⟩))), .slice A8 rounds5.length c8⟩, ⟨false, [], vS (Instr.loadAt 3 (.pointer (some ⟨g12, 0, none⟩))), .int .i64 n2⟩, ⟨true, [], vS (Instr.indexAt 40 (.slice A8 rounds5.length c8) (.int .i64 n2)), .pointer (some (sAddr A8 n2))⟩, ⟨false, [], vS (Instr.loadAt 22 (.pointer (some (sAddr A8 n2)))), .slice (hdA hd6 n2) ((geti2 rounds5 n2).length) (hdC hd6 n2)⟩] [none, some (.slice A8 rounds5.length c8), some (.int .i64 n2), some (.pointer (some (sAddr A8 n2))), some (.slice (hdA hd6 n2) ((geti2 rounds5 n2).length) (hdC hd6 n2)), none, none] [2, 3, 7, 8, 9, 10, 12, 13, 60] [pl 2 (.pointer (some ⟨g4, 0, none⟩)), pl 3 (.pointer (some ⟨g5, 0, none⟩)), pl 7 (.pointer (some ⟨g7, 0, none⟩)), pl 8 (.pointer (some ⟨g8, 0, none⟩)), pl 9 (.pointer (some ⟨g9, 0, none⟩)), pl 10 (.pointer (some ⟨g10, 0, none⟩)), pl 12 (.pointer (some ⟨g12, 0, none⟩)), pl 13 (.int .i64 i1), pl 60 (.bool (decide (i1 < (((geti2 rounds5 n2).length : Nat) : Int))))] hF hS Fol (by kernel_rfl) (by kernel_rfl) (by kernel_rfl) ?_ (fun a w hF hS => ?_)
              · exact obs_cons (ob_load Agg40 (fun _ _ hS => (hS.at_ 5 rfl).cell rfl)) <| obs_cons (ob_load Agg3 (fun _ _ hS => (hS.at_ 8 rfl).cell rfl)) <| obs_cons (ob_ixRn Und40 hi22 hs22 (hS.at_ 6 rfl).rdRows (hS.at_ 6 rfl).lenR (fun _ => hp1)) <| obs_cons (ob_getR Agg22 (fun _ hS => ⟨_, (hS.at_ 6 rfl).rdRows⟩) (fun _ => hb1)) <| obs_nil
              refine cond_ev (t := 60) (b := decide (i1 < (((geti2 rounds5 n2).length : Nat) : Int))) hF (by kernel_rfl) (fun hb => ?_) (fun hb => ?_)
              · replace hm := if_t hm hb
                refine wpIn_skip ?_
                refine then_n ?_
                exact ⟨Ds9, hF.weak [2, 3, 7, 8, 9, 10, 12, 13] (by kernel_rfl), hS, hm⟩
              · replace hm := if_f hm hb
                refine wpIn_exit ?_
                refine then_e (then_e (block_e (block_n (then_n ?_))))
                rw [← hφ3] at hm
                replace hm := done_b hm
                unfold hex_Shortest_K3 at hm
                try dsimp only at hm
                have hm : ((hex_Shortest_J7 n2) far5 rounds5).bind φ2 = some r := hm
                exact ⟨far5, rounds5, A8, c8, hd6, Ds9, hF.weak [2, 3, 7, 8, 9, 10, 12] (by kernel_rfl), hS, hm⟩
        · refine reg [⟨false, [], vS (Instr.loadAt 3 (.pointer (some ⟨g12, 0, none⟩))), .int .i64 n2⟩, ⟨false, [], vS (Instr.loadAt 40 (.pointer (some ⟨g9, 0, none⟩))), .slice A7 rounds4.length c7⟩] [some (.int .i64 n2), some (.slice A7 rounds4.length c7), none, none] [2, 3, 7, 8, 9, 10, 12, 51] [pl 2 (.pointer (some ⟨g4, 0, none⟩)), pl 3 (.pointer (some ⟨g5, 0, none⟩)), pl 7 (.pointer (some ⟨g7, 0, none⟩)), pl 8 (.pointer (some ⟨g8, 0, none⟩)), pl 9 (.pointer (some ⟨g9, 0, none⟩)), pl 10 (.pointer (some ⟨g10, 0, none⟩)), pl 12 (.pointer (some ⟨g12, 0, none⟩)), pl 51 (.bool (decide (n2 < (rounds4.length : Int))))] hF hS Fol (by kernel_rfl) (by kernel_rfl) (by kernel_rfl) ?_ (fun a w hF hS => ?_)
          · exact obs_cons (ob_load Agg3 (fun _ _ hS => (hS.at_ 8 rfl).cell rfl)) <| obs_cons (ob_load Agg40 (fun _ _ hS => (hS.at_ 5 rfl).cell rfl)) <| obs_nil
          refine cond_ev (t := 51) (b := decide (n2 < (rounds4.length : Int))) hF (by kernel_rfl) (fun hb => ?_) (fun hb => ?_)
          · replace hm := if_t hm hb
            refine wpIn_skip ?_
            refine then_n ?_
            exact ⟨Ds6, hF.weak [2, 3, 7, 8, 9, 10, 12] (by kernel_rfl), hS, hm⟩
          · replace hm := if_f hm hb
            refine wpIn_exit ?_
            refine then_e (then_e (block_e (then_n ?_)))
            have hS := hS.pickN 10 [9] (by decide)
            rw [← hφ2] at hm
            replace hm := done_b hm
            unfold hex_Shortest_K2 at hm
            try dsimp only at hm
            have hm : (hex_Shortest_J5).bind some = some r := hm
            exact ⟨Ds6, hF.weak [] (by kernel_rfl), hS, hm⟩
    · refine reg [⟨false, [], vS (Instr.loadAt 22 (.pointer (some ⟨g4, 2, none⟩))), .slice A1 g3.length c1⟩] [none, some (.slice A1 g3.length c1), none, none] [2, 3, 7, 8, 9, 10, 31, 32] [pl 2 (.pointer (some ⟨g4, 0, none⟩)), pl 3 (.pointer (some ⟨g5, 0, none⟩)), pl 7 (.pointer (some ⟨g7, 0, none⟩)), pl 8 (.pointer (some ⟨g8, 0, none⟩)), pl 9 (.pointer (some ⟨g9, 0, none⟩)), pl 10 (.pointer (some ⟨g10, 0, none⟩)), pl 31 (.int .i64 (g3.length : Int)), pl 32 (.int .i64 0)] hF hS Fol (by kernel_rfl) (by kernel_rfl) (by kernel_rfl) ?_ (fun a w hF hS => ?_)
      · exact obs_cons (ob_load Agg22 (fun _ _ hS => (hS.at_ 6 rfl).cell rfl)) <| obs_nil
      refine wpIn_block ?_
      have hS := hS.nilRows0 22 3
      have hS : Sep w0 B w (rows 22 3 (.slice none 0 0) ([]) ([] : List (List Int)) :: blk g10 145 #[.func (.func 97) #[] #[.pointer (some ⟨g4, 0, none⟩), .pointer (some ⟨g5, 0, none⟩), .pointer (some ⟨g7, 0, none⟩), .pointer (some ⟨g9, 0, none⟩)]] :: blk g9 40 #[.slice none 0 0] :: blk g8 115 #[.func (.func 96) #[] #[.pointer (some ⟨g4, 0, none⟩)]] :: blk g7 22 #[.slice A2 r2.length c2] :: own 3 (.slice A2 r2.length c2) (vI r2) :: own 3 (.slice g6 1 1) (vI ([(-1)] : List Int)) :: blk g4 24 #[.int .i64 g1, .int .i64 g2, .slice A1 g3.length c1] :: blk g5 3 #[.int .i64 who1] :: defsH Ds1 :: fs) := hS
      have hl1 := (hS.at_ 0 rfl).lenR
      have hS := (hS.at_ 0 rfl).reNR hl1
      have hS := (hS.at_ 2 rfl).reBlk (congrArg (fun k9 => (#[.slice none k9 0] : Array Value)) hl1)
      have hS : Sep w0 B w (rows 22 3 (.slice none (([] : List (List Int)).length) 0) ([]) ([] : List (List Int)) :: blk g10 145 #[.func (.func 97) #[] #[.pointer (some ⟨g4, 0, none⟩), .pointer (some ⟨g5, 0, none⟩), .pointer (some ⟨g7, 0, none⟩), .pointer (some ⟨g9, 0, none⟩)]] :: blk g9 40 #[.slice none (([] : List (List Int)).length) 0] :: blk g8 115 #[.func (.func 96) #[] #[.pointer (some ⟨g4, 0, none⟩)]] :: blk g7 22 #[.slice A2 r2.length c2] :: own 3 (.slice A2 r2.length c2) (vI r2) :: own 3 (.slice g6 1 1) (vI ([(-1)] : List Int)) :: blk g4 24 #[.int .i64 g1, .int .i64 g2, .slice A1 g3.length c1] :: blk g5 3 #[.int .i64 who1] :: defsH Ds1 :: fs) := hS
      have hS := hS.pickN 10 [7, 8, 4, 5, 3, 2, 0, 1, 9] (by decide)
      refine wp_loop_model (S := (List Int × List (List Int) × Int)) (R := (List Int × List (List Int))) (hex_Shortest_L1 g1 g2 g3 who1) (fun x => ((hex_Shortest_K1 g1 g2 g3 who1 r2) x).bind some) r (fun (x : (List Int × List (List Int) × Int)) a w => ∃ (A3 : Option Addr) (c3 : Nat) (hd1 : List Hd) (Ds2 : List Nat), FrD Ds2 100 [pl 2 (.pointer (some ⟨g4, 0, none⟩)), pl 3 (.pointer (some ⟨g5, 0, none⟩)), pl 7 (.pointer (some ⟨g7, 0, none⟩)), pl 8 (.pointer (some ⟨g8, 0, none⟩)), pl 9 (.pointer (some ⟨g9, 0, none⟩)), pl 10 (.pointer (some ⟨g10, 0, none⟩)), pl 31 (.int .i64 (g3.length : Int)), pl 32 (.int .i64 x.2.2)] a ∧ Sep w0 B w (blk g4 24 #[.int .i64 g1, .int .i64 g2, .slice A1 g3.length c1] :: blk g5 3 #[.int .i64 who1] :: blk g7 22 #[.slice A2 r2.length c2] :: own 3 (.slice A2 r2.length c2) (vI x.1) :: blk g8 115 #[.func (.func 96) #[] #[.pointer (some ⟨g4, 0, none⟩)]] :: blk g9 40 #[.slice A3 x.2.1.length c3] :: rows 22 3 (.slice A3 x.2.1.length c3) hd1 x.2.1 :: blk g10 145 #[.func (.func 97) #[] #[.pointer (some ⟨g4, 0, none⟩), .pointer (some ⟨g5, 0, none⟩), .pointer (some ⟨g7, 0, none⟩), .pointer (some ⟨g9, 0, none⟩)]] :: defsH Ds2 :: fs)) (assoc_b hm) ⟨none, 0, ([]), Ds1, hF.weak [2, 3, 7, 8, 9, 10, 31, 32] (by kernel_rfl), hS⟩ ?_
      clear hF hS hm
      rintro nn1 ⟨far1, rounds1, z1⟩ a w ⟨A3, c3, hd1, Ds2, hF, hS⟩ hm
      generalize hφ1 : stK (hex_Shortest_L1 g1 g2 g3 who1) nn1 (fun x => ((hex_Shortest_K1 g1 g2 g3 who1 r2) x).bind some) = φ1 at hm
      unfold hex_Shortest_L1 at hm
      dsimp only at hF hS hm
      refine reg [] [] [2, 3, 7, 8, 9, 10, 31, 32, 33] [pl 2 (.pointer (some ⟨g4, 0, none⟩)), pl 3 (.pointer (some ⟨g5, 0, none⟩)), pl 7 (.pointer (some ⟨g7, 0, none⟩)), pl 8 (.pointer (some ⟨g8, 0, none⟩)), pl 9 (.pointer (some ⟨g9, 0, none⟩)), pl 10 (.pointer (some ⟨g10, 0, none⟩)), pl 31 (.int .i64 (g3.length : Int)), pl 32 (.int .i64 z1), pl 33 (.bool (decide (z1 < (g3.length : Int))))] hF hS Fol (by kernel_rfl) (by kernel_rfl) (by kernel_rfl) ?_ (fun a w hF hS => ?_)
      · exact obs_nil
      refine seq_cut (fun a w => ∃ (Ds3 : List Nat), FrD Ds3 100 [pl 2 (.pointer (some ⟨g4, 0, none⟩)), pl 3 (.pointer (some ⟨g5, 0, none⟩)), pl 7 (.pointer (some ⟨g7, 0, none⟩)), pl 8 (.pointer (some ⟨g8, 0, none⟩)), pl 9 (.pointer (some ⟨g9, 0, none⟩)), pl 10 (.pointer (some ⟨g10, 0, none⟩)), pl 31 (.int .i64 (g3.length : Int)), pl 32 (.int .i64 z1)] a ∧ Sep w0 B w (blk g4 24 #[.int .i64 g1, .int .i64 g2, .slice A1 g3.length c1] :: blk g5 3 #[.int .i64 who1] :: blk g7 22 #[.slice A2 r2.length c2] :: own 3 (.slice A2 r2.length c2) (vI far1) :: blk g8 115 #[.func (.func 96) #[] #[.pointer (some ⟨g4, 0, none⟩)]] :: blk g9 40 #[.slice A3 rounds1.length c3] :: rows 22 3 (.slice A3 rounds1.length c3) hd1 rounds1 :: blk g10 145 #[.func (.func 97) #[] #[.pointer (some ⟨g4, 0, none⟩), .pointer (some ⟨g5, 0, none⟩), .pointer (some ⟨g7, 0, none⟩), .pointer (some ⟨g9, 0, none⟩)]] :: defsH Ds3 :: fs) ∧ ((hex_Shortest_J3 g1 g2 g3 who1 far1 rounds1 z1)).bind φ1 = some r) ?_ ?_
      · rintro a w ⟨Ds3, hF, hS, hm⟩
        unfold hex_Shortest_J3 at hm
        refine seq_cut (fun a w => ∃ (far3 : List Int) (rounds3 : List (List Int)) (A6 : Option Addr) (c6 : Nat) (hd4 : List Hd) (Ds5 : List Nat), FrD Ds5 100 [pl 2 (.pointer (some ⟨g4, 0, none⟩)), pl 3 (.pointer (some ⟨g5, 0, none⟩)), pl 7 (.pointer (some ⟨g7, 0, none⟩)), pl 8 (.pointer (some ⟨g8, 0, none⟩)), pl 9 (.pointer (some ⟨g9, 0, none⟩)), pl 10 (.pointer (some ⟨g10, 0, none⟩)), pl 31 (.int .i64 (g3.length : Int)), pl 32 (.int .i64 z1)] a ∧ Sep w0 B w (blk g4 24 #[.int .i64 g1, .int .i64 g2, .slice A1 g3.length c1] :: blk g5 3 #[.int .i64 who1] :: blk g7 22 #[.slice A2 r2.length c2] :: own 3 (.slice A2 r2.length c2) (vI far3) :: blk g8 115 #[.func (.func 96) #[] #[.pointer (some ⟨g4, 0, none⟩)]] :: blk g9 40 #[.slice A6 rounds3.length c6] :: rows 22 3 (.slice A6 rounds3.length c6) hd4 rounds3 :: blk g10 145 #[.func (.func 97) #[] #[.pointer (some ⟨g4, 0, none⟩), .pointer (some ⟨g5, 0, none⟩), .pointer (some ⟨g7, 0, none⟩), .pointer (some ⟨g9, 0, none⟩)]] :: defsH Ds5 :: fs) ∧ ((hex_Shortest_J4 z1) far3 rounds3).bind φ1 = some r) ?_ ?_
        · rintro a w ⟨far3, rounds3, A6, c6, hd4, Ds5, hF, hS, hm⟩
          unfold hex_Shortest_J4 at hm
          refine reg1 [] [] [2, 3, 7, 8, 9, 10, 31, 32] [pl 2 (.pointer (some ⟨g4, 0, none⟩)), pl 3 (.pointer (some ⟨g5, 0, none⟩)), pl 7 (.pointer (some ⟨g7, 0, none⟩)), pl 8 (.pointer (some ⟨g8, 0, none⟩)), pl 9 (.pointer (some ⟨g9, 0, none⟩)), pl 10 (.pointer (some ⟨g10, 0, none⟩)), pl 31 (.int .i64 (g3.length : Int)), pl 32 (.int .i64 (w64 (z1 + 1)))] hF hS Fol (by kernel_rfl) (by kernel_rfl) (by kernel_rfl) ?_ (fun a w hF hS => ?_)
          · exact obs_nil
          refine then_n ?_
          rw [← hφ1] at hm
          exact ⟨(far3, rounds3, (w64 (z1 + 1))), ⟨A6, c6, hd4, Ds5, hF.weak [2, 3, 7, 8, 9, 10, 31, 32] (by kernel_rfl), hS⟩, hm⟩
        · refine wpIn_block ?_
          refine reg [] [] [2, 3, 7, 8, 9, 10, 11, 31, 32] [pl 2 (.pointer (some ⟨g4, 0, none⟩)), pl 3 (.pointer (some ⟨g5, 0, none⟩)), pl 7 (.pointer (some ⟨g7, 0, none⟩)), pl 8 (.pointer (some ⟨g8, 0, none⟩)), pl 9 (.pointer (some ⟨g9, 0, none⟩)), pl 10 (.pointer (some ⟨g10, 0, none⟩)), pl 11 (.int .i64 z1), pl 31 (.int .i64 (g3.length : Int)), pl 32 (.int .i64 z1)] hF hS Fol (by kernel_rfl) (by kernel_rfl) (by kernel_rfl) ?_ (fun a w hF hS => ?_)
          · exact obs_nil
          obtain ⟨r3, hr3, hm⟩ := call_b hm
          refine reg [⟨false, [], vS (Instr.loadAt 3 (.pointer (some ⟨g4, 0, none⟩))), .int .i64 g1⟩, ⟨false, [], vS (Instr.loadAt 3 (.pointer (some ⟨g5, 0, none⟩))), .int .i64 who1⟩, ⟨false, [], callFunc 98 #[.int .i64 g1, .int .i64 who1, .int .i64 z1], .int .i64 r3⟩] [none, some (.int .i64 g1), some (.int .i64 who1), none, some (.int .i64 r3), none] [2, 3, 7, 8, 9, 10, 11, 31, 32, 40] [pl 2 (.pointer (some ⟨g4, 0, none⟩)), pl 3 (.pointer (some ⟨g5, 0, none⟩)), pl 7 (.pointer (some ⟨g7, 0, none⟩)), pl 8 (.pointer (some ⟨g8, 0, none⟩)), pl 9 (.pointer (some ⟨g9, 0, none⟩)), pl 10 (.pointer (some ⟨g10, 0, none⟩)), pl 11 (.int .i64 z1), pl 31 (.int .i64 (g3.length : Int)), pl 32 (.int .i64 z1), pl 40 (.bool (r3 == 0))] hF hS Fol (by kernel_rfl) (by kernel_rfl) (by kernel_rfl) ?_ (fun a w hF hS => ?_)
          · exact obs_cons (ob_load Agg3 (fun _ _ hS => (hS.at_ 0 rfl).cell rfl)) <| obs_cons (ob_load Agg3 (fun _ _ hS => (hS.at_ 1 rfl).cell rfl)) <| obs_cons (ob_call Try.func98 (by kernel_rfl) rfl (fun _ _ hS => hex_along_w hr3 hS )) <| obs_nil
          refine cond_ev (t := 40) (b := (r3 == 0)) hF (by kernel_rfl) (fun hb => ?_) (fun hb => ?_)
          · replace hm := if_t hm hb
            obtain ⟨r4, hr4, hm⟩ := call_b hm
            obtain ⟨r5, hr5, hm⟩ := call_b hm
            refine regMix5 [0, 1, 2, 3] [5] 2 #[true, true, true, true, false, false] [⟨false, [], vS (Instr.loadAt 145 (.pointer (some ⟨g10, 0, none⟩))), .func (.func 97) #[] #[.pointer (some ⟨g4, 0, none⟩), .pointer (some ⟨g5, 0, none⟩), .pointer (some ⟨g7, 0, none⟩), .pointer (some ⟨g9, 0, none⟩)]⟩, ⟨false, [], vS (Instr.loadAt 115 (.pointer (some ⟨g8, 0, none⟩))), .func (.func 96) #[] #[.pointer (some ⟨g4, 0, none⟩)]⟩] [some (.func (.func 97) #[] #[.pointer (some ⟨g4, 0, none⟩), .pointer (some ⟨g5, 0, none⟩), .pointer (some ⟨g7, 0, none⟩), .pointer (some ⟨g9, 0, none⟩)]), none, some (.func (.func 96) #[] #[.pointer (some ⟨g4, 0, none⟩)]), none] [2, 3, 7, 8, 9, 10, 31, 32, 41, 42, 43, 44] [pl 2 (.pointer (some ⟨g4, 0, none⟩)), pl 3 (.pointer (some ⟨g5, 0, none⟩)), pl 7 (.pointer (some ⟨g7, 0, none⟩)), pl 8 (.pointer (some ⟨g8, 0, none⟩)), pl 9 (.pointer (some ⟨g9, 0, none⟩)), pl 10 (.pointer (some ⟨g10, 0, none⟩)), pl 31 (.int .i64 (g3.length : Int)), pl 32 (.int .i64 z1), pl 41 (.func (.func 97) #[] #[.pointer (some ⟨g4, 0, none⟩), .pointer (some ⟨g5, 0, none⟩), .pointer (some ⟨g7, 0, none⟩), .pointer (some ⟨g9, 0, none⟩)]), pl 42 (.int .i64 z1), pl 43 (.func (.func 96) #[] #[.pointer (some ⟨g4, 0, none⟩)]), pl 44 (.int .i64 z1)] hF hS Fol (by kernel_rfl) (by kernel_rfl) (by kernel_rfl) (by kernel_rfl) ?_ (fun a w hF hS => ?_)
            · exact obs_cons (ob_load Agg145 (fun _ _ hS => (hS.at_ 7 rfl).cell rfl)) <| obs_cons (ob_load Agg115 (fun _ _ hS => (hS.at_ 4 rfl).cell rfl)) <| obs_nil
            refine any_step [4] (by kernel_rfl) rfl ?_
            refine (all_cons ?_ all_nil)
            · refine any_op (listed' := #[true, true, true, true, true, false]) (by kernel_rfl) (by kernel_rfl) ?_
              refine at_run 1 [⟨false, [], callFunc 96 #[.int .i64 z1, .pointer (some ⟨g4, 0, none⟩)], .int .i64 r4⟩] [some (.int .i64 r4)] [2, 3, 7, 8, 9, 10, 31, 32, 41, 42, 45] [pl 2 (.pointer (some ⟨g4, 0, none⟩)), pl 3 (.pointer (some ⟨g5, 0, none⟩)), pl 7 (.pointer (some ⟨g7, 0, none⟩)), pl 8 (.pointer (some ⟨g8, 0, none⟩)), pl 9 (.pointer (some ⟨g9, 0, none⟩)), pl 10 (.pointer (some ⟨g10, 0, none⟩)), pl 31 (.int .i64 (g3.length : Int)), pl 32 (.int .i64 z1), pl 41 (.func (.func 97) #[] #[.pointer (some ⟨g4, 0, none⟩), .pointer (some ⟨g5, 0, none⟩), .pointer (some ⟨g7, 0, none⟩), .pointer (some ⟨g9, 0, none⟩)]), pl 42 (.int .i64 z1), pl 45 (.int .i64 r4)] hF hS (by kernel_rfl) (by kernel_rfl) ?_ (fun a w hF hS => ?_)
              · exact obs_cons (ob_call Try.func96 (by kernel_rfl) rfl (fun _ _ hS => hex_Shortest_1_w hr4 hS (fun _ hS => (hr_g3 _ (hS.dropN 8))) _hc_g3 rfl)) <| obs_nil
              refine any_fin rfl hS ?_
              refine any_step [5] (by kernel_rfl) rfl ?_
              refine (all_cons ?_ all_nil)
              · refine any_op (listed' := #[true, true, true, true, true, true]) (by kernel_rfl) (by kernel_rfl) ?_
                have hS : Sep w0 B w (blk g4 24 #[.int .i64 g1, .int .i64 g2, .slice A1 g3.length c1] :: blk g5 3 #[.int .i64 who1] :: blk g7 22 #[.slice A2 r2.length c2] :: own 3 (.slice A2 r2.length c2) (vI far1) :: blk g9 40 #[.slice A3 rounds1.length c3] :: rows 22 3 (.slice A3 rounds1.length c3) hd1 rounds1 :: blk g8 115 #[.func (.func 96) #[] #[.pointer (some ⟨g4, 0, none⟩)]] :: blk g10 145 #[.func (.func 97) #[] #[.pointer (some ⟨g4, 0, none⟩), .pointer (some ⟨g5, 0, none⟩), .pointer (some ⟨g7, 0, none⟩), .pointer (some ⟨g9, 0, none⟩)]] :: defsH Ds3 :: fs) := hS.pickN 9 [0, 1, 2, 3, 5, 6, 4, 7, 8] (by decide)
                refine at_call (f := 97) (args := #[.int .i64 z1, .int .i64 r4, .pointer (some ⟨g4, 0, none⟩), .pointer (some ⟨g5, 0, none⟩), .pointer (some ⟨g7, 0, none⟩), .pointer (some ⟨g9, 0, none⟩)]) (d := 46) hF (by kernel_rfl) (by kernel_rfl) Try.func97 (by kernel_rfl) rfl (hex_Shortest_2_w hr5 hS (fun _ hS => (hr_g3 _ (hS.dropN 3))) _hc_g3 rfl) (fun v a w hR hF => ?_)
                clear hS
                obtain ⟨A5, c5, hd3, rfl, hS⟩ := hR
                have hS : Sep w0 B w (blk g4 24 #[.int .i64 g1, .int .i64 g2, .slice A1 g3.length c1] :: blk g5 3 #[.int .i64 who1] :: blk g7 22 #[.slice A2 r2.length c2] :: own 3 (.slice A2 r2.length c2) (vI r5.1) :: blk g9 40 #[.slice A5 r5.2.length c5] :: rows 22 3 (.slice A5 r5.2.length c5) hd3 r5.2 :: blk g8 115 #[.func (.func 96) #[] #[.pointer (some ⟨g4, 0, none⟩)]] :: blk g10 145 #[.func (.func 97) #[] #[.pointer (some ⟨g4, 0, none⟩), .pointer (some ⟨g5, 0, none⟩), .pointer (some ⟨g7, 0, none⟩), .pointer (some ⟨g9, 0, none⟩)]] :: defsH Ds3 :: fs) := hS
                refine any_finE rfl (by decide) ?_
                refine any_end (by kernel_rfl) ?_
                refine np_n ?_
                refine block_n ?_
                refine then_n ?_
                have hS := hS.pickN 9 [0, 1, 2, 3, 6, 4, 5, 7, 8] (by decide)
                exact ⟨r5.1, r5.2, A5, c5, hd3, Ds3, hF.weak [2, 3, 7, 8, 9, 10, 31, 32] (by kernel_rfl), hS, hm⟩
          · replace hm := if_f hm hb
            refine wpIn_skip ?_
            refine block_n ?_
            refine then_n ?_
            exact ⟨far1, rounds1, A3, c3, hd1, Ds3, hF.weak [2, 3, 7, 8, 9, 10, 31, 32] (by kernel_rfl), hS, hm⟩
      · refine cond_ev (t := 33) (b := decide (z1 < (g3.length : Int))) hF (by kernel_rfl) (fun hb => ?_) (fun hb => ?_)
        · replace hm := if_t hm hb
          refine wpIn_skip ?_
          refine then_n ?_
          exact ⟨Ds2, hF.weak [2, 3, 7, 8, 9, 10, 31, 32] (by kernel_rfl), hS, hm⟩
        · replace hm := if_f hm hb
          refine wpIn_exit ?_
          refine then_e (then_e (block_e (then_n ?_)))
          rw [← hφ1] at hm
          replace hm := done_b hm
          unfold hex_Shortest_K1 at hm
          try dsimp only at hm
          have hm : ((hex_Shortest_J2 g1 g2 g3 who1 r2) far1 rounds1).bind some = some r := hm
          exact ⟨far1, rounds1, A3, c3, hd1, Ds2, hF.weak [2, 3, 7, 8, 9, 10] (by kernel_rfl), hS, hm⟩
  · obtain ⟨r1, hr1, hm⟩ := call_b hm
    refine reg [⟨false, [], vS (Instr.loadAt 24 (.pointer (some ⟨g4, 0, none⟩))), .agg #[.int .i64 g1, .int .i64 g2, .slice A1 g3.length c1]⟩, ⟨false, [], vS (Instr.loadAt 3 (.pointer (some ⟨g5, 0, none⟩))), .int .i64 who1⟩, ⟨false, [], callFunc 94 #[.agg #[.int .i64 g1, .int .i64 g2, .slice A1 g3.length c1], .int .i64 who1], .int .i64 r1⟩] [some (.agg #[.int .i64 g1, .int .i64 g2, .slice A1 g3.length c1]), some (.int .i64 who1), some (.int .i64 r1), none] [2, 3, 6] [pl 2 (.pointer (some ⟨g4, 0, none⟩)), pl 3 (.pointer (some ⟨g5, 0, none⟩)), pl 6 (.int .i64 r1)] hF hS Fol (by kernel_rfl) (by kernel_rfl) (by kernel_rfl) ?_ (fun a w hF hS => ?_)
    · exact obs_cons (ob_loadA (cs := #[.int .i64 g1, .int .i64 g2, .slice A1 g3.length c1]) (by kernel_rfl) (by kernel_rfl) (fun _ _ hS => (hS.at_ 1 rfl).cellsAt 0 (by rfl))) <| obs_cons (ob_load Agg3 (fun _ _ hS => (hS.at_ 0 rfl).cell rfl)) <| obs_cons (ob_call Try.func94 (by kernel_rfl) rfl (fun _ _ hS => hex_player_w hr1 hS (fun _ hS => (hr_g3 _ (hS.dropN 3))) _hc_g3 rfl)) <| obs_nil
    refine reg [] [] [2, 3, 6, 20] [pl 2 (.pointer (some ⟨g4, 0, none⟩)), pl 3 (.pointer (some ⟨g5, 0, none⟩)), pl 6 (.int .i64 r1), pl 20 (.bool (r1 != 0))] hF hS Fol (by kernel_rfl) (by kernel_rfl) (by kernel_rfl) ?_ (fun a w hF hS => ?_)
    · exact obs_nil
    refine cond_ev (t := 20) (b := (r1 != 0)) hF (by kernel_rfl) (fun hb => ?_) (fun hb => ?_)
    · replace hm := if_t hm hb
      refine reg [] [] [4, 5] [pl 4 (.int .i64 0), pl 5 (.int .i64 r1)] hF hS Fol (by kernel_rfl) (by kernel_rfl) (by kernel_rfl) ?_ (fun a w hF hS => ?_)
      · exact obs_nil
      refine wpIn_ret ?_
      refine then_r ?_
      have hS := hS.pickN 3 [2, 0, 1] (by decide)
      have hm : some (0, r1) = some r := hm
      obtain rfl := Option.some.inj hm
      exact retD (rs := [.tmp 4, .tmp 5]) (vs := [.int .i64 0, .int .i64 r1]) hF hS rfl (fun w hS => by exact rv_t (by kernel_rfl) <| rv_t (by kernel_rfl) <| rv_nil) rfl (fun w hS => ⟨rfl, hS.pickN 2 [] (by decide)⟩)
    · replace hm := if_f hm hb
      refine wpIn_skip ?_
      refine then_n ?_
      have hS := hS.pickN 3 [1, 0, 2] (by decide)
      exact ⟨([]), hF.weak [2, 3] (by kernel_rfl), hS, hm⟩

noncomputable def gameroomtop_TopHex_J3  (i1 : Int) (left3 : List Int) : Option (St (List Int × Int) (List Int)) :=
  some (.next (left3, (w64 (i1 + 1))))

noncomputable def gameroomtop_TopHex_J2  (left1 : List Int) (i1 : Int) : Option (St (List Int × Int) (List Int)) :=
  asrt ((left1.length : Int) + 1 ≤ bigN) <| (gameroomtop_TopHex_J3 i1) (left1 ++ ([i1] : List Int))

noncomputable def gameroomtop_TopHex_J6  (i2 : Int) (g4 : List Int) (left5 : List Int) (won3 : Int) : Option (St (List Int × List Int × Int × Int) (Fl Int Bool)) :=
  some (.next (g4, left5, won3, (w64 (i2 + 1))))

noncomputable def gameroomtop_TopHex_J8  (g3 : List Int) (left4 : List Int) (i2 : Int) (k1 : Int) (r3 : (Int × List Int × Int)) : Option (St (List Int × List Int × Int × Int) (Fl Int Bool)) :=
  (gameroomtop_TopHex_J6 i2) (([] ++ g3).set (Int.toNat (geti left4 k1)) (w64 (1 + (Int.tmod i2 2)))) (([] ++ (cut left4 (0 : Int) k1)) ++ (cut left4 (w64 (k1 + 1)) (left4.length : Int))) r3.1

noncomputable def gameroomtop_TopHex_J7  (r1 : Int) (g3 : List Int) (left4 : List Int) (won1 : Int) (i2 : Int) (k1 : Int) : Option (St (List Int × List Int × Int × Int) (Fl Int Bool)) :=
  asrt (0 ≤ k1 ∧ k1 < (left4.length : Int)) <| asrt (0 ≤ (0 : Int) ∧ (0 : Int) ≤ k1 ∧ k1 ≤ (left4.length : Int)) <| asrt (0 ≤ (w64 (k1 + 1)) ∧ (w64 (k1 + 1)) ≤ (left4.length : Int) ∧ (left4.length : Int) ≤ (left4.length : Int)) <| asrt ((0 : Int) + (((cut left4 (0 : Int) k1).length : Nat) : Int) ≤ bigN) <| asrt (((([] ++ (cut left4 (0 : Int) k1)).length : Nat) : Int) + (((cut left4 (w64 (k1 + 1)) (left4.length : Int)).length : Nat) : Int) ≤ bigN) <| asrt ((0 : Int) + (g3.length : Int) ≤ bigN) <| asrt (0 ≤ (geti left4 k1) ∧ (geti left4 k1) < ((([] ++ g3).length : Nat) : Int)) <| (hex_Joined_m (w64 (1 + r1)) (w64 (1 + r1)) (([] ++ g3).set (Int.toNat (geti left4 k1)) (w64 (1 + (Int.tmod i2 2))))).bind fun r3 => (hex_Shortest_m (w64 (1 + r1)) (w64 (1 + r1)) (([] ++ g3).set (Int.toNat (geti left4 k1)) (w64 (1 + (Int.tmod i2 2)))) 1).bind fun r4 => (hex_Shortest_m (w64 (1 + r1)) (w64 (1 + r1)) (([] ++ g3).set (Int.toNat (geti left4 k1)) (w64 (1 + (Int.tmod i2 2)))) 2).bind fun r5 => if ((((((((r3.2.2 != 0) || (r4.2 != 0)) || (r5.2 != 0)) || ((decide ((0 : Int) < won1)) && (r3.1 != won1))) || ((r4.1 == (-1)) != (r3.1 == 2))) || ((r5.1 == (-1)) != (r3.1 == 1))) || ((r4.1 == 0) != (r3.1 == 1))) || ((r5.1 == 0) != (r3.1 == 2))) then (some (.done (.ret false))) else ((gameroomtop_TopHex_J8 g3 left4 i2 k1 r3))

noncomputable def gameroomtop_TopHex_J5  (raw1 : List Int) (r1 : Int) (g3 : List Int) (left4 : List Int) (won1 : Int) (i2 : Int) : Option (St (List Int × List Int × Int × Int) (Fl Int Bool)) :=
  if (decide (i2 < (raw1.length : Int))) then (asrt (0 ≤ i2 ∧ i2 < (raw1.length : Int)) <| (gameroomtop_picked_m (geti raw1 i2) (left4.length : Int)).bind fun r2 => (gameroomtop_TopHex_J7 r1 g3 left4 won1 i2) r2) else ((gameroomtop_TopHex_J7 r1 g3 left4 won1 i2) 0)

noncomputable def gameroomtop_TopHex_L2  (raw1 : List Int) (r1 : Int) : (List Int × List Int × Int × Int) → Option (St (List Int × List Int × Int × Int) (Fl Int Bool)) :=
  fun (x : (List Int × List Int × Int × Int)) => match x with | (g3, left4, won1, i2) => if (decide ((0 : Int) < (left4.length : Int))) then ((gameroomtop_TopHex_J5 raw1 r1 g3 left4 won1 i2)) else (some (.done (.go won1)))

noncomputable def gameroomtop_TopHex_J4  (won2 : Int) : Option Bool :=
  some ((won2 == 1) || (won2 == 2))

noncomputable def gameroomtop_TopHex_K2  : (Fl Int Bool) → Option Bool :=
  fun (x : (Fl Int Bool)) => match x with | .go won2 => gameroomtop_TopHex_J4 won2 | .ret x => some x

noncomputable def gameroomtop_TopHex_J1  (raw1 : List Int) (r1 : Int) (left2 : List Int) : Option Bool :=
  (loop (gameroomtop_TopHex_L2 raw1 r1) ((List.replicate (Int.toNat (w64 ((w64 (1 + r1)) * (w64 (1 + r1))))) (0 : Int)), left2, 0, 0)).bind gameroomtop_TopHex_K2

noncomputable def gameroomtop_TopHex_K1  (raw1 : List Int) (r1 : Int) : (List Int) → Option Bool :=
  fun (x : (List Int)) => match x with | left2 => (gameroomtop_TopHex_J1 raw1 r1) left2

noncomputable def gameroomtop_TopHex_L1  (r1 : Int) : (List Int × Int) → Option (St (List Int × Int) (List Int)) :=
  fun (x : (List Int × Int)) => match x with | (left1, i1) => if (decide (i1 < (w64 ((w64 (1 + r1)) * (w64 (1 + r1)))))) then ((gameroomtop_TopHex_J2 left1 i1)) else (some (.done left1))

noncomputable def gameroomtop_TopHex_m  (n1 : Int) (raw1 : List Int) : Option Bool :=
  (gameroomtop_picked_m n1 6).bind fun r1 => asrt ((0 : Int) ≤ (w64 ((w64 (1 + r1)) * (w64 (1 + r1)))) ∧ (w64 ((w64 (1 + r1)) * (w64 (1 + r1)))) ≤ bigN) <| (loop (gameroomtop_TopHex_L1 r1) (([] : List Int), 0)).bind (gameroomtop_TopHex_K1 raw1 r1)

set_option maxRecDepth 100000 in
set_option maxHeartbeats 4000000 in
theorem gameroomtop_TopHex_w {n1 : Int} {A1 : Option Addr} {c1 : Nat} {n2 : Nat} {raw1 : List Int} {r : Bool} {w0 w : World} {B : Nat} {fs : List HP} (hm : gameroomtop_TopHex_m n1 raw1 = some r) (hS : Sep w0 B w (fs)) (hr_raw1 : RdF w0 B fs A1 (vI raw1)) (_hc_raw1 : raw1.length ≤ c1) (_hn_raw1 : n2 = raw1.length) :
    Calls Try.prog 6 #[.int .i64 n1, .slice A1 n2 c1] w fun e w' => e = .returned (.bool r) ∧ Sep w0 B w' (fs) := by
  obtain ⟨i3, hi3, hz3, hs3, hb3⟩ := info_parts Info3
  obtain rfl := _hn_raw1
  unfold gameroomtop_TopHex_m at hm
  replace hm := start_b hm
  refine enter (l := [.int .i64 n1, .slice A1 raw1.length c1]) (n := 154) Try.func6 rfl rfl (by simp) (fun a hF => ?_)
  refine reg [] [] [0, 1] [pl 0 (.int .i64 n1), pl 1 (.slice A1 raw1.length c1)] hF hS Fol (by kernel_rfl) (by kernel_rfl) (by kernel_rfl) ?_ (fun a w hF hS => ?_)
  · exact obs_nil
  obtain ⟨r1, hr1, hm⟩ := call_b hm
  refine reg [⟨false, [], callFunc 33 #[.int .i64 n1, .int .i64 6], .int .i64 r1⟩] [none, some (.int .i64 r1), none, none] [1, 5] [pl 1 (.slice A1 raw1.length c1), pl 5 (.int .i64 (w64 (1 + r1)))] hF hS Fol (by kernel_rfl) (by kernel_rfl) (by kernel_rfl) ?_ (fun a w hF hS => ?_)
  · exact obs_cons (ob_call Try.func33 (by kernel_rfl) rfl (fun _ _ hS => gameroomtop_picked_w hr1 hS )) <| obs_nil
  refine seqR ?_
  obtain ⟨hp1, hm⟩ := asrt_b hm
  refine at_run 5 [] [] [1, 5, 24, 25, 28] [pl 1 (.slice A1 raw1.length c1), pl 5 (.int .i64 (w64 (1 + r1))), pl 24 (.int .i64 (w64 (1 + r1))), pl 25 (.int .i64 (w64 (1 + r1))), pl 28 (.int .i64 (w64 ((w64 (1 + r1)) * (w64 (1 + r1)))))] hF hS (by kernel_rfl) (by kernel_rfl) ?_ (fun a w hF hS => ?_)
  · exact obs_nil
  obtain ⟨A2, c2, w, hrun, hS⟩ := run_mk1 (P := Try.prog) (t := 22) (Value.int .i64) (0 : Int) hS .i64 .i64 Und22 hi3 hz3 hs3 (by omega) rfl hp1
  have hS : Sep w0 B w (own 3 (.slice A2 (Int.toNat (w64 ((w64 (1 + r1)) * (w64 (1 + r1))))) c2) (vI (List.replicate (Int.toNat (w64 ((w64 (1 + r1)) * (w64 (1 + r1))))) (0 : Int))) :: fs) := hS
  refine at_do (d := 29) hF (by kernel_rfl) (by kernel_rfl) hrun (fun a hF => ?_)
  refine at_run 1 [] [] [1, 5, 30] [pl 1 (.slice A1 raw1.length c1), pl 5 (.int .i64 (w64 (1 + r1))), pl 30 (.agg #[.int .i64 (w64 (1 + r1)), .int .i64 (w64 (1 + r1)), .slice A2 (Int.toNat (w64 ((w64 (1 + r1)) * (w64 (1 + r1))))) c2])] hF hS (by kernel_rfl) (by kernel_rfl) ?_ (fun a w hF hS => ?_)
  · exact obs_nil
  refine at_do (d := 6) (s := vS (Instr.alloc 24 true (.tuple #[]))) (v := .pointer (some ⟨w.heap.size, 0, none⟩)) (w' := w.alloc (.cells #[.int .i64 0, .int .i64 0, .slice none 0 0] 24)) hF (by kernel_rfl) (by kernel_rfl) (by kernel_rfl) (fun a hF => ?_)
  have hS : Sep w0 B (w.alloc (.cells #[.int .i64 0, .int .i64 0, .slice none 0 0] 24)) (blk w.heap.size 24 #[.int .i64 0, .int .i64 0, .slice none 0 0] :: (own 3 (.slice A2 (Int.toNat (w64 ((w64 (1 + r1)) * (w64 (1 + r1))))) c2) (vI (List.replicate (Int.toNat (w64 ((w64 (1 + r1)) * (w64 (1 + r1))))) (0 : Int))) :: fs)) := hS.box 24 #[.int .i64 0, .int .i64 0, .slice none 0 0]
  generalize w.heap.size = g1 at hF hS
  generalize w.alloc (.cells #[.int .i64 0, .int .i64 0, .slice none 0 0] 24) = w at hS ⊢
  obtain ⟨w, hrun, hS⟩ := run_putA (P := Try.prog) (t := 24) (us := #[.int .i64 (w64 (1 + r1)), .int .i64 (w64 (1 + r1)), .slice A2 (Int.toNat (w64 ((w64 (1 + r1)) * (w64 (1 + r1))))) c2]) (o := 0) (hS.at_ 0 rfl) (by kernel_rfl) (all_one (by kernel_rfl)) (Nat.le_of_ble_eq_true (by kernel_rfl))
  refine at_skip hF (by kernel_rfl) hrun ?_
  have hS : Sep w0 B w (blk g1 24 #[.int .i64 (w64 (1 + r1)), .int .i64 (w64 (1 + r1)), .slice A2 (Int.toNat (w64 ((w64 (1 + r1)) * (w64 (1 + r1))))) c2] :: own 3 (.slice A2 (Int.toNat (w64 ((w64 (1 + r1)) * (w64 (1 + r1))))) c2) (vI (List.replicate (Int.toNat (w64 ((w64 (1 + r1)) * (w64 (1 + r1))))) (0 : Int))) :: fs) := hS
  refine at_end [1, 5, 6] [pl 1 (.slice A1 raw1.length c1), pl 5 (.int .i64 (w64 (1 + r1))), pl 6 (.pointer (some ⟨g1, 0, none⟩))] hF rfl (by kernel_rfl) (fun hF => ?_)
  refine then_n ?_
  refine reg [] [] [1, 5, 6, 7] [pl 1 (.slice A1 raw1.length c1), pl 5 (.int .i64 (w64 (1 + r1))), pl 6 (.pointer (some ⟨g1, 0, none⟩)), pl 7 (.slice none 0 0)] hF hS Fol (by kernel_rfl) (by kernel_rfl) (by kernel_rfl) ?_ (fun a w hF hS => ?_)
  · exact obs_nil
  refine seq_cut (fun a w => ∃ (left2 : List Int) (A4 : Option Addr) (c4 : Nat), Fr 154 [pl 1 (.slice A1 raw1.length c1), pl 5 (.int .i64 (w64 (1 + r1))), pl 6 (.pointer (some ⟨g1, 0, none⟩)), pl 7 (.slice A4 left2.length c4)] a ∧ Sep w0 B w (blk g1 24 #[.int .i64 (w64 (1 + r1)), .int .i64 (w64 (1 + r1)), .slice A2 (Int.toNat (w64 ((w64 (1 + r1)) * (w64 (1 + r1))))) c2] :: own 3 (.slice A2 (Int.toNat (w64 ((w64 (1 + r1)) * (w64 (1 + r1))))) c2) (vI (List.replicate (Int.toNat (w64 ((w64 (1 + r1)) * (w64 (1 + r1))))) (0 : Int))) :: own 3 (.slice A4 left2.length c4) (vI left2) :: fs) ∧ ((gameroomtop_TopHex_J1 raw1 r1) left2).bind some = some r) ?_ ?_
  · rintro a w ⟨left2, A4, c4, hF, hS, hm⟩
    unfold gameroomtop_TopHex_J1 at hm
    refine reg [] [] [1, 5, 6, 7, 9] [pl 1 (.slice A1 raw1.length c1), pl 5 (.int .i64 (w64 (1 + r1))), pl 6 (.pointer (some ⟨g1, 0, none⟩)), pl 7 (.slice A4 left2.length c4), pl 9 (.int .i64 0)] hF hS Fol (by kernel_rfl) (by kernel_rfl) (by kernel_rfl) ?_ (fun a w hF hS => ?_)
    · exact obs_nil
    refine seq_cut (fun a w => ∃ (won2 : Int), Fr 154 [pl 9 (.int .i64 won2)] a ∧ Sep w0 B w (fs) ∧ (gameroomtop_TopHex_J4 won2).bind some = some r) ?_ ?_
    · rintro a w ⟨won2, hF, hS, hm⟩
      unfold gameroomtop_TopHex_J4 at hm
      refine reg [] [] [4] [pl 4 (.bool ((won2 == 1) || (won2 == 2)))] hF hS Fol (by kernel_rfl) (by kernel_rfl) (by kernel_rfl) ?_ (fun a w hF hS => ?_)
      · exact obs_nil
      refine wpIn_ret ?_
      have hm : some ((won2 == 1) || (won2 == 2)) = some r := hm
      obtain rfl := Option.some.inj hm
      exact retV (rs := [.tmp 4]) (vs := [.bool ((won2 == 1) || (won2 == 2))]) hF rfl (rv_t (by kernel_rfl) <| rv_nil) rfl ⟨rfl, hS⟩
    · refine reg [] [] [1, 5, 6, 7, 9, 10] [pl 1 (.slice A1 raw1.length c1), pl 5 (.int .i64 (w64 (1 + r1))), pl 6 (.pointer (some ⟨g1, 0, none⟩)), pl 7 (.slice A4 left2.length c4), pl 9 (.int .i64 0), pl 10 (.int .i64 0)] hF hS Fol (by kernel_rfl) (by kernel_rfl) (by kernel_rfl) ?_ (fun a w hF hS => ?_)
      · exact obs_nil
      refine wpIn_block ?_
      have hl2 := (hS.at_ 1 rfl).len1
      have hS := (hS.at_ 1 rfl).reN hl2
      have hS := (hS.at_ 0 rfl).reBlk (congrArg (fun k9 => (#[.int .i64 (w64 (1 + r1)), .int .i64 (w64 (1 + r1)), .slice A2 k9 c2] : Array Value)) hl2)
      have hS : Sep w0 B w (blk g1 24 #[.int .i64 (w64 (1 + r1)), .int .i64 (w64 (1 + r1)), .slice A2 ((List.replicate (Int.toNat (w64 ((w64 (1 + r1)) * (w64 (1 + r1))))) (0 : Int)).length) c2] :: own 3 (.slice A2 ((List.replicate (Int.toNat (w64 ((w64 (1 + r1)) * (w64 (1 + r1))))) (0 : Int)).length) c2) (vI (List.replicate (Int.toNat (w64 ((w64 (1 + r1)) * (w64 (1 + r1))))) (0 : Int))) :: own 3 (.slice A4 left2.length c4) (vI left2) :: fs) := hS
      refine wp_loop_model (S := (List Int × List Int × Int × Int)) (R := (Fl Int Bool)) (gameroomtop_TopHex_L2 raw1 r1) (fun x => (gameroomtop_TopHex_K2 x).bind some) r (fun (x : (List Int × List Int × Int × Int)) a w => ∃ (A7 : Option Addr) (c7 : Nat) (A8 : Option Addr) (c8 : Nat), Fr 154 [pl 1 (.slice A1 raw1.length c1), pl 5 (.int .i64 (w64 (1 + r1))), pl 6 (.pointer (some ⟨g1, 0, none⟩)), pl 7 (.slice A8 x.2.1.length c8), pl 9 (.int .i64 x.2.2.1), pl 10 (.int .i64 x.2.2.2)] a ∧ Sep w0 B w (blk g1 24 #[.int .i64 (w64 (1 + r1)), .int .i64 (w64 (1 + r1)), .slice A7 x.1.length c7] :: own 3 (.slice A7 x.1.length c7) (vI x.1) :: own 3 (.slice A8 x.2.1.length c8) (vI x.2.1) :: fs)) (assoc_b hm) ⟨A2, c2, A4, c4, hF.weak [1, 5, 6, 7, 9, 10] (by kernel_rfl), hS⟩ ?_
      clear hF hS hm
      rintro nn2 ⟨g3, left4, won1, i2⟩ a w ⟨A7, c7, A8, c8, hF, hS⟩ hm
      generalize hφ2 : stK (gameroomtop_TopHex_L2 raw1 r1) nn2 (fun x => (gameroomtop_TopHex_K2 x).bind some) = φ2 at hm
      unfold gameroomtop_TopHex_L2 at hm
      dsimp only at hF hS hm
      refine seq_cut (fun a w => Fr 154 [pl 1 (.slice A1 raw1.length c1), pl 5 (.int .i64 (w64 (1 + r1))), pl 6 (.pointer (some ⟨g1, 0, none⟩)), pl 7 (.slice A8 left4.length c8), pl 9 (.int .i64 won1), pl 10 (.int .i64 i2)] a ∧ Sep w0 B w (blk g1 24 #[.int .i64 (w64 (1 + r1)), .int .i64 (w64 (1 + r1)), .slice A7 g3.length c7] :: own 3 (.slice A7 g3.length c7) (vI g3) :: own 3 (.slice A8 left4.length c8) (vI left4) :: fs) ∧ ((gameroomtop_TopHex_J5 raw1 r1 g3 left4 won1 i2)).bind φ2 = some r) ?_ ?_
      · rintro a w ⟨hF, hS, hm⟩
        unfold gameroomtop_TopHex_J5 at hm
        refine seq_cut (fun a w => ∃ (g4 : List Int) (left5 : List Int) (won3 : Int) (A13 : Option Addr) (c13 : Nat) (A14 : Option Addr) (c14 : Nat), Fr 154 [pl 1 (.slice A1 raw1.length c1), pl 5 (.int .i64 (w64 (1 + r1))), pl 6 (.pointer (some ⟨g1, 0, none⟩)), pl 7 (.slice A14 left5.length c14), pl 9 (.int .i64 won3), pl 10 (.int .i64 i2)] a ∧ Sep w0 B w (blk g1 24 #[.int .i64 (w64 (1 + r1)), .int .i64 (w64 (1 + r1)), .slice A13 g4.length c13] :: own 3 (.slice A13 g4.length c13) (vI g4) :: own 3 (.slice A14 left5.length c14) (vI left5) :: fs) ∧ ((gameroomtop_TopHex_J6 i2) g4 left5 won3).bind φ2 = some r) ?_ ?_
        · rintro a w ⟨g4, left5, won3, A13, c13, A14, c14, hF, hS, hm⟩
          unfold gameroomtop_TopHex_J6 at hm
          refine reg1 [] [] [1, 5, 6, 7, 9, 10] [pl 1 (.slice A1 raw1.length c1), pl 5 (.int .i64 (w64 (1 + r1))), pl 6 (.pointer (some ⟨g1, 0, none⟩)), pl 7 (.slice A14 left5.length c14), pl 9 (.int .i64 won3), pl 10 (.int .i64 (w64 (i2 + 1)))] hF hS Fol (by kernel_rfl) (by kernel_rfl) (by kernel_rfl) ?_ (fun a w hF hS => ?_)
          · exact obs_nil
          refine then_n ?_
          rw [← hφ2] at hm
          exact ⟨(g4, left5, won3, (w64 (i2 + 1))), ⟨A13, c13, A14, c14, hF.weak [1, 5, 6, 7, 9, 10] (by kernel_rfl), hS⟩, hm⟩
        · refine wpIn_block ?_
          refine reg [] [] [1, 5, 6, 7, 9, 10, 11] [pl 1 (.slice A1 raw1.length c1), pl 5 (.int .i64 (w64 (1 + r1))), pl 6 (.pointer (some ⟨g1, 0, none⟩)), pl 7 (.slice A8 left4.length c8), pl 9 (.int .i64 won1), pl 10 (.int .i64 i2), pl 11 (.int .i64 0)] hF hS Fol (by kernel_rfl) (by kernel_rfl) (by kernel_rfl) ?_ (fun a w hF hS => ?_)
          · exact obs_nil
          refine seq_cut (fun a w => ∃ (k1 : Int), Fr 154 [pl 1 (.slice A1 raw1.length c1), pl 5 (.int .i64 (w64 (1 + r1))), pl 6 (.pointer (some ⟨g1, 0, none⟩)), pl 7 (.slice A8 left4.length c8), pl 9 (.int .i64 won1), pl 10 (.int .i64 i2), pl 11 (.int .i64 k1)] a ∧ Sep w0 B w (blk g1 24 #[.int .i64 (w64 (1 + r1)), .int .i64 (w64 (1 + r1)), .slice A7 g3.length c7] :: own 3 (.slice A7 g3.length c7) (vI g3) :: own 3 (.slice A8 left4.length c8) (vI left4) :: fs) ∧ ((gameroomtop_TopHex_J7 r1 g3 left4 won1 i2) k1).bind φ2 = some r) ?_ ?_
          · rintro a w ⟨k1, hF, hS, hm⟩
            unfold gameroomtop_TopHex_J7 at hm
            obtain ⟨hp4, hm⟩ := asrt_b hm
            refine reg [⟨true, [], vS (Instr.indexAt 22 (.slice A8 left4.length c8) (.int .i64 k1)), .pointer (some (sAddr A8 k1))⟩, ⟨false, [], vS (Instr.loadAt 3 (.pointer (some (sAddr A8 k1)))), .int .i64 (geti left4 k1)⟩] [none, none, some (.pointer (some (sAddr A8 k1))), some (.int .i64 (geti left4 k1)), none] [1, 5, 6, 7, 9, 10, 11, 12] [pl 1 (.slice A1 raw1.length c1), pl 5 (.int .i64 (w64 (1 + r1))), pl 6 (.pointer (some ⟨g1, 0, none⟩)), pl 7 (.slice A8 left4.length c8), pl 9 (.int .i64 won1), pl 10 (.int .i64 i2), pl 11 (.int .i64 k1), pl 12 (.int .i64 (geti left4 k1))] hF hS Fol (by kernel_rfl) (by kernel_rfl) (by kernel_rfl) ?_ (fun a w hF hS => ?_)
            · exact obs_cons (ob_ix1 (f := (Value.int .i64)) (m := left4) Und22 hi3 hs3 (hS.at_ 2 rfl).rd rfl (fun _ => hp4)) <| obs_cons (ob_get1 (n := left4.length) (m := left4) (Value.int .i64) (0 : Int) Agg3 (fun _ hS => ⟨_, (hS.at_ 2 rfl).rd⟩) (fun _ hS => rfl) (fun _ => hp4)) <| obs_nil
            refine wpIn_seq ?_
            obtain ⟨hp5, hm⟩ := asrt_b hm
            obtain ⟨hp6, hm⟩ := asrt_b hm
            obtain ⟨hp7, hm⟩ := asrt_b hm
            obtain ⟨hp8, hm⟩ := asrt_b hm
            refine regMix4 [0, 1, 2, 4, 5, 6, 7] [3, 8, 9] [⟨true, [], vS (Instr.sliceAt 22 (.slice A8 left4.length c8) none (some (.int .i64 k1)) none), .slice (cutAddr A8 c8 (0 : Int)) ((cut left4 (0 : Int) k1).length) (c8 - Int.toNat (0 : Int))⟩, ⟨true, [], vS (Instr.sliceAt 22 (.slice A8 left4.length c8) (some (.int .i64 (w64 (k1 + 1)))) none none), .slice (cutAddr A8 c8 (w64 (k1 + 1))) ((cut left4 (w64 (k1 + 1)) (left4.length : Int)).length) (c8 - Int.toNat (w64 (k1 + 1)))⟩] [none, none, some (.slice (cutAddr A8 c8 (0 : Int)) ((cut left4 (0 : Int) k1).length) (c8 - Int.toNat (0 : Int))), none, none, none, some (.slice (cutAddr A8 c8 (w64 (k1 + 1))) ((cut left4 (w64 (k1 + 1)) (left4.length : Int)).length) (c8 - Int.toNat (w64 (k1 + 1))))] [1, 5, 6, 9, 10, 12, 64, 69] [pl 1 (.slice A1 raw1.length c1), pl 5 (.int .i64 (w64 (1 + r1))), pl 6 (.pointer (some ⟨g1, 0, none⟩)), pl 9 (.int .i64 won1), pl 10 (.int .i64 i2), pl 12 (.int .i64 (geti left4 k1)), pl 64 (.slice (cutAddr A8 c8 (0 : Int)) ((cut left4 (0 : Int) k1).length) (c8 - Int.toNat (0 : Int))), pl 69 (.slice (cutAddr A8 c8 (w64 (k1 + 1))) ((cut left4 (w64 (k1 + 1)) (left4.length : Int)).length) (c8 - Int.toNat (w64 (k1 + 1))))] hF hS Fol (by kernel_rfl) (by kernel_rfl) (by kernel_rfl) (by kernel_rfl) (by kernel_rfl) ?_ (fun a w hF hS => ?_)
            · exact obs_cons (ob_cutn (l := left4) (k := .i64) (k' := .i64) Und22 hi3 hs3 rfl (.inr ⟨rfl, rfl⟩) (.inl rfl) (fun _ => hp5) ((hS.at_ 2 rfl).cap1)) <| obs_cons (ob_cutn (l := left4) (k := .i64) (k' := .i64) Und22 hi3 hs3 rfl (.inl rfl) (.inr ⟨rfl, rfl⟩) (fun _ => hp6) ((hS.at_ 2 rfl).cap1)) <| obs_nil
            have hS : Sep w0 B w (own 3 (.slice none 0 0) (vI ([] : List Int)) :: blk g1 24 #[.int .i64 (w64 (1 + r1)), .int .i64 (w64 (1 + r1)), .slice A7 g3.length c7] :: own 3 (.slice A7 g3.length c7) (vI g3) :: own 3 (.slice A8 left4.length c8) (vI left4) :: fs) := hS.nil 3
            obtain ⟨A9, c9, w, hrun, hS⟩ := run_app1 (P := Try.prog) (t := 22) (m := ([] : List Int)) (ys := (cut left4 (0 : Int) k1)) (A2 := (cutAddr A8 c8 (0 : Int))) (m2 := (cut left4 (0 : Int) k1).length) (c2 := (c8 - Int.toNat (0 : Int))) (Value.int .i64) (0 : Int) (hS.at_ 0 rfl) (Rd.cutF (hS.at_ 3 rfl).rd hp5 ((hS.at_ 3 rfl).cap1)) rfl 22 Und22 hi3 hz3 hs3 (by omega) rfl (fun _ => rfl) hp7
            have hS : Sep w0 B w (own 3 (.slice A9 (([] ++ (cut left4 (0 : Int) k1)).length) c9) (vI ([] ++ (cut left4 (0 : Int) k1))) :: blk g1 24 #[.int .i64 (w64 (1 + r1)), .int .i64 (w64 (1 + r1)), .slice A7 g3.length c7] :: own 3 (.slice A7 g3.length c7) (vI g3) :: own 3 (.slice A8 left4.length c8) (vI left4) :: fs) := hS
            refine at_do (d := 65) hF (by kernel_rfl) (by kernel_rfl) hrun (fun a hF => ?_)
            obtain ⟨A10, c10, w, hrun, hS⟩ := run_app1 (P := Try.prog) (t := 22) (m := ([] ++ (cut left4 (0 : Int) k1))) (ys := (cut left4 (w64 (k1 + 1)) (left4.length : Int))) (A2 := (cutAddr A8 c8 (w64 (k1 + 1)))) (m2 := (cut left4 (w64 (k1 + 1)) (left4.length : Int)).length) (c2 := (c8 - Int.toNat (w64 (k1 + 1)))) (Value.int .i64) (0 : Int) (hS.at_ 0 rfl) (Rd.cutF (hS.at_ 3 rfl).rd hp6 ((hS.at_ 3 rfl).cap1)) rfl 22 Und22 hi3 hz3 hs3 (by omega) rfl (fun _ => rfl) hp8
            have hS : Sep w0 B w (own 3 (.slice A10 ((([] ++ (cut left4 (0 : Int) k1)) ++ (cut left4 (w64 (k1 + 1)) (left4.length : Int))).length) c10) (vI (([] ++ (cut left4 (0 : Int) k1)) ++ (cut left4 (w64 (k1 + 1)) (left4.length : Int)))) :: blk g1 24 #[.int .i64 (w64 (1 + r1)), .int .i64 (w64 (1 + r1)), .slice A7 g3.length c7] :: own 3 (.slice A7 g3.length c7) (vI g3) :: own 3 (.slice A8 left4.length c8) (vI left4) :: fs) := hS
            refine at_do (d := 70) hF (by kernel_rfl) (by kernel_rfl) hrun (fun a hF => ?_)
            refine at_run 1 [] [] [1, 5, 6, 7, 9, 10, 12] [pl 1 (.slice A1 raw1.length c1), pl 5 (.int .i64 (w64 (1 + r1))), pl 6 (.pointer (some ⟨g1, 0, none⟩)), pl 7 (.slice A10 ((([] ++ (cut left4 (0 : Int) k1)) ++ (cut left4 (w64 (k1 + 1)) (left4.length : Int))).length) c10), pl 9 (.int .i64 won1), pl 10 (.int .i64 i2), pl 12 (.int .i64 (geti left4 k1))] hF hS (by kernel_rfl) (by kernel_rfl) ?_ (fun a w hF hS => ?_)
            · exact obs_nil
            refine at_end [1, 5, 6, 7, 9, 10, 12] [pl 1 (.slice A1 raw1.length c1), pl 5 (.int .i64 (w64 (1 + r1))), pl 6 (.pointer (some ⟨g1, 0, none⟩)), pl 7 (.slice A10 ((([] ++ (cut left4 (0 : Int) k1)) ++ (cut left4 (w64 (k1 + 1)) (left4.length : Int))).length) c10), pl 9 (.int .i64 won1), pl 10 (.int .i64 i2), pl 12 (.int .i64 (geti left4 k1))] hF rfl (by kernel_rfl) (fun hF => ?_)
            refine np_n ?_
            refine then_n ?_
            refine seqR ?_
            obtain ⟨hp9, hm⟩ := asrt_b hm
            refine at_run 2 [⟨false, [], vS (Instr.loadAt 22 (.pointer (some ⟨g1, 2, none⟩))), .slice A7 g3.length c7⟩] [none, some (.slice A7 g3.length c7)] [1, 5, 6, 7, 9, 10, 12, 72] [pl 1 (.slice A1 raw1.length c1), pl 5 (.int .i64 (w64 (1 + r1))), pl 6 (.pointer (some ⟨g1, 0, none⟩)), pl 7 (.slice A10 ((([] ++ (cut left4 (0 : Int) k1)) ++ (cut left4 (w64 (k1 + 1)) (left4.length : Int))).length) c10), pl 9 (.int .i64 won1), pl 10 (.int .i64 i2), pl 12 (.int .i64 (geti left4 k1)), pl 72 (.slice A7 g3.length c7)] hF hS (by kernel_rfl) (by kernel_rfl) ?_ (fun a w hF hS => ?_)
            · exact obs_cons (ob_load Agg22 (fun _ _ hS => (hS.at_ 1 rfl).cell rfl)) <| obs_nil
            have hS : Sep w0 B w (own 3 (.slice none 0 0) (vI ([] : List Int)) :: own 3 (.slice A10 ((([] ++ (cut left4 (0 : Int) k1)) ++ (cut left4 (w64 (k1 + 1)) (left4.length : Int))).length) c10) (vI (([] ++ (cut left4 (0 : Int) k1)) ++ (cut left4 (w64 (k1 + 1)) (left4.length : Int)))) :: blk g1 24 #[.int .i64 (w64 (1 + r1)), .int .i64 (w64 (1 + r1)), .slice A7 g3.length c7] :: own 3 (.slice A7 g3.length c7) (vI g3) :: own 3 (.slice A8 left4.length c8) (vI left4) :: fs) := hS.nil 3
            obtain ⟨A11, c11, w, hrun, hS⟩ := run_app1 (P := Try.prog) (t := 22) (m := ([] : List Int)) (ys := g3) (A2 := A7) (m2 := g3.length) (c2 := c7) (Value.int .i64) (0 : Int) (hS.at_ 0 rfl) (hS.at_ 3 rfl).rd rfl 22 Und22 hi3 hz3 hs3 (by omega) rfl (fun _ => rfl) hp9
            have hS : Sep w0 B w (own 3 (.slice A11 (([] ++ g3).length) c11) (vI ([] ++ g3)) :: own 3 (.slice A10 ((([] ++ (cut left4 (0 : Int) k1)) ++ (cut left4 (w64 (k1 + 1)) (left4.length : Int))).length) c10) (vI (([] ++ (cut left4 (0 : Int) k1)) ++ (cut left4 (w64 (k1 + 1)) (left4.length : Int)))) :: blk g1 24 #[.int .i64 (w64 (1 + r1)), .int .i64 (w64 (1 + r1)), .slice A7 g3.length c7] :: own 3 (.slice A7 g3.length c7) (vI g3) :: own 3 (.slice A8 left4.length c8) (vI left4) :: fs) := hS
            refine at_do (d := 73) hF (by kernel_rfl) (by kernel_rfl) hrun (fun a hF => ?_)
            refine at_run 1 [] [] [1, 5, 6, 7, 9, 10, 12, 13] [pl 1 (.slice A1 raw1.length c1), pl 5 (.int .i64 (w64 (1 + r1))), pl 6 (.pointer (some ⟨g1, 0, none⟩)), pl 7 (.slice A10 ((([] ++ (cut left4 (0 : Int) k1)) ++ (cut left4 (w64 (k1 + 1)) (left4.length : Int))).length) c10), pl 9 (.int .i64 won1), pl 10 (.int .i64 i2), pl 12 (.int .i64 (geti left4 k1)), pl 13 (.slice A11 (([] ++ g3).length) c11)] hF hS (by kernel_rfl) (by kernel_rfl) ?_ (fun a w hF hS => ?_)
            · exact obs_nil
            refine at_end [1, 5, 6, 7, 9, 10, 12, 13] [pl 1 (.slice A1 raw1.length c1), pl 5 (.int .i64 (w64 (1 + r1))), pl 6 (.pointer (some ⟨g1, 0, none⟩)), pl 7 (.slice A10 ((([] ++ (cut left4 (0 : Int) k1)) ++ (cut left4 (w64 (k1 + 1)) (left4.length : Int))).length) c10), pl 9 (.int .i64 won1), pl 10 (.int .i64 i2), pl 12 (.int .i64 (geti left4 k1)), pl 13 (.slice A11 (([] ++ g3).length) c11)] hF rfl (by kernel_rfl) (fun hF => ?_)
            refine then_n ?_
            refine seqR ?_
            obtain ⟨hp10, hm⟩ := asrt_b hm
            refine at_run 6 [⟨true, [], vS (Instr.indexAt 22 (.slice A11 (([] ++ g3).length) c11) (.int .i64 (geti left4 k1))), .pointer (some (sAddr A11 (geti left4 k1)))⟩] [none, none, none, none, none, some (.pointer (some (sAddr A11 (geti left4 k1))))] [1, 5, 6, 7, 9, 10, 13, 78, 79] [pl 1 (.slice A1 raw1.length c1), pl 5 (.int .i64 (w64 (1 + r1))), pl 6 (.pointer (some ⟨g1, 0, none⟩)), pl 7 (.slice A10 ((([] ++ (cut left4 (0 : Int) k1)) ++ (cut left4 (w64 (k1 + 1)) (left4.length : Int))).length) c10), pl 9 (.int .i64 won1), pl 10 (.int .i64 i2), pl 13 (.slice A11 (([] ++ g3).length) c11), pl 78 (.int .i64 (w64 (1 + (Int.tmod i2 2)))), pl 79 (.pointer (some (sAddr A11 (geti left4 k1))))] hF hS (by kernel_rfl) (by kernel_rfl) ?_ (fun a w hF hS => ?_)
            · exact obs_cons (ob_ix1 (f := (Value.int .i64)) (m := ([] ++ g3)) Und22 hi3 hs3 (hS.at_ 0 rfl).rd rfl (fun _ => hp10)) <| obs_nil
            obtain ⟨w, hrun, hS⟩ := run_set1 (P := Try.prog) (t := 3) (x := (w64 (1 + (Int.tmod i2 2)))) (Value.int .i64) (hS.at_ 0 rfl) hi3 hs3 rfl rfl hp10
            refine at_skip hF (by kernel_rfl) hrun ?_
            have hS : Sep w0 B w (own 3 (.slice A11 (([] ++ g3).length) c11) (vI (([] ++ g3).set (Int.toNat (geti left4 k1)) (w64 (1 + (Int.tmod i2 2))))) :: own 3 (.slice A10 ((([] ++ (cut left4 (0 : Int) k1)) ++ (cut left4 (w64 (k1 + 1)) (left4.length : Int))).length) c10) (vI (([] ++ (cut left4 (0 : Int) k1)) ++ (cut left4 (w64 (k1 + 1)) (left4.length : Int)))) :: blk g1 24 #[.int .i64 (w64 (1 + r1)), .int .i64 (w64 (1 + r1)), .slice A7 g3.length c7] :: own 3 (.slice A7 g3.length c7) (vI g3) :: own 3 (.slice A8 left4.length c8) (vI left4) :: fs) := hS
            refine at_end [1, 5, 6, 7, 9, 10, 13] [pl 1 (.slice A1 raw1.length c1), pl 5 (.int .i64 (w64 (1 + r1))), pl 6 (.pointer (some ⟨g1, 0, none⟩)), pl 7 (.slice A10 ((([] ++ (cut left4 (0 : Int) k1)) ++ (cut left4 (w64 (k1 + 1)) (left4.length : Int))).length) c10), pl 9 (.int .i64 won1), pl 10 (.int .i64 i2), pl 13 (.slice A11 (([] ++ g3).length) c11)] hF rfl (by kernel_rfl) (fun hF => ?_)
            refine then_n ?_
            refine seqR ?_
            refine at_run 4 [] [] [1, 5, 6, 7, 9, 10, 83] [pl 1 (.slice A1 raw1.length c1), pl 5 (.int .i64 (w64 (1 + r1))), pl 6 (.pointer (some ⟨g1, 0, none⟩)), pl 7 (.slice A10 ((([] ++ (cut left4 (0 : Int) k1)) ++ (cut left4 (w64 (k1 + 1)) (left4.length : Int))).length) c10), pl 9 (.int .i64 won1), pl 10 (.int .i64 i2), pl 83 (.agg #[.int .i64 (w64 (1 + r1)), .int .i64 (w64 (1 + r1)), .slice A11 (([] ++ g3).length) c11])] hF hS (by kernel_rfl) (by kernel_rfl) ?_ (fun a w hF hS => ?_)
            · exact obs_nil
            obtain ⟨w, hrun, hS⟩ := run_putA (P := Try.prog) (t := 24) (us := #[.int .i64 (w64 (1 + r1)), .int .i64 (w64 (1 + r1)), .slice A11 (([] ++ g3).length) c11]) (o := 0) (hS.at_ 2 rfl) (by kernel_rfl) (all_one (by kernel_rfl)) (Nat.le_of_ble_eq_true (by kernel_rfl))
            refine at_skip hF (by kernel_rfl) hrun ?_
            have hS : Sep w0 B w (own 3 (.slice A11 (([] ++ g3).length) c11) (vI (([] ++ g3).set (Int.toNat (geti left4 k1)) (w64 (1 + (Int.tmod i2 2))))) :: own 3 (.slice A10 ((([] ++ (cut left4 (0 : Int) k1)) ++ (cut left4 (w64 (k1 + 1)) (left4.length : Int))).length) c10) (vI (([] ++ (cut left4 (0 : Int) k1)) ++ (cut left4 (w64 (k1 + 1)) (left4.length : Int)))) :: blk g1 24 #[.int .i64 (w64 (1 + r1)), .int .i64 (w64 (1 + r1)), .slice A11 (([] ++ g3).length) c11] :: own 3 (.slice A7 g3.length c7) (vI g3) :: own 3 (.slice A8 left4.length c8) (vI left4) :: fs) := hS
            refine at_end [1, 5, 6, 7, 9, 10] [pl 1 (.slice A1 raw1.length c1), pl 5 (.int .i64 (w64 (1 + r1))), pl 6 (.pointer (some ⟨g1, 0, none⟩)), pl 7 (.slice A10 ((([] ++ (cut left4 (0 : Int) k1)) ++ (cut left4 (w64 (k1 + 1)) (left4.length : Int))).length) c10), pl 9 (.int .i64 won1), pl 10 (.int .i64 i2)] hF rfl (by kernel_rfl) (fun hF => ?_)
            refine then_n ?_
            refine seqR ?_
            obtain ⟨r3, hr3, hm⟩ := call_b hm
            refine at_run 1 [⟨false, [], vS (Instr.loadAt 24 (.pointer (some ⟨g1, 0, none⟩))), .agg #[.int .i64 (w64 (1 + r1)), .int .i64 (w64 (1 + r1)), .slice A11 (([] ++ g3).length) c11]⟩] [some (.agg #[.int .i64 (w64 (1 + r1)), .int .i64 (w64 (1 + r1)), .slice A11 (([] ++ g3).length) c11])] [1, 5, 6, 7, 9, 10, 85] [pl 1 (.slice A1 raw1.length c1), pl 5 (.int .i64 (w64 (1 + r1))), pl 6 (.pointer (some ⟨g1, 0, none⟩)), pl 7 (.slice A10 ((([] ++ (cut left4 (0 : Int) k1)) ++ (cut left4 (w64 (k1 + 1)) (left4.length : Int))).length) c10), pl 9 (.int .i64 won1), pl 10 (.int .i64 i2), pl 85 (.agg #[.int .i64 (w64 (1 + r1)), .int .i64 (w64 (1 + r1)), .slice A11 (([] ++ g3).length) c11])] hF hS (by kernel_rfl) (by kernel_rfl) ?_ (fun a w hF hS => ?_)
            · exact obs_cons (ob_loadA (cs := #[.int .i64 (w64 (1 + r1)), .int .i64 (w64 (1 + r1)), .slice A11 (([] ++ g3).length) c11]) (by kernel_rfl) (by kernel_rfl) (fun _ _ hS => (hS.at_ 2 rfl).cellsAt 0 (by rfl))) <| obs_nil
            refine at_call (f := 34) (args := #[.agg #[.int .i64 (w64 (1 + r1)), .int .i64 (w64 (1 + r1)), .slice A11 (([] ++ g3).length) c11]]) (d := 86) hF (by kernel_rfl) (by kernel_rfl) Try.func34 (by kernel_rfl) rfl (hex_Joined_w hr3 hS (fun _ hS => (hS.at_ 0 rfl).rd) ((hS.at_ 0 rfl).cap1) ((hS.at_ 0 rfl).len1)) (fun v a w hR hF => ?_)
            clear hS
            obtain ⟨A12, c12, rfl, hS⟩ := hR
            have hS : Sep w0 B w (own 3 (.slice A12 r3.2.1.length c12) (vI r3.2.1) :: own 3 (.slice A11 (([] ++ g3).length) c11) (vI (([] ++ g3).set (Int.toNat (geti left4 k1)) (w64 (1 + (Int.tmod i2 2))))) :: own 3 (.slice A10 ((([] ++ (cut left4 (0 : Int) k1)) ++ (cut left4 (w64 (k1 + 1)) (left4.length : Int))).length) c10) (vI (([] ++ (cut left4 (0 : Int) k1)) ++ (cut left4 (w64 (k1 + 1)) (left4.length : Int)))) :: blk g1 24 #[.int .i64 (w64 (1 + r1)), .int .i64 (w64 (1 + r1)), .slice A11 (([] ++ g3).length) c11] :: own 3 (.slice A7 g3.length c7) (vI g3) :: own 3 (.slice A8 left4.length c8) (vI left4) :: fs) := hS
            refine at_run 7 [] [] [1, 5, 6, 7, 9, 10, 14, 16] [pl 1 (.slice A1 raw1.length c1), pl 5 (.int .i64 (w64 (1 + r1))), pl 6 (.pointer (some ⟨g1, 0, none⟩)), pl 7 (.slice A10 ((([] ++ (cut left4 (0 : Int) k1)) ++ (cut left4 (w64 (k1 + 1)) (left4.length : Int))).length) c10), pl 9 (.int .i64 won1), pl 10 (.int .i64 i2), pl 14 (.int .i64 r3.1), pl 16 (.int .i64 r3.2.2)] hF hS (by kernel_rfl) (by kernel_rfl) ?_ (fun a w hF hS => ?_)
            · exact obs_nil
            refine at_end [1, 5, 6, 7, 9, 10, 14, 16] [pl 1 (.slice A1 raw1.length c1), pl 5 (.int .i64 (w64 (1 + r1))), pl 6 (.pointer (some ⟨g1, 0, none⟩)), pl 7 (.slice A10 ((([] ++ (cut left4 (0 : Int) k1)) ++ (cut left4 (w64 (k1 + 1)) (left4.length : Int))).length) c10), pl 9 (.int .i64 won1), pl 10 (.int .i64 i2), pl 14 (.int .i64 r3.1), pl 16 (.int .i64 r3.2.2)] hF rfl (by kernel_rfl) (fun hF => ?_)
            refine then_n ?_
            obtain ⟨r4, hr4, hm⟩ := call_b hm
            refine reg [⟨false, [], vS (Instr.loadAt 24 (.pointer (some ⟨g1, 0, none⟩))), .agg #[.int .i64 (w64 (1 + r1)), .int .i64 (w64 (1 + r1)), .slice A11 (([] ++ g3).length) c11]⟩, ⟨false, [], callFunc 35 #[.agg #[.int .i64 (w64 (1 + r1)), .int .i64 (w64 (1 + r1)), .slice A11 (([] ++ g3).length) c11], .int .i64 1], .tuple #[.int .i64 r4.1, .int .i64 r4.2]⟩] [some (.agg #[.int .i64 (w64 (1 + r1)), .int .i64 (w64 (1 + r1)), .slice A11 (([] ++ g3).length) c11]), some (.tuple #[.int .i64 r4.1, .int .i64 r4.2]), none, none, none, none, none] [1, 5, 6, 7, 9, 10, 14, 16, 17, 18] [pl 1 (.slice A1 raw1.length c1), pl 5 (.int .i64 (w64 (1 + r1))), pl 6 (.pointer (some ⟨g1, 0, none⟩)), pl 7 (.slice A10 ((([] ++ (cut left4 (0 : Int) k1)) ++ (cut left4 (w64 (k1 + 1)) (left4.length : Int))).length) c10), pl 9 (.int .i64 won1), pl 10 (.int .i64 i2), pl 14 (.int .i64 r3.1), pl 16 (.int .i64 r3.2.2), pl 17 (.int .i64 r4.1), pl 18 (.int .i64 r4.2)] hF hS Fol (by kernel_rfl) (by kernel_rfl) (by kernel_rfl) ?_ (fun a w hF hS => ?_)
            · exact obs_cons (ob_loadA (cs := #[.int .i64 (w64 (1 + r1)), .int .i64 (w64 (1 + r1)), .slice A11 (([] ++ g3).length) c11]) (by kernel_rfl) (by kernel_rfl) (fun _ _ hS => (hS.at_ 3 rfl).cellsAt 0 (by rfl))) <| obs_cons (ob_call Try.func35 (by kernel_rfl) rfl (fun _ _ hS => hex_Shortest_w hr4 hS (fun _ hS => (hS.at_ 1 rfl).rd) ((hS.at_ 1 rfl).cap1) ((hS.at_ 1 rfl).len1))) <| obs_nil
            obtain ⟨r5, hr5, hm⟩ := call_b hm
            refine reg [⟨false, [], vS (Instr.loadAt 24 (.pointer (some ⟨g1, 0, none⟩))), .agg #[.int .i64 (w64 (1 + r1)), .int .i64 (w64 (1 + r1)), .slice A11 (([] ++ g3).length) c11]⟩, ⟨false, [], callFunc 35 #[.agg #[.int .i64 (w64 (1 + r1)), .int .i64 (w64 (1 + r1)), .slice A11 (([] ++ g3).length) c11], .int .i64 2], .tuple #[.int .i64 r5.1, .int .i64 r5.2]⟩] [some (.agg #[.int .i64 (w64 (1 + r1)), .int .i64 (w64 (1 + r1)), .slice A11 (([] ++ g3).length) c11]), some (.tuple #[.int .i64 r5.1, .int .i64 r5.2]), none, none, none, none, none] [1, 5, 6, 7, 9, 10, 14, 16, 17, 18, 19, 20] [pl 1 (.slice A1 raw1.length c1), pl 5 (.int .i64 (w64 (1 + r1))), pl 6 (.pointer (some ⟨g1, 0, none⟩)), pl 7 (.slice A10 ((([] ++ (cut left4 (0 : Int) k1)) ++ (cut left4 (w64 (k1 + 1)) (left4.length : Int))).length) c10), pl 9 (.int .i64 won1), pl 10 (.int .i64 i2), pl 14 (.int .i64 r3.1), pl 16 (.int .i64 r3.2.2), pl 17 (.int .i64 r4.1), pl 18 (.int .i64 r4.2), pl 19 (.int .i64 r5.1), pl 20 (.int .i64 r5.2)] hF hS Fol (by kernel_rfl) (by kernel_rfl) (by kernel_rfl) ?_ (fun a w hF hS => ?_)
            · exact obs_cons (ob_loadA (cs := #[.int .i64 (w64 (1 + r1)), .int .i64 (w64 (1 + r1)), .slice A11 (([] ++ g3).length) c11]) (by kernel_rfl) (by kernel_rfl) (fun _ _ hS => (hS.at_ 3 rfl).cellsAt 0 (by rfl))) <| obs_cons (ob_call Try.func35 (by kernel_rfl) rfl (fun _ _ hS => hex_Shortest_w hr5 hS (fun _ hS => (hS.at_ 1 rfl).rd) ((hS.at_ 1 rfl).cap1) ((hS.at_ 1 rfl).len1))) <| obs_nil
            refine seq_cut (fun a w => Fr 154 [pl 1 (.slice A1 raw1.length c1), pl 5 (.int .i64 (w64 (1 + r1))), pl 6 (.pointer (some ⟨g1, 0, none⟩)), pl 7 (.slice A10 ((([] ++ (cut left4 (0 : Int) k1)) ++ (cut left4 (w64 (k1 + 1)) (left4.length : Int))).length) c10), pl 10 (.int .i64 i2), pl 14 (.int .i64 r3.1)] a ∧ Sep w0 B w (blk g1 24 #[.int .i64 (w64 (1 + r1)), .int .i64 (w64 (1 + r1)), .slice A11 (([] ++ g3).length) c11] :: own 3 (.slice A11 (([] ++ g3).length) c11) (vI (([] ++ g3).set (Int.toNat (geti left4 k1)) (w64 (1 + (Int.tmod i2 2))))) :: own 3 (.slice A10 ((([] ++ (cut left4 (0 : Int) k1)) ++ (cut left4 (w64 (k1 + 1)) (left4.length : Int))).length) c10) (vI (([] ++ (cut left4 (0 : Int) k1)) ++ (cut left4 (w64 (k1 + 1)) (left4.length : Int)))) :: fs) ∧ ((gameroomtop_TopHex_J8 g3 left4 i2 k1 r3)).bind φ2 = some r) ?_ ?_
            · rintro a w ⟨hF, hS, hm⟩
              unfold gameroomtop_TopHex_J8 at hm
              refine reg1 [] [] [1, 5, 6, 7, 9, 10] [pl 1 (.slice A1 raw1.length c1), pl 5 (.int .i64 (w64 (1 + r1))), pl 6 (.pointer (some ⟨g1, 0, none⟩)), pl 7 (.slice A10 ((([] ++ (cut left4 (0 : Int) k1)) ++ (cut left4 (w64 (k1 + 1)) (left4.length : Int))).length) c10), pl 9 (.int .i64 r3.1), pl 10 (.int .i64 i2)] hF hS Fol (by kernel_rfl) (by kernel_rfl) (by kernel_rfl) ?_ (fun a w hF hS => ?_)
              · exact obs_nil
              refine block_n ?_
              refine then_n ?_
              have hl3 := (hS.at_ 1 rfl).len1
              have hS := (hS.at_ 1 rfl).reN hl3
              have hS := (hS.at_ 0 rfl).reBlk (congrArg (fun k9 => (#[.int .i64 (w64 (1 + r1)), .int .i64 (w64 (1 + r1)), .slice A11 k9 c11] : Array Value)) hl3)
              have hS : Sep w0 B w (blk g1 24 #[.int .i64 (w64 (1 + r1)), .int .i64 (w64 (1 + r1)), .slice A11 ((([] ++ g3).set (Int.toNat (geti left4 k1)) (w64 (1 + (Int.tmod i2 2)))).length) c11] :: own 3 (.slice A11 ((([] ++ g3).set (Int.toNat (geti left4 k1)) (w64 (1 + (Int.tmod i2 2)))).length) c11) (vI (([] ++ g3).set (Int.toNat (geti left4 k1)) (w64 (1 + (Int.tmod i2 2))))) :: own 3 (.slice A10 ((([] ++ (cut left4 (0 : Int) k1)) ++ (cut left4 (w64 (k1 + 1)) (left4.length : Int))).length) c10) (vI (([] ++ (cut left4 (0 : Int) k1)) ++ (cut left4 (w64 (k1 + 1)) (left4.length : Int)))) :: fs) := hS
              exact ⟨(([] ++ g3).set (Int.toNat (geti left4 k1)) (w64 (1 + (Int.tmod i2 2)))), (([] ++ (cut left4 (0 : Int) k1)) ++ (cut left4 (w64 (k1 + 1)) (left4.length : Int))), r3.1, A11, c11, A10, c10, hF.weak [1, 5, 6, 7, 9, 10] (by kernel_rfl), hS, hm⟩
            · refine reg [] [] [1, 5, 6, 7, 10, 14, 146] [pl 1 (.slice A1 raw1.length c1), pl 5 (.int .i64 (w64 (1 + r1))), pl 6 (.pointer (some ⟨g1, 0, none⟩)), pl 7 (.slice A10 ((([] ++ (cut left4 (0 : Int) k1)) ++ (cut left4 (w64 (k1 + 1)) (left4.length : Int))).length) c10), pl 10 (.int .i64 i2), pl 14 (.int .i64 r3.1), pl 146 (.bool ((((((((r3.2.2 != 0) || (r4.2 != 0)) || (r5.2 != 0)) || ((decide ((0 : Int) < won1)) && (r3.1 != won1))) || ((r4.1 == (-1)) != (r3.1 == 2))) || ((r5.1 == (-1)) != (r3.1 == 1))) || ((r4.1 == 0) != (r3.1 == 1))) || ((r5.1 == 0) != (r3.1 == 2))))] hF hS Fol (by kernel_rfl) (by kernel_rfl) (by kernel_rfl) ?_ (fun a w hF hS => ?_)
              · exact obs_nil
              refine cond_ev (t := 146) (b := (((((((r3.2.2 != 0) || (r4.2 != 0)) || (r5.2 != 0)) || ((decide ((0 : Int) < won1)) && (r3.1 != won1))) || ((r4.1 == (-1)) != (r3.1 == 2))) || ((r5.1 == (-1)) != (r3.1 == 1))) || ((r4.1 == 0) != (r3.1 == 1))) || ((r5.1 == 0) != (r3.1 == 2))) hF (by kernel_rfl) (fun hb => ?_) (fun hb => ?_)
              · replace hm := if_t hm hb
                refine reg [] [] [4] [pl 4 (.bool false)] hF hS Fol (by kernel_rfl) (by kernel_rfl) (by kernel_rfl) ?_ (fun a w hF hS => ?_)
                · exact obs_nil
                refine wpIn_ret ?_
                refine then_r (block_r (then_r (then_r (block_r (then_r ?_)))))
                rw [← hφ2] at hm
                replace hm := done_b hm
                unfold gameroomtop_TopHex_K2 at hm
                try dsimp only at hm
                have hS := hS.pickN 6 [] (by decide)
                have hm : some false = some r := hm
                obtain rfl := Option.some.inj hm
                exact retV (rs := [.tmp 4]) (vs := [.bool false]) hF rfl (rv_t (by kernel_rfl) <| rv_nil) rfl ⟨rfl, hS⟩
              · replace hm := if_f hm hb
                refine wpIn_skip ?_
                refine then_n ?_
                have hS := hS.pickN 6 [3, 1, 2] (by decide)
                exact ⟨hF.weak [1, 5, 6, 7, 10, 14] (by kernel_rfl), hS, hm⟩
          · refine reg [] [] [1, 5, 6, 7, 9, 10, 11, 50] [pl 1 (.slice A1 raw1.length c1), pl 5 (.int .i64 (w64 (1 + r1))), pl 6 (.pointer (some ⟨g1, 0, none⟩)), pl 7 (.slice A8 left4.length c8), pl 9 (.int .i64 won1), pl 10 (.int .i64 i2), pl 11 (.int .i64 0), pl 50 (.bool (decide (i2 < (raw1.length : Int))))] hF hS Fol (by kernel_rfl) (by kernel_rfl) (by kernel_rfl) ?_ (fun a w hF hS => ?_)
            · exact obs_nil
            refine cond_ev (t := 50) (b := decide (i2 < (raw1.length : Int))) hF (by kernel_rfl) (fun hb => ?_) (fun hb => ?_)
            · replace hm := if_t hm hb
              obtain ⟨hp3, hm⟩ := asrt_b hm
              obtain ⟨r2, hr2, hm⟩ := call_b hm
              refine reg1 [⟨true, [], vS (Instr.indexAt 22 (.slice A1 raw1.length c1) (.int .i64 i2)), .pointer (some (sAddr A1 i2))⟩, ⟨false, [], vS (Instr.loadAt 3 (.pointer (some (sAddr A1 i2)))), .int .i64 (geti raw1 i2)⟩, ⟨false, [], callFunc 33 #[.int .i64 (geti raw1 i2), .int .i64 (left4.length : Int)], .int .i64 r2⟩] [none, none, some (.pointer (some (sAddr A1 i2))), some (.int .i64 (geti raw1 i2)), none, none, some (.int .i64 r2), none] [1, 5, 6, 7, 9, 10, 11] [pl 1 (.slice A1 raw1.length c1), pl 5 (.int .i64 (w64 (1 + r1))), pl 6 (.pointer (some ⟨g1, 0, none⟩)), pl 7 (.slice A8 left4.length c8), pl 9 (.int .i64 won1), pl 10 (.int .i64 i2), pl 11 (.int .i64 r2)] hF hS Fol (by kernel_rfl) (by kernel_rfl) (by kernel_rfl) ?_ (fun a w hF hS => ?_)
              · exact obs_cons (ob_ix1 (f := (Value.int .i64)) (m := raw1) Und22 hi3 hs3 (hr_raw1 _ (hS.dropN 3)) rfl (fun _ => hp3)) <| obs_cons (ob_get1 (n := raw1.length) (m := raw1) (Value.int .i64) (0 : Int) Agg3 (fun _ hS => ⟨_, (hr_raw1 _ (hS.dropN 3))⟩) (fun _ hS => rfl) (fun _ => hp3)) <| obs_cons (ob_call Try.func33 (by kernel_rfl) rfl (fun _ _ hS => gameroomtop_picked_w hr2 hS )) <| obs_nil
              refine then_n ?_
              exact ⟨r2, hF.weak [1, 5, 6, 7, 9, 10, 11] (by kernel_rfl), hS, hm⟩
            · replace hm := if_f hm hb
              refine wpIn_skip ?_
              refine then_n ?_
              exact ⟨0, hF.weak [1, 5, 6, 7, 9, 10, 11] (by kernel_rfl), hS, hm⟩
      · refine reg [] [] [1, 5, 6, 7, 9, 10, 44] [pl 1 (.slice A1 raw1.length c1), pl 5 (.int .i64 (w64 (1 + r1))), pl 6 (.pointer (some ⟨g1, 0, none⟩)), pl 7 (.slice A8 left4.length c8), pl 9 (.int .i64 won1), pl 10 (.int .i64 i2), pl 44 (.bool (decide ((0 : Int) < (left4.length : Int))))] hF hS Fol (by kernel_rfl) (by kernel_rfl) (by kernel_rfl) ?_ (fun a w hF hS => ?_)
        · exact obs_nil
        refine cond_ev (t := 44) (b := decide ((0 : Int) < (left4.length : Int))) hF (by kernel_rfl) (fun hb => ?_) (fun hb => ?_)
        · replace hm := if_t hm hb
          refine wpIn_skip ?_
          refine then_n ?_
          exact ⟨hF.weak [1, 5, 6, 7, 9, 10] (by kernel_rfl), hS, hm⟩
        · replace hm := if_f hm hb
          refine wpIn_exit ?_
          refine then_e (then_e (block_e (then_n ?_)))
          have hS := hS.pickN 3 [] (by decide)
          rw [← hφ2] at hm
          replace hm := done_b hm
          unfold gameroomtop_TopHex_K2 at hm
          try dsimp only at hm
          have hm : (gameroomtop_TopHex_J4 won1).bind some = some r := hm
          exact ⟨won1, hF.weak [9] (by kernel_rfl), hS, hm⟩
  · refine reg [] [] [1, 5, 6, 7, 8] [pl 1 (.slice A1 raw1.length c1), pl 5 (.int .i64 (w64 (1 + r1))), pl 6 (.pointer (some ⟨g1, 0, none⟩)), pl 7 (.slice none 0 0), pl 8 (.int .i64 0)] hF hS Fol (by kernel_rfl) (by kernel_rfl) (by kernel_rfl) ?_ (fun a w hF hS => ?_)
    · exact obs_nil
    refine wpIn_block ?_
    have hS : Sep w0 B w (own 3 (.slice none 0 0) (vI ([] : List Int)) :: blk g1 24 #[.int .i64 (w64 (1 + r1)), .int .i64 (w64 (1 + r1)), .slice A2 (Int.toNat (w64 ((w64 (1 + r1)) * (w64 (1 + r1))))) c2] :: own 3 (.slice A2 (Int.toNat (w64 ((w64 (1 + r1)) * (w64 (1 + r1))))) c2) (vI (List.replicate (Int.toNat (w64 ((w64 (1 + r1)) * (w64 (1 + r1))))) (0 : Int))) :: fs) := hS.nil 3
    have hl1 := (hS.at_ 0 rfl).len1
    have hS := (hS.at_ 0 rfl).reN hl1
    have hS : Sep w0 B w (own 3 (.slice none (([] : List Int).length) 0) (vI ([] : List Int)) :: blk g1 24 #[.int .i64 (w64 (1 + r1)), .int .i64 (w64 (1 + r1)), .slice A2 (Int.toNat (w64 ((w64 (1 + r1)) * (w64 (1 + r1))))) c2] :: own 3 (.slice A2 (Int.toNat (w64 ((w64 (1 + r1)) * (w64 (1 + r1))))) c2) (vI (List.replicate (Int.toNat (w64 ((w64 (1 + r1)) * (w64 (1 + r1))))) (0 : Int))) :: fs) := hS
    have hF := hF.cast (t := 7) (v := .slice none 0 0) (v' := .slice none (([] : List Int).length) 0) rfl rfl (congrArg (fun k => Value.slice none k 0) hl1)
    have hS := hS.pickN 3 [1, 2, 0] (by decide)
    refine wp_loop_model (S := (List Int × Int)) (R := (List Int)) (gameroomtop_TopHex_L1 r1) (fun x => ((gameroomtop_TopHex_K1 raw1 r1) x).bind some) r (fun (x : (List Int × Int)) a w => ∃ (A3 : Option Addr) (c3 : Nat), Fr 154 [pl 1 (.slice A1 raw1.length c1), pl 5 (.int .i64 (w64 (1 + r1))), pl 6 (.pointer (some ⟨g1, 0, none⟩)), pl 7 (.slice A3 x.1.length c3), pl 8 (.int .i64 x.2)] a ∧ Sep w0 B w (blk g1 24 #[.int .i64 (w64 (1 + r1)), .int .i64 (w64 (1 + r1)), .slice A2 (Int.toNat (w64 ((w64 (1 + r1)) * (w64 (1 + r1))))) c2] :: own 3 (.slice A2 (Int.toNat (w64 ((w64 (1 + r1)) * (w64 (1 + r1))))) c2) (vI (List.replicate (Int.toNat (w64 ((w64 (1 + r1)) * (w64 (1 + r1))))) (0 : Int))) :: own 3 (.slice A3 x.1.length c3) (vI x.1) :: fs)) (assoc_b hm) ⟨none, 0, hF.weak [1, 5, 6, 7, 8] (by kernel_rfl), hS⟩ ?_
    clear hF hS hm
    rintro nn1 ⟨left1, i1⟩ a w ⟨A3, c3, hF, hS⟩ hm
    generalize hφ1 : stK (gameroomtop_TopHex_L1 r1) nn1 (fun x => ((gameroomtop_TopHex_K1 raw1 r1) x).bind some) = φ1 at hm
    unfold gameroomtop_TopHex_L1 at hm
    dsimp only at hF hS hm
    refine seq_cut (fun a w => Fr 154 [pl 1 (.slice A1 raw1.length c1), pl 5 (.int .i64 (w64 (1 + r1))), pl 6 (.pointer (some ⟨g1, 0, none⟩)), pl 7 (.slice A3 left1.length c3), pl 8 (.int .i64 i1)] a ∧ Sep w0 B w (blk g1 24 #[.int .i64 (w64 (1 + r1)), .int .i64 (w64 (1 + r1)), .slice A2 (Int.toNat (w64 ((w64 (1 + r1)) * (w64 (1 + r1))))) c2] :: own 3 (.slice A2 (Int.toNat (w64 ((w64 (1 + r1)) * (w64 (1 + r1))))) c2) (vI (List.replicate (Int.toNat (w64 ((w64 (1 + r1)) * (w64 (1 + r1))))) (0 : Int))) :: own 3 (.slice A3 left1.length c3) (vI left1) :: fs) ∧ ((gameroomtop_TopHex_J2 left1 i1)).bind φ1 = some r) ?_ ?_
    · rintro a w ⟨hF, hS, hm⟩
      unfold gameroomtop_TopHex_J2 at hm
      refine seq_cut (fun a w => ∃ (left3 : List Int) (A6 : Option Addr) (c6 : Nat), Fr 154 [pl 1 (.slice A1 raw1.length c1), pl 5 (.int .i64 (w64 (1 + r1))), pl 6 (.pointer (some ⟨g1, 0, none⟩)), pl 7 (.slice A6 left3.length c6), pl 8 (.int .i64 i1)] a ∧ Sep w0 B w (blk g1 24 #[.int .i64 (w64 (1 + r1)), .int .i64 (w64 (1 + r1)), .slice A2 (Int.toNat (w64 ((w64 (1 + r1)) * (w64 (1 + r1))))) c2] :: own 3 (.slice A2 (Int.toNat (w64 ((w64 (1 + r1)) * (w64 (1 + r1))))) c2) (vI (List.replicate (Int.toNat (w64 ((w64 (1 + r1)) * (w64 (1 + r1))))) (0 : Int))) :: own 3 (.slice A6 left3.length c6) (vI left3) :: fs) ∧ ((gameroomtop_TopHex_J3 i1) left3).bind φ1 = some r) ?_ ?_
      · rintro a w ⟨left3, A6, c6, hF, hS, hm⟩
        unfold gameroomtop_TopHex_J3 at hm
        refine reg1 [] [] [1, 5, 6, 7, 8] [pl 1 (.slice A1 raw1.length c1), pl 5 (.int .i64 (w64 (1 + r1))), pl 6 (.pointer (some ⟨g1, 0, none⟩)), pl 7 (.slice A6 left3.length c6), pl 8 (.int .i64 (w64 (i1 + 1)))] hF hS Fol (by kernel_rfl) (by kernel_rfl) (by kernel_rfl) ?_ (fun a w hF hS => ?_)
        · exact obs_nil
        refine then_n ?_
        rw [← hφ1] at hm
        exact ⟨(left3, (w64 (i1 + 1))), ⟨A6, c6, hF.weak [1, 5, 6, 7, 8] (by kernel_rfl), hS⟩, hm⟩
      · refine wpIn_block ?_
        refine oneR ?_
        obtain ⟨hp2, hm⟩ := asrt_b hm
        refine at_run 2 [] [] [1, 5, 6, 8, 38, 39] [pl 1 (.slice A1 raw1.length c1), pl 5 (.int .i64 (w64 (1 + r1))), pl 6 (.pointer (some ⟨g1, 0, none⟩)), pl 8 (.int .i64 i1), pl 38 (.slice A3 left1.length c3), pl 39 (.int .i64 i1)] hF hS (by kernel_rfl) (by kernel_rfl) ?_ (fun a w hF hS => ?_)
        · exact obs_nil
        refine at_do (d := 40) (s := vS (Instr.buildSlice 22 1 #[(0, .int .i64 i1)])) (v := .slice (some ⟨w.heap.size, 0, none⟩) 1 1) (w' := w.alloc (.cells #[.int .i64 i1] 3)) hF (by kernel_rfl) (by kernel_rfl) (by kernel_rfl) (fun a hF => ?_)
        have hS : Sep w0 B (w.alloc (.cells #[.int .i64 i1] 3)) (own 3 (.slice (some (⟨w.heap.size, 0, none⟩ : Addr)) 1 1) (vI ([i1] : List Int)) :: (blk g1 24 #[.int .i64 (w64 (1 + r1)), .int .i64 (w64 (1 + r1)), .slice A2 (Int.toNat (w64 ((w64 (1 + r1)) * (w64 (1 + r1))))) c2] :: own 3 (.slice A2 (Int.toNat (w64 ((w64 (1 + r1)) * (w64 (1 + r1))))) c2) (vI (List.replicate (Int.toNat (w64 ((w64 (1 + r1)) * (w64 (1 + r1))))) (0 : Int))) :: own 3 (.slice A3 left1.length c3) (vI left1) :: fs)) := hS.lit 3 #[.int .i64 i1] 1 rfl (by omega)
        generalize (some (⟨w.heap.size, 0, none⟩ : Addr)) = g2 at hF hS
        generalize w.alloc (.cells #[.int .i64 i1] 3) = w at hS ⊢
        obtain ⟨A5, c5, w, hrun, hS⟩ := run_app1 (P := Try.prog) (t := 22) (m := left1) (ys := ([i1] : List Int)) (A2 := g2) (m2 := 1) (c2 := 1) (Value.int .i64) (0 : Int) (hS.at_ 3 rfl) (hS.at_ 0 rfl).rd ((hS.at_ 0 rfl).len1) 22 Und22 hi3 hz3 hs3 (by omega) rfl (fun _ => rfl) hp2
        have hS : Sep w0 B w (own 3 (.slice g2 1 1) (vI ([i1] : List Int)) :: blk g1 24 #[.int .i64 (w64 (1 + r1)), .int .i64 (w64 (1 + r1)), .slice A2 (Int.toNat (w64 ((w64 (1 + r1)) * (w64 (1 + r1))))) c2] :: own 3 (.slice A2 (Int.toNat (w64 ((w64 (1 + r1)) * (w64 (1 + r1))))) c2) (vI (List.replicate (Int.toNat (w64 ((w64 (1 + r1)) * (w64 (1 + r1))))) (0 : Int))) :: own 3 (.slice A5 ((left1 ++ ([i1] : List Int)).length) c5) (vI (left1 ++ ([i1] : List Int))) :: fs) := hS
        refine at_do (d := 41) hF (by kernel_rfl) (by kernel_rfl) hrun (fun a hF => ?_)
        refine at_run 1 [] [] [1, 5, 6, 7, 8] [pl 1 (.slice A1 raw1.length c1), pl 5 (.int .i64 (w64 (1 + r1))), pl 6 (.pointer (some ⟨g1, 0, none⟩)), pl 7 (.slice A5 ((left1 ++ ([i1] : List Int)).length) c5), pl 8 (.int .i64 i1)] hF hS (by kernel_rfl) (by kernel_rfl) ?_ (fun a w hF hS => ?_)
        · exact obs_nil
        refine at_end [1, 5, 6, 7, 8] [pl 1 (.slice A1 raw1.length c1), pl 5 (.int .i64 (w64 (1 + r1))), pl 6 (.pointer (some ⟨g1, 0, none⟩)), pl 7 (.slice A5 ((left1 ++ ([i1] : List Int)).length) c5), pl 8 (.int .i64 i1)] hF rfl (by kernel_rfl) (fun hF => ?_)
        refine block_n ?_
        refine then_n ?_
        have hS := hS.pickN 4 [1, 2, 3] (by decide)
        exact ⟨(left1 ++ ([i1] : List Int)), A5, c5, hF.weak [1, 5, 6, 7, 8] (by kernel_rfl), hS, hm⟩
    · refine reg [] [] [1, 5, 6, 7, 8, 35] [pl 1 (.slice A1 raw1.length c1), pl 5 (.int .i64 (w64 (1 + r1))), pl 6 (.pointer (some ⟨g1, 0, none⟩)), pl 7 (.slice A3 left1.length c3), pl 8 (.int .i64 i1), pl 35 (.bool (decide (i1 < (w64 ((w64 (1 + r1)) * (w64 (1 + r1)))))))] hF hS Fol (by kernel_rfl) (by kernel_rfl) (by kernel_rfl) ?_ (fun a w hF hS => ?_)
      · exact obs_nil
      refine cond_ev (t := 35) (b := decide (i1 < (w64 ((w64 (1 + r1)) * (w64 (1 + r1)))))) hF (by kernel_rfl) (fun hb => ?_) (fun hb => ?_)
      · replace hm := if_t hm hb
        refine wpIn_skip ?_
        refine then_n ?_
        exact ⟨hF.weak [1, 5, 6, 7, 8] (by kernel_rfl), hS, hm⟩
      · replace hm := if_f hm hb
        refine wpIn_exit ?_
        refine then_e (then_e (block_e (then_n ?_)))
        rw [← hφ1] at hm
        replace hm := done_b hm
        unfold gameroomtop_TopHex_K1 at hm
        try dsimp only at hm
        have hm : ((gameroomtop_TopHex_J1 raw1 r1) left1).bind some = some r := hm
        exact ⟨left1, A3, c3, hF.weak [1, 5, 6, 7] (by kernel_rfl), hS, hm⟩

end Go.Proofs.Ytgogihcmnkncjaa
