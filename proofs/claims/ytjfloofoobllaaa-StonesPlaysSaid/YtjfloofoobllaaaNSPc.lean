/-
  Models and walks, printed by our own program (wip/gen).
-/
import Derived.Test.YtjfloofoobllaaaFB
import Derived.Test.YtjfloofoobllaaaFE
import Derived.Test.YtjfloofoobllaaaLibPl
import Derived.Test.YtjfloofoobllaaaLibSu
import Derived.Test.YtjfloofoobllaaaFM
import Derived.Test.YtjfloofoobllaaaLibSt
import Derived.Test.YtjfloofoobllaaaSH
import Derived.Test.YtjfloofoobllaaaNSPb
namespace Go.Proofs.Ytjfloofoobllaaa
open Go Go.GL Go.RowKit

noncomputable def gameroomref_PutStone_m  (g1 : Int) (g2 : Int) (g3 : List Int) (who1 : Int) (place1 : Int) : Option (Int × Int × List Int × Int × Int) :=
  (gameroomref_within_m place1 0 (w64 ((g3.length : Int) - 1))).bind fun r1 => if (!r1) then (some (0, 0, ([] : List Int), 0, 3)) else ((gameroomref_PutStone_J1 g1 g2 g3 who1 place1))

set_option maxRecDepth 100000 in
set_option maxHeartbeats 4000000 in
theorem gameroomref_PutStone_w  {g1 : Int} {g2 : Int} {A1 : Option Addr} {c1 : Nat} {n1 : Nat} {g3 : List Int} {who1 : Int} {place1 : Int} {r : (Int × Int × List Int × Int × Int)} {w0 w : World} {B : Nat} {fs : List HP} (hm : gameroomref_PutStone_m g1 g2 g3 who1 place1 = some r) (hS : Sep w0 B w (fs)) (hr_g3 : RdF w0 B fs A1 (vI g3)) (_hc_g3 : g3.length ≤ c1) (_hn_g3 : n1 = g3.length) :
    Calls Try.prog 44 #[.agg #[.int .i64 g1, .int .i64 g2, .slice A1 n1 c1], .int .i64 who1, .int .i64 place1] w fun e w' => ∃ v, e = .returned v ∧ ∃ (A11 : Option Addr) (c11 : Nat), v = .tuple #[.agg #[.int .i64 r.1, .int .i64 r.2.1, .slice A11 r.2.2.1.length c11], .int .i64 r.2.2.2.1, .int .i64 r.2.2.2.2] ∧ Sep w0 B w' (own 3 (.slice A11 r.2.2.1.length c11) (vI r.2.2.1) :: fs) := by
  obtain ⟨i3, hi3, hz3, hs3, hb3⟩ := info_parts Info3
  obtain rfl := _hn_g3
  unfold gameroomref_PutStone_m at hm
  replace hm := start_b hm
  refine enter (l := [.agg #[.int .i64 g1, .int .i64 g2, .slice A1 g3.length c1], .int .i64 who1, .int .i64 place1]) (n := 93) Try.func44 rfl rfl (by simp) (fun a hF => ?_)
  refine seqR ?_
  refine at_do (d := 3) (s := vS (Instr.box 24 (.agg #[.int .i64 g1, .int .i64 g2, .slice A1 g3.length c1]))) (v := .pointer (some ⟨w.heap.size, 0, none⟩)) (w' := w.alloc (.cells #[.int .i64 g1, .int .i64 g2, .slice A1 g3.length c1] 24)) hF (by kernel_rfl) (by kernel_rfl) (by kernel_rfl) (fun a hF => ?_)
  have hS : Sep w0 B (w.alloc (.cells #[.int .i64 g1, .int .i64 g2, .slice A1 g3.length c1] 24)) (blk w.heap.size 24 #[.int .i64 g1, .int .i64 g2, .slice A1 g3.length c1] :: (fs)) := hS.box 24 #[.int .i64 g1, .int .i64 g2, .slice A1 g3.length c1]
  generalize w.heap.size = g4 at hF hS
  generalize w.alloc (.cells #[.int .i64 g1, .int .i64 g2, .slice A1 g3.length c1] 24) = w at hS ⊢
  refine at_do (d := 6) (s := vS (Instr.alloc 24 true (.tuple #[]))) (v := .pointer (some ⟨w.heap.size, 0, none⟩)) (w' := w.alloc (.cells #[.int .i64 0, .int .i64 0, .slice none 0 0] 24)) hF (by kernel_rfl) (by kernel_rfl) (by kernel_rfl) (fun a hF => ?_)
  have hS : Sep w0 B (w.alloc (.cells #[.int .i64 0, .int .i64 0, .slice none 0 0] 24)) (blk w.heap.size 24 #[.int .i64 0, .int .i64 0, .slice none 0 0] :: (blk g4 24 #[.int .i64 g1, .int .i64 g2, .slice A1 g3.length c1] :: fs)) := hS.box 24 #[.int .i64 0, .int .i64 0, .slice none 0 0]
  generalize w.heap.size = g5 at hF hS
  generalize w.alloc (.cells #[.int .i64 0, .int .i64 0, .slice none 0 0] 24) = w at hS ⊢
  refine at_run 2 [] [] [1, 2, 3, 6] [pl 1 (.int .i64 who1), pl 2 (.int .i64 place1), pl 3 (.pointer (some ⟨g4, 0, none⟩)), pl 6 (.pointer (some ⟨g5, 0, none⟩))] hF hS (by kernel_rfl) (by kernel_rfl) ?_ (fun a w hF hS => ?_)
  · exact obs_nil
  refine at_end [1, 2, 3, 6] [pl 1 (.int .i64 who1), pl 2 (.int .i64 place1), pl 3 (.pointer (some ⟨g4, 0, none⟩)), pl 6 (.pointer (some ⟨g5, 0, none⟩))] hF rfl (by kernel_rfl) (fun hF => ?_)
  refine then_n ?_
  refine seq_cut (fun a w => Fr 93 [pl 1 (.int .i64 who1), pl 2 (.int .i64 place1), pl 3 (.pointer (some ⟨g4, 0, none⟩)), pl 6 (.pointer (some ⟨g5, 0, none⟩))] a ∧ Sep w0 B w (blk g4 24 #[.int .i64 g1, .int .i64 g2, .slice A1 g3.length c1] :: blk g5 24 #[.int .i64 0, .int .i64 0, .slice none 0 0] :: fs) ∧ ((gameroomref_PutStone_J1 g1 g2 g3 who1 place1)).bind some = some r) ?_ ?_
  · rintro a w ⟨hF, hS, hm⟩
    unfold gameroomref_PutStone_J1 at hm
    refine seq_cut (fun a w => Fr 93 [pl 1 (.int .i64 who1), pl 2 (.int .i64 place1), pl 3 (.pointer (some ⟨g4, 0, none⟩)), pl 6 (.pointer (some ⟨g5, 0, none⟩))] a ∧ Sep w0 B w (blk g4 24 #[.int .i64 g1, .int .i64 g2, .slice A1 g3.length c1] :: blk g5 24 #[.int .i64 0, .int .i64 0, .slice none 0 0] :: fs) ∧ ((gameroomref_PutStone_J2 g1 g2 g3 who1 place1)).bind some = some r) ?_ ?_
    · rintro a w ⟨hF, hS, hm⟩
      unfold gameroomref_PutStone_J2 at hm
      refine seqR ?_
      obtain ⟨r2, hr2, hm⟩ := call_b hm
      refine at_run 1 [⟨false, [], vS (Instr.loadAt 24 (.pointer (some ⟨g4, 0, none⟩))), .agg #[.int .i64 g1, .int .i64 g2, .slice A1 g3.length c1]⟩] [some (.agg #[.int .i64 g1, .int .i64 g2, .slice A1 g3.length c1])] [1, 2, 6, 32] [pl 1 (.int .i64 who1), pl 2 (.int .i64 place1), pl 6 (.pointer (some ⟨g5, 0, none⟩)), pl 32 (.agg #[.int .i64 g1, .int .i64 g2, .slice A1 g3.length c1])] hF hS (by kernel_rfl) (by kernel_rfl) ?_ (fun a w hF hS => ?_)
      · exact obs_cons (ob_loadA (cs := #[.int .i64 g1, .int .i64 g2, .slice A1 g3.length c1]) (by kernel_rfl) (by kernel_rfl) (fun _ _ hS => (hS.at_ 0 rfl).cellsAt 0 (by rfl))) <| obs_nil
      refine at_call (f := 9) (args := #[.agg #[.int .i64 g1, .int .i64 g2, .slice A1 g3.length c1]]) (d := 33) hF (by kernel_rfl) (by kernel_rfl) Try.func9 (by kernel_rfl) rfl (gameroomref_GridOf_w hr2 hS (fun _ hS => (hr_g3 _ (hS.dropN 2))) _hc_g3 rfl) (fun v a w hR hF => ?_)
      clear hS
      obtain ⟨A2, c2, rfl, hS⟩ := hR
      have hS : Sep w0 B w (own 3 (.slice A2 r2.2.2.length c2) (vI r2.2.2) :: blk g4 24 #[.int .i64 g1, .int .i64 g2, .slice A1 g3.length c1] :: blk g5 24 #[.int .i64 0, .int .i64 0, .slice none 0 0] :: fs) := hS
      refine at_do (d := 9) (s := vS (Instr.alloc 24 true (.tuple #[]))) (v := .pointer (some ⟨w.heap.size, 0, none⟩)) (w' := w.alloc (.cells #[.int .i64 0, .int .i64 0, .slice none 0 0] 24)) hF (by kernel_rfl) (by kernel_rfl) (by kernel_rfl) (fun a hF => ?_)
      have hS : Sep w0 B (w.alloc (.cells #[.int .i64 0, .int .i64 0, .slice none 0 0] 24)) (blk w.heap.size 24 #[.int .i64 0, .int .i64 0, .slice none 0 0] :: (own 3 (.slice A2 r2.2.2.length c2) (vI r2.2.2) :: blk g4 24 #[.int .i64 g1, .int .i64 g2, .slice A1 g3.length c1] :: blk g5 24 #[.int .i64 0, .int .i64 0, .slice none 0 0] :: fs)) := hS.box 24 #[.int .i64 0, .int .i64 0, .slice none 0 0]
      generalize w.heap.size = g6 at hF hS
      generalize w.alloc (.cells #[.int .i64 0, .int .i64 0, .slice none 0 0] 24) = w at hS ⊢
      obtain ⟨w, hrun, hS⟩ := run_putA (P := Try.prog) (t := 24) (us := #[.int .i64 r2.1, .int .i64 r2.2.1, .slice A2 r2.2.2.length c2]) (o := 0) (hS.at_ 0 rfl) (by kernel_rfl) (all_one (by kernel_rfl)) (Nat.le_of_ble_eq_true (by kernel_rfl))
      refine at_skip hF (by kernel_rfl) hrun ?_
      have hS : Sep w0 B w (blk g6 24 #[.int .i64 r2.1, .int .i64 r2.2.1, .slice A2 r2.2.2.length c2] :: own 3 (.slice A2 r2.2.2.length c2) (vI r2.2.2) :: blk g4 24 #[.int .i64 g1, .int .i64 g2, .slice A1 g3.length c1] :: blk g5 24 #[.int .i64 0, .int .i64 0, .slice none 0 0] :: fs) := hS
      refine at_end [1, 2, 6, 9] [pl 1 (.int .i64 who1), pl 2 (.int .i64 place1), pl 6 (.pointer (some ⟨g5, 0, none⟩)), pl 9 (.pointer (some ⟨g6, 0, none⟩))] hF rfl (by kernel_rfl) (fun hF => ?_)
      refine then_n ?_
      refine seqR ?_
      obtain ⟨hp2, hm⟩ := asrt_b hm
      refine at_run 5 [⟨false, [], vS (Instr.loadAt 22 (.pointer (some ⟨g6, 2, none⟩))), .slice A2 r2.2.2.length c2⟩, ⟨true, [], vS (Instr.indexAt 22 (.slice A2 r2.2.2.length c2) (.int .i64 place1)), .pointer (some (sAddr A2 place1))⟩] [none, some (.slice A2 r2.2.2.length c2), none, none, some (.pointer (some (sAddr A2 place1)))] [1, 2, 6, 9, 37, 38] [pl 1 (.int .i64 who1), pl 2 (.int .i64 place1), pl 6 (.pointer (some ⟨g5, 0, none⟩)), pl 9 (.pointer (some ⟨g6, 0, none⟩)), pl 37 (.int .i64 who1), pl 38 (.pointer (some (sAddr A2 place1)))] hF hS (by kernel_rfl) (by kernel_rfl) ?_ (fun a w hF hS => ?_)
      · exact obs_cons (ob_load Agg22 (fun _ _ hS => (hS.at_ 0 rfl).cell rfl)) <| obs_cons (ob_ix1 (f := (Value.int .i64)) (m := r2.2.2) Und22 hi3 hs3 (hS.at_ 1 rfl).rd rfl (fun _ => hp2)) <| obs_nil
      obtain ⟨w, hrun, hS⟩ := run_set1 (P := Try.prog) (t := 3) (x := who1) (Value.int .i64) (hS.at_ 1 rfl) hi3 hs3 rfl rfl hp2
      refine at_skip hF (by kernel_rfl) hrun ?_
      have hS : Sep w0 B w (blk g6 24 #[.int .i64 r2.1, .int .i64 r2.2.1, .slice A2 r2.2.2.length c2] :: own 3 (.slice A2 r2.2.2.length c2) (vI (r2.2.2.set (Int.toNat place1) who1)) :: blk g4 24 #[.int .i64 g1, .int .i64 g2, .slice A1 g3.length c1] :: blk g5 24 #[.int .i64 0, .int .i64 0, .slice none 0 0] :: fs) := hS
      refine at_end [1, 2, 6, 9] [pl 1 (.int .i64 who1), pl 2 (.int .i64 place1), pl 6 (.pointer (some ⟨g5, 0, none⟩)), pl 9 (.pointer (some ⟨g6, 0, none⟩))] hF rfl (by kernel_rfl) (fun hF => ?_)
      refine then_n ?_
      refine reg [] [] [1, 2, 6, 9, 10] [pl 1 (.int .i64 who1), pl 2 (.int .i64 place1), pl 6 (.pointer (some ⟨g5, 0, none⟩)), pl 9 (.pointer (some ⟨g6, 0, none⟩)), pl 10 (.slice none 0 0)] hF hS Fol (by kernel_rfl) (by kernel_rfl) (by kernel_rfl) ?_ (fun a w hF hS => ?_)
      · exact obs_nil
      refine seq_cut (fun a w => ∃ (gone2 : List Int) (A4 : Option Addr) (c4 : Nat), Fr 93 [pl 2 (.int .i64 place1), pl 6 (.pointer (some ⟨g5, 0, none⟩)), pl 9 (.pointer (some ⟨g6, 0, none⟩)), pl 10 (.slice A4 gone2.length c4)] a ∧ Sep w0 B w (blk g5 24 #[.int .i64 0, .int .i64 0, .slice none 0 0] :: blk g6 24 #[.int .i64 r2.1, .int .i64 r2.2.1, .slice A2 r2.2.2.length c2] :: own 3 (.slice A2 r2.2.2.length c2) (vI (r2.2.2.set (Int.toNat place1) who1)) :: own 3 (.slice A4 gone2.length c4) (vI gone2) :: fs) ∧ ((gameroomref_PutStone_J3 who1 place1 r2) gone2).bind some = some r) ?_ ?_
      · rintro a w ⟨gone2, A4, c4, hF, hS, hm⟩
        unfold gameroomref_PutStone_J3 at hm
        refine seq_cut (fun a w => ∃ (out2 : List Int), Fr 93 [pl 2 (.int .i64 place1), pl 6 (.pointer (some ⟨g5, 0, none⟩)), pl 9 (.pointer (some ⟨g6, 0, none⟩)), pl 10 (.slice A4 gone2.length c4)] a ∧ Sep w0 B w (blk g5 24 #[.int .i64 0, .int .i64 0, .slice none 0 0] :: blk g6 24 #[.int .i64 r2.1, .int .i64 r2.2.1, .slice A2 r2.2.2.length c2] :: own 3 (.slice A2 r2.2.2.length c2) (vI out2) :: own 3 (.slice A4 gone2.length c4) (vI gone2) :: fs) ∧ ((gameroomref_PutStone_J6 place1 r2 gone2) out2).bind some = some r) ?_ ?_
        · rintro a w ⟨out2, hF, hS, hm⟩
          unfold gameroomref_PutStone_J6 at hm
          refine seqR ?_
          obtain ⟨r4, hr4, hm⟩ := call_b hm
          refine at_run 2 [⟨false, [], vS (Instr.loadAt 24 (.pointer (some ⟨g6, 0, none⟩))), .agg #[.int .i64 r2.1, .int .i64 r2.2.1, .slice A2 r2.2.2.length c2]⟩] [some (.agg #[.int .i64 r2.1, .int .i64 r2.2.1, .slice A2 r2.2.2.length c2]), none] [6, 9, 10, 81, 82] [pl 6 (.pointer (some ⟨g5, 0, none⟩)), pl 9 (.pointer (some ⟨g6, 0, none⟩)), pl 10 (.slice A4 gone2.length c4), pl 81 (.agg #[.int .i64 r2.1, .int .i64 r2.2.1, .slice A2 r2.2.2.length c2]), pl 82 (.int .i64 place1)] hF hS (by kernel_rfl) (by kernel_rfl) ?_ (fun a w hF hS => ?_)
          · exact obs_cons (ob_loadA (cs := #[.int .i64 r2.1, .int .i64 r2.2.1, .slice A2 r2.2.2.length c2]) (by kernel_rfl) (by kernel_rfl) (fun _ _ hS => (hS.at_ 1 rfl).cellsAt 0 (by rfl))) <| obs_nil
          refine at_call (f := 89) (args := #[.agg #[.int .i64 r2.1, .int .i64 r2.2.1, .slice A2 r2.2.2.length c2], .int .i64 place1]) (d := 83) hF (by kernel_rfl) (by kernel_rfl) Try.func89 (by kernel_rfl) rfl (gameroomref_GroupOf_w hr4 hS (fun _ hS => (hS.at_ 2 rfl).rd) ((hS.at_ 2 rfl).cap1) ((hS.at_ 2 rfl).len1)) (fun v a w hR hF => ?_)
          clear hS
          obtain ⟨A9, c9, A10, c10, rfl, hS⟩ := hR
          have hS : Sep w0 B w (own 3 (.slice A9 r4.1.length c9) (vI r4.1) :: own 3 (.slice A10 r4.2.length c10) (vI r4.2) :: blk g5 24 #[.int .i64 0, .int .i64 0, .slice none 0 0] :: blk g6 24 #[.int .i64 r2.1, .int .i64 r2.2.1, .slice A2 r2.2.2.length c2] :: own 3 (.slice A2 r2.2.2.length c2) (vI out2) :: own 3 (.slice A4 gone2.length c4) (vI gone2) :: fs) := hS
          refine at_run 5 [] [] [6, 9, 10, 16] [pl 6 (.pointer (some ⟨g5, 0, none⟩)), pl 9 (.pointer (some ⟨g6, 0, none⟩)), pl 10 (.slice A4 gone2.length c4), pl 16 (.slice A10 r4.2.length c10)] hF hS (by kernel_rfl) (by kernel_rfl) ?_ (fun a w hF hS => ?_)
          · exact obs_nil
          refine at_end [6, 9, 10, 16] [pl 6 (.pointer (some ⟨g5, 0, none⟩)), pl 9 (.pointer (some ⟨g6, 0, none⟩)), pl 10 (.slice A4 gone2.length c4), pl 16 (.slice A10 r4.2.length c10)] hF rfl (by kernel_rfl) (fun hF => ?_)
          refine then_n ?_
          refine seq_cut (fun a w => Fr 93 [pl 6 (.pointer (some ⟨g5, 0, none⟩)), pl 9 (.pointer (some ⟨g6, 0, none⟩)), pl 10 (.slice A4 gone2.length c4)] a ∧ Sep w0 B w (blk g5 24 #[.int .i64 0, .int .i64 0, .slice none 0 0] :: blk g6 24 #[.int .i64 r2.1, .int .i64 r2.2.1, .slice A2 r2.2.2.length c2] :: own 3 (.slice A2 r2.2.2.length c2) (vI out2) :: own 3 (.slice A4 gone2.length c4) (vI gone2) :: fs) ∧ ((gameroomref_PutStone_J9 r2 gone2 out2)).bind some = some r) ?_ ?_
          · rintro a w ⟨hF, hS, hm⟩
            unfold gameroomref_PutStone_J9 at hm
            refine seqR ?_
            refine at_run 3 [⟨false, [], vS (Instr.loadAt 24 (.pointer (some ⟨g6, 0, none⟩))), .agg #[.int .i64 r2.1, .int .i64 r2.2.1, .slice A2 r2.2.2.length c2]⟩] [some (.agg #[.int .i64 r2.1, .int .i64 r2.2.1, .slice A2 r2.2.2.length c2]), none, none] [6, 90, 92] [pl 6 (.pointer (some ⟨g5, 0, none⟩)), pl 90 (.agg #[.int .i64 r2.1, .int .i64 r2.2.1, .slice A2 r2.2.2.length c2]), pl 92 (.int .i64 (gone2.length : Int))] hF hS (by kernel_rfl) (by kernel_rfl) ?_ (fun a w hF hS => ?_)
            · exact obs_cons (ob_loadA (cs := #[.int .i64 r2.1, .int .i64 r2.2.1, .slice A2 r2.2.2.length c2]) (by kernel_rfl) (by kernel_rfl) (fun _ _ hS => (hS.at_ 1 rfl).cellsAt 0 (by rfl))) <| obs_nil
            obtain ⟨w, hrun, hS⟩ := run_putA (P := Try.prog) (t := 24) (us := #[.int .i64 r2.1, .int .i64 r2.2.1, .slice A2 r2.2.2.length c2]) (o := 0) (hS.at_ 0 rfl) (by kernel_rfl) (all_one (by kernel_rfl)) (Nat.le_of_ble_eq_true (by kernel_rfl))
            refine at_skip hF (by kernel_rfl) hrun ?_
            have hS : Sep w0 B w (blk g5 24 #[.int .i64 r2.1, .int .i64 r2.2.1, .slice A2 r2.2.2.length c2] :: blk g6 24 #[.int .i64 r2.1, .int .i64 r2.2.1, .slice A2 r2.2.2.length c2] :: own 3 (.slice A2 r2.2.2.length c2) (vI out2) :: own 3 (.slice A4 gone2.length c4) (vI gone2) :: fs) := hS
            refine at_run 2 [] [] [6, 7, 8] [pl 6 (.pointer (some ⟨g5, 0, none⟩)), pl 7 (.int .i64 (gone2.length : Int)), pl 8 (.int .i64 0)] hF hS (by kernel_rfl) (by kernel_rfl) ?_ (fun a w hF hS => ?_)
            · exact obs_nil
            refine at_end [6, 7, 8] [pl 6 (.pointer (some ⟨g5, 0, none⟩)), pl 7 (.int .i64 (gone2.length : Int)), pl 8 (.int .i64 0)] hF rfl (by kernel_rfl) (fun hF => ?_)
            refine then_n ?_
            refine wpIn_ret ?_
            have hl5 := (hS.at_ 2 rfl).len1
            have hS := (hS.at_ 2 rfl).reN hl5
            have hS := (hS.at_ 0 rfl).reBlk (congrArg (fun k9 => (#[.int .i64 r2.1, .int .i64 r2.2.1, .slice A2 k9 c2] : Array Value)) hl5)
            have hS := (hS.at_ 1 rfl).reBlk (congrArg (fun k9 => (#[.int .i64 r2.1, .int .i64 r2.2.1, .slice A2 k9 c2] : Array Value)) hl5)
            have hS : Sep w0 B w (blk g5 24 #[.int .i64 r2.1, .int .i64 r2.2.1, .slice A2 out2.length c2] :: blk g6 24 #[.int .i64 r2.1, .int .i64 r2.2.1, .slice A2 out2.length c2] :: own 3 (.slice A2 out2.length c2) (vI out2) :: own 3 (.slice A4 gone2.length c4) (vI gone2) :: fs) := hS
            have hld0 := run_loadVarA (P := Try.prog) (t := 24) (cs := #[.int .i64 r2.1, .int .i64 r2.2.1, .slice A2 out2.length c2]) (by kernel_rfl) (by kernel_rfl) ((hS.at_ 0 rfl).cellsAt 0 (by rfl))
            have hS := hS.pickN 4 [2] (by decide)
            have hm : some (r2.1, r2.2.1, out2, (gone2.length : Int), 0) = some r := hm
            obtain rfl := Option.some.inj hm
            exact retV (rs := [.cell 6 24, .tmp 7, .tmp 8]) (vs := [.agg #[.int .i64 r2.1, .int .i64 r2.2.1, .slice A2 out2.length c2], .int .i64 (gone2.length : Int), .int .i64 0]) hF rfl (rv_c (by kernel_rfl) hld0 <| rv_t (by kernel_rfl) <| rv_t (by kernel_rfl) <| rv_nil) rfl ⟨_, rfl, A2, c2, rfl, hS⟩
          · refine reg [] [] [6, 9, 10, 88] [pl 6 (.pointer (some ⟨g5, 0, none⟩)), pl 9 (.pointer (some ⟨g6, 0, none⟩)), pl 10 (.slice A4 gone2.length c4), pl 88 (.bool ((r4.2.length : Int) == 0))] hF hS Fol (by kernel_rfl) (by kernel_rfl) (by kernel_rfl) ?_ (fun a w hF hS => ?_)
            · exact obs_nil
            refine cond_ev (t := 88) (b := ((r4.2.length : Int) == 0)) hF (by kernel_rfl) (fun hb => ?_) (fun hb => ?_)
            · replace hm := if_t hm hb
              refine seqR ?_
              refine at_run 1 [] [] [6, 89] [pl 6 (.pointer (some ⟨g5, 0, none⟩)), pl 89 (.agg #[.int .i64 0, .int .i64 0, .slice none 0 0])] hF hS (by kernel_rfl) (by kernel_rfl) ?_ (fun a w hF hS => ?_)
              · exact obs_nil
              obtain ⟨w, hrun, hS⟩ := run_putA (P := Try.prog) (t := 24) (us := #[.int .i64 0, .int .i64 0, .slice none 0 0]) (o := 0) (hS.at_ 2 rfl) (by kernel_rfl) (all_one (by kernel_rfl)) (Nat.le_of_ble_eq_true (by kernel_rfl))
              refine at_skip hF (by kernel_rfl) hrun ?_
              have hS : Sep w0 B w (own 3 (.slice A9 r4.1.length c9) (vI r4.1) :: own 3 (.slice A10 r4.2.length c10) (vI r4.2) :: blk g5 24 #[.int .i64 0, .int .i64 0, .slice none 0 0] :: blk g6 24 #[.int .i64 r2.1, .int .i64 r2.2.1, .slice A2 r2.2.2.length c2] :: own 3 (.slice A2 r2.2.2.length c2) (vI out2) :: own 3 (.slice A4 gone2.length c4) (vI gone2) :: fs) := hS
              refine at_run 2 [] [] [6, 7, 8] [pl 6 (.pointer (some ⟨g5, 0, none⟩)), pl 7 (.int .i64 0), pl 8 (.int .i64 8)] hF hS (by kernel_rfl) (by kernel_rfl) ?_ (fun a w hF hS => ?_)
              · exact obs_nil
              refine at_end [6, 7, 8] [pl 6 (.pointer (some ⟨g5, 0, none⟩)), pl 7 (.int .i64 0), pl 8 (.int .i64 8)] hF rfl (by kernel_rfl) (fun hF => ?_)
              refine then_n ?_
              refine wpIn_ret ?_
              refine then_r ?_
              have hS : Sep w0 B w (own 3 (.slice none 0 0) (vI ([] : List Int)) :: own 3 (.slice A9 r4.1.length c9) (vI r4.1) :: own 3 (.slice A10 r4.2.length c10) (vI r4.2) :: blk g5 24 #[.int .i64 0, .int .i64 0, .slice none 0 0] :: blk g6 24 #[.int .i64 r2.1, .int .i64 r2.2.1, .slice A2 r2.2.2.length c2] :: own 3 (.slice A2 r2.2.2.length c2) (vI out2) :: own 3 (.slice A4 gone2.length c4) (vI gone2) :: fs) := hS.nil 3
              have hl4 := (hS.at_ 0 rfl).len1
              have hS := (hS.at_ 0 rfl).reN hl4
              have hS : Sep w0 B w (own 3 (.slice none (([] : List Int).length) 0) (vI ([] : List Int)) :: own 3 (.slice A9 r4.1.length c9) (vI r4.1) :: own 3 (.slice A10 r4.2.length c10) (vI r4.2) :: blk g5 24 #[.int .i64 0, .int .i64 0, .slice none 0 0] :: blk g6 24 #[.int .i64 r2.1, .int .i64 r2.2.1, .slice A2 r2.2.2.length c2] :: own 3 (.slice A2 r2.2.2.length c2) (vI out2) :: own 3 (.slice A4 gone2.length c4) (vI gone2) :: fs) := hS
              have hld0 := run_loadVarA (P := Try.prog) (t := 24) (cs := #[.int .i64 0, .int .i64 0, .slice none (([] : List Int).length) 0]) (by kernel_rfl) (by kernel_rfl) ((hS.at_ 3 rfl).cellsAt 0 (by rfl))
              have hS := hS.pickN 7 [0] (by decide)
              have hm : some (0, 0, ([] : List Int), 0, 8) = some r := hm
              obtain rfl := Option.some.inj hm
              exact retV (rs := [.cell 6 24, .tmp 7, .tmp 8]) (vs := [.agg #[.int .i64 0, .int .i64 0, .slice none (([] : List Int).length) 0], .int .i64 0, .int .i64 8]) hF rfl (rv_c (by kernel_rfl) hld0 <| rv_t (by kernel_rfl) <| rv_t (by kernel_rfl) <| rv_nil) rfl ⟨_, rfl, none, 0, rfl, hS⟩
            · replace hm := if_f hm hb
              refine wpIn_skip ?_
              refine then_n ?_
              have hS := hS.pickN 6 [2, 3, 4, 5] (by decide)
              exact ⟨hF.weak [6, 9, 10] (by kernel_rfl), hS, hm⟩
        · refine reg [] [] [2, 6, 9, 10, 14] [pl 2 (.int .i64 place1), pl 6 (.pointer (some ⟨g5, 0, none⟩)), pl 9 (.pointer (some ⟨g6, 0, none⟩)), pl 10 (.slice A4 gone2.length c4), pl 14 (.int .i64 0)] hF hS Fol (by kernel_rfl) (by kernel_rfl) (by kernel_rfl) ?_ (fun a w hF hS => ?_)
          · exact obs_nil
          refine wpIn_block ?_
          refine wp_loop_model (S := (List Int × Int)) (R := (List Int)) (gameroomref_PutStone_L2 r2 gone2) (fun x => ((gameroomref_PutStone_K2 place1 r2 gone2) x).bind some) r (fun (x : (List Int × Int)) a w => Fr 93 [pl 2 (.int .i64 place1), pl 6 (.pointer (some ⟨g5, 0, none⟩)), pl 9 (.pointer (some ⟨g6, 0, none⟩)), pl 10 (.slice A4 gone2.length c4), pl 14 (.int .i64 x.2)] a ∧ Sep w0 B w (blk g5 24 #[.int .i64 0, .int .i64 0, .slice none 0 0] :: blk g6 24 #[.int .i64 r2.1, .int .i64 r2.2.1, .slice A2 r2.2.2.length c2] :: own 3 (.slice A2 r2.2.2.length c2) (vI x.1) :: own 3 (.slice A4 gone2.length c4) (vI gone2) :: fs)) (assoc_b hm) ⟨hF.weak [2, 6, 9, 10, 14] (by kernel_rfl), hS⟩ ?_
          clear hF hS hm
          rintro nn2 ⟨out1, i2⟩ a w ⟨hF, hS⟩ hm
          generalize hφ2 : stK (gameroomref_PutStone_L2 r2 gone2) nn2 (fun x => ((gameroomref_PutStone_K2 place1 r2 gone2) x).bind some) = φ2 at hm
          unfold gameroomref_PutStone_L2 at hm
          dsimp only at hF hS hm
          refine seq_cut (fun a w => Fr 93 [pl 2 (.int .i64 place1), pl 6 (.pointer (some ⟨g5, 0, none⟩)), pl 9 (.pointer (some ⟨g6, 0, none⟩)), pl 10 (.slice A4 gone2.length c4), pl 14 (.int .i64 i2)] a ∧ Sep w0 B w (blk g5 24 #[.int .i64 0, .int .i64 0, .slice none 0 0] :: blk g6 24 #[.int .i64 r2.1, .int .i64 r2.2.1, .slice A2 r2.2.2.length c2] :: own 3 (.slice A2 r2.2.2.length c2) (vI out1) :: own 3 (.slice A4 gone2.length c4) (vI gone2) :: fs) ∧ ((gameroomref_PutStone_J7 r2 gone2 out1 i2)).bind φ2 = some r) ?_ ?_
          · rintro a w ⟨hF, hS, hm⟩
            unfold gameroomref_PutStone_J7 at hm
            refine seq_cut (fun a w => Fr 93 [pl 2 (.int .i64 place1), pl 6 (.pointer (some ⟨g5, 0, none⟩)), pl 9 (.pointer (some ⟨g6, 0, none⟩)), pl 10 (.slice A4 gone2.length c4), pl 14 (.int .i64 i2)] a ∧ Sep w0 B w (blk g5 24 #[.int .i64 0, .int .i64 0, .slice none 0 0] :: blk g6 24 #[.int .i64 r2.1, .int .i64 r2.2.1, .slice A2 r2.2.2.length c2] :: own 3 (.slice A2 r2.2.2.length c2) (vI (out1.set (Int.toNat (geti gone2 i2)) 0)) :: own 3 (.slice A4 gone2.length c4) (vI gone2) :: fs) ∧ ((gameroomref_PutStone_J8 gone2 out1 i2)).bind φ2 = some r) ?_ ?_
            · rintro a w ⟨hF, hS, hm⟩
              unfold gameroomref_PutStone_J8 at hm
              refine reg1 [] [] [2, 6, 9, 10, 14] [pl 2 (.int .i64 place1), pl 6 (.pointer (some ⟨g5, 0, none⟩)), pl 9 (.pointer (some ⟨g6, 0, none⟩)), pl 10 (.slice A4 gone2.length c4), pl 14 (.int .i64 (w64 (i2 + 1)))] hF hS Fol (by kernel_rfl) (by kernel_rfl) (by kernel_rfl) ?_ (fun a w hF hS => ?_)
              · exact obs_nil
              refine then_n ?_
              rw [← hφ2] at hm
              exact ⟨((out1.set (Int.toNat (geti gone2 i2)) 0), (w64 (i2 + 1))), ⟨hF.weak [2, 6, 9, 10, 14] (by kernel_rfl), hS⟩, hm⟩
            · refine wpIn_block ?_
              obtain ⟨hp5, hm⟩ := asrt_b hm
              obtain ⟨hp6, hm⟩ := asrt_b hm
              refine regMix4 [0, 1, 2, 3, 4, 5, 6] [7] [⟨false, [], vS (Instr.loadAt 22 (.pointer (some ⟨g6, 2, none⟩))), .slice A2 r2.2.2.length c2⟩, ⟨true, [], vS (Instr.indexAt 22 (.slice A4 gone2.length c4) (.int .i64 i2)), .pointer (some (sAddr A4 i2))⟩, ⟨false, [], vS (Instr.loadAt 3 (.pointer (some (sAddr A4 i2)))), .int .i64 (geti gone2 i2)⟩, ⟨true, [], vS (Instr.indexAt 22 (.slice A2 r2.2.2.length c2) (.int .i64 (geti gone2 i2))), .pointer (some (sAddr A2 (geti gone2 i2)))⟩] [none, some (.slice A2 r2.2.2.length c2), none, none, some (.pointer (some (sAddr A4 i2))), some (.int .i64 (geti gone2 i2)), some (.pointer (some (sAddr A2 (geti gone2 i2))))] [2, 6, 9, 10, 14, 79] [pl 2 (.int .i64 place1), pl 6 (.pointer (some ⟨g5, 0, none⟩)), pl 9 (.pointer (some ⟨g6, 0, none⟩)), pl 10 (.slice A4 gone2.length c4), pl 14 (.int .i64 i2), pl 79 (.pointer (some (sAddr A2 (geti gone2 i2))))] hF hS Fol (by kernel_rfl) (by kernel_rfl) (by kernel_rfl) (by kernel_rfl) (by kernel_rfl) ?_ (fun a w hF hS => ?_)
              · exact obs_cons (ob_load Agg22 (fun _ _ hS => (hS.at_ 1 rfl).cell rfl)) <| obs_cons (ob_ix1 (f := (Value.int .i64)) (m := gone2) Und22 hi3 hs3 (hS.at_ 3 rfl).rd rfl (fun _ => hp5)) <| obs_cons (ob_get1 (n := gone2.length) (m := gone2) (Value.int .i64) (0 : Int) Agg3 (fun _ hS => ⟨_, (hS.at_ 3 rfl).rd⟩) (fun _ hS => rfl) (fun _ => hp5)) <| obs_cons (ob_ix1 (f := (Value.int .i64)) (m := out1) Und22 hi3 hs3 (hS.at_ 2 rfl).rd ((hS.at_ 2 rfl).len1) (fun _ => hp6)) <| obs_nil
              obtain ⟨w, hrun, hS⟩ := run_set1 (P := Try.prog) (t := 3) (x := 0) (Value.int .i64) (hS.at_ 2 rfl) hi3 hs3 rfl rfl hp6
              refine at_skip hF (by kernel_rfl) hrun ?_
              have hS : Sep w0 B w (blk g5 24 #[.int .i64 0, .int .i64 0, .slice none 0 0] :: blk g6 24 #[.int .i64 r2.1, .int .i64 r2.2.1, .slice A2 r2.2.2.length c2] :: own 3 (.slice A2 r2.2.2.length c2) (vI (out1.set (Int.toNat (geti gone2 i2)) 0)) :: own 3 (.slice A4 gone2.length c4) (vI gone2) :: fs) := hS
              refine at_end [2, 6, 9, 10, 14] [pl 2 (.int .i64 place1), pl 6 (.pointer (some ⟨g5, 0, none⟩)), pl 9 (.pointer (some ⟨g6, 0, none⟩)), pl 10 (.slice A4 gone2.length c4), pl 14 (.int .i64 i2)] hF rfl (by kernel_rfl) (fun hF => ?_)
              refine np_n ?_
              refine block_n ?_
              refine then_n ?_
              exact ⟨hF.weak [2, 6, 9, 10, 14] (by kernel_rfl), hS, hm⟩
          · refine reg [] [] [2, 6, 9, 10, 14, 70] [pl 2 (.int .i64 place1), pl 6 (.pointer (some ⟨g5, 0, none⟩)), pl 9 (.pointer (some ⟨g6, 0, none⟩)), pl 10 (.slice A4 gone2.length c4), pl 14 (.int .i64 i2), pl 70 (.bool (decide (i2 < (gone2.length : Int))))] hF hS Fol (by kernel_rfl) (by kernel_rfl) (by kernel_rfl) ?_ (fun a w hF hS => ?_)
            · exact obs_nil
            refine cond_ev (t := 70) (b := decide (i2 < (gone2.length : Int))) hF (by kernel_rfl) (fun hb => ?_) (fun hb => ?_)
            · replace hm := if_t hm hb
              refine wpIn_skip ?_
              refine then_n ?_
              exact ⟨hF.weak [2, 6, 9, 10, 14] (by kernel_rfl), hS, hm⟩
            · replace hm := if_f hm hb
              refine wpIn_exit ?_
              refine then_e (then_e (block_e (then_n ?_)))
              rw [← hφ2] at hm
              replace hm := done_b hm
              unfold gameroomref_PutStone_K2 at hm
              try dsimp only at hm
              have hm : ((gameroomref_PutStone_J6 place1 r2 gone2) out1).bind some = some r := hm
              exact ⟨out1, hF.weak [2, 6, 9, 10] (by kernel_rfl), hS, hm⟩
      · refine reg [] [] [1, 2, 6, 9, 10, 11] [pl 1 (.int .i64 who1), pl 2 (.int .i64 place1), pl 6 (.pointer (some ⟨g5, 0, none⟩)), pl 9 (.pointer (some ⟨g6, 0, none⟩)), pl 10 (.slice none 0 0), pl 11 (.int .i64 0)] hF hS Fol (by kernel_rfl) (by kernel_rfl) (by kernel_rfl) ?_ (fun a w hF hS => ?_)
        · exact obs_nil
        refine wpIn_block ?_
        have hS : Sep w0 B w (own 3 (.slice none 0 0) (vI ([] : List Int)) :: blk g6 24 #[.int .i64 r2.1, .int .i64 r2.2.1, .slice A2 r2.2.2.length c2] :: own 3 (.slice A2 r2.2.2.length c2) (vI (r2.2.2.set (Int.toNat place1) who1)) :: blk g4 24 #[.int .i64 g1, .int .i64 g2, .slice A1 g3.length c1] :: blk g5 24 #[.int .i64 0, .int .i64 0, .slice none 0 0] :: fs) := hS.nil 3
        have hl3 := (hS.at_ 0 rfl).len1
        have hS := (hS.at_ 0 rfl).reN hl3
        have hS : Sep w0 B w (own 3 (.slice none (([] : List Int).length) 0) (vI ([] : List Int)) :: blk g6 24 #[.int .i64 r2.1, .int .i64 r2.2.1, .slice A2 r2.2.2.length c2] :: own 3 (.slice A2 r2.2.2.length c2) (vI (r2.2.2.set (Int.toNat place1) who1)) :: blk g4 24 #[.int .i64 g1, .int .i64 g2, .slice A1 g3.length c1] :: blk g5 24 #[.int .i64 0, .int .i64 0, .slice none 0 0] :: fs) := hS
        have hF := hF.cast (t := 10) (v := .slice none 0 0) (v' := .slice none (([] : List Int).length) 0) rfl rfl (congrArg (fun k => Value.slice none k 0) hl3)
        have hS := hS.pickN 5 [4, 1, 2, 0] (by decide)
        refine wp_loop_model (S := (List Int × Int)) (R := (List Int)) (gameroomref_PutStone_L1 who1 place1 r2) (fun x => ((gameroomref_PutStone_K1 who1 place1 r2) x).bind some) r (fun (x : (List Int × Int)) a w => ∃ (A3 : Option Addr) (c3 : Nat), Fr 93 [pl 1 (.int .i64 who1), pl 2 (.int .i64 place1), pl 6 (.pointer (some ⟨g5, 0, none⟩)), pl 9 (.pointer (some ⟨g6, 0, none⟩)), pl 10 (.slice A3 x.1.length c3), pl 11 (.int .i64 x.2)] a ∧ Sep w0 B w (blk g5 24 #[.int .i64 0, .int .i64 0, .slice none 0 0] :: blk g6 24 #[.int .i64 r2.1, .int .i64 r2.2.1, .slice A2 r2.2.2.length c2] :: own 3 (.slice A2 r2.2.2.length c2) (vI (r2.2.2.set (Int.toNat place1) who1)) :: own 3 (.slice A3 x.1.length c3) (vI x.1) :: fs)) (assoc_b hm) ⟨none, 0, hF.weak [1, 2, 6, 9, 10, 11] (by kernel_rfl), hS⟩ ?_
        clear hF hS hm
        rintro nn1 ⟨gone1, i1⟩ a w ⟨A3, c3, hF, hS⟩ hm
        generalize hφ1 : stK (gameroomref_PutStone_L1 who1 place1 r2) nn1 (fun x => ((gameroomref_PutStone_K1 who1 place1 r2) x).bind some) = φ1 at hm
        unfold gameroomref_PutStone_L1 at hm
        dsimp only at hF hS hm
        refine seq_cut (fun a w => Fr 93 [pl 1 (.int .i64 who1), pl 2 (.int .i64 place1), pl 6 (.pointer (some ⟨g5, 0, none⟩)), pl 9 (.pointer (some ⟨g6, 0, none⟩)), pl 10 (.slice A3 gone1.length c3), pl 11 (.int .i64 i1)] a ∧ Sep w0 B w (blk g5 24 #[.int .i64 0, .int .i64 0, .slice none 0 0] :: blk g6 24 #[.int .i64 r2.1, .int .i64 r2.2.1, .slice A2 r2.2.2.length c2] :: own 3 (.slice A2 r2.2.2.length c2) (vI (r2.2.2.set (Int.toNat place1) who1)) :: own 3 (.slice A3 gone1.length c3) (vI gone1) :: fs) ∧ ((gameroomref_PutStone_J4 who1 place1 r2 gone1 i1)).bind φ1 = some r) ?_ ?_
        · rintro a w ⟨hF, hS, hm⟩
          unfold gameroomref_PutStone_J4 at hm
          refine seq_cut (fun a w => ∃ (gone3 : List Int) (A8 : Option Addr) (c8 : Nat), Fr 93 [pl 1 (.int .i64 who1), pl 2 (.int .i64 place1), pl 6 (.pointer (some ⟨g5, 0, none⟩)), pl 9 (.pointer (some ⟨g6, 0, none⟩)), pl 10 (.slice A8 gone3.length c8), pl 11 (.int .i64 i1)] a ∧ Sep w0 B w (blk g5 24 #[.int .i64 0, .int .i64 0, .slice none 0 0] :: blk g6 24 #[.int .i64 r2.1, .int .i64 r2.2.1, .slice A2 r2.2.2.length c2] :: own 3 (.slice A2 r2.2.2.length c2) (vI (r2.2.2.set (Int.toNat place1) who1)) :: own 3 (.slice A8 gone3.length c8) (vI gone3) :: fs) ∧ ((gameroomref_PutStone_J5 i1) gone3).bind φ1 = some r) ?_ ?_
          · rintro a w ⟨gone3, A8, c8, hF, hS, hm⟩
            unfold gameroomref_PutStone_J5 at hm
            refine reg1 [] [] [1, 2, 6, 9, 10, 11] [pl 1 (.int .i64 who1), pl 2 (.int .i64 place1), pl 6 (.pointer (some ⟨g5, 0, none⟩)), pl 9 (.pointer (some ⟨g6, 0, none⟩)), pl 10 (.slice A8 gone3.length c8), pl 11 (.int .i64 (w64 (i1 + 1)))] hF hS Fol (by kernel_rfl) (by kernel_rfl) (by kernel_rfl) ?_ (fun a w hF hS => ?_)
            · exact obs_nil
            refine then_n ?_
            rw [← hφ1] at hm
            exact ⟨(gone3, (w64 (i1 + 1))), ⟨A8, c8, hF.weak [1, 2, 6, 9, 10, 11] (by kernel_rfl), hS⟩, hm⟩
          · refine wpIn_block ?_
            obtain ⟨hp3, hm⟩ := asrt_b hm
            refine reg [⟨false, [], vS (Instr.loadAt 22 (.pointer (some ⟨g6, 2, none⟩))), .slice A2 r2.2.2.length c2⟩, ⟨true, [], vS (Instr.indexAt 22 (.slice A2 r2.2.2.length c2) (.int .i64 i1)), .pointer (some (sAddr A2 i1))⟩, ⟨false, [], vS (Instr.loadAt 3 (.pointer (some (sAddr A2 i1)))), .int .i64 (geti (r2.2.2.set (Int.toNat place1) who1) i1)⟩] [none, some (.slice A2 r2.2.2.length c2), none, some (.pointer (some (sAddr A2 i1))), some (.int .i64 (geti (r2.2.2.set (Int.toNat place1) who1) i1)), none, none, none] [1, 2, 6, 9, 10, 11, 53] [pl 1 (.int .i64 who1), pl 2 (.int .i64 place1), pl 6 (.pointer (some ⟨g5, 0, none⟩)), pl 9 (.pointer (some ⟨g6, 0, none⟩)), pl 10 (.slice A3 gone1.length c3), pl 11 (.int .i64 i1), pl 53 (.bool ((geti (r2.2.2.set (Int.toNat place1) who1) i1) == (w64 (3 - who1))))] hF hS Fol (by kernel_rfl) (by kernel_rfl) (by kernel_rfl) ?_ (fun a w hF hS => ?_)
            · exact obs_cons (ob_load Agg22 (fun _ _ hS => (hS.at_ 1 rfl).cell rfl)) <| obs_cons (ob_ix1 (f := (Value.int .i64)) (m := (r2.2.2.set (Int.toNat place1) who1)) Und22 hi3 hs3 (hS.at_ 2 rfl).rd ((hS.at_ 2 rfl).len1) (fun _ => hp3)) <| obs_cons (ob_get1 (n := r2.2.2.length) (m := (r2.2.2.set (Int.toNat place1) who1)) (Value.int .i64) (0 : Int) Agg3 (fun _ hS => ⟨_, (hS.at_ 2 rfl).rd⟩) (fun _ hS => ((hS.at_ 2 rfl).len1)) (fun _ => hp3)) <| obs_nil
            refine cond_ev (t := 53) (b := ((geti (r2.2.2.set (Int.toNat place1) who1) i1) == (w64 (3 - who1)))) hF (by kernel_rfl) (fun hb => ?_) (fun hb => ?_)
            · replace hm := if_t hm hb
              refine seqR ?_
              obtain ⟨r3, hr3, hm⟩ := call_b hm
              refine at_run 2 [⟨false, [], vS (Instr.loadAt 24 (.pointer (some ⟨g6, 0, none⟩))), .agg #[.int .i64 r2.1, .int .i64 r2.2.1, .slice A2 r2.2.2.length c2]⟩] [some (.agg #[.int .i64 r2.1, .int .i64 r2.2.1, .slice A2 r2.2.2.length c2]), none] [1, 2, 6, 9, 10, 11, 55, 56] [pl 1 (.int .i64 who1), pl 2 (.int .i64 place1), pl 6 (.pointer (some ⟨g5, 0, none⟩)), pl 9 (.pointer (some ⟨g6, 0, none⟩)), pl 10 (.slice A3 gone1.length c3), pl 11 (.int .i64 i1), pl 55 (.agg #[.int .i64 r2.1, .int .i64 r2.2.1, .slice A2 r2.2.2.length c2]), pl 56 (.int .i64 i1)] hF hS (by kernel_rfl) (by kernel_rfl) ?_ (fun a w hF hS => ?_)
              · exact obs_cons (ob_loadA (cs := #[.int .i64 r2.1, .int .i64 r2.2.1, .slice A2 r2.2.2.length c2]) (by kernel_rfl) (by kernel_rfl) (fun _ _ hS => (hS.at_ 1 rfl).cellsAt 0 (by rfl))) <| obs_nil
              refine at_call (f := 89) (args := #[.agg #[.int .i64 r2.1, .int .i64 r2.2.1, .slice A2 r2.2.2.length c2], .int .i64 i1]) (d := 57) hF (by kernel_rfl) (by kernel_rfl) Try.func89 (by kernel_rfl) rfl (gameroomref_GroupOf_w hr3 hS (fun _ hS => (hS.at_ 2 rfl).rd) ((hS.at_ 2 rfl).cap1) ((hS.at_ 2 rfl).len1)) (fun v a w hR hF => ?_)
              clear hS
              obtain ⟨A5, c5, A6, c6, rfl, hS⟩ := hR
              have hS : Sep w0 B w (own 3 (.slice A5 r3.1.length c5) (vI r3.1) :: own 3 (.slice A6 r3.2.length c6) (vI r3.2) :: blk g5 24 #[.int .i64 0, .int .i64 0, .slice none 0 0] :: blk g6 24 #[.int .i64 r2.1, .int .i64 r2.2.1, .slice A2 r2.2.2.length c2] :: own 3 (.slice A2 r2.2.2.length c2) (vI (r2.2.2.set (Int.toNat place1) who1)) :: own 3 (.slice A3 gone1.length c3) (vI gone1) :: fs) := hS
              refine at_run 5 [] [] [1, 2, 6, 9, 10, 11, 13] [pl 1 (.int .i64 who1), pl 2 (.int .i64 place1), pl 6 (.pointer (some ⟨g5, 0, none⟩)), pl 9 (.pointer (some ⟨g6, 0, none⟩)), pl 10 (.slice A3 gone1.length c3), pl 11 (.int .i64 i1), pl 13 (.slice A6 r3.2.length c6)] hF hS (by kernel_rfl) (by kernel_rfl) ?_ (fun a w hF hS => ?_)
              · exact obs_nil
              refine at_end [1, 2, 6, 9, 10, 11, 13] [pl 1 (.int .i64 who1), pl 2 (.int .i64 place1), pl 6 (.pointer (some ⟨g5, 0, none⟩)), pl 9 (.pointer (some ⟨g6, 0, none⟩)), pl 10 (.slice A3 gone1.length c3), pl 11 (.int .i64 i1), pl 13 (.slice A6 r3.2.length c6)] hF rfl (by kernel_rfl) (fun hF => ?_)
              refine then_n ?_
              refine reg [] [] [1, 2, 6, 9, 10, 11, 62] [pl 1 (.int .i64 who1), pl 2 (.int .i64 place1), pl 6 (.pointer (some ⟨g5, 0, none⟩)), pl 9 (.pointer (some ⟨g6, 0, none⟩)), pl 10 (.slice A3 gone1.length c3), pl 11 (.int .i64 i1), pl 62 (.bool ((r3.2.length : Int) == 0))] hF hS Fol (by kernel_rfl) (by kernel_rfl) (by kernel_rfl) ?_ (fun a w hF hS => ?_)
              · exact obs_nil
              refine cond_ev (t := 62) (b := ((r3.2.length : Int) == 0)) hF (by kernel_rfl) (fun hb => ?_) (fun hb => ?_)
              · replace hm := if_t hm hb
                refine oneR ?_
                obtain ⟨hp4, hm⟩ := asrt_b hm
                refine at_run 2 [] [] [1, 2, 6, 9, 11, 63, 64] [pl 1 (.int .i64 who1), pl 2 (.int .i64 place1), pl 6 (.pointer (some ⟨g5, 0, none⟩)), pl 9 (.pointer (some ⟨g6, 0, none⟩)), pl 11 (.int .i64 i1), pl 63 (.slice A3 gone1.length c3), pl 64 (.int .i64 i1)] hF hS (by kernel_rfl) (by kernel_rfl) ?_ (fun a w hF hS => ?_)
                · exact obs_nil
                refine at_do (d := 65) (s := vS (Instr.buildSlice 22 1 #[(0, .int .i64 i1)])) (v := .slice (some ⟨w.heap.size, 0, none⟩) 1 1) (w' := w.alloc (.cells #[.int .i64 i1] 3)) hF (by kernel_rfl) (by kernel_rfl) (by kernel_rfl) (fun a hF => ?_)
                have hS : Sep w0 B (w.alloc (.cells #[.int .i64 i1] 3)) (own 3 (.slice (some (⟨w.heap.size, 0, none⟩ : Addr)) 1 1) (vI ([i1] : List Int)) :: (own 3 (.slice A5 r3.1.length c5) (vI r3.1) :: own 3 (.slice A6 r3.2.length c6) (vI r3.2) :: blk g5 24 #[.int .i64 0, .int .i64 0, .slice none 0 0] :: blk g6 24 #[.int .i64 r2.1, .int .i64 r2.2.1, .slice A2 r2.2.2.length c2] :: own 3 (.slice A2 r2.2.2.length c2) (vI (r2.2.2.set (Int.toNat place1) who1)) :: own 3 (.slice A3 gone1.length c3) (vI gone1) :: fs)) := hS.lit 3 #[.int .i64 i1] 1 rfl (by omega)
                generalize (some (⟨w.heap.size, 0, none⟩ : Addr)) = g7 at hF hS
                generalize w.alloc (.cells #[.int .i64 i1] 3) = w at hS ⊢
                obtain ⟨A7, c7, w, hrun, hS⟩ := run_app1 (P := Try.prog) (t := 22) (m := gone1) (ys := ([i1] : List Int)) (A2 := g7) (m2 := 1) (c2 := 1) (Value.int .i64) (0 : Int) (hS.at_ 6 rfl) (hS.at_ 0 rfl).rd ((hS.at_ 0 rfl).len1) 22 Und22 hi3 hz3 hs3 (by omega) rfl (fun _ => rfl) hp4
                have hS : Sep w0 B w (own 3 (.slice g7 1 1) (vI ([i1] : List Int)) :: own 3 (.slice A5 r3.1.length c5) (vI r3.1) :: own 3 (.slice A6 r3.2.length c6) (vI r3.2) :: blk g5 24 #[.int .i64 0, .int .i64 0, .slice none 0 0] :: blk g6 24 #[.int .i64 r2.1, .int .i64 r2.2.1, .slice A2 r2.2.2.length c2] :: own 3 (.slice A2 r2.2.2.length c2) (vI (r2.2.2.set (Int.toNat place1) who1)) :: own 3 (.slice A7 ((gone1 ++ ([i1] : List Int)).length) c7) (vI (gone1 ++ ([i1] : List Int))) :: fs) := hS
                refine at_do (d := 66) hF (by kernel_rfl) (by kernel_rfl) hrun (fun a hF => ?_)
                refine at_run 1 [] [] [1, 2, 6, 9, 10, 11] [pl 1 (.int .i64 who1), pl 2 (.int .i64 place1), pl 6 (.pointer (some ⟨g5, 0, none⟩)), pl 9 (.pointer (some ⟨g6, 0, none⟩)), pl 10 (.slice A7 ((gone1 ++ ([i1] : List Int)).length) c7), pl 11 (.int .i64 i1)] hF hS (by kernel_rfl) (by kernel_rfl) ?_ (fun a w hF hS => ?_)
                · exact obs_nil
                refine at_end [1, 2, 6, 9, 10, 11] [pl 1 (.int .i64 who1), pl 2 (.int .i64 place1), pl 6 (.pointer (some ⟨g5, 0, none⟩)), pl 9 (.pointer (some ⟨g6, 0, none⟩)), pl 10 (.slice A7 ((gone1 ++ ([i1] : List Int)).length) c7), pl 11 (.int .i64 i1)] hF rfl (by kernel_rfl) (fun hF => ?_)
                refine block_n ?_
                refine then_n ?_
                have hS := hS.pickN 7 [3, 4, 5, 6] (by decide)
                exact ⟨(gone1 ++ ([i1] : List Int)), A7, c7, hF.weak [1, 2, 6, 9, 10, 11] (by kernel_rfl), hS, hm⟩
              · replace hm := if_f hm hb
                refine wpIn_skip ?_
                refine block_n ?_
                refine then_n ?_
                have hS := hS.pickN 6 [2, 3, 4, 5] (by decide)
                exact ⟨gone1, A3, c3, hF.weak [1, 2, 6, 9, 10, 11] (by kernel_rfl), hS, hm⟩
            · replace hm := if_f hm hb
              refine wpIn_skip ?_
              refine block_n ?_
              refine then_n ?_
              exact ⟨gone1, A3, c3, hF.weak [1, 2, 6, 9, 10, 11] (by kernel_rfl), hS, hm⟩
        · refine reg [⟨false, [], vS (Instr.loadAt 22 (.pointer (some ⟨g6, 2, none⟩))), .slice A2 r2.2.2.length c2⟩] [none, none, some (.slice A2 r2.2.2.length c2), none, none] [1, 2, 6, 9, 10, 11, 43] [pl 1 (.int .i64 who1), pl 2 (.int .i64 place1), pl 6 (.pointer (some ⟨g5, 0, none⟩)), pl 9 (.pointer (some ⟨g6, 0, none⟩)), pl 10 (.slice A3 gone1.length c3), pl 11 (.int .i64 i1), pl 43 (.bool (decide (i1 < (r2.2.2.length : Int))))] hF hS Fol (by kernel_rfl) (by kernel_rfl) (by kernel_rfl) ?_ (fun a w hF hS => ?_)
          · exact obs_cons (ob_load Agg22 (fun _ _ hS => (hS.at_ 1 rfl).cell rfl)) <| obs_nil
          refine cond_ev (t := 43) (b := decide (i1 < (r2.2.2.length : Int))) hF (by kernel_rfl) (fun hb => ?_) (fun hb => ?_)
          · replace hm := if_t hm hb
            refine wpIn_skip ?_
            refine then_n ?_
            exact ⟨hF.weak [1, 2, 6, 9, 10, 11] (by kernel_rfl), hS, hm⟩
          · replace hm := if_f hm hb
            refine wpIn_exit ?_
            refine then_e (then_e (block_e (then_n ?_)))
            rw [← hφ1] at hm
            replace hm := done_b hm
            unfold gameroomref_PutStone_K1 at hm
            try dsimp only at hm
            have hm : ((gameroomref_PutStone_J3 who1 place1 r2) gone1).bind some = some r := hm
            exact ⟨gone1, A3, c3, hF.weak [2, 6, 9, 10] (by kernel_rfl), hS, hm⟩
    · obtain ⟨hp1, hm⟩ := asrt_b hm
      refine reg [⟨false, [], vS (Instr.loadAt 22 (.pointer (some ⟨g4, 2, none⟩))), .slice A1 g3.length c1⟩, ⟨true, [], vS (Instr.indexAt 22 (.slice A1 g3.length c1) (.int .i64 place1)), .pointer (some (sAddr A1 place1))⟩, ⟨false, [], vS (Instr.loadAt 3 (.pointer (some (sAddr A1 place1)))), .int .i64 (geti g3 place1)⟩] [none, some (.slice A1 g3.length c1), none, some (.pointer (some (sAddr A1 place1))), some (.int .i64 (geti g3 place1)), none] [1, 2, 3, 6, 30] [pl 1 (.int .i64 who1), pl 2 (.int .i64 place1), pl 3 (.pointer (some ⟨g4, 0, none⟩)), pl 6 (.pointer (some ⟨g5, 0, none⟩)), pl 30 (.bool ((geti g3 place1) != 0))] hF hS Fol (by kernel_rfl) (by kernel_rfl) (by kernel_rfl) ?_ (fun a w hF hS => ?_)
      · exact obs_cons (ob_load Agg22 (fun _ _ hS => (hS.at_ 0 rfl).cell rfl)) <| obs_cons (ob_ix1 (f := (Value.int .i64)) (m := g3) Und22 hi3 hs3 (hr_g3 _ (hS.dropN 2)) rfl (fun _ => hp1)) <| obs_cons (ob_get1 (n := g3.length) (m := g3) (Value.int .i64) (0 : Int) Agg3 (fun _ hS => ⟨_, (hr_g3 _ (hS.dropN 2))⟩) (fun _ hS => rfl) (fun _ => hp1)) <| obs_nil
      refine cond_ev (t := 30) (b := ((geti g3 place1) != 0)) hF (by kernel_rfl) (fun hb => ?_) (fun hb => ?_)
      · replace hm := if_t hm hb
        refine seqR ?_
        refine at_run 1 [] [] [6, 31] [pl 6 (.pointer (some ⟨g5, 0, none⟩)), pl 31 (.agg #[.int .i64 0, .int .i64 0, .slice none 0 0])] hF hS (by kernel_rfl) (by kernel_rfl) ?_ (fun a w hF hS => ?_)
        · exact obs_nil
        obtain ⟨w, hrun, hS⟩ := run_putA (P := Try.prog) (t := 24) (us := #[.int .i64 0, .int .i64 0, .slice none 0 0]) (o := 0) (hS.at_ 1 rfl) (by kernel_rfl) (all_one (by kernel_rfl)) (Nat.le_of_ble_eq_true (by kernel_rfl))
        refine at_skip hF (by kernel_rfl) hrun ?_
        have hS : Sep w0 B w (blk g4 24 #[.int .i64 g1, .int .i64 g2, .slice A1 g3.length c1] :: blk g5 24 #[.int .i64 0, .int .i64 0, .slice none 0 0] :: fs) := hS
        refine at_run 2 [] [] [6, 7, 8] [pl 6 (.pointer (some ⟨g5, 0, none⟩)), pl 7 (.int .i64 0), pl 8 (.int .i64 6)] hF hS (by kernel_rfl) (by kernel_rfl) ?_ (fun a w hF hS => ?_)
        · exact obs_nil
        refine at_end [6, 7, 8] [pl 6 (.pointer (some ⟨g5, 0, none⟩)), pl 7 (.int .i64 0), pl 8 (.int .i64 6)] hF rfl (by kernel_rfl) (fun hF => ?_)
        refine then_n ?_
        refine wpIn_ret ?_
        refine then_r ?_
        have hS : Sep w0 B w (own 3 (.slice none 0 0) (vI ([] : List Int)) :: blk g4 24 #[.int .i64 g1, .int .i64 g2, .slice A1 g3.length c1] :: blk g5 24 #[.int .i64 0, .int .i64 0, .slice none 0 0] :: fs) := hS.nil 3
        have hl2 := (hS.at_ 0 rfl).len1
        have hS := (hS.at_ 0 rfl).reN hl2
        have hS : Sep w0 B w (own 3 (.slice none (([] : List Int).length) 0) (vI ([] : List Int)) :: blk g4 24 #[.int .i64 g1, .int .i64 g2, .slice A1 g3.length c1] :: blk g5 24 #[.int .i64 0, .int .i64 0, .slice none 0 0] :: fs) := hS
        have hld0 := run_loadVarA (P := Try.prog) (t := 24) (cs := #[.int .i64 0, .int .i64 0, .slice none (([] : List Int).length) 0]) (by kernel_rfl) (by kernel_rfl) ((hS.at_ 2 rfl).cellsAt 0 (by rfl))
        have hS := hS.pickN 3 [0] (by decide)
        have hm : some (0, 0, ([] : List Int), 0, 6) = some r := hm
        obtain rfl := Option.some.inj hm
        exact retV (rs := [.cell 6 24, .tmp 7, .tmp 8]) (vs := [.agg #[.int .i64 0, .int .i64 0, .slice none (([] : List Int).length) 0], .int .i64 0, .int .i64 6]) hF rfl (rv_c (by kernel_rfl) hld0 <| rv_t (by kernel_rfl) <| rv_t (by kernel_rfl) <| rv_nil) rfl ⟨_, rfl, none, 0, rfl, hS⟩
      · replace hm := if_f hm hb
        refine wpIn_skip ?_
        refine then_n ?_
        exact ⟨hF.weak [1, 2, 3, 6] (by kernel_rfl), hS, hm⟩
  · obtain ⟨r1, hr1, hm⟩ := call_b hm
    refine reg [⟨false, [], vS (Instr.loadAt 22 (.pointer (some ⟨g4, 2, none⟩))), .slice A1 g3.length c1⟩, ⟨false, [], callFunc 43 #[.int .i64 place1, .int .i64 0, .int .i64 (w64 ((g3.length : Int) - 1))], .bool r1⟩] [none, none, some (.slice A1 g3.length c1), none, none, some (.bool r1), none] [1, 2, 3, 6, 23] [pl 1 (.int .i64 who1), pl 2 (.int .i64 place1), pl 3 (.pointer (some ⟨g4, 0, none⟩)), pl 6 (.pointer (some ⟨g5, 0, none⟩)), pl 23 (.bool (!r1))] hF hS Fol (by kernel_rfl) (by kernel_rfl) (by kernel_rfl) ?_ (fun a w hF hS => ?_)
    · exact obs_cons (ob_load Agg22 (fun _ _ hS => (hS.at_ 1 rfl).cell rfl)) <| obs_cons (ob_call Try.func43 (by kernel_rfl) rfl (fun _ _ hS => gameroomref_within_w hr1 hS )) <| obs_nil
    refine cond_ev (t := 23) (b := !r1) hF (by kernel_rfl) (fun hb => ?_) (fun hb => ?_)
    · replace hm := if_t hm hb
      refine seqR ?_
      refine at_run 1 [] [] [6, 24] [pl 6 (.pointer (some ⟨g5, 0, none⟩)), pl 24 (.agg #[.int .i64 0, .int .i64 0, .slice none 0 0])] hF hS (by kernel_rfl) (by kernel_rfl) ?_ (fun a w hF hS => ?_)
      · exact obs_nil
      obtain ⟨w, hrun, hS⟩ := run_putA (P := Try.prog) (t := 24) (us := #[.int .i64 0, .int .i64 0, .slice none 0 0]) (o := 0) (hS.at_ 0 rfl) (by kernel_rfl) (all_one (by kernel_rfl)) (Nat.le_of_ble_eq_true (by kernel_rfl))
      refine at_skip hF (by kernel_rfl) hrun ?_
      have hS : Sep w0 B w (blk g5 24 #[.int .i64 0, .int .i64 0, .slice none 0 0] :: blk g4 24 #[.int .i64 g1, .int .i64 g2, .slice A1 g3.length c1] :: fs) := hS
      refine at_run 2 [] [] [6, 7, 8] [pl 6 (.pointer (some ⟨g5, 0, none⟩)), pl 7 (.int .i64 0), pl 8 (.int .i64 3)] hF hS (by kernel_rfl) (by kernel_rfl) ?_ (fun a w hF hS => ?_)
      · exact obs_nil
      refine at_end [6, 7, 8] [pl 6 (.pointer (some ⟨g5, 0, none⟩)), pl 7 (.int .i64 0), pl 8 (.int .i64 3)] hF rfl (by kernel_rfl) (fun hF => ?_)
      refine then_n ?_
      refine wpIn_ret ?_
      refine then_r ?_
      have hS : Sep w0 B w (own 3 (.slice none 0 0) (vI ([] : List Int)) :: blk g5 24 #[.int .i64 0, .int .i64 0, .slice none 0 0] :: blk g4 24 #[.int .i64 g1, .int .i64 g2, .slice A1 g3.length c1] :: fs) := hS.nil 3
      have hl1 := (hS.at_ 0 rfl).len1
      have hS := (hS.at_ 0 rfl).reN hl1
      have hS : Sep w0 B w (own 3 (.slice none (([] : List Int).length) 0) (vI ([] : List Int)) :: blk g5 24 #[.int .i64 0, .int .i64 0, .slice none 0 0] :: blk g4 24 #[.int .i64 g1, .int .i64 g2, .slice A1 g3.length c1] :: fs) := hS
      have hld0 := run_loadVarA (P := Try.prog) (t := 24) (cs := #[.int .i64 0, .int .i64 0, .slice none (([] : List Int).length) 0]) (by kernel_rfl) (by kernel_rfl) ((hS.at_ 1 rfl).cellsAt 0 (by rfl))
      have hS := hS.pickN 3 [0] (by decide)
      have hm : some (0, 0, ([] : List Int), 0, 3) = some r := hm
      obtain rfl := Option.some.inj hm
      exact retV (rs := [.cell 6 24, .tmp 7, .tmp 8]) (vs := [.agg #[.int .i64 0, .int .i64 0, .slice none (([] : List Int).length) 0], .int .i64 0, .int .i64 3]) hF rfl (rv_c (by kernel_rfl) hld0 <| rv_t (by kernel_rfl) <| rv_t (by kernel_rfl) <| rv_nil) rfl ⟨_, rfl, none, 0, rfl, hS⟩
    · replace hm := if_f hm hb
      refine wpIn_skip ?_
      refine then_n ?_
      have hS := hS.pickN 2 [1, 0] (by decide)
      exact ⟨hF.weak [1, 2, 3, 6] (by kernel_rfl), hS, hm⟩

noncomputable def gameroomref_sameInts_J4  (i1 : Int) : Option (St Int (Fl Unit Bool)) :=
  some (.next (w64 (i1 + 1)))

noncomputable def gameroomref_sameInts_J3  (a1 : List Int) (b1 : List Int) (i1 : Int) : Option (St Int (Fl Unit Bool)) :=
  asrt (0 ≤ i1 ∧ i1 < (a1.length : Int)) <| asrt (0 ≤ i1 ∧ i1 < (b1.length : Int)) <| if ((geti a1 i1) != (geti b1 i1)) then (some (.done (.ret false))) else ((gameroomref_sameInts_J4 i1))

noncomputable def gameroomref_sameInts_J2  : Option Bool :=
  some true

noncomputable def gameroomref_sameInts_K1  : (Fl Unit Bool) → Option Bool :=
  fun (x : (Fl Unit Bool)) => match x with | .go _ => gameroomref_sameInts_J2 | .ret x => some x

noncomputable def gameroomref_sameInts_L1  (a1 : List Int) (b1 : List Int) : Int → Option (St Int (Fl Unit Bool)) :=
  fun (x : Int) => match x with | i1 => if (decide (i1 < (a1.length : Int))) then ((gameroomref_sameInts_J3 a1 b1 i1)) else (some (.done (.go ())))

noncomputable def gameroomref_sameInts_J1  (a1 : List Int) (b1 : List Int) : Option Bool :=
  (loop (gameroomref_sameInts_L1 a1 b1) 0).bind gameroomref_sameInts_K1

noncomputable def gameroomref_sameInts_m  (a1 : List Int) (b1 : List Int) : Option Bool :=
  if ((a1.length : Int) != (b1.length : Int)) then (some false) else ((gameroomref_sameInts_J1 a1 b1))

set_option maxRecDepth 100000 in
set_option maxHeartbeats 4000000 in
theorem gameroomref_sameInts_w  {A1 : Option Addr} {c1 : Nat} {n1 : Nat} {a1 : List Int} {A2 : Option Addr} {c2 : Nat} {n2 : Nat} {b1 : List Int} {r : Bool} {w0 w : World} {B : Nat} {fs : List HP} (hm : gameroomref_sameInts_m a1 b1 = some r) (hS : Sep w0 B w (fs)) (hr_a1 : RdF w0 B fs A1 (vI a1)) (_hc_a1 : a1.length ≤ c1) (_hn_a1 : n1 = a1.length) (hr_b1 : RdF w0 B fs A2 (vI b1)) (_hc_b1 : b1.length ≤ c2) (_hn_b1 : n2 = b1.length) :
    Calls Try.prog 45 #[.slice A1 n1 c1, .slice A2 n2 c2] w fun e w' => e = .returned (.bool r) ∧ Sep w0 B w' (fs) := by
  obtain ⟨i3, hi3, hz3, hs3, hb3⟩ := info_parts Info3
  obtain rfl := _hn_a1
  obtain rfl := _hn_b1
  unfold gameroomref_sameInts_m at hm
  replace hm := start_b hm
  refine enter (l := [.slice A1 a1.length c1, .slice A2 b1.length c2]) (n := 26) Try.func45 rfl rfl (by simp) (fun a hF => ?_)
  refine reg [] [] [0, 1] [pl 0 (.slice A1 a1.length c1), pl 1 (.slice A2 b1.length c2)] hF hS Fol (by kernel_rfl) (by kernel_rfl) (by kernel_rfl) ?_ (fun a w hF hS => ?_)
  · exact obs_nil
  refine seq_cut (fun a w => Fr 26 [pl 0 (.slice A1 a1.length c1), pl 1 (.slice A2 b1.length c2)] a ∧ Sep w0 B w (fs) ∧ ((gameroomref_sameInts_J1 a1 b1)).bind some = some r) ?_ ?_
  · rintro a w ⟨hF, hS, hm⟩
    unfold gameroomref_sameInts_J1 at hm
    refine seq_cut (fun a w => Fr 26 [] a ∧ Sep w0 B w (fs) ∧ (gameroomref_sameInts_J2).bind some = some r) ?_ ?_
    · rintro a w ⟨hF, hS, hm⟩
      unfold gameroomref_sameInts_J2 at hm
      refine reg [] [] [4] [pl 4 (.bool true)] hF hS Fol (by kernel_rfl) (by kernel_rfl) (by kernel_rfl) ?_ (fun a w hF hS => ?_)
      · exact obs_nil
      refine wpIn_ret ?_
      have hm : some true = some r := hm
      obtain rfl := Option.some.inj hm
      exact retV (rs := [.tmp 4]) (vs := [.bool true]) hF rfl (rv_t (by kernel_rfl) <| rv_nil) rfl ⟨rfl, hS⟩
    · refine reg [] [] [0, 1, 5] [pl 0 (.slice A1 a1.length c1), pl 1 (.slice A2 b1.length c2), pl 5 (.int .i64 0)] hF hS Fol (by kernel_rfl) (by kernel_rfl) (by kernel_rfl) ?_ (fun a w hF hS => ?_)
      · exact obs_nil
      refine wpIn_block ?_
      refine wp_loop_model (S := Int) (R := (Fl Unit Bool)) (gameroomref_sameInts_L1 a1 b1) (fun x => (gameroomref_sameInts_K1 x).bind some) r (fun (x : Int) a w => Fr 26 [pl 0 (.slice A1 a1.length c1), pl 1 (.slice A2 b1.length c2), pl 5 (.int .i64 x)] a ∧ Sep w0 B w (fs)) (assoc_b hm) ⟨hF.weak [0, 1, 5] (by kernel_rfl), hS⟩ ?_
      clear hF hS hm
      rintro nn1 i1 a w ⟨hF, hS⟩ hm
      generalize hφ1 : stK (gameroomref_sameInts_L1 a1 b1) nn1 (fun x => (gameroomref_sameInts_K1 x).bind some) = φ1 at hm
      unfold gameroomref_sameInts_L1 at hm
      dsimp only at hm
      refine seq_cut (fun a w => Fr 26 [pl 0 (.slice A1 a1.length c1), pl 1 (.slice A2 b1.length c2), pl 5 (.int .i64 i1)] a ∧ Sep w0 B w (fs) ∧ ((gameroomref_sameInts_J3 a1 b1 i1)).bind φ1 = some r) ?_ ?_
      · rintro a w ⟨hF, hS, hm⟩
        unfold gameroomref_sameInts_J3 at hm
        refine seq_cut (fun a w => Fr 26 [pl 0 (.slice A1 a1.length c1), pl 1 (.slice A2 b1.length c2), pl 5 (.int .i64 i1)] a ∧ Sep w0 B w (fs) ∧ ((gameroomref_sameInts_J4 i1)).bind φ1 = some r) ?_ ?_
        · rintro a w ⟨hF, hS, hm⟩
          unfold gameroomref_sameInts_J4 at hm
          refine reg1 [] [] [0, 1, 5] [pl 0 (.slice A1 a1.length c1), pl 1 (.slice A2 b1.length c2), pl 5 (.int .i64 (w64 (i1 + 1)))] hF hS Fol (by kernel_rfl) (by kernel_rfl) (by kernel_rfl) ?_ (fun a w hF hS => ?_)
          · exact obs_nil
          refine then_n ?_
          rw [← hφ1] at hm
          exact ⟨(w64 (i1 + 1)), ⟨hF.weak [0, 1, 5] (by kernel_rfl), hS⟩, hm⟩
        · refine wpIn_block ?_
          obtain ⟨hp1, hm⟩ := asrt_b hm
          obtain ⟨hp2, hm⟩ := asrt_b hm
          refine reg [⟨true, [], vS (Instr.indexAt 22 (.slice A1 a1.length c1) (.int .i64 i1)), .pointer (some (sAddr A1 i1))⟩, ⟨false, [], vS (Instr.loadAt 3 (.pointer (some (sAddr A1 i1)))), .int .i64 (geti a1 i1)⟩, ⟨true, [], vS (Instr.indexAt 22 (.slice A2 b1.length c2) (.int .i64 i1)), .pointer (some (sAddr A2 i1))⟩, ⟨false, [], vS (Instr.loadAt 3 (.pointer (some (sAddr A2 i1)))), .int .i64 (geti b1 i1)⟩] [none, none, some (.pointer (some (sAddr A1 i1))), some (.int .i64 (geti a1 i1)), none, none, some (.pointer (some (sAddr A2 i1))), some (.int .i64 (geti b1 i1)), none] [0, 1, 5, 25] [pl 0 (.slice A1 a1.length c1), pl 1 (.slice A2 b1.length c2), pl 5 (.int .i64 i1), pl 25 (.bool ((geti a1 i1) != (geti b1 i1)))] hF hS Fol (by kernel_rfl) (by kernel_rfl) (by kernel_rfl) ?_ (fun a w hF hS => ?_)
          · exact obs_cons (ob_ix1 (f := (Value.int .i64)) (m := a1) Und22 hi3 hs3 (hr_a1 _ (hS.dropN 0)) rfl (fun _ => hp1)) <| obs_cons (ob_get1 (n := a1.length) (m := a1) (Value.int .i64) (0 : Int) Agg3 (fun _ hS => ⟨_, (hr_a1 _ (hS.dropN 0))⟩) (fun _ hS => rfl) (fun _ => hp1)) <| obs_cons (ob_ix1 (f := (Value.int .i64)) (m := b1) Und22 hi3 hs3 (hr_b1 _ (hS.dropN 0)) rfl (fun _ => hp2)) <| obs_cons (ob_get1 (n := b1.length) (m := b1) (Value.int .i64) (0 : Int) Agg3 (fun _ hS => ⟨_, (hr_b1 _ (hS.dropN 0))⟩) (fun _ hS => rfl) (fun _ => hp2)) <| obs_nil
          refine cond_ev (t := 25) (b := ((geti a1 i1) != (geti b1 i1))) hF (by kernel_rfl) (fun hb => ?_) (fun hb => ?_)
          · replace hm := if_t hm hb
            refine reg [] [] [4] [pl 4 (.bool false)] hF hS Fol (by kernel_rfl) (by kernel_rfl) (by kernel_rfl) ?_ (fun a w hF hS => ?_)
            · exact obs_nil
            refine wpIn_ret ?_
            refine block_r (then_r (then_r (block_r (then_r ?_))))
            rw [← hφ1] at hm
            replace hm := done_b hm
            unfold gameroomref_sameInts_K1 at hm
            try dsimp only at hm
            have hm : some false = some r := hm
            obtain rfl := Option.some.inj hm
            exact retV (rs := [.tmp 4]) (vs := [.bool false]) hF rfl (rv_t (by kernel_rfl) <| rv_nil) rfl ⟨rfl, hS⟩
          · replace hm := if_f hm hb
            refine wpIn_skip ?_
            refine block_n ?_
            refine then_n ?_
            exact ⟨hF.weak [0, 1, 5] (by kernel_rfl), hS, hm⟩
      · refine reg [] [] [0, 1, 5, 14] [pl 0 (.slice A1 a1.length c1), pl 1 (.slice A2 b1.length c2), pl 5 (.int .i64 i1), pl 14 (.bool (decide (i1 < (a1.length : Int))))] hF hS Fol (by kernel_rfl) (by kernel_rfl) (by kernel_rfl) ?_ (fun a w hF hS => ?_)
        · exact obs_nil
        refine cond_ev (t := 14) (b := decide (i1 < (a1.length : Int))) hF (by kernel_rfl) (fun hb => ?_) (fun hb => ?_)
        · replace hm := if_t hm hb
          refine wpIn_skip ?_
          refine then_n ?_
          exact ⟨hF.weak [0, 1, 5] (by kernel_rfl), hS, hm⟩
        · replace hm := if_f hm hb
          refine wpIn_exit ?_
          refine then_e (then_e (block_e (then_n ?_)))
          rw [← hφ1] at hm
          replace hm := done_b hm
          unfold gameroomref_sameInts_K1 at hm
          try dsimp only at hm
          have hm : (gameroomref_sameInts_J2).bind some = some r := hm
          exact ⟨hF.weak [] (by kernel_rfl), hS, hm⟩
  · refine reg [] [] [0, 1, 10] [pl 0 (.slice A1 a1.length c1), pl 1 (.slice A2 b1.length c2), pl 10 (.bool ((a1.length : Int) != (b1.length : Int)))] hF hS Fol (by kernel_rfl) (by kernel_rfl) (by kernel_rfl) ?_ (fun a w hF hS => ?_)
    · exact obs_nil
    refine cond_ev (t := 10) (b := ((a1.length : Int) != (b1.length : Int))) hF (by kernel_rfl) (fun hb => ?_) (fun hb => ?_)
    · replace hm := if_t hm hb
      refine reg [] [] [4] [pl 4 (.bool false)] hF hS Fol (by kernel_rfl) (by kernel_rfl) (by kernel_rfl) ?_ (fun a w hF hS => ?_)
      · exact obs_nil
      refine wpIn_ret ?_
      refine then_r ?_
      have hm : some false = some r := hm
      obtain rfl := Option.some.inj hm
      exact retV (rs := [.tmp 4]) (vs := [.bool false]) hF rfl (rv_t (by kernel_rfl) <| rv_nil) rfl ⟨rfl, hS⟩
    · replace hm := if_f hm hb
      refine wpIn_skip ?_
      refine then_n ?_
      exact ⟨hF.weak [0, 1] (by kernel_rfl), hS, hm⟩

noncomputable def gameroomref_SameGrid_m  (a1 : Int) (a2 : Int) (a3 : List Int) (b1 : Int) (b2 : Int) (b3 : List Int) : Option Bool :=
  ((if ((a1 == b1) && (a2 == b2)) then gameroomref_sameInts_m a3 b3 else some false)).bind fun r1 => some (((a1 == b1) && (a2 == b2)) && r1)

set_option maxRecDepth 100000 in
set_option maxHeartbeats 4000000 in
theorem gameroomref_SameGrid_w  {a1 : Int} {a2 : Int} {A1 : Option Addr} {c1 : Nat} {n1 : Nat} {a3 : List Int} {b1 : Int} {b2 : Int} {A2 : Option Addr} {c2 : Nat} {n2 : Nat} {b3 : List Int} {r : Bool} {w0 w : World} {B : Nat} {fs : List HP} (hm : gameroomref_SameGrid_m a1 a2 a3 b1 b2 b3 = some r) (hS : Sep w0 B w (fs)) (hr_a3 : RdF w0 B fs A1 (vI a3)) (_hc_a3 : a3.length ≤ c1) (_hn_a3 : n1 = a3.length) (hr_b3 : RdF w0 B fs A2 (vI b3)) (_hc_b3 : b3.length ≤ c2) (_hn_b3 : n2 = b3.length) :
    Calls Try.prog 14 #[.agg #[.int .i64 a1, .int .i64 a2, .slice A1 n1 c1], .agg #[.int .i64 b1, .int .i64 b2, .slice A2 n2 c2]] w fun e w' => e = .returned (.bool r) ∧ Sep w0 B w' (fs) := by
  obtain ⟨i3, hi3, hz3, hs3, hb3⟩ := info_parts Info3
  obtain rfl := _hn_a3
  obtain rfl := _hn_b3
  unfold gameroomref_SameGrid_m at hm
  replace hm := start_b hm
  refine enter (l := [.agg #[.int .i64 a1, .int .i64 a2, .slice A1 a3.length c1], .agg #[.int .i64 b1, .int .i64 b2, .slice A2 b3.length c2]]) (n := 24) Try.func14 rfl rfl (by simp) (fun a hF => ?_)
  refine seqR ?_
  refine at_do (d := 2) (s := vS (Instr.box 24 (.agg #[.int .i64 a1, .int .i64 a2, .slice A1 a3.length c1]))) (v := .pointer (some ⟨w.heap.size, 0, none⟩)) (w' := w.alloc (.cells #[.int .i64 a1, .int .i64 a2, .slice A1 a3.length c1] 24)) hF (by kernel_rfl) (by kernel_rfl) (by kernel_rfl) (fun a hF => ?_)
  have hS : Sep w0 B (w.alloc (.cells #[.int .i64 a1, .int .i64 a2, .slice A1 a3.length c1] 24)) (blk w.heap.size 24 #[.int .i64 a1, .int .i64 a2, .slice A1 a3.length c1] :: (fs)) := hS.box 24 #[.int .i64 a1, .int .i64 a2, .slice A1 a3.length c1]
  generalize w.heap.size = g1 at hF hS
  generalize w.alloc (.cells #[.int .i64 a1, .int .i64 a2, .slice A1 a3.length c1] 24) = w at hS ⊢
  refine at_do (d := 3) (s := vS (Instr.box 24 (.agg #[.int .i64 b1, .int .i64 b2, .slice A2 b3.length c2]))) (v := .pointer (some ⟨w.heap.size, 0, none⟩)) (w' := w.alloc (.cells #[.int .i64 b1, .int .i64 b2, .slice A2 b3.length c2] 24)) hF (by kernel_rfl) (by kernel_rfl) (by kernel_rfl) (fun a hF => ?_)
  have hS : Sep w0 B (w.alloc (.cells #[.int .i64 b1, .int .i64 b2, .slice A2 b3.length c2] 24)) (blk w.heap.size 24 #[.int .i64 b1, .int .i64 b2, .slice A2 b3.length c2] :: (blk g1 24 #[.int .i64 a1, .int .i64 a2, .slice A1 a3.length c1] :: fs)) := hS.box 24 #[.int .i64 b1, .int .i64 b2, .slice A2 b3.length c2]
  generalize w.heap.size = g2 at hF hS
  generalize w.alloc (.cells #[.int .i64 b1, .int .i64 b2, .slice A2 b3.length c2] 24) = w at hS ⊢
  refine at_run 1 [] [] [2, 3] [pl 2 (.pointer (some ⟨g1, 0, none⟩)), pl 3 (.pointer (some ⟨g2, 0, none⟩))] hF hS (by kernel_rfl) (by kernel_rfl) ?_ (fun a w hF hS => ?_)
  · exact obs_nil
  refine at_end [2, 3] [pl 2 (.pointer (some ⟨g1, 0, none⟩)), pl 3 (.pointer (some ⟨g2, 0, none⟩))] hF rfl (by kernel_rfl) (fun hF => ?_)
  refine then_n ?_
  obtain ⟨r1, hr1, hm⟩ := call_b hm
  refine reg [⟨false, [], vS (Instr.loadAt 3 (.pointer (some ⟨g1, 0, none⟩))), .int .i64 a1⟩, ⟨false, [], vS (Instr.loadAt 3 (.pointer (some ⟨g2, 0, none⟩))), .int .i64 b1⟩, ⟨false, [((a1 == b1), true)], vS (Instr.loadAt 3 (.pointer (some ⟨g1, 1, none⟩))), .int .i64 a2⟩, ⟨false, [((a1 == b1), true)], vS (Instr.loadAt 3 (.pointer (some ⟨g2, 1, none⟩))), .int .i64 b2⟩, ⟨false, [((a1 == b1) && (a2 == b2), true)], vS (Instr.loadAt 22 (.pointer (some ⟨g1, 2, none⟩))), .slice A1 a3.length c1⟩, ⟨false, [((a1 == b1) && (a2 == b2), true)], vS (Instr.loadAt 22 (.pointer (some ⟨g2, 2, none⟩))), .slice A2 b3.length c2⟩, ⟨false, [((a1 == b1) && (a2 == b2), true)], callFunc 45 #[.slice A1 a3.length c1, .slice A2 b3.length c2], .bool r1⟩] [none, some (.int .i64 a1), none, some (.int .i64 b1), none, none, none, some (.int .i64 a2), none, some (.int .i64 b2), none, none, none, none, some (.slice A1 a3.length c1), none, some (.slice A2 b3.length c2), some (.bool r1), none, none] [4] [pl 4 (.bool (((a1 == b1) && (a2 == b2)) && r1))] hF hS Fol (by kernel_rfl) (by kernel_rfl) (by kernel_rfl) ?_ (fun a w hF hS => ?_)
  · exact obs_cons (ob_load Agg3 (fun _ _ hS => (hS.at_ 1 rfl).cell rfl)) <| obs_cons (ob_load Agg3 (fun _ _ hS => (hS.at_ 0 rfl).cell rfl)) <| obs_cons (ob_load Agg3 (fun _ _ hS => (hS.at_ 1 rfl).cell rfl)) <| obs_cons (ob_load Agg3 (fun _ _ hS => (hS.at_ 0 rfl).cell rfl)) <| obs_cons (ob_load Agg22 (fun _ _ hS => (hS.at_ 1 rfl).cell rfl)) <| obs_cons (ob_load Agg22 (fun _ _ hS => (hS.at_ 0 rfl).cell rfl)) <| obs_cons (ob_call Try.func45 (by kernel_rfl) rfl (fun hy _ hS => gameroomref_sameInts_w (ite_some hr1 (by rw [show ((a1 == b1) && (a2 == b2)) = true from hy ((a1 == b1) && (a2 == b2), true) (by simp)]; try rfl)) hS (fun _ hS => (hr_a3 _ (hS.dropN 2))) _hc_a3 rfl (fun _ hS => (hr_b3 _ (hS.dropN 2))) _hc_b3 rfl)) <| obs_nil
  refine wpIn_ret ?_
  have hS := hS.pickN 2 [] (by decide)
  have hm : some (((a1 == b1) && (a2 == b2)) && r1) = some r := hm
  obtain rfl := Option.some.inj hm
  exact retV (rs := [.tmp 4]) (vs := [.bool (((a1 == b1) && (a2 == b2)) && r1)]) hF rfl (rv_t (by kernel_rfl) <| rv_nil) rfl ⟨rfl, hS⟩

noncomputable def gameroomref_PlayStones_J5  (taken1 : List Int) (now1 : Int) (now2 : Int) (now3 : List Int) (i1 : Int) : Option (St (List (Int × Int × List Int) × List Int × Int × Int × List Int × Int) (Fl (List Int × Int × Int × List Int) (Int × Int × List Int × List Int × Int × Int))) :=
  some (.done (.ret (now1, now2, now3, taken1, i1, 9)))

noncomputable def gameroomref_PlayStones_J10  (k1 : Int) (e4 : Int) : Option (St (Int × Int) Int) :=
  some (.next (e4, (w64 (k1 + 1))))

noncomputable def gameroomref_PlayStones_J9  (boards1 : List (Int × Int × List Int)) (next1 : Int) (next2 : Int) (next3 : List Int) (e2 : Int) (k1 : Int) : Option (St (Int × Int) Int) :=
  asrt (0 ≤ k1 ∧ k1 < (boards1.length : Int)) <| (gameroomref_SameGrid_m ((getd zP24 boards1 k1).1) ((getd zP24 boards1 k1).2.1) ((getd zP24 boards1 k1).2.2) next1 next2 next3).bind fun r4 => if r4 then ((gameroomref_PlayStones_J10 k1) 8) else ((gameroomref_PlayStones_J10 k1) e2)

noncomputable def gameroomref_PlayStones_J12  (taken1 : List Int) (now1 : Int) (now2 : Int) (now3 : List Int) (i1 : Int) (e3 : Int) : Option (St (List (Int × Int × List Int) × List Int × Int × Int × List Int × Int) (Fl (List Int × Int × Int × List Int) (Int × Int × List Int × List Int × Int × Int))) :=
  some (.done (.ret (now1, now2, now3, taken1, i1, e3)))

noncomputable def gameroomref_PlayStones_J3  (i1 : Int) (boards2 : List (Int × Int × List Int)) (taken3 : List Int) (now7 : Int) (now8 : Int) (now9 : List Int) : Option (St (List (Int × Int × List Int) × List Int × Int × Int × List Int × Int) (Fl (List Int × Int × Int × List Int) (Int × Int × List Int × List Int × Int × Int))) :=
  some (.next (boards2, taken3, now7, now8, now9, (w64 (i1 + 1))))

noncomputable def gameroomref_PlayStones_J11  (boards1 : List (Int × Int × List Int)) (taken1 : List Int) (i1 : Int) (next1 : Int) (next2 : Int) (next3 : List Int) (n3 : Int) : Option (St (List (Int × Int × List Int) × List Int × Int × Int × List Int × Int) (Fl (List Int × Int × Int × List Int) (Int × Int × List Int × List Int × Int × Int))) :=
  asrt ((boards1.length : Int) + 1 ≤ bigK) <| asrt (0 ≤ (Int.tmod i1 2) ∧ (Int.tmod i1 2) < 2) <| asrt (0 ≤ (Int.tmod i1 2) ∧ (Int.tmod i1 2) < 2) <| asrt ((Int.tmod i1 2) < (taken1.length : Int)) <| (gameroomref_PlayStones_J3 i1) (boards1 ++ ([(next1, next2, next3)] : List (Int × Int × List Int))) (taken1.set (Int.toNat (Int.tmod i1 2)) (w64 ((geti taken1 (Int.tmod i1 2)) + n3))) next1 next2 next3

noncomputable def gameroomref_PlayStones_J8  (boards1 : List (Int × Int × List Int)) (taken1 : List Int) (now1 : Int) (now2 : Int) (now3 : List Int) (i1 : Int) (next1 : Int) (next2 : Int) (next3 : List Int) (n3 : Int) (e3 : Int) : Option (St (List (Int × Int × List Int) × List Int × Int × Int × List Int × Int) (Fl (List Int × Int × Int × List Int) (Int × Int × List Int × List Int × Int × Int))) :=
  if (e3 != 0) then ((gameroomref_PlayStones_J12 taken1 now1 now2 now3 i1 e3)) else ((gameroomref_PlayStones_J11 boards1 taken1 i1 next1 next2 next3 n3))

noncomputable def gameroomref_PlayStones_K2  (boards1 : List (Int × Int × List Int)) (taken1 : List Int) (now1 : Int) (now2 : Int) (now3 : List Int) (i1 : Int) (next1 : Int) (next2 : Int) (next3 : List Int) (n3 : Int) : Int → Option (St (List (Int × Int × List Int) × List Int × Int × Int × List Int × Int) (Fl (List Int × Int × Int × List Int) (Int × Int × List Int × List Int × Int × Int))) :=
  fun (x : Int) => match x with | e3 => (gameroomref_PlayStones_J8 boards1 taken1 now1 now2 now3 i1 next1 next2 next3 n3) e3

noncomputable def gameroomref_PlayStones_L2  (boards1 : List (Int × Int × List Int)) (next1 : Int) (next2 : Int) (next3 : List Int) : (Int × Int) → Option (St (Int × Int) Int) :=
  fun (x : (Int × Int)) => match x with | (e2, k1) => if ((decide (k1 < (boards1.length : Int))) && (e2 == 0)) then ((gameroomref_PlayStones_J9 boards1 next1 next2 next3 e2 k1)) else (some (.done e2))

noncomputable def gameroomref_PlayStones_J7  (boards1 : List (Int × Int × List Int)) (taken1 : List Int) (now1 : Int) (now2 : Int) (now3 : List Int) (i1 : Int) (next1 : Int) (next2 : Int) (next3 : List Int) (n3 : Int) (e1 : Int) : Option (St (List (Int × Int × List Int) × List Int × Int × Int × List Int × Int) (Fl (List Int × Int × Int × List Int) (Int × Int × List Int × List Int × Int × Int))) :=
  (loop (gameroomref_PlayStones_L2 boards1 next1 next2 next3) (e1, 0)).bind (gameroomref_PlayStones_K2 boards1 taken1 now1 now2 now3 i1 next1 next2 next3 n3)

noncomputable def gameroomref_PlayStones_J6  (moves1 : List Int) (boards1 : List (Int × Int × List Int)) (taken1 : List Int) (now1 : Int) (now2 : Int) (now3 : List Int) (i1 : Int) : Option (St (List (Int × Int × List Int) × List Int × Int × Int × List Int × Int) (Fl (List Int × Int × Int × List Int) (Int × Int × List Int × List Int × Int × Int))) :=
  asrt (0 ≤ i1 ∧ i1 < (moves1.length : Int)) <| (gameroomref_PutStone_m now1 now2 now3 (w64 (1 + (Int.tmod i1 2))) (geti moves1 i1)).bind fun r3 => (gameroomref_PlayStones_J7 boards1 taken1 now1 now2 now3 i1) r3.1 r3.2.1 r3.2.2.1 r3.2.2.2.1 r3.2.2.2.2

noncomputable def gameroomref_PlayStones_J4  (moves1 : List Int) (boards1 : List (Int × Int × List Int)) (taken1 : List Int) (now1 : Int) (now2 : Int) (now3 : List Int) (i1 : Int) : Option (St (List (Int × Int × List Int) × List Int × Int × Int × List Int × Int) (Fl (List Int × Int × Int × List Int) (Int × Int × List Int × List Int × Int × Int))) :=
  asrt (0 ≤ i1 ∧ i1 < (moves1.length : Int)) <| if ((geti moves1 i1) == (-1)) then ((gameroomref_PlayStones_J3 i1) boards1 taken1 now1 now2 now3) else ((gameroomref_PlayStones_J6 moves1 boards1 taken1 now1 now2 now3 i1))

noncomputable def gameroomref_PlayStones_J2  (moves1 : List Int) (boards1 : List (Int × Int × List Int)) (taken1 : List Int) (now1 : Int) (now2 : Int) (now3 : List Int) (i1 : Int) : Option (St (List (Int × Int × List Int) × List Int × Int × Int × List Int × Int) (Fl (List Int × Int × Int × List Int) (Int × Int × List Int × List Int × Int × Int))) :=
  asrt ((decide ((2 : Int) ≤ i1)) = true → 0 ≤ (w64 (i1 - 1)) ∧ (w64 (i1 - 1)) < (moves1.length : Int)) <| asrt (((decide ((2 : Int) ≤ i1)) && ((geti moves1 (w64 (i1 - 1))) == (-1))) = true → 0 ≤ (w64 (i1 - 2)) ∧ (w64 (i1 - 2)) < (moves1.length : Int)) <| if (((decide ((2 : Int) ≤ i1)) && ((geti moves1 (w64 (i1 - 1))) == (-1))) && ((geti moves1 (w64 (i1 - 2))) == (-1))) then ((gameroomref_PlayStones_J5 taken1 now1 now2 now3 i1)) else ((gameroomref_PlayStones_J4 moves1 boards1 taken1 now1 now2 now3 i1))

noncomputable def gameroomref_PlayStones_J13  (moves1 : List Int) (taken2 : List Int) (now4 : Int) (now5 : Int) (now6 : List Int) : Option (Int × Int × List Int × List Int × Int × Int) :=
  some (now4, now5, now6, taken2, (moves1.length : Int), 0)

noncomputable def gameroomref_PlayStones_J1  (moves1 : List Int) (taken2 : List Int) (now4 : Int) (now5 : Int) (now6 : List Int) : Option (Int × Int × List Int × List Int × Int × Int) :=
  (gameroomref_PlayStones_J13 moves1 taken2 now4 now5 now6)

noncomputable def gameroomref_PlayStones_K1  (moves1 : List Int) : (Fl (List Int × Int × Int × List Int) (Int × Int × List Int × List Int × Int × Int)) → Option (Int × Int × List Int × List Int × Int × Int) :=
  fun (x : (Fl (List Int × Int × Int × List Int) (Int × Int × List Int × List Int × Int × Int))) => match x with | .go (taken2, now4, now5, now6) => (gameroomref_PlayStones_J1 moves1) taken2 now4 now5 now6 | .ret x => some x

noncomputable def gameroomref_PlayStones_L1  (moves1 : List Int) : (List (Int × Int × List Int) × List Int × Int × Int × List Int × Int) → Option (St (List (Int × Int × List Int) × List Int × Int × Int × List Int × Int) (Fl (List Int × Int × Int × List Int) (Int × Int × List Int × List Int × Int × Int))) :=
  fun (x : (List (Int × Int × List Int) × List Int × Int × Int × List Int × Int)) => match x with | (boards1, taken1, now1, now2, now3, i1) => if (decide (i1 < (moves1.length : Int))) then ((gameroomref_PlayStones_J2 moves1 boards1 taken1 now1 now2 now3 i1)) else (some (.done (.go (taken1, now1, now2, now3))))
end Go.Proofs.Ytjfloofoobllaaa
