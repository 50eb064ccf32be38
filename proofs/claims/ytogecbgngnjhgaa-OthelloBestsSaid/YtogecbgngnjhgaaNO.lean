/-
  Models and walks, printed by our own program (wip/gen).
-/
import Derived.Test.YtogecbgngnjhgaaFB
import Derived.Test.YtogecbgngnjhgaaNOa
namespace Go.Proofs.Ytogecbgngnjhgaa
open Go Go.GL Go.RowKit

noncomputable def gameroomref_PutSign_m (g1 : Int) (g2 : Int) (g3 : List Int) (who1 : Int) (place1 : Int) : Option (Int × Int × List Int × Int) :=
  (gameroomref_GridOf_m g1 g2 g3).bind fun r1 => asrt (0 ≤ place1 ∧ place1 < (g3.length : Int)) <| if ((geti g3 place1) != 0) then (some (r1.1, r1.2.1, r1.2.2, 0)) else ((gameroomref_PutSign_J1 g1 g2 g3 who1 place1 r1))

set_option maxRecDepth 100000 in
set_option maxHeartbeats 4000000 in
theorem gameroomref_PutSign_w {g1 : Int} {g2 : Int} {A1 : Option Addr} {c1 : Nat} {n1 : Nat} {g3 : List Int} {who1 : Int} {place1 : Int} {r : (Int × Int × List Int × Int)} {w0 w : World} {B : Nat} {fs : List HP} (hm : gameroomref_PutSign_m g1 g2 g3 who1 place1 = some r) (hS : Sep w0 B w (fs)) (hr_g3 : RdF w0 B fs A1 (vI g3)) (_hc_g3 : g3.length ≤ c1) (_hn_g3 : n1 = g3.length) :
    Calls Try.prog 23 #[.agg #[.int .i64 g1, .int .i64 g2, .slice A1 n1 c1], .int .i64 who1, .int .i64 place1] w fun e w' => ∃ v, e = .returned v ∧ ∃ (A3 : Option Addr) (c3 : Nat), v = .tuple #[.agg #[.int .i64 r.1, .int .i64 r.2.1, .slice A3 r.2.2.1.length c3], .int .i64 r.2.2.2] ∧ Sep w0 B w' (own 3 (.slice A3 r.2.2.1.length c3) (vI r.2.2.1) :: fs) := by
  obtain ⟨i3, hi3, hz3, hs3, hb3⟩ := info_parts Info3
  obtain rfl := _hn_g3
  unfold gameroomref_PutSign_m at hm
  replace hm := start_b hm
  refine enter (l := [.agg #[.int .i64 g1, .int .i64 g2, .slice A1 g3.length c1], .int .i64 who1, .int .i64 place1]) (n := 155) Try.func23 rfl rfl (by simp) (fun a hF => ?_)
  refine seqR ?_
  refine at_do (d := 3) (s := vS (Instr.box 24 (.agg #[.int .i64 g1, .int .i64 g2, .slice A1 g3.length c1]))) (v := .pointer (some ⟨w.heap.size, 0, none⟩)) (w' := w.alloc (.cells #[.int .i64 g1, .int .i64 g2, .slice A1 g3.length c1] 24)) hF (by kernel_rfl) (by kernel_rfl) (by kernel_rfl) (fun a hF => ?_)
  have hS : Sep w0 B (w.alloc (.cells #[.int .i64 g1, .int .i64 g2, .slice A1 g3.length c1] 24)) (blk w.heap.size 24 #[.int .i64 g1, .int .i64 g2, .slice A1 g3.length c1] :: (fs)) := hS.box 24 #[.int .i64 g1, .int .i64 g2, .slice A1 g3.length c1]
  generalize w.heap.size = g4 at hF hS
  generalize w.alloc (.cells #[.int .i64 g1, .int .i64 g2, .slice A1 g3.length c1] 24) = w at hS ⊢
  refine at_do (d := 6) (s := vS (Instr.alloc 24 true (.tuple #[]))) (v := .pointer (some ⟨w.heap.size, 0, none⟩)) (w' := w.alloc (.cells #[.int .i64 0, .int .i64 0, .slice none 0 0] 24)) hF (by kernel_rfl) (by kernel_rfl) (by kernel_rfl) (fun a hF => ?_)
  have hS : Sep w0 B (w.alloc (.cells #[.int .i64 0, .int .i64 0, .slice none 0 0] 24)) (blk w.heap.size 24 #[.int .i64 0, .int .i64 0, .slice none 0 0] :: (blk g4 24 #[.int .i64 g1, .int .i64 g2, .slice A1 g3.length c1] :: fs)) := hS.box 24 #[.int .i64 0, .int .i64 0, .slice none 0 0]
  generalize w.heap.size = g5 at hF hS
  generalize w.alloc (.cells #[.int .i64 0, .int .i64 0, .slice none 0 0] 24) = w at hS ⊢
  refine at_run 1 [] [] [1, 2, 3, 6] [pl 1 (.int .i64 who1), pl 2 (.int .i64 place1), pl 3 (.pointer (some ⟨g4, 0, none⟩)), pl 6 (.pointer (some ⟨g5, 0, none⟩))] hF hS (by kernel_rfl) (by kernel_rfl) ?_ (fun a w hF hS => ?_)
  · exact obs_nil
  refine at_end [1, 2, 3, 6] [pl 1 (.int .i64 who1), pl 2 (.int .i64 place1), pl 3 (.pointer (some ⟨g4, 0, none⟩)), pl 6 (.pointer (some ⟨g5, 0, none⟩))] hF rfl (by kernel_rfl) (fun hF => ?_)
  refine then_n ?_
  refine seqR ?_
  obtain ⟨r1, hr1, hm⟩ := call_b hm
  refine at_run 1 [⟨false, [], vS (Instr.loadAt 24 (.pointer (some ⟨g4, 0, none⟩))), .agg #[.int .i64 g1, .int .i64 g2, .slice A1 g3.length c1]⟩] [some (.agg #[.int .i64 g1, .int .i64 g2, .slice A1 g3.length c1])] [1, 2, 3, 6, 16] [pl 1 (.int .i64 who1), pl 2 (.int .i64 place1), pl 3 (.pointer (some ⟨g4, 0, none⟩)), pl 6 (.pointer (some ⟨g5, 0, none⟩)), pl 16 (.agg #[.int .i64 g1, .int .i64 g2, .slice A1 g3.length c1])] hF hS (by kernel_rfl) (by kernel_rfl) ?_ (fun a w hF hS => ?_)
  · exact obs_cons (ob_loadA (cs := #[.int .i64 g1, .int .i64 g2, .slice A1 g3.length c1]) (by kernel_rfl) (by kernel_rfl) (fun _ _ hS => (hS.at_ 1 rfl).cellsAt 0 (by rfl))) <| obs_nil
  refine at_call (f := 13) (args := #[.agg #[.int .i64 g1, .int .i64 g2, .slice A1 g3.length c1]]) (d := 17) hF (by kernel_rfl) (by kernel_rfl) Try.func13 (by kernel_rfl) rfl (gameroomref_GridOf_w hr1 hS (fun _ hS => (hr_g3 _ (hS.dropN 2))) _hc_g3 rfl) (fun v a w hR hF => ?_)
  clear hS
  obtain ⟨A2, c2, rfl, hS⟩ := hR
  have hS : Sep w0 B w (own 3 (.slice A2 r1.2.2.length c2) (vI r1.2.2) :: blk g5 24 #[.int .i64 0, .int .i64 0, .slice none 0 0] :: blk g4 24 #[.int .i64 g1, .int .i64 g2, .slice A1 g3.length c1] :: fs) := hS
  refine at_do (d := 8) (s := vS (Instr.alloc 24 true (.tuple #[]))) (v := .pointer (some ⟨w.heap.size, 0, none⟩)) (w' := w.alloc (.cells #[.int .i64 0, .int .i64 0, .slice none 0 0] 24)) hF (by kernel_rfl) (by kernel_rfl) (by kernel_rfl) (fun a hF => ?_)
  have hS : Sep w0 B (w.alloc (.cells #[.int .i64 0, .int .i64 0, .slice none 0 0] 24)) (blk w.heap.size 24 #[.int .i64 0, .int .i64 0, .slice none 0 0] :: (own 3 (.slice A2 r1.2.2.length c2) (vI r1.2.2) :: blk g5 24 #[.int .i64 0, .int .i64 0, .slice none 0 0] :: blk g4 24 #[.int .i64 g1, .int .i64 g2, .slice A1 g3.length c1] :: fs)) := hS.box 24 #[.int .i64 0, .int .i64 0, .slice none 0 0]
  generalize w.heap.size = g6 at hF hS
  generalize w.alloc (.cells #[.int .i64 0, .int .i64 0, .slice none 0 0] 24) = w at hS ⊢
  obtain ⟨w, hrun, hS⟩ := run_putA (P := Try.prog) (t := 24) (us := #[.int .i64 r1.1, .int .i64 r1.2.1, .slice A2 r1.2.2.length c2]) (o := 0) (hS.at_ 0 rfl) (by kernel_rfl) (all_one (by kernel_rfl)) (Nat.le_of_ble_eq_true (by kernel_rfl))
  refine at_skip hF (by kernel_rfl) hrun ?_
  have hS : Sep w0 B w (blk g6 24 #[.int .i64 r1.1, .int .i64 r1.2.1, .slice A2 r1.2.2.length c2] :: own 3 (.slice A2 r1.2.2.length c2) (vI r1.2.2) :: blk g5 24 #[.int .i64 0, .int .i64 0, .slice none 0 0] :: blk g4 24 #[.int .i64 g1, .int .i64 g2, .slice A1 g3.length c1] :: fs) := hS
  refine at_end [1, 2, 3, 6, 8] [pl 1 (.int .i64 who1), pl 2 (.int .i64 place1), pl 3 (.pointer (some ⟨g4, 0, none⟩)), pl 6 (.pointer (some ⟨g5, 0, none⟩)), pl 8 (.pointer (some ⟨g6, 0, none⟩))] hF rfl (by kernel_rfl) (fun hF => ?_)
  refine then_n ?_
  refine seq_cut (fun a w => Fr 155 [pl 1 (.int .i64 who1), pl 2 (.int .i64 place1), pl 3 (.pointer (some ⟨g4, 0, none⟩)), pl 6 (.pointer (some ⟨g5, 0, none⟩)), pl 8 (.pointer (some ⟨g6, 0, none⟩))] a ∧ Sep w0 B w (blk g4 24 #[.int .i64 g1, .int .i64 g2, .slice A1 g3.length c1] :: blk g5 24 #[.int .i64 0, .int .i64 0, .slice none 0 0] :: blk g6 24 #[.int .i64 r1.1, .int .i64 r1.2.1, .slice A2 r1.2.2.length c2] :: own 3 (.slice A2 r1.2.2.length c2) (vI r1.2.2) :: fs) ∧ ((gameroomref_PutSign_J1 g1 g2 g3 who1 place1 r1)).bind some = some r) ?_ ?_
  · rintro a w ⟨hF, hS, hm⟩
    unfold gameroomref_PutSign_J1 at hm
    refine reg [] [] [1, 2, 3, 6, 8, 9] [pl 1 (.int .i64 who1), pl 2 (.int .i64 place1), pl 3 (.pointer (some ⟨g4, 0, none⟩)), pl 6 (.pointer (some ⟨g5, 0, none⟩)), pl 8 (.pointer (some ⟨g6, 0, none⟩)), pl 9 (.int .i64 0)] hF hS Fol (by kernel_rfl) (by kernel_rfl) (by kernel_rfl) ?_ (fun a w hF hS => ?_)
    · exact obs_nil
    refine seq_cut (fun a w => ∃ (out2 : List Int) (many2 : Int), Fr 155 [pl 1 (.int .i64 who1), pl 2 (.int .i64 place1), pl 6 (.pointer (some ⟨g5, 0, none⟩)), pl 8 (.pointer (some ⟨g6, 0, none⟩)), pl 9 (.int .i64 many2)] a ∧ Sep w0 B w (blk g5 24 #[.int .i64 0, .int .i64 0, .slice none 0 0] :: blk g6 24 #[.int .i64 r1.1, .int .i64 r1.2.1, .slice A2 r1.2.2.length c2] :: own 3 (.slice A2 r1.2.2.length c2) (vI out2) :: fs) ∧ ((gameroomref_PutSign_J2 who1 place1 r1) out2 many2).bind some = some r) ?_ ?_
    · rintro a w ⟨out2, many2, hF, hS, hm⟩
      unfold gameroomref_PutSign_J2 at hm
      refine seq_cut (fun a w => ∃ (out8 : List Int), Fr 155 [pl 6 (.pointer (some ⟨g5, 0, none⟩)), pl 8 (.pointer (some ⟨g6, 0, none⟩)), pl 9 (.int .i64 many2)] a ∧ Sep w0 B w (blk g5 24 #[.int .i64 0, .int .i64 0, .slice none 0 0] :: blk g6 24 #[.int .i64 r1.1, .int .i64 r1.2.1, .slice A2 r1.2.2.length c2] :: own 3 (.slice A2 r1.2.2.length c2) (vI out8) :: fs) ∧ ((gameroomref_PutSign_J14 r1 many2) out8).bind some = some r) ?_ ?_
      · rintro a w ⟨out8, hF, hS, hm⟩
        unfold gameroomref_PutSign_J14 at hm
        refine seqR ?_
        refine at_run 2 [⟨false, [], vS (Instr.loadAt 24 (.pointer (some ⟨g6, 0, none⟩))), .agg #[.int .i64 r1.1, .int .i64 r1.2.1, .slice A2 r1.2.2.length c2]⟩] [some (.agg #[.int .i64 r1.1, .int .i64 r1.2.1, .slice A2 r1.2.2.length c2]), none] [6, 153, 154] [pl 6 (.pointer (some ⟨g5, 0, none⟩)), pl 153 (.agg #[.int .i64 r1.1, .int .i64 r1.2.1, .slice A2 r1.2.2.length c2]), pl 154 (.int .i64 many2)] hF hS (by kernel_rfl) (by kernel_rfl) ?_ (fun a w hF hS => ?_)
        · exact obs_cons (ob_loadA (cs := #[.int .i64 r1.1, .int .i64 r1.2.1, .slice A2 r1.2.2.length c2]) (by kernel_rfl) (by kernel_rfl) (fun _ _ hS => (hS.at_ 1 rfl).cellsAt 0 (by rfl))) <| obs_nil
        obtain ⟨w, hrun, hS⟩ := run_putA (P := Try.prog) (t := 24) (us := #[.int .i64 r1.1, .int .i64 r1.2.1, .slice A2 r1.2.2.length c2]) (o := 0) (hS.at_ 0 rfl) (by kernel_rfl) (all_one (by kernel_rfl)) (Nat.le_of_ble_eq_true (by kernel_rfl))
        refine at_skip hF (by kernel_rfl) hrun ?_
        have hS : Sep w0 B w (blk g5 24 #[.int .i64 r1.1, .int .i64 r1.2.1, .slice A2 r1.2.2.length c2] :: blk g6 24 #[.int .i64 r1.1, .int .i64 r1.2.1, .slice A2 r1.2.2.length c2] :: own 3 (.slice A2 r1.2.2.length c2) (vI out8) :: fs) := hS
        refine at_run 1 [] [] [6, 7] [pl 6 (.pointer (some ⟨g5, 0, none⟩)), pl 7 (.int .i64 many2)] hF hS (by kernel_rfl) (by kernel_rfl) ?_ (fun a w hF hS => ?_)
        · exact obs_nil
        refine at_end [6, 7] [pl 6 (.pointer (some ⟨g5, 0, none⟩)), pl 7 (.int .i64 many2)] hF rfl (by kernel_rfl) (fun hF => ?_)
        refine then_n ?_
        refine wp_ret ?_
        have hl1 := (hS.at_ 2 rfl).len1
        have hS := (hS.at_ 2 rfl).reN hl1
        have hS := (hS.at_ 0 rfl).reBlk (congrArg (fun k9 => (#[.int .i64 r1.1, .int .i64 r1.2.1, .slice A2 k9 c2] : Array Value)) hl1)
        have hS := (hS.at_ 1 rfl).reBlk (congrArg (fun k9 => (#[.int .i64 r1.1, .int .i64 r1.2.1, .slice A2 k9 c2] : Array Value)) hl1)
        have hS : Sep w0 B w (blk g5 24 #[.int .i64 r1.1, .int .i64 r1.2.1, .slice A2 out8.length c2] :: blk g6 24 #[.int .i64 r1.1, .int .i64 r1.2.1, .slice A2 out8.length c2] :: own 3 (.slice A2 out8.length c2) (vI out8) :: fs) := hS
        have hld0 := run_loadVarA (P := Try.prog) (t := 24) (cs := #[.int .i64 r1.1, .int .i64 r1.2.1, .slice A2 out8.length c2]) (by kernel_rfl) (by kernel_rfl) ((hS.at_ 0 rfl).cellsAt 0 (by rfl))
        have hS := hS.pickN 3 [2] (by decide)
        have hm : some (r1.1, r1.2.1, out8, many2) = some r := hm
        obtain rfl := Option.some.inj hm
        exact retV (rs := [.cell 6 24, .tmp 7]) (vs := [.agg #[.int .i64 r1.1, .int .i64 r1.2.1, .slice A2 out8.length c2], .int .i64 many2]) hF rfl (rv_c (by kernel_rfl) hld0 <| rv_t (by kernel_rfl) <| rv_nil) rfl ⟨_, rfl, A2, c2, rfl, hS⟩
      · refine reg [] [] [1, 2, 6, 8, 9, 147] [pl 1 (.int .i64 who1), pl 2 (.int .i64 place1), pl 6 (.pointer (some ⟨g5, 0, none⟩)), pl 8 (.pointer (some ⟨g6, 0, none⟩)), pl 9 (.int .i64 many2), pl 147 (.bool (decide ((0 : Int) < many2)))] hF hS Fol (by kernel_rfl) (by kernel_rfl) (by kernel_rfl) ?_ (fun a w hF hS => ?_)
        · exact obs_nil
        refine cond_ev (t := 147) (b := decide ((0 : Int) < many2)) hF (by kernel_rfl) (fun hb => ?_) (fun hb => ?_)
        · replace hm := if_t hm hb
          refine oneR ?_
          obtain ⟨hp9, hm⟩ := asrt_b hm
          refine at_run 5 [⟨false, [], vS (Instr.loadAt 22 (.pointer (some ⟨g6, 2, none⟩))), .slice A2 r1.2.2.length c2⟩, ⟨true, [], vS (Instr.indexAt 22 (.slice A2 r1.2.2.length c2) (.int .i64 place1)), .pointer (some (sAddr A2 place1))⟩] [none, some (.slice A2 r1.2.2.length c2), none, none, some (.pointer (some (sAddr A2 place1)))] [6, 8, 9, 151, 152] [pl 6 (.pointer (some ⟨g5, 0, none⟩)), pl 8 (.pointer (some ⟨g6, 0, none⟩)), pl 9 (.int .i64 many2), pl 151 (.int .i64 who1), pl 152 (.pointer (some (sAddr A2 place1)))] hF hS (by kernel_rfl) (by kernel_rfl) ?_ (fun a w hF hS => ?_)
          · exact obs_cons (ob_load Agg22 (fun _ _ hS => (hS.at_ 1 rfl).cell rfl)) <| obs_cons (ob_ix1 (f := (Value.int .i64)) (m := out2) Und22 hi3 hs3 (hS.at_ 2 rfl).rd ((hS.at_ 2 rfl).len1) (fun _ => hp9)) <| obs_nil
          obtain ⟨w, hrun, hS⟩ := run_set1 (P := Try.prog) (t := 3) (x := who1) (Value.int .i64) (hS.at_ 2 rfl) hi3 hs3 rfl rfl hp9
          refine at_skip hF (by kernel_rfl) hrun ?_
          have hS : Sep w0 B w (blk g5 24 #[.int .i64 0, .int .i64 0, .slice none 0 0] :: blk g6 24 #[.int .i64 r1.1, .int .i64 r1.2.1, .slice A2 r1.2.2.length c2] :: own 3 (.slice A2 r1.2.2.length c2) (vI (out2.set (Int.toNat place1) who1)) :: fs) := hS
          refine at_end [6, 8, 9] [pl 6 (.pointer (some ⟨g5, 0, none⟩)), pl 8 (.pointer (some ⟨g6, 0, none⟩)), pl 9 (.int .i64 many2)] hF rfl (by kernel_rfl) (fun hF => ?_)
          refine then_n ?_
          exact ⟨(out2.set (Int.toNat place1) who1), hF.weak [6, 8, 9] (by kernel_rfl), hS, hm⟩
        · replace hm := if_f hm hb
          refine wp_skip ?_
          refine then_n ?_
          exact ⟨out2, hF.weak [6, 8, 9] (by kernel_rfl), hS, hm⟩
    · refine reg [] [] [1, 2, 3, 6, 8, 9, 10] [pl 1 (.int .i64 who1), pl 2 (.int .i64 place1), pl 3 (.pointer (some ⟨g4, 0, none⟩)), pl 6 (.pointer (some ⟨g5, 0, none⟩)), pl 8 (.pointer (some ⟨g6, 0, none⟩)), pl 9 (.int .i64 0), pl 10 (.int .i64 (-1))] hF hS Fol (by kernel_rfl) (by kernel_rfl) (by kernel_rfl) ?_ (fun a w hF hS => ?_)
      · exact obs_nil
      refine wp_block ?_
      refine wp_loop_model (S := (List Int × Int × Int)) (R := (List Int × Int)) (gameroomref_PutSign_L1 g1 g2 g3 who1 place1 r1) (fun x => ((gameroomref_PutSign_K1 who1 place1 r1) x).bind some) r (fun (x : (List Int × Int × Int)) a w => Fr 155 [pl 1 (.int .i64 who1), pl 2 (.int .i64 place1), pl 3 (.pointer (some ⟨g4, 0, none⟩)), pl 6 (.pointer (some ⟨g5, 0, none⟩)), pl 8 (.pointer (some ⟨g6, 0, none⟩)), pl 9 (.int .i64 x.2.1), pl 10 (.int .i64 x.2.2)] a ∧ Sep w0 B w (blk g4 24 #[.int .i64 g1, .int .i64 g2, .slice A1 g3.length c1] :: blk g5 24 #[.int .i64 0, .int .i64 0, .slice none 0 0] :: blk g6 24 #[.int .i64 r1.1, .int .i64 r1.2.1, .slice A2 r1.2.2.length c2] :: own 3 (.slice A2 r1.2.2.length c2) (vI x.1) :: fs)) (assoc_b hm) ⟨hF.weak [1, 2, 3, 6, 8, 9, 10] (by kernel_rfl), hS⟩ ?_
      clear hF hS hm
      rintro nn1 ⟨out1, many1, dx1⟩ a w ⟨hF, hS⟩ hm
      generalize hφ1 : stK (gameroomref_PutSign_L1 g1 g2 g3 who1 place1 r1) nn1 (fun x => ((gameroomref_PutSign_K1 who1 place1 r1) x).bind some) = φ1 at hm
      unfold gameroomref_PutSign_L1 at hm
      dsimp only at hF hS hm
      refine seq_cut (fun a w => Fr 155 [pl 1 (.int .i64 who1), pl 2 (.int .i64 place1), pl 3 (.pointer (some ⟨g4, 0, none⟩)), pl 6 (.pointer (some ⟨g5, 0, none⟩)), pl 8 (.pointer (some ⟨g6, 0, none⟩)), pl 9 (.int .i64 many1), pl 10 (.int .i64 dx1)] a ∧ Sep w0 B w (blk g4 24 #[.int .i64 g1, .int .i64 g2, .slice A1 g3.length c1] :: blk g5 24 #[.int .i64 0, .int .i64 0, .slice none 0 0] :: blk g6 24 #[.int .i64 r1.1, .int .i64 r1.2.1, .slice A2 r1.2.2.length c2] :: own 3 (.slice A2 r1.2.2.length c2) (vI out1) :: fs) ∧ ((gameroomref_PutSign_J3 g1 g2 g3 who1 place1 r1 out1 many1 dx1)).bind φ1 = some r) ?_ ?_
      · rintro a w ⟨hF, hS, hm⟩
        unfold gameroomref_PutSign_J3 at hm
        refine seq_cut (fun a w => ∃ (out4 : List Int) (many4 : Int), Fr 155 [pl 1 (.int .i64 who1), pl 2 (.int .i64 place1), pl 3 (.pointer (some ⟨g4, 0, none⟩)), pl 6 (.pointer (some ⟨g5, 0, none⟩)), pl 8 (.pointer (some ⟨g6, 0, none⟩)), pl 9 (.int .i64 many4), pl 10 (.int .i64 dx1)] a ∧ Sep w0 B w (blk g4 24 #[.int .i64 g1, .int .i64 g2, .slice A1 g3.length c1] :: blk g5 24 #[.int .i64 0, .int .i64 0, .slice none 0 0] :: blk g6 24 #[.int .i64 r1.1, .int .i64 r1.2.1, .slice A2 r1.2.2.length c2] :: own 3 (.slice A2 r1.2.2.length c2) (vI out4) :: fs) ∧ ((gameroomref_PutSign_J4 dx1) out4 many4).bind φ1 = some r) ?_ ?_
        · rintro a w ⟨out4, many4, hF, hS, hm⟩
          unfold gameroomref_PutSign_J4 at hm
          refine reg1 [] [] [1, 2, 3, 6, 8, 9, 10] [pl 1 (.int .i64 who1), pl 2 (.int .i64 place1), pl 3 (.pointer (some ⟨g4, 0, none⟩)), pl 6 (.pointer (some ⟨g5, 0, none⟩)), pl 8 (.pointer (some ⟨g6, 0, none⟩)), pl 9 (.int .i64 many4), pl 10 (.int .i64 (w64 (dx1 + 1)))] hF hS Fol (by kernel_rfl) (by kernel_rfl) (by kernel_rfl) ?_ (fun a w hF hS => ?_)
          · exact obs_nil
          refine then_n ?_
          rw [← hφ1] at hm
          exact ⟨(out4, many4, (w64 (dx1 + 1))), ⟨hF.weak [1, 2, 3, 6, 8, 9, 10] (by kernel_rfl), hS⟩, hm⟩
        · refine wp_block ?_
          refine reg [] [] [1, 2, 3, 6, 8, 9, 10, 11] [pl 1 (.int .i64 who1), pl 2 (.int .i64 place1), pl 3 (.pointer (some ⟨g4, 0, none⟩)), pl 6 (.pointer (some ⟨g5, 0, none⟩)), pl 8 (.pointer (some ⟨g6, 0, none⟩)), pl 9 (.int .i64 many1), pl 10 (.int .i64 dx1), pl 11 (.int .i64 (-1))] hF hS Fol (by kernel_rfl) (by kernel_rfl) (by kernel_rfl) ?_ (fun a w hF hS => ?_)
          · exact obs_nil
          refine wp_block ?_
          refine wp_loop_model (S := (List Int × Int × Int)) (R := (List Int × Int)) (gameroomref_PutSign_L2 g1 g2 g3 who1 place1 r1 dx1) (fun x => ((gameroomref_PutSign_K2 dx1) x).bind φ1) r (fun (x : (List Int × Int × Int)) a w => Fr 155 [pl 1 (.int .i64 who1), pl 2 (.int .i64 place1), pl 3 (.pointer (some ⟨g4, 0, none⟩)), pl 6 (.pointer (some ⟨g5, 0, none⟩)), pl 8 (.pointer (some ⟨g6, 0, none⟩)), pl 9 (.int .i64 x.2.1), pl 10 (.int .i64 dx1), pl 11 (.int .i64 x.2.2)] a ∧ Sep w0 B w (blk g4 24 #[.int .i64 g1, .int .i64 g2, .slice A1 g3.length c1] :: blk g5 24 #[.int .i64 0, .int .i64 0, .slice none 0 0] :: blk g6 24 #[.int .i64 r1.1, .int .i64 r1.2.1, .slice A2 r1.2.2.length c2] :: own 3 (.slice A2 r1.2.2.length c2) (vI x.1) :: fs)) (assoc_b hm) ⟨hF.weak [1, 2, 3, 6, 8, 9, 10, 11] (by kernel_rfl), hS⟩ ?_
          clear hF hS hm
          rintro nn2 ⟨out3, many3, dy1⟩ a w ⟨hF, hS⟩ hm
          generalize hφ2 : stK (gameroomref_PutSign_L2 g1 g2 g3 who1 place1 r1 dx1) nn2 (fun x => ((gameroomref_PutSign_K2 dx1) x).bind φ1) = φ2 at hm
          unfold gameroomref_PutSign_L2 at hm
          dsimp only at hF hS hm
          refine seq_cut (fun a w => Fr 155 [pl 1 (.int .i64 who1), pl 2 (.int .i64 place1), pl 3 (.pointer (some ⟨g4, 0, none⟩)), pl 6 (.pointer (some ⟨g5, 0, none⟩)), pl 8 (.pointer (some ⟨g6, 0, none⟩)), pl 9 (.int .i64 many3), pl 10 (.int .i64 dx1), pl 11 (.int .i64 dy1)] a ∧ Sep w0 B w (blk g4 24 #[.int .i64 g1, .int .i64 g2, .slice A1 g3.length c1] :: blk g5 24 #[.int .i64 0, .int .i64 0, .slice none 0 0] :: blk g6 24 #[.int .i64 r1.1, .int .i64 r1.2.1, .slice A2 r1.2.2.length c2] :: own 3 (.slice A2 r1.2.2.length c2) (vI out3) :: fs) ∧ ((gameroomref_PutSign_J5 g1 g2 g3 who1 place1 r1 dx1 out3 many3 dy1)).bind φ2 = some r) ?_ ?_
          · rintro a w ⟨hF, hS, hm⟩
            unfold gameroomref_PutSign_J5 at hm
            refine seq_cut (fun a w => ∃ (out5 : List Int) (many5 : Int), Fr 155 [pl 1 (.int .i64 who1), pl 2 (.int .i64 place1), pl 3 (.pointer (some ⟨g4, 0, none⟩)), pl 6 (.pointer (some ⟨g5, 0, none⟩)), pl 8 (.pointer (some ⟨g6, 0, none⟩)), pl 9 (.int .i64 many5), pl 10 (.int .i64 dx1), pl 11 (.int .i64 dy1)] a ∧ Sep w0 B w (blk g4 24 #[.int .i64 g1, .int .i64 g2, .slice A1 g3.length c1] :: blk g5 24 #[.int .i64 0, .int .i64 0, .slice none 0 0] :: blk g6 24 #[.int .i64 r1.1, .int .i64 r1.2.1, .slice A2 r1.2.2.length c2] :: own 3 (.slice A2 r1.2.2.length c2) (vI out5) :: fs) ∧ ((gameroomref_PutSign_J6 dy1) out5 many5).bind φ2 = some r) ?_ ?_
            · rintro a w ⟨out5, many5, hF, hS, hm⟩
              unfold gameroomref_PutSign_J6 at hm
              refine reg1 [] [] [1, 2, 3, 6, 8, 9, 10, 11] [pl 1 (.int .i64 who1), pl 2 (.int .i64 place1), pl 3 (.pointer (some ⟨g4, 0, none⟩)), pl 6 (.pointer (some ⟨g5, 0, none⟩)), pl 8 (.pointer (some ⟨g6, 0, none⟩)), pl 9 (.int .i64 many5), pl 10 (.int .i64 dx1), pl 11 (.int .i64 (w64 (dy1 + 1)))] hF hS Fol (by kernel_rfl) (by kernel_rfl) (by kernel_rfl) ?_ (fun a w hF hS => ?_)
              · exact obs_nil
              refine then_n ?_
              rw [← hφ2] at hm
              exact ⟨(out5, many5, (w64 (dy1 + 1))), ⟨hF.weak [1, 2, 3, 6, 8, 9, 10, 11] (by kernel_rfl), hS⟩, hm⟩
            · refine wp_block ?_
              refine seq_cut (fun a w => Fr 155 [pl 1 (.int .i64 who1), pl 2 (.int .i64 place1), pl 3 (.pointer (some ⟨g4, 0, none⟩)), pl 6 (.pointer (some ⟨g5, 0, none⟩)), pl 8 (.pointer (some ⟨g6, 0, none⟩)), pl 9 (.int .i64 many3), pl 10 (.int .i64 dx1), pl 11 (.int .i64 dy1)] a ∧ Sep w0 B w (blk g4 24 #[.int .i64 g1, .int .i64 g2, .slice A1 g3.length c1] :: blk g5 24 #[.int .i64 0, .int .i64 0, .slice none 0 0] :: blk g6 24 #[.int .i64 r1.1, .int .i64 r1.2.1, .slice A2 r1.2.2.length c2] :: own 3 (.slice A2 r1.2.2.length c2) (vI out3) :: fs) ∧ ((gameroomref_PutSign_J7 g1 g2 g3 who1 place1 r1 dx1 out3 many3 dy1)).bind φ2 = some r) ?_ ?_
              · rintro a w ⟨hF, hS, hm⟩
                unfold gameroomref_PutSign_J7 at hm
                refine reg [] [] [1, 2, 3, 6, 8, 9, 10, 11, 12] [pl 1 (.int .i64 who1), pl 2 (.int .i64 place1), pl 3 (.pointer (some ⟨g4, 0, none⟩)), pl 6 (.pointer (some ⟨g5, 0, none⟩)), pl 8 (.pointer (some ⟨g6, 0, none⟩)), pl 9 (.int .i64 many3), pl 10 (.int .i64 dx1), pl 11 (.int .i64 dy1), pl 12 (.int .i64 0)] hF hS Fol (by kernel_rfl) (by kernel_rfl) (by kernel_rfl) ?_ (fun a w hF hS => ?_)
                · exact obs_nil
                obtain ⟨hp2, hm⟩ := asrt_b hm
                obtain ⟨hp3, hm⟩ := asrt_b hm
                refine reg [⟨false, [], vS (Instr.loadAt 3 (.pointer (some ⟨g4, 0, none⟩))), .int .i64 g1⟩, ⟨true, [], vS (Op.intDiv .rem .i64 place1 g1), .int .i64 (Int.tmod place1 g1)⟩, ⟨false, [], vS (Instr.loadAt 3 (.pointer (some ⟨g4, 0, none⟩))), .int .i64 g1⟩, ⟨true, [], vS (Op.intDiv .quo .i64 place1 g1), .int .i64 (w64 (Int.tdiv place1 g1))⟩] [none, none, some (.int .i64 g1), some (.int .i64 (Int.tmod place1 g1)), none, none, none, none, some (.int .i64 g1), some (.int .i64 (w64 (Int.tdiv place1 g1))), none, none, none, none] [1, 2, 3, 6, 8, 9, 10, 11, 12, 13, 14] [pl 1 (.int .i64 who1), pl 2 (.int .i64 place1), pl 3 (.pointer (some ⟨g4, 0, none⟩)), pl 6 (.pointer (some ⟨g5, 0, none⟩)), pl 8 (.pointer (some ⟨g6, 0, none⟩)), pl 9 (.int .i64 many3), pl 10 (.int .i64 dx1), pl 11 (.int .i64 dy1), pl 12 (.int .i64 0), pl 13 (.int .i64 (w64 ((Int.tmod place1 g1) + dx1))), pl 14 (.int .i64 (w64 ((w64 (Int.tdiv place1 g1)) + dy1)))] hF hS Fol (by kernel_rfl) (by kernel_rfl) (by kernel_rfl) ?_ (fun a w hF hS => ?_)
                · exact obs_cons (ob_load Agg3 (fun _ _ hS => (hS.at_ 0 rfl).cell rfl)) <| obs_cons (ob_rem rfl (fun _ => hp2)) <| obs_cons (ob_load Agg3 (fun _ _ hS => (hS.at_ 0 rfl).cell rfl)) <| obs_cons (ob_quo rfl (fun _ => hp3)) <| obs_nil
                refine seq_cut (fun a w => ∃ (n3 : Int) (x2 : Int) (y2 : Int), Fr 155 [pl 1 (.int .i64 who1), pl 2 (.int .i64 place1), pl 3 (.pointer (some ⟨g4, 0, none⟩)), pl 6 (.pointer (some ⟨g5, 0, none⟩)), pl 8 (.pointer (some ⟨g6, 0, none⟩)), pl 9 (.int .i64 many3), pl 10 (.int .i64 dx1), pl 11 (.int .i64 dy1), pl 12 (.int .i64 n3), pl 13 (.int .i64 x2), pl 14 (.int .i64 y2)] a ∧ Sep w0 B w (blk g4 24 #[.int .i64 g1, .int .i64 g2, .slice A1 g3.length c1] :: blk g5 24 #[.int .i64 0, .int .i64 0, .slice none 0 0] :: blk g6 24 #[.int .i64 r1.1, .int .i64 r1.2.1, .slice A2 r1.2.2.length c2] :: own 3 (.slice A2 r1.2.2.length c2) (vI out3) :: fs) ∧ ((gameroomref_PutSign_J8 g1 g2 g3 who1 place1 r1 dx1 out3 many3 dy1) n3 x2 y2).bind φ2 = some r) ?_ ?_
                · rintro a w ⟨n3, x2, y2, hF, hS, hm⟩
                  unfold gameroomref_PutSign_J8 at hm
                  refine seq_cut (fun a w => Fr 155 [pl 1 (.int .i64 who1), pl 2 (.int .i64 place1), pl 3 (.pointer (some ⟨g4, 0, none⟩)), pl 6 (.pointer (some ⟨g5, 0, none⟩)), pl 8 (.pointer (some ⟨g6, 0, none⟩)), pl 9 (.int .i64 many3), pl 10 (.int .i64 dx1), pl 11 (.int .i64 dy1), pl 12 (.int .i64 n3)] a ∧ Sep w0 B w (blk g4 24 #[.int .i64 g1, .int .i64 g2, .slice A1 g3.length c1] :: blk g5 24 #[.int .i64 0, .int .i64 0, .slice none 0 0] :: blk g6 24 #[.int .i64 r1.1, .int .i64 r1.2.1, .slice A2 r1.2.2.length c2] :: own 3 (.slice A2 r1.2.2.length c2) (vI out3) :: fs) ∧ ((gameroomref_PutSign_J10 g1 who1 place1 r1 dx1 out3 many3 dy1 n3)).bind φ2 = some r) ?_ ?_
                  · rintro a w ⟨hF, hS, hm⟩
                    unfold gameroomref_PutSign_J10 at hm
                    refine seq_cut (fun a w => ∃ (out7 : List Int), Fr 155 [pl 1 (.int .i64 who1), pl 2 (.int .i64 place1), pl 3 (.pointer (some ⟨g4, 0, none⟩)), pl 6 (.pointer (some ⟨g5, 0, none⟩)), pl 8 (.pointer (some ⟨g6, 0, none⟩)), pl 9 (.int .i64 many3), pl 10 (.int .i64 dx1), pl 11 (.int .i64 dy1), pl 12 (.int .i64 n3)] a ∧ Sep w0 B w (blk g4 24 #[.int .i64 g1, .int .i64 g2, .slice A1 g3.length c1] :: blk g5 24 #[.int .i64 0, .int .i64 0, .slice none 0 0] :: blk g6 24 #[.int .i64 r1.1, .int .i64 r1.2.1, .slice A2 r1.2.2.length c2] :: own 3 (.slice A2 r1.2.2.length c2) (vI out7) :: fs) ∧ ((gameroomref_PutSign_J11 many3 dy1 n3) out7).bind φ2 = some r) ?_ ?_
                    · rintro a w ⟨out7, hF, hS, hm⟩
                      unfold gameroomref_PutSign_J11 at hm
                      refine reg1 [] [] [1, 2, 3, 6, 8, 9, 10, 11] [pl 1 (.int .i64 who1), pl 2 (.int .i64 place1), pl 3 (.pointer (some ⟨g4, 0, none⟩)), pl 6 (.pointer (some ⟨g5, 0, none⟩)), pl 8 (.pointer (some ⟨g6, 0, none⟩)), pl 9 (.int .i64 (w64 (many3 + n3))), pl 10 (.int .i64 dx1), pl 11 (.int .i64 dy1)] hF hS Fol (by kernel_rfl) (by kernel_rfl) (by kernel_rfl) ?_ (fun a w hF hS => ?_)
                      · exact obs_nil
                      refine block_n ?_
                      refine then_n ?_
                      exact ⟨out7, (w64 (many3 + n3)), hF.weak [1, 2, 3, 6, 8, 9, 10, 11] (by kernel_rfl), hS, hm⟩
                    · refine reg [] [] [1, 2, 3, 6, 8, 9, 10, 11, 12, 15] [pl 1 (.int .i64 who1), pl 2 (.int .i64 place1), pl 3 (.pointer (some ⟨g4, 0, none⟩)), pl 6 (.pointer (some ⟨g5, 0, none⟩)), pl 8 (.pointer (some ⟨g6, 0, none⟩)), pl 9 (.int .i64 many3), pl 10 (.int .i64 dx1), pl 11 (.int .i64 dy1), pl 12 (.int .i64 n3), pl 15 (.int .i64 1)] hF hS Fol (by kernel_rfl) (by kernel_rfl) (by kernel_rfl) ?_ (fun a w hF hS => ?_)
                      · exact obs_nil
                      refine wp_block ?_
                      refine wp_loop_model (S := (List Int × Int)) (R := (List Int)) (gameroomref_PutSign_L4 g1 who1 place1 r1 dx1 dy1 n3) (fun x => ((gameroomref_PutSign_K4 many3 dy1 n3) x).bind φ2) r (fun (x : (List Int × Int)) a w => Fr 155 [pl 1 (.int .i64 who1), pl 2 (.int .i64 place1), pl 3 (.pointer (some ⟨g4, 0, none⟩)), pl 6 (.pointer (some ⟨g5, 0, none⟩)), pl 8 (.pointer (some ⟨g6, 0, none⟩)), pl 9 (.int .i64 many3), pl 10 (.int .i64 dx1), pl 11 (.int .i64 dy1), pl 12 (.int .i64 n3), pl 15 (.int .i64 x.2)] a ∧ Sep w0 B w (blk g4 24 #[.int .i64 g1, .int .i64 g2, .slice A1 g3.length c1] :: blk g5 24 #[.int .i64 0, .int .i64 0, .slice none 0 0] :: blk g6 24 #[.int .i64 r1.1, .int .i64 r1.2.1, .slice A2 r1.2.2.length c2] :: own 3 (.slice A2 r1.2.2.length c2) (vI x.1) :: fs)) (assoc_b hm) ⟨hF.weak [1, 2, 3, 6, 8, 9, 10, 11, 12, 15] (by kernel_rfl), hS⟩ ?_
                      clear hF hS hm
                      rintro nn4 ⟨out6, i1⟩ a w ⟨hF, hS⟩ hm
                      generalize hφ4 : stK (gameroomref_PutSign_L4 g1 who1 place1 r1 dx1 dy1 n3) nn4 (fun x => ((gameroomref_PutSign_K4 many3 dy1 n3) x).bind φ2) = φ4 at hm
                      unfold gameroomref_PutSign_L4 at hm
                      dsimp only at hF hS hm
                      refine seq_cut (fun a w => Fr 155 [pl 1 (.int .i64 who1), pl 2 (.int .i64 place1), pl 3 (.pointer (some ⟨g4, 0, none⟩)), pl 6 (.pointer (some ⟨g5, 0, none⟩)), pl 8 (.pointer (some ⟨g6, 0, none⟩)), pl 9 (.int .i64 many3), pl 10 (.int .i64 dx1), pl 11 (.int .i64 dy1), pl 12 (.int .i64 n3), pl 15 (.int .i64 i1)] a ∧ Sep w0 B w (blk g4 24 #[.int .i64 g1, .int .i64 g2, .slice A1 g3.length c1] :: blk g5 24 #[.int .i64 0, .int .i64 0, .slice none 0 0] :: blk g6 24 #[.int .i64 r1.1, .int .i64 r1.2.1, .slice A2 r1.2.2.length c2] :: own 3 (.slice A2 r1.2.2.length c2) (vI out6) :: fs) ∧ ((gameroomref_PutSign_J12 g1 who1 place1 r1 dx1 dy1 out6 i1)).bind φ4 = some r) ?_ ?_
                      · rintro a w ⟨hF, hS, hm⟩
                        unfold gameroomref_PutSign_J12 at hm
                        refine seq_cut (fun a w => Fr 155 [pl 1 (.int .i64 who1), pl 2 (.int .i64 place1), pl 3 (.pointer (some ⟨g4, 0, none⟩)), pl 6 (.pointer (some ⟨g5, 0, none⟩)), pl 8 (.pointer (some ⟨g6, 0, none⟩)), pl 9 (.int .i64 many3), pl 10 (.int .i64 dx1), pl 11 (.int .i64 dy1), pl 12 (.int .i64 n3), pl 15 (.int .i64 i1)] a ∧ Sep w0 B w (blk g4 24 #[.int .i64 g1, .int .i64 g2, .slice A1 g3.length c1] :: blk g5 24 #[.int .i64 0, .int .i64 0, .slice none 0 0] :: blk g6 24 #[.int .i64 r1.1, .int .i64 r1.2.1, .slice A2 r1.2.2.length c2] :: own 3 (.slice A2 r1.2.2.length c2) (vI (out6.set (Int.toNat (w64 ((w64 ((w64 ((w64 ((w64 (Int.tdiv place1 g1)) + (w64 (i1 * dy1)))) * g1)) + (Int.tmod place1 g1))) + (w64 (i1 * dx1))))) who1)) :: fs) ∧ ((gameroomref_PutSign_J13 g1 who1 place1 dx1 dy1 out6 i1)).bind φ4 = some r) ?_ ?_
                        · rintro a w ⟨hF, hS, hm⟩
                          unfold gameroomref_PutSign_J13 at hm
                          refine reg1 [] [] [1, 2, 3, 6, 8, 9, 10, 11, 12, 15] [pl 1 (.int .i64 who1), pl 2 (.int .i64 place1), pl 3 (.pointer (some ⟨g4, 0, none⟩)), pl 6 (.pointer (some ⟨g5, 0, none⟩)), pl 8 (.pointer (some ⟨g6, 0, none⟩)), pl 9 (.int .i64 many3), pl 10 (.int .i64 dx1), pl 11 (.int .i64 dy1), pl 12 (.int .i64 n3), pl 15 (.int .i64 (w64 (i1 + 1)))] hF hS Fol (by kernel_rfl) (by kernel_rfl) (by kernel_rfl) ?_ (fun a w hF hS => ?_)
                          · exact obs_nil
                          refine then_n ?_
                          rw [← hφ4] at hm
                          exact ⟨((out6.set (Int.toNat (w64 ((w64 ((w64 ((w64 ((w64 (Int.tdiv place1 g1)) + (w64 (i1 * dy1)))) * g1)) + (Int.tmod place1 g1))) + (w64 (i1 * dx1))))) who1), (w64 (i1 + 1))), ⟨hF.weak [1, 2, 3, 6, 8, 9, 10, 11, 12, 15] (by kernel_rfl), hS⟩, hm⟩
                        · refine wp_block ?_
                          obtain ⟨hp6, hm⟩ := asrt_b hm
                          obtain ⟨hp7, hm⟩ := asrt_b hm
                          obtain ⟨hp8, hm⟩ := asrt_b hm
                          refine regMix4 [0, 1, 2, 3, 4, 5, 6, 7, 8, 9, 10, 11, 12, 13, 14, 15, 16, 17, 18, 19, 20, 21, 22, 23] [24] [⟨false, [], vS (Instr.loadAt 22 (.pointer (some ⟨g6, 2, none⟩))), .slice A2 r1.2.2.length c2⟩, ⟨false, [], vS (Instr.loadAt 3 (.pointer (some ⟨g4, 0, none⟩))), .int .i64 g1⟩, ⟨true, [], vS (Op.intDiv .quo .i64 place1 g1), .int .i64 (w64 (Int.tdiv place1 g1))⟩, ⟨false, [], vS (Instr.loadAt 3 (.pointer (some ⟨g4, 0, none⟩))), .int .i64 g1⟩, ⟨false, [], vS (Instr.loadAt 3 (.pointer (some ⟨g4, 0, none⟩))), .int .i64 g1⟩, ⟨true, [], vS (Op.intDiv .rem .i64 place1 g1), .int .i64 (Int.tmod place1 g1)⟩, ⟨true, [], vS (Instr.indexAt 22 (.slice A2 r1.2.2.length c2) (.int .i64 (w64 ((w64 ((w64 ((w64 ((w64 (Int.tdiv place1 g1)) + (w64 (i1 * dy1)))) * g1)) + (Int.tmod place1 g1))) + (w64 (i1 * dx1)))))), .pointer (some (sAddr A2 (w64 ((w64 ((w64 ((w64 ((w64 (Int.tdiv place1 g1)) + (w64 (i1 * dy1)))) * g1)) + (Int.tmod place1 g1))) + (w64 (i1 * dx1))))))⟩] [none, some (.slice A2 r1.2.2.length c2), none, none, some (.int .i64 g1), some (.int .i64 (w64 (Int.tdiv place1 g1))), none, none, none, none, none, some (.int .i64 g1), none, none, none, some (.int .i64 g1), some (.int .i64 (Int.tmod place1 g1)), none, none, none, none, none, none, some (.pointer (some (sAddr A2 (w64 ((w64 ((w64 ((w64 ((w64 (Int.tdiv place1 g1)) + (w64 (i1 * dy1)))) * g1)) + (Int.tmod place1 g1))) + (w64 (i1 * dx1)))))))] [1, 2, 3, 6, 8, 9, 10, 11, 12, 15, 141, 142] [pl 1 (.int .i64 who1), pl 2 (.int .i64 place1), pl 3 (.pointer (some ⟨g4, 0, none⟩)), pl 6 (.pointer (some ⟨g5, 0, none⟩)), pl 8 (.pointer (some ⟨g6, 0, none⟩)), pl 9 (.int .i64 many3), pl 10 (.int .i64 dx1), pl 11 (.int .i64 dy1), pl 12 (.int .i64 n3), pl 15 (.int .i64 i1), pl 141 (.int .i64 who1), pl 142 (.pointer (some (sAddr A2 (w64 ((w64 ((w64 ((w64 ((w64 (Int.tdiv place1 g1)) + (w64 (i1 * dy1)))) * g1)) + (Int.tmod place1 g1))) + (w64 (i1 * dx1)))))))] hF hS Fol (by kernel_rfl) (by kernel_rfl) (by kernel_rfl) (by kernel_rfl) (by kernel_rfl) ?_ (fun a w hF hS => ?_)
                          · exact obs_cons (ob_load Agg22 (fun _ _ hS => (hS.at_ 2 rfl).cell rfl)) <| obs_cons (ob_load Agg3 (fun _ _ hS => (hS.at_ 0 rfl).cell rfl)) <| obs_cons (ob_quo rfl (fun _ => hp6)) <| obs_cons (ob_load Agg3 (fun _ _ hS => (hS.at_ 0 rfl).cell rfl)) <| obs_cons (ob_load Agg3 (fun _ _ hS => (hS.at_ 0 rfl).cell rfl)) <| obs_cons (ob_rem rfl (fun _ => hp7)) <| obs_cons (ob_ix1 (f := (Value.int .i64)) (m := out6) Und22 hi3 hs3 (hS.at_ 3 rfl).rd ((hS.at_ 3 rfl).len1) (fun _ => hp8)) <| obs_nil
                          obtain ⟨w, hrun, hS⟩ := run_set1 (P := Try.prog) (t := 3) (x := who1) (Value.int .i64) (hS.at_ 3 rfl) hi3 hs3 rfl rfl hp8
                          refine at_skip hF (by kernel_rfl) hrun ?_
                          have hS : Sep w0 B w (blk g4 24 #[.int .i64 g1, .int .i64 g2, .slice A1 g3.length c1] :: blk g5 24 #[.int .i64 0, .int .i64 0, .slice none 0 0] :: blk g6 24 #[.int .i64 r1.1, .int .i64 r1.2.1, .slice A2 r1.2.2.length c2] :: own 3 (.slice A2 r1.2.2.length c2) (vI (out6.set (Int.toNat (w64 ((w64 ((w64 ((w64 ((w64 (Int.tdiv place1 g1)) + (w64 (i1 * dy1)))) * g1)) + (Int.tmod place1 g1))) + (w64 (i1 * dx1))))) who1)) :: fs) := hS
                          refine at_end [1, 2, 3, 6, 8, 9, 10, 11, 12, 15] [pl 1 (.int .i64 who1), pl 2 (.int .i64 place1), pl 3 (.pointer (some ⟨g4, 0, none⟩)), pl 6 (.pointer (some ⟨g5, 0, none⟩)), pl 8 (.pointer (some ⟨g6, 0, none⟩)), pl 9 (.int .i64 many3), pl 10 (.int .i64 dx1), pl 11 (.int .i64 dy1), pl 12 (.int .i64 n3), pl 15 (.int .i64 i1)] hF rfl (by kernel_rfl) (fun hF => ?_)
                          refine np_n ?_
                          refine block_n ?_
                          refine then_n ?_
                          exact ⟨hF.weak [1, 2, 3, 6, 8, 9, 10, 11, 12, 15] (by kernel_rfl), hS, hm⟩
                      · refine reg [] [] [1, 2, 3, 6, 8, 9, 10, 11, 12, 15, 116] [pl 1 (.int .i64 who1), pl 2 (.int .i64 place1), pl 3 (.pointer (some ⟨g4, 0, none⟩)), pl 6 (.pointer (some ⟨g5, 0, none⟩)), pl 8 (.pointer (some ⟨g6, 0, none⟩)), pl 9 (.int .i64 many3), pl 10 (.int .i64 dx1), pl 11 (.int .i64 dy1), pl 12 (.int .i64 n3), pl 15 (.int .i64 i1), pl 116 (.bool (decide (i1 ≤ n3)))] hF hS Fol (by kernel_rfl) (by kernel_rfl) (by kernel_rfl) ?_ (fun a w hF hS => ?_)
                        · exact obs_nil
                        refine cond_ev (t := 116) (b := decide (i1 ≤ n3)) hF (by kernel_rfl) (fun hb => ?_) (fun hb => ?_)
                        · replace hm := if_t hm hb
                          refine wp_skip ?_
                          refine then_n ?_
                          exact ⟨hF.weak [1, 2, 3, 6, 8, 9, 10, 11, 12, 15] (by kernel_rfl), hS, hm⟩
                        · replace hm := if_f hm hb
                          refine wp_exit ?_
                          refine then_e (then_e (block_e (then_n ?_)))
                          rw [← hφ4] at hm
                          replace hm := done_b hm
                          unfold gameroomref_PutSign_K4 at hm
                          try dsimp only at hm
                          have hm : ((gameroomref_PutSign_J11 many3 dy1 n3) out6).bind φ2 = some r := hm
                          exact ⟨out6, hF.weak [1, 2, 3, 6, 8, 9, 10, 11, 12] (by kernel_rfl), hS, hm⟩
                  · obtain ⟨r4, hr4, hm⟩ := call_b hm
                    obtain ⟨r5, hr5, hm⟩ := call_b hm
                    obtain ⟨hp5, hm⟩ := asrt_b hm
                    refine reg [⟨false, [], vS (Instr.loadAt 3 (.pointer (some ⟨g4, 0, none⟩))), .int .i64 g1⟩, ⟨false, [], callFunc 64 #[.int .i64 x2, .int .i64 0, .int .i64 (w64 (g1 - 1))], .bool r4⟩, ⟨false, [(!r4, false)], vS (Instr.loadAt 3 (.pointer (some ⟨g4, 1, none⟩))), .int .i64 g2⟩, ⟨false, [(!r4, false)], callFunc 64 #[.int .i64 y2, .int .i64 0, .int .i64 (w64 (g2 - 1))], .bool r5⟩, ⟨false, [((!r4) || (!r5), false)], vS (Instr.loadAt 22 (.pointer (some ⟨g4, 2, none⟩))), .slice A1 g3.length c1⟩, ⟨false, [((!r4) || (!r5), false)], vS (Instr.loadAt 3 (.pointer (some ⟨g4, 0, none⟩))), .int .i64 g1⟩, ⟨true, [((!r4) || (!r5), false)], vS (Instr.indexAt 22 (.slice A1 g3.length c1) (.int .i64 (w64 ((w64 (y2 * g1)) + x2)))), .pointer (some (sAddr A1 (w64 ((w64 (y2 * g1)) + x2))))⟩, ⟨false, [((!r4) || (!r5), false)], vS (Instr.loadAt 3 (.pointer (some (sAddr A1 (w64 ((w64 (y2 * g1)) + x2)))))), .int .i64 (geti g3 (w64 ((w64 (y2 * g1)) + x2)))⟩] [none, none, some (.int .i64 g1), none, some (.bool r4), none, none, none, none, some (.int .i64 g2), none, some (.bool r5), none, none, none, none, some (.slice A1 g3.length c1), none, none, some (.int .i64 g1), none, none, none, some (.pointer (some (sAddr A1 (w64 ((w64 (y2 * g1)) + x2))))), some (.int .i64 (geti g3 (w64 ((w64 (y2 * g1)) + x2)))), none, none, none] [1, 2, 3, 6, 8, 9, 10, 11, 12, 113] [pl 1 (.int .i64 who1), pl 2 (.int .i64 place1), pl 3 (.pointer (some ⟨g4, 0, none⟩)), pl 6 (.pointer (some ⟨g5, 0, none⟩)), pl 8 (.pointer (some ⟨g6, 0, none⟩)), pl 9 (.int .i64 many3), pl 10 (.int .i64 dx1), pl 11 (.int .i64 dy1), pl 12 (.int .i64 n3), pl 113 (.bool (((!r4) || (!r5)) || ((geti g3 (w64 ((w64 (y2 * g1)) + x2))) != who1)))] hF hS Fol (by kernel_rfl) (by kernel_rfl) (by kernel_rfl) ?_ (fun a w hF hS => ?_)
                    · exact obs_cons (ob_load Agg3 (fun _ _ hS => (hS.at_ 0 rfl).cell rfl)) <| obs_cons (ob_call Try.func64 (by kernel_rfl) rfl (fun _ _ hS => gameroomref_within_w hr4 hS )) <| obs_cons (ob_load Agg3 (fun _ _ hS => (hS.at_ 0 rfl).cell rfl)) <| obs_cons (ob_call Try.func64 (by kernel_rfl) rfl (fun hy _ hS => gameroomref_within_w (ite_some hr5 (by rw [show (!r4) = false from hy (!r4, false) (by simp)]; try rfl)) hS )) <| obs_cons (ob_load Agg22 (fun _ _ hS => (hS.at_ 0 rfl).cell rfl)) <| obs_cons (ob_load Agg3 (fun _ _ hS => (hS.at_ 0 rfl).cell rfl)) <| obs_cons (ob_ix1 (f := (Value.int .i64)) (m := g3) Und22 hi3 hs3 (hr_g3 _ (hS.dropN 4)) rfl (fun hy => hp5 (hy ((!r4) || (!r5), false) (by simp)))) <| obs_cons (ob_get1 (n := g3.length) (m := g3) (Value.int .i64) (0 : Int) Agg3 (fun _ hS => ⟨_, (hr_g3 _ (hS.dropN 4))⟩) (fun _ hS => rfl) (fun hy => hp5 (hy ((!r4) || (!r5), false) (by simp)))) <| obs_nil
                    refine cond_ev (t := 113) (b := ((!r4) || (!r5)) || ((geti g3 (w64 ((w64 (y2 * g1)) + x2))) != who1)) hF (by kernel_rfl) (fun hb => ?_) (fun hb => ?_)
                    · replace hm := if_t hm hb
                      refine wp_exit ?_
                      refine then_e (block_e (then_n ?_))
                      exact ⟨out3, many3, hF.weak [1, 2, 3, 6, 8, 9, 10, 11] (by kernel_rfl), hS, hm⟩
                    · replace hm := if_f hm hb
                      refine wp_skip ?_
                      refine then_n ?_
                      exact ⟨hF.weak [1, 2, 3, 6, 8, 9, 10, 11, 12] (by kernel_rfl), hS, hm⟩
                · refine wp_block ?_
                  refine wp_loop_model (S := (Int × Int × Int)) (R := (Int × Int × Int)) (gameroomref_PutSign_L3 g1 g2 g3 who1 dx1 dy1) (fun x => ((gameroomref_PutSign_K3 g1 g2 g3 who1 place1 r1 dx1 out3 many3 dy1) x).bind φ2) r (fun (x : (Int × Int × Int)) a w => Fr 155 [pl 1 (.int .i64 who1), pl 2 (.int .i64 place1), pl 3 (.pointer (some ⟨g4, 0, none⟩)), pl 6 (.pointer (some ⟨g5, 0, none⟩)), pl 8 (.pointer (some ⟨g6, 0, none⟩)), pl 9 (.int .i64 many3), pl 10 (.int .i64 dx1), pl 11 (.int .i64 dy1), pl 12 (.int .i64 x.1), pl 13 (.int .i64 x.2.1), pl 14 (.int .i64 x.2.2)] a ∧ Sep w0 B w (blk g4 24 #[.int .i64 g1, .int .i64 g2, .slice A1 g3.length c1] :: blk g5 24 #[.int .i64 0, .int .i64 0, .slice none 0 0] :: blk g6 24 #[.int .i64 r1.1, .int .i64 r1.2.1, .slice A2 r1.2.2.length c2] :: own 3 (.slice A2 r1.2.2.length c2) (vI out3) :: fs)) (assoc_b hm) ⟨hF.weak [1, 2, 3, 6, 8, 9, 10, 11, 12, 13, 14] (by kernel_rfl), hS⟩ ?_
                  clear hF hS hm
                  rintro nn3 ⟨n2, x1, y1⟩ a w ⟨hF, hS⟩ hm
                  generalize hφ3 : stK (gameroomref_PutSign_L3 g1 g2 g3 who1 dx1 dy1) nn3 (fun x => ((gameroomref_PutSign_K3 g1 g2 g3 who1 place1 r1 dx1 out3 many3 dy1) x).bind φ2) = φ3 at hm
                  unfold gameroomref_PutSign_L3 at hm
                  dsimp only at hF hS hm
                  refine seq_cut (fun a w => Fr 155 [pl 1 (.int .i64 who1), pl 2 (.int .i64 place1), pl 3 (.pointer (some ⟨g4, 0, none⟩)), pl 6 (.pointer (some ⟨g5, 0, none⟩)), pl 8 (.pointer (some ⟨g6, 0, none⟩)), pl 9 (.int .i64 many3), pl 10 (.int .i64 dx1), pl 11 (.int .i64 dy1), pl 12 (.int .i64 n2), pl 13 (.int .i64 x1), pl 14 (.int .i64 y1)] a ∧ Sep w0 B w (blk g4 24 #[.int .i64 g1, .int .i64 g2, .slice A1 g3.length c1] :: blk g5 24 #[.int .i64 0, .int .i64 0, .slice none 0 0] :: blk g6 24 #[.int .i64 r1.1, .int .i64 r1.2.1, .slice A2 r1.2.2.length c2] :: own 3 (.slice A2 r1.2.2.length c2) (vI out3) :: fs) ∧ ((gameroomref_PutSign_J9 dx1 dy1 n2 x1 y1)).bind φ3 = some r) ?_ ?_
                  · rintro a w ⟨hF, hS, hm⟩
                    unfold gameroomref_PutSign_J9 at hm
                    refine wp_block ?_
                    refine reg [] [] [1, 2, 3, 6, 8, 9, 10, 11, 12, 13, 14] [pl 1 (.int .i64 who1), pl 2 (.int .i64 place1), pl 3 (.pointer (some ⟨g4, 0, none⟩)), pl 6 (.pointer (some ⟨g5, 0, none⟩)), pl 8 (.pointer (some ⟨g6, 0, none⟩)), pl 9 (.int .i64 many3), pl 10 (.int .i64 dx1), pl 11 (.int .i64 dy1), pl 12 (.int .i64 (w64 (n2 + 1))), pl 13 (.int .i64 x1), pl 14 (.int .i64 y1)] hF hS Fol (by kernel_rfl) (by kernel_rfl) (by kernel_rfl) ?_ (fun a w hF hS => ?_)
                    · exact obs_nil
                    refine reg1 [] [] [1, 2, 3, 6, 8, 9, 10, 11, 12, 13, 14] [pl 1 (.int .i64 who1), pl 2 (.int .i64 place1), pl 3 (.pointer (some ⟨g4, 0, none⟩)), pl 6 (.pointer (some ⟨g5, 0, none⟩)), pl 8 (.pointer (some ⟨g6, 0, none⟩)), pl 9 (.int .i64 many3), pl 10 (.int .i64 dx1), pl 11 (.int .i64 dy1), pl 12 (.int .i64 (w64 (n2 + 1))), pl 13 (.int .i64 (w64 (x1 + dx1))), pl 14 (.int .i64 (w64 (y1 + dy1)))] hF hS Fol (by kernel_rfl) (by kernel_rfl) (by kernel_rfl) ?_ (fun a w hF hS => ?_)
                    · exact obs_nil
                    refine block_n ?_
                    refine then_n ?_
                    rw [← hφ3] at hm
                    exact ⟨((w64 (n2 + 1)), (w64 (x1 + dx1)), (w64 (y1 + dy1))), ⟨hF.weak [1, 2, 3, 6, 8, 9, 10, 11, 12, 13, 14] (by kernel_rfl), hS⟩, hm⟩
                  · obtain ⟨r2, hr2, hm⟩ := call_b hm
                    obtain ⟨r3, hr3, hm⟩ := call_b hm
                    obtain ⟨hp4, hm⟩ := asrt_b hm
                    refine reg [⟨false, [], vS (Instr.loadAt 3 (.pointer (some ⟨g4, 0, none⟩))), .int .i64 g1⟩, ⟨false, [], callFunc 64 #[.int .i64 x1, .int .i64 0, .int .i64 (w64 (g1 - 1))], .bool r2⟩, ⟨false, [(r2, true)], vS (Instr.loadAt 3 (.pointer (some ⟨g4, 1, none⟩))), .int .i64 g2⟩, ⟨false, [(r2, true)], callFunc 64 #[.int .i64 y1, .int .i64 0, .int .i64 (w64 (g2 - 1))], .bool r3⟩, ⟨false, [(r2 && r3, true)], vS (Instr.loadAt 22 (.pointer (some ⟨g4, 2, none⟩))), .slice A1 g3.length c1⟩, ⟨false, [(r2 && r3, true)], vS (Instr.loadAt 3 (.pointer (some ⟨g4, 0, none⟩))), .int .i64 g1⟩, ⟨true, [(r2 && r3, true)], vS (Instr.indexAt 22 (.slice A1 g3.length c1) (.int .i64 (w64 ((w64 (y1 * g1)) + x1)))), .pointer (some (sAddr A1 (w64 ((w64 (y1 * g1)) + x1))))⟩, ⟨false, [(r2 && r3, true)], vS (Instr.loadAt 3 (.pointer (some (sAddr A1 (w64 ((w64 (y1 * g1)) + x1)))))), .int .i64 (geti g3 (w64 ((w64 (y1 * g1)) + x1)))⟩] [none, none, some (.int .i64 g1), none, some (.bool r2), none, none, none, some (.int .i64 g2), none, some (.bool r3), none, none, none, some (.slice A1 g3.length c1), none, none, some (.int .i64 g1), none, none, none, some (.pointer (some (sAddr A1 (w64 ((w64 (y1 * g1)) + x1))))), some (.int .i64 (geti g3 (w64 ((w64 (y1 * g1)) + x1)))), none, none, none, none] [1, 2, 3, 6, 8, 9, 10, 11, 12, 13, 14, 77] [pl 1 (.int .i64 who1), pl 2 (.int .i64 place1), pl 3 (.pointer (some ⟨g4, 0, none⟩)), pl 6 (.pointer (some ⟨g5, 0, none⟩)), pl 8 (.pointer (some ⟨g6, 0, none⟩)), pl 9 (.int .i64 many3), pl 10 (.int .i64 dx1), pl 11 (.int .i64 dy1), pl 12 (.int .i64 n2), pl 13 (.int .i64 x1), pl 14 (.int .i64 y1), pl 77 (.bool ((r2 && r3) && ((geti g3 (w64 ((w64 (y1 * g1)) + x1))) == (w64 (3 - who1)))))] hF hS Fol (by kernel_rfl) (by kernel_rfl) (by kernel_rfl) ?_ (fun a w hF hS => ?_)
                    · exact obs_cons (ob_load Agg3 (fun _ _ hS => (hS.at_ 0 rfl).cell rfl)) <| obs_cons (ob_call Try.func64 (by kernel_rfl) rfl (fun _ _ hS => gameroomref_within_w hr2 hS )) <| obs_cons (ob_load Agg3 (fun _ _ hS => (hS.at_ 0 rfl).cell rfl)) <| obs_cons (ob_call Try.func64 (by kernel_rfl) rfl (fun hy _ hS => gameroomref_within_w (ite_some hr3 (by rw [show r2 = true from hy (r2, true) (by simp)]; try rfl)) hS )) <| obs_cons (ob_load Agg22 (fun _ _ hS => (hS.at_ 0 rfl).cell rfl)) <| obs_cons (ob_load Agg3 (fun _ _ hS => (hS.at_ 0 rfl).cell rfl)) <| obs_cons (ob_ix1 (f := (Value.int .i64)) (m := g3) Und22 hi3 hs3 (hr_g3 _ (hS.dropN 4)) rfl (fun hy => hp4 (hy (r2 && r3, true) (by simp)))) <| obs_cons (ob_get1 (n := g3.length) (m := g3) (Value.int .i64) (0 : Int) Agg3 (fun _ hS => ⟨_, (hr_g3 _ (hS.dropN 4))⟩) (fun _ hS => rfl) (fun hy => hp4 (hy (r2 && r3, true) (by simp)))) <| obs_nil
                    refine cond_ev (t := 77) (b := (r2 && r3) && ((geti g3 (w64 ((w64 (y1 * g1)) + x1))) == (w64 (3 - who1)))) hF (by kernel_rfl) (fun hb => ?_) (fun hb => ?_)
                    · replace hm := if_t hm hb
                      refine wp_skip ?_
                      refine then_n ?_
                      exact ⟨hF.weak [1, 2, 3, 6, 8, 9, 10, 11, 12, 13, 14] (by kernel_rfl), hS, hm⟩
                    · replace hm := if_f hm hb
                      refine wp_exit ?_
                      refine then_e (then_e (block_e (then_n ?_)))
                      rw [← hφ3] at hm
                      replace hm := done_b hm
                      unfold gameroomref_PutSign_K3 at hm
                      try dsimp only at hm
                      have hm : ((gameroomref_PutSign_J8 g1 g2 g3 who1 place1 r1 dx1 out3 many3 dy1) n2 x1 y1).bind φ2 = some r := hm
                      exact ⟨n2, x1, y1, hF.weak [1, 2, 3, 6, 8, 9, 10, 11, 12, 13, 14] (by kernel_rfl), hS, hm⟩
              · refine reg [] [] [1, 2, 3, 6, 8, 9, 10, 11, 38] [pl 1 (.int .i64 who1), pl 2 (.int .i64 place1), pl 3 (.pointer (some ⟨g4, 0, none⟩)), pl 6 (.pointer (some ⟨g5, 0, none⟩)), pl 8 (.pointer (some ⟨g6, 0, none⟩)), pl 9 (.int .i64 many3), pl 10 (.int .i64 dx1), pl 11 (.int .i64 dy1), pl 38 (.bool ((dx1 == 0) && (dy1 == 0)))] hF hS Fol (by kernel_rfl) (by kernel_rfl) (by kernel_rfl) ?_ (fun a w hF hS => ?_)
                · exact obs_nil
                refine cond_ev (t := 38) (b := (dx1 == 0) && (dy1 == 0)) hF (by kernel_rfl) (fun hb => ?_) (fun hb => ?_)
                · replace hm := if_t hm hb
                  refine wp_exit ?_
                  refine then_e (block_e (then_n ?_))
                  exact ⟨out3, many3, hF.weak [1, 2, 3, 6, 8, 9, 10, 11] (by kernel_rfl), hS, hm⟩
                · replace hm := if_f hm hb
                  refine wp_skip ?_
                  refine then_n ?_
                  exact ⟨hF.weak [1, 2, 3, 6, 8, 9, 10, 11] (by kernel_rfl), hS, hm⟩
          · refine reg [] [] [1, 2, 3, 6, 8, 9, 10, 11, 30] [pl 1 (.int .i64 who1), pl 2 (.int .i64 place1), pl 3 (.pointer (some ⟨g4, 0, none⟩)), pl 6 (.pointer (some ⟨g5, 0, none⟩)), pl 8 (.pointer (some ⟨g6, 0, none⟩)), pl 9 (.int .i64 many3), pl 10 (.int .i64 dx1), pl 11 (.int .i64 dy1), pl 30 (.bool (decide (dy1 ≤ 1)))] hF hS Fol (by kernel_rfl) (by kernel_rfl) (by kernel_rfl) ?_ (fun a w hF hS => ?_)
            · exact obs_nil
            refine cond_ev (t := 30) (b := decide (dy1 ≤ 1)) hF (by kernel_rfl) (fun hb => ?_) (fun hb => ?_)
            · replace hm := if_t hm hb
              refine wp_skip ?_
              refine then_n ?_
              exact ⟨hF.weak [1, 2, 3, 6, 8, 9, 10, 11] (by kernel_rfl), hS, hm⟩
            · replace hm := if_f hm hb
              refine wp_exit ?_
              refine then_e (then_e (block_e (block_n (then_n ?_))))
              rw [← hφ2] at hm
              replace hm := done_b hm
              unfold gameroomref_PutSign_K2 at hm
              try dsimp only at hm
              have hm : ((gameroomref_PutSign_J4 dx1) out3 many3).bind φ1 = some r := hm
              exact ⟨out3, many3, hF.weak [1, 2, 3, 6, 8, 9, 10] (by kernel_rfl), hS, hm⟩
      · refine reg [] [] [1, 2, 3, 6, 8, 9, 10, 26] [pl 1 (.int .i64 who1), pl 2 (.int .i64 place1), pl 3 (.pointer (some ⟨g4, 0, none⟩)), pl 6 (.pointer (some ⟨g5, 0, none⟩)), pl 8 (.pointer (some ⟨g6, 0, none⟩)), pl 9 (.int .i64 many1), pl 10 (.int .i64 dx1), pl 26 (.bool (decide (dx1 ≤ 1)))] hF hS Fol (by kernel_rfl) (by kernel_rfl) (by kernel_rfl) ?_ (fun a w hF hS => ?_)
        · exact obs_nil
        refine cond_ev (t := 26) (b := decide (dx1 ≤ 1)) hF (by kernel_rfl) (fun hb => ?_) (fun hb => ?_)
        · replace hm := if_t hm hb
          refine wp_skip ?_
          refine then_n ?_
          exact ⟨hF.weak [1, 2, 3, 6, 8, 9, 10] (by kernel_rfl), hS, hm⟩
        · replace hm := if_f hm hb
          refine wp_exit ?_
          refine then_e (then_e (block_e (then_n ?_)))
          have hS := hS.pickN 4 [1, 2, 3] (by decide)
          rw [← hφ1] at hm
          replace hm := done_b hm
          unfold gameroomref_PutSign_K1 at hm
          try dsimp only at hm
          have hm : ((gameroomref_PutSign_J2 who1 place1 r1) out1 many1).bind some = some r := hm
          exact ⟨out1, many1, hF.weak [1, 2, 6, 8, 9] (by kernel_rfl), hS, hm⟩
  · obtain ⟨hp1, hm⟩ := asrt_b hm
    refine reg [⟨false, [], vS (Instr.loadAt 22 (.pointer (some ⟨g4, 2, none⟩))), .slice A1 g3.length c1⟩, ⟨true, [], vS (Instr.indexAt 22 (.slice A1 g3.length c1) (.int .i64 place1)), .pointer (some (sAddr A1 place1))⟩, ⟨false, [], vS (Instr.loadAt 3 (.pointer (some (sAddr A1 place1)))), .int .i64 (geti g3 place1)⟩] [none, some (.slice A1 g3.length c1), none, some (.pointer (some (sAddr A1 place1))), some (.int .i64 (geti g3 place1)), none] [1, 2, 3, 6, 8, 23] [pl 1 (.int .i64 who1), pl 2 (.int .i64 place1), pl 3 (.pointer (some ⟨g4, 0, none⟩)), pl 6 (.pointer (some ⟨g5, 0, none⟩)), pl 8 (.pointer (some ⟨g6, 0, none⟩)), pl 23 (.bool ((geti g3 place1) != 0))] hF hS Fol (by kernel_rfl) (by kernel_rfl) (by kernel_rfl) ?_ (fun a w hF hS => ?_)
    · exact obs_cons (ob_load Agg22 (fun _ _ hS => (hS.at_ 3 rfl).cell rfl)) <| obs_cons (ob_ix1 (f := (Value.int .i64)) (m := g3) Und22 hi3 hs3 (hr_g3 _ (hS.dropN 4)) rfl (fun _ => hp1)) <| obs_cons (ob_get1 (n := g3.length) (m := g3) (Value.int .i64) (0 : Int) Agg3 (fun _ hS => ⟨_, (hr_g3 _ (hS.dropN 4))⟩) (fun _ hS => rfl) (fun _ => hp1)) <| obs_nil
    refine cond_ev (t := 23) (b := ((geti g3 place1) != 0)) hF (by kernel_rfl) (fun hb => ?_) (fun hb => ?_)
    · replace hm := if_t hm hb
      refine seqR ?_
      refine at_run 1 [⟨false, [], vS (Instr.loadAt 24 (.pointer (some ⟨g6, 0, none⟩))), .agg #[.int .i64 r1.1, .int .i64 r1.2.1, .slice A2 r1.2.2.length c2]⟩] [some (.agg #[.int .i64 r1.1, .int .i64 r1.2.1, .slice A2 r1.2.2.length c2])] [6, 24] [pl 6 (.pointer (some ⟨g5, 0, none⟩)), pl 24 (.agg #[.int .i64 r1.1, .int .i64 r1.2.1, .slice A2 r1.2.2.length c2])] hF hS (by kernel_rfl) (by kernel_rfl) ?_ (fun a w hF hS => ?_)
      · exact obs_cons (ob_loadA (cs := #[.int .i64 r1.1, .int .i64 r1.2.1, .slice A2 r1.2.2.length c2]) (by kernel_rfl) (by kernel_rfl) (fun _ _ hS => (hS.at_ 0 rfl).cellsAt 0 (by rfl))) <| obs_nil
      obtain ⟨w, hrun, hS⟩ := run_putA (P := Try.prog) (t := 24) (us := #[.int .i64 r1.1, .int .i64 r1.2.1, .slice A2 r1.2.2.length c2]) (o := 0) (hS.at_ 2 rfl) (by kernel_rfl) (all_one (by kernel_rfl)) (Nat.le_of_ble_eq_true (by kernel_rfl))
      refine at_skip hF (by kernel_rfl) hrun ?_
      have hS : Sep w0 B w (blk g6 24 #[.int .i64 r1.1, .int .i64 r1.2.1, .slice A2 r1.2.2.length c2] :: own 3 (.slice A2 r1.2.2.length c2) (vI r1.2.2) :: blk g5 24 #[.int .i64 r1.1, .int .i64 r1.2.1, .slice A2 r1.2.2.length c2] :: blk g4 24 #[.int .i64 g1, .int .i64 g2, .slice A1 g3.length c1] :: fs) := hS
      refine at_run 1 [] [] [6, 7] [pl 6 (.pointer (some ⟨g5, 0, none⟩)), pl 7 (.int .i64 0)] hF hS (by kernel_rfl) (by kernel_rfl) ?_ (fun a w hF hS => ?_)
      · exact obs_nil
      refine at_end [6, 7] [pl 6 (.pointer (some ⟨g5, 0, none⟩)), pl 7 (.int .i64 0)] hF rfl (by kernel_rfl) (fun hF => ?_)
      refine then_n ?_
      refine wp_ret ?_
      refine then_r ?_
      have hld0 := run_loadVarA (P := Try.prog) (t := 24) (cs := #[.int .i64 r1.1, .int .i64 r1.2.1, .slice A2 r1.2.2.length c2]) (by kernel_rfl) (by kernel_rfl) ((hS.at_ 2 rfl).cellsAt 0 (by rfl))
      have hS := hS.pickN 4 [1] (by decide)
      have hm : some (r1.1, r1.2.1, r1.2.2, 0) = some r := hm
      obtain rfl := Option.some.inj hm
      exact retV (rs := [.cell 6 24, .tmp 7]) (vs := [.agg #[.int .i64 r1.1, .int .i64 r1.2.1, .slice A2 r1.2.2.length c2], .int .i64 0]) hF rfl (rv_c (by kernel_rfl) hld0 <| rv_t (by kernel_rfl) <| rv_nil) rfl ⟨_, rfl, A2, c2, rfl, hS⟩
    · replace hm := if_f hm hb
      refine wp_skip ?_
      refine then_n ?_
      have hS := hS.pickN 4 [3, 2, 0, 1] (by decide)
      exact ⟨hF.weak [1, 2, 3, 6, 8] (by kernel_rfl), hS, hm⟩

noncomputable def gameroomref_SignPlaces_J3 (i1 : Int) (l3 : List Int) : Option (St (List Int × Int) (List Int)) :=
  some (.next (l3, (w64 (i1 + 1))))

noncomputable def gameroomref_SignPlaces_J2 (g1 : Int) (g2 : Int) (g3 : List Int) (who1 : Int) (l1 : List Int) (i1 : Int) : Option (St (List Int × Int) (List Int)) :=
  (gameroomref_PutSign_m g1 g2 g3 who1 i1).bind fun r1 => if (decide ((0 : Int) < r1.2.2.2)) then (asrt ((l1.length : Int) + 1 ≤ bigN) <| (gameroomref_SignPlaces_J3 i1) (l1 ++ ([i1] : List Int))) else ((gameroomref_SignPlaces_J3 i1) l1)

noncomputable def gameroomref_SignPlaces_J1 (l2 : List Int) : Option (List Int) :=
  some l2

noncomputable def gameroomref_SignPlaces_K1 : (List Int) → Option (List Int) :=
  fun (x : (List Int)) => match x with | l2 => gameroomref_SignPlaces_J1 l2

noncomputable def gameroomref_SignPlaces_L1 (g1 : Int) (g2 : Int) (g3 : List Int) (who1 : Int) : (List Int × Int) → Option (St (List Int × Int) (List Int)) :=
  fun (x : (List Int × Int)) => match x with | (l1, i1) => if (decide (i1 < (g3.length : Int))) then ((gameroomref_SignPlaces_J2 g1 g2 g3 who1 l1 i1)) else (some (.done l1))

noncomputable def gameroomref_SignPlaces_m (g1 : Int) (g2 : Int) (g3 : List Int) (who1 : Int) : Option (List Int) :=
  (loop (gameroomref_SignPlaces_L1 g1 g2 g3 who1) (([] : List Int), 0)).bind gameroomref_SignPlaces_K1

set_option maxRecDepth 100000 in
set_option maxHeartbeats 4000000 in
theorem gameroomref_SignPlaces_w {g1 : Int} {g2 : Int} {A1 : Option Addr} {c1 : Nat} {n1 : Nat} {g3 : List Int} {who1 : Int} {r : (List Int)} {w0 w : World} {B : Nat} {fs : List HP} (hm : gameroomref_SignPlaces_m g1 g2 g3 who1 = some r) (hS : Sep w0 B w (fs)) (hr_g3 : RdF w0 B fs A1 (vI g3)) (_hc_g3 : g3.length ≤ c1) (_hn_g3 : n1 = g3.length) :
    Calls Try.prog 21 #[.agg #[.int .i64 g1, .int .i64 g2, .slice A1 n1 c1], .int .i64 who1] w fun e w' => ∃ v, e = .returned v ∧ ∃ (A7 : Option Addr) (c7 : Nat), v = .slice A7 r.length c7 ∧ Sep w0 B w' (own 3 (.slice A7 r.length c7) (vI r) :: fs) := by
  obtain ⟨i3, hi3, hz3, hs3, hb3⟩ := info_parts Info3
  obtain rfl := _hn_g3
  unfold gameroomref_SignPlaces_m at hm
  replace hm := start_b hm
  refine enter (l := [.agg #[.int .i64 g1, .int .i64 g2, .slice A1 g3.length c1], .int .i64 who1]) (n := 30) Try.func21 rfl rfl (by simp) (fun a hF => ?_)
  refine seqR ?_
  refine at_do (d := 2) (s := vS (Instr.box 24 (.agg #[.int .i64 g1, .int .i64 g2, .slice A1 g3.length c1]))) (v := .pointer (some ⟨w.heap.size, 0, none⟩)) (w' := w.alloc (.cells #[.int .i64 g1, .int .i64 g2, .slice A1 g3.length c1] 24)) hF (by kernel_rfl) (by kernel_rfl) (by kernel_rfl) (fun a hF => ?_)
  have hS : Sep w0 B (w.alloc (.cells #[.int .i64 g1, .int .i64 g2, .slice A1 g3.length c1] 24)) (blk w.heap.size 24 #[.int .i64 g1, .int .i64 g2, .slice A1 g3.length c1] :: (fs)) := hS.box 24 #[.int .i64 g1, .int .i64 g2, .slice A1 g3.length c1]
  generalize w.heap.size = g4 at hF hS
  generalize w.alloc (.cells #[.int .i64 g1, .int .i64 g2, .slice A1 g3.length c1] 24) = w at hS ⊢
  refine at_run 1 [] [] [1, 2] [pl 1 (.int .i64 who1), pl 2 (.pointer (some ⟨g4, 0, none⟩))] hF hS (by kernel_rfl) (by kernel_rfl) ?_ (fun a w hF hS => ?_)
  · exact obs_nil
  refine at_end [1, 2] [pl 1 (.int .i64 who1), pl 2 (.pointer (some ⟨g4, 0, none⟩))] hF rfl (by kernel_rfl) (fun hF => ?_)
  refine then_n ?_
  refine reg [] [] [1, 2, 5] [pl 1 (.int .i64 who1), pl 2 (.pointer (some ⟨g4, 0, none⟩)), pl 5 (.slice none 0 0)] hF hS Fol (by kernel_rfl) (by kernel_rfl) (by kernel_rfl) ?_ (fun a w hF hS => ?_)
  · exact obs_nil
  refine seq_cut (fun a w => ∃ (l2 : List Int) (A3 : Option Addr) (c3 : Nat), Fr 30 [pl 5 (.slice A3 l2.length c3)] a ∧ Sep w0 B w (own 3 (.slice A3 l2.length c3) (vI l2) :: fs) ∧ (gameroomref_SignPlaces_J1 l2).bind some = some r) ?_ ?_
  · rintro a w ⟨l2, A3, c3, hF, hS, hm⟩
    unfold gameroomref_SignPlaces_J1 at hm
    refine reg [] [] [4] [pl 4 (.slice A3 l2.length c3)] hF hS Fol (by kernel_rfl) (by kernel_rfl) (by kernel_rfl) ?_ (fun a w hF hS => ?_)
    · exact obs_nil
    refine wp_ret ?_
    have hm : some l2 = some r := hm
    obtain rfl := Option.some.inj hm
    exact retV (rs := [.tmp 4]) (vs := [.slice A3 l2.length c3]) hF rfl (rv_t (by kernel_rfl) <| rv_nil) rfl ⟨_, rfl, A3, c3, rfl, hS⟩
  · refine reg [] [] [1, 2, 5, 6] [pl 1 (.int .i64 who1), pl 2 (.pointer (some ⟨g4, 0, none⟩)), pl 5 (.slice none 0 0), pl 6 (.int .i64 0)] hF hS Fol (by kernel_rfl) (by kernel_rfl) (by kernel_rfl) ?_ (fun a w hF hS => ?_)
    · exact obs_nil
    refine wp_block ?_
    have hS : Sep w0 B w (own 3 (.slice none 0 0) (vI ([] : List Int)) :: blk g4 24 #[.int .i64 g1, .int .i64 g2, .slice A1 g3.length c1] :: fs) := hS.nil 3
    have hl1 := (hS.at_ 0 rfl).len1
    have hS := (hS.at_ 0 rfl).reN hl1
    have hS : Sep w0 B w (own 3 (.slice none (([] : List Int).length) 0) (vI ([] : List Int)) :: blk g4 24 #[.int .i64 g1, .int .i64 g2, .slice A1 g3.length c1] :: fs) := hS
    have hF := hF.cast (t := 5) (v := .slice none 0 0) (v' := .slice none (([] : List Int).length) 0) rfl rfl (congrArg (fun k => Value.slice none k 0) hl1)
    have hS := hS.pickN 2 [1, 0] (by decide)
    refine wp_loop_model (S := (List Int × Int)) (R := (List Int)) (gameroomref_SignPlaces_L1 g1 g2 g3 who1) (fun x => (gameroomref_SignPlaces_K1 x).bind some) r (fun (x : (List Int × Int)) a w => ∃ (A2 : Option Addr) (c2 : Nat), Fr 30 [pl 1 (.int .i64 who1), pl 2 (.pointer (some ⟨g4, 0, none⟩)), pl 5 (.slice A2 x.1.length c2), pl 6 (.int .i64 x.2)] a ∧ Sep w0 B w (blk g4 24 #[.int .i64 g1, .int .i64 g2, .slice A1 g3.length c1] :: own 3 (.slice A2 x.1.length c2) (vI x.1) :: fs)) (assoc_b hm) ⟨none, 0, hF.weak [1, 2, 5, 6] (by kernel_rfl), hS⟩ ?_
    clear hF hS hm
    rintro nn1 ⟨l1, i1⟩ a w ⟨A2, c2, hF, hS⟩ hm
    generalize hφ1 : stK (gameroomref_SignPlaces_L1 g1 g2 g3 who1) nn1 (fun x => (gameroomref_SignPlaces_K1 x).bind some) = φ1 at hm
    unfold gameroomref_SignPlaces_L1 at hm
    dsimp only at hF hS hm
    refine seq_cut (fun a w => Fr 30 [pl 1 (.int .i64 who1), pl 2 (.pointer (some ⟨g4, 0, none⟩)), pl 5 (.slice A2 l1.length c2), pl 6 (.int .i64 i1)] a ∧ Sep w0 B w (blk g4 24 #[.int .i64 g1, .int .i64 g2, .slice A1 g3.length c1] :: own 3 (.slice A2 l1.length c2) (vI l1) :: fs) ∧ ((gameroomref_SignPlaces_J2 g1 g2 g3 who1 l1 i1)).bind φ1 = some r) ?_ ?_
    · rintro a w ⟨hF, hS, hm⟩
      unfold gameroomref_SignPlaces_J2 at hm
      refine seq_cut (fun a w => ∃ (l3 : List Int) (A6 : Option Addr) (c6 : Nat), Fr 30 [pl 1 (.int .i64 who1), pl 2 (.pointer (some ⟨g4, 0, none⟩)), pl 5 (.slice A6 l3.length c6), pl 6 (.int .i64 i1)] a ∧ Sep w0 B w (blk g4 24 #[.int .i64 g1, .int .i64 g2, .slice A1 g3.length c1] :: own 3 (.slice A6 l3.length c6) (vI l3) :: fs) ∧ ((gameroomref_SignPlaces_J3 i1) l3).bind φ1 = some r) ?_ ?_
      · rintro a w ⟨l3, A6, c6, hF, hS, hm⟩
        unfold gameroomref_SignPlaces_J3 at hm
        refine reg1 [] [] [1, 2, 5, 6] [pl 1 (.int .i64 who1), pl 2 (.pointer (some ⟨g4, 0, none⟩)), pl 5 (.slice A6 l3.length c6), pl 6 (.int .i64 (w64 (i1 + 1)))] hF hS Fol (by kernel_rfl) (by kernel_rfl) (by kernel_rfl) ?_ (fun a w hF hS => ?_)
        · exact obs_nil
        refine then_n ?_
        rw [← hφ1] at hm
        exact ⟨(l3, (w64 (i1 + 1))), ⟨A6, c6, hF.weak [1, 2, 5, 6] (by kernel_rfl), hS⟩, hm⟩
      · refine wp_block ?_
        refine seqR ?_
        obtain ⟨r1, hr1, hm⟩ := call_b hm
        refine at_run 3 [⟨false, [], vS (Instr.loadAt 24 (.pointer (some ⟨g4, 0, none⟩))), .agg #[.int .i64 g1, .int .i64 g2, .slice A1 g3.length c1]⟩] [some (.agg #[.int .i64 g1, .int .i64 g2, .slice A1 g3.length c1]), none, none] [1, 2, 5, 6, 17, 18, 19] [pl 1 (.int .i64 who1), pl 2 (.pointer (some ⟨g4, 0, none⟩)), pl 5 (.slice A2 l1.length c2), pl 6 (.int .i64 i1), pl 17 (.agg #[.int .i64 g1, .int .i64 g2, .slice A1 g3.length c1]), pl 18 (.int .i64 who1), pl 19 (.int .i64 i1)] hF hS (by kernel_rfl) (by kernel_rfl) ?_ (fun a w hF hS => ?_)
        · exact obs_cons (ob_loadA (cs := #[.int .i64 g1, .int .i64 g2, .slice A1 g3.length c1]) (by kernel_rfl) (by kernel_rfl) (fun _ _ hS => (hS.at_ 0 rfl).cellsAt 0 (by rfl))) <| obs_nil
        refine at_call (f := 23) (args := #[.agg #[.int .i64 g1, .int .i64 g2, .slice A1 g3.length c1], .int .i64 who1, .int .i64 i1]) (d := 20) hF (by kernel_rfl) (by kernel_rfl) Try.func23 (by kernel_rfl) rfl (gameroomref_PutSign_w hr1 hS (fun _ hS => (hr_g3 _ (hS.dropN 2))) _hc_g3 rfl) (fun v a w hR hF => ?_)
        clear hS
        obtain ⟨A4, c4, rfl, hS⟩ := hR
        have hS : Sep w0 B w (own 3 (.slice A4 r1.2.2.1.length c4) (vI r1.2.2.1) :: blk g4 24 #[.int .i64 g1, .int .i64 g2, .slice A1 g3.length c1] :: own 3 (.slice A2 l1.length c2) (vI l1) :: fs) := hS
        refine at_run 3 [] [] [1, 2, 5, 6, 21, 22] [pl 1 (.int .i64 who1), pl 2 (.pointer (some ⟨g4, 0, none⟩)), pl 5 (.slice A2 l1.length c2), pl 6 (.int .i64 i1), pl 21 (.agg #[.int .i64 r1.1, .int .i64 r1.2.1, .slice A4 r1.2.2.1.length c4]), pl 22 (.int .i64 r1.2.2.2)] hF hS (by kernel_rfl) (by kernel_rfl) ?_ (fun a w hF hS => ?_)
        · exact obs_nil
        refine at_do (d := 7) (s := vS (Instr.alloc 24 true (.tuple #[]))) (v := .pointer (some ⟨w.heap.size, 0, none⟩)) (w' := w.alloc (.cells #[.int .i64 0, .int .i64 0, .slice none 0 0] 24)) hF (by kernel_rfl) (by kernel_rfl) (by kernel_rfl) (fun a hF => ?_)
        have hS : Sep w0 B (w.alloc (.cells #[.int .i64 0, .int .i64 0, .slice none 0 0] 24)) (blk w.heap.size 24 #[.int .i64 0, .int .i64 0, .slice none 0 0] :: (own 3 (.slice A4 r1.2.2.1.length c4) (vI r1.2.2.1) :: blk g4 24 #[.int .i64 g1, .int .i64 g2, .slice A1 g3.length c1] :: own 3 (.slice A2 l1.length c2) (vI l1) :: fs)) := hS.box 24 #[.int .i64 0, .int .i64 0, .slice none 0 0]
        generalize w.heap.size = g5 at hF hS
        generalize w.alloc (.cells #[.int .i64 0, .int .i64 0, .slice none 0 0] 24) = w at hS ⊢
        obtain ⟨w, hrun, hS⟩ := run_putA (P := Try.prog) (t := 24) (us := #[.int .i64 r1.1, .int .i64 r1.2.1, .slice A4 r1.2.2.1.length c4]) (o := 0) (hS.at_ 0 rfl) (by kernel_rfl) (all_one (by kernel_rfl)) (Nat.le_of_ble_eq_true (by kernel_rfl))
        refine at_skip hF (by kernel_rfl) hrun ?_
        have hS : Sep w0 B w (blk g5 24 #[.int .i64 r1.1, .int .i64 r1.2.1, .slice A4 r1.2.2.1.length c4] :: own 3 (.slice A4 r1.2.2.1.length c4) (vI r1.2.2.1) :: blk g4 24 #[.int .i64 g1, .int .i64 g2, .slice A1 g3.length c1] :: own 3 (.slice A2 l1.length c2) (vI l1) :: fs) := hS
        refine at_run 1 [] [] [1, 2, 5, 6, 8] [pl 1 (.int .i64 who1), pl 2 (.pointer (some ⟨g4, 0, none⟩)), pl 5 (.slice A2 l1.length c2), pl 6 (.int .i64 i1), pl 8 (.int .i64 r1.2.2.2)] hF hS (by kernel_rfl) (by kernel_rfl) ?_ (fun a w hF hS => ?_)
        · exact obs_nil
        refine at_end [1, 2, 5, 6, 8] [pl 1 (.int .i64 who1), pl 2 (.pointer (some ⟨g4, 0, none⟩)), pl 5 (.slice A2 l1.length c2), pl 6 (.int .i64 i1), pl 8 (.int .i64 r1.2.2.2)] hF rfl (by kernel_rfl) (fun hF => ?_)
        refine then_n ?_
        refine reg [] [] [1, 2, 5, 6, 24] [pl 1 (.int .i64 who1), pl 2 (.pointer (some ⟨g4, 0, none⟩)), pl 5 (.slice A2 l1.length c2), pl 6 (.int .i64 i1), pl 24 (.bool (decide ((0 : Int) < r1.2.2.2)))] hF hS Fol (by kernel_rfl) (by kernel_rfl) (by kernel_rfl) ?_ (fun a w hF hS => ?_)
        · exact obs_nil
        refine cond_ev (t := 24) (b := decide ((0 : Int) < r1.2.2.2)) hF (by kernel_rfl) (fun hb => ?_) (fun hb => ?_)
        · replace hm := if_t hm hb
          refine oneR ?_
          obtain ⟨hp1, hm⟩ := asrt_b hm
          refine at_run 2 [] [] [1, 2, 6, 25, 26] [pl 1 (.int .i64 who1), pl 2 (.pointer (some ⟨g4, 0, none⟩)), pl 6 (.int .i64 i1), pl 25 (.slice A2 l1.length c2), pl 26 (.int .i64 i1)] hF hS (by kernel_rfl) (by kernel_rfl) ?_ (fun a w hF hS => ?_)
          · exact obs_nil
          refine at_do (d := 27) (s := vS (Instr.buildSlice 22 1 #[(0, .int .i64 i1)])) (v := .slice (some ⟨w.heap.size, 0, none⟩) 1 1) (w' := w.alloc (.cells #[.int .i64 i1] 3)) hF (by kernel_rfl) (by kernel_rfl) (by kernel_rfl) (fun a hF => ?_)
          have hS : Sep w0 B (w.alloc (.cells #[.int .i64 i1] 3)) (own 3 (.slice (some (⟨w.heap.size, 0, none⟩ : Addr)) 1 1) (vI ([i1] : List Int)) :: (blk g5 24 #[.int .i64 r1.1, .int .i64 r1.2.1, .slice A4 r1.2.2.1.length c4] :: own 3 (.slice A4 r1.2.2.1.length c4) (vI r1.2.2.1) :: blk g4 24 #[.int .i64 g1, .int .i64 g2, .slice A1 g3.length c1] :: own 3 (.slice A2 l1.length c2) (vI l1) :: fs)) := hS.lit 3 #[.int .i64 i1] 1 rfl (by omega)
          generalize (some (⟨w.heap.size, 0, none⟩ : Addr)) = g6 at hF hS
          generalize w.alloc (.cells #[.int .i64 i1] 3) = w at hS ⊢
          obtain ⟨A5, c5, w, hrun, hS⟩ := run_app1 (P := Try.prog) (t := 22) (m := l1) (ys := ([i1] : List Int)) (A2 := g6) (m2 := 1) (c2 := 1) (Value.int .i64) (0 : Int) (hS.at_ 4 rfl) (hS.at_ 0 rfl).rd ((hS.at_ 0 rfl).len1) 22 Und22 hi3 hz3 hs3 (by omega) rfl (fun _ => rfl) hp1
          have hS : Sep w0 B w (own 3 (.slice g6 1 1) (vI ([i1] : List Int)) :: blk g5 24 #[.int .i64 r1.1, .int .i64 r1.2.1, .slice A4 r1.2.2.1.length c4] :: own 3 (.slice A4 r1.2.2.1.length c4) (vI r1.2.2.1) :: blk g4 24 #[.int .i64 g1, .int .i64 g2, .slice A1 g3.length c1] :: own 3 (.slice A5 ((l1 ++ ([i1] : List Int)).length) c5) (vI (l1 ++ ([i1] : List Int))) :: fs) := hS
          refine at_do (d := 28) hF (by kernel_rfl) (by kernel_rfl) hrun (fun a hF => ?_)
          refine at_run 1 [] [] [1, 2, 5, 6] [pl 1 (.int .i64 who1), pl 2 (.pointer (some ⟨g4, 0, none⟩)), pl 5 (.slice A5 ((l1 ++ ([i1] : List Int)).length) c5), pl 6 (.int .i64 i1)] hF hS (by kernel_rfl) (by kernel_rfl) ?_ (fun a w hF hS => ?_)
          · exact obs_nil
          refine at_end [1, 2, 5, 6] [pl 1 (.int .i64 who1), pl 2 (.pointer (some ⟨g4, 0, none⟩)), pl 5 (.slice A5 ((l1 ++ ([i1] : List Int)).length) c5), pl 6 (.int .i64 i1)] hF rfl (by kernel_rfl) (fun hF => ?_)
          refine block_n ?_
          refine then_n ?_
          have hS := hS.pickN 5 [3, 4] (by decide)
          exact ⟨(l1 ++ ([i1] : List Int)), A5, c5, hF.weak [1, 2, 5, 6] (by kernel_rfl), hS, hm⟩
        · replace hm := if_f hm hb
          refine wp_skip ?_
          refine block_n ?_
          refine then_n ?_
          have hS := hS.pickN 4 [2, 3] (by decide)
          exact ⟨l1, A2, c2, hF.weak [1, 2, 5, 6] (by kernel_rfl), hS, hm⟩
    · refine reg [⟨false, [], vS (Instr.loadAt 22 (.pointer (some ⟨g4, 2, none⟩))), .slice A1 g3.length c1⟩] [none, none, some (.slice A1 g3.length c1), none, none] [1, 2, 5, 6, 13] [pl 1 (.int .i64 who1), pl 2 (.pointer (some ⟨g4, 0, none⟩)), pl 5 (.slice A2 l1.length c2), pl 6 (.int .i64 i1), pl 13 (.bool (decide (i1 < (g3.length : Int))))] hF hS Fol (by kernel_rfl) (by kernel_rfl) (by kernel_rfl) ?_ (fun a w hF hS => ?_)
      · exact obs_cons (ob_load Agg22 (fun _ _ hS => (hS.at_ 0 rfl).cell rfl)) <| obs_nil
      refine cond_ev (t := 13) (b := decide (i1 < (g3.length : Int))) hF (by kernel_rfl) (fun hb => ?_) (fun hb => ?_)
      · replace hm := if_t hm hb
        refine wp_skip ?_
        refine then_n ?_
        exact ⟨hF.weak [1, 2, 5, 6] (by kernel_rfl), hS, hm⟩
      · replace hm := if_f hm hb
        refine wp_exit ?_
        refine then_e (then_e (block_e (then_n ?_)))
        have hS := hS.pickN 2 [1] (by decide)
        rw [← hφ1] at hm
        replace hm := done_b hm
        unfold gameroomref_SignPlaces_K1 at hm
        try dsimp only at hm
        have hm : (gameroomref_SignPlaces_J1 l1).bind some = some r := hm
        exact ⟨l1, A2, c2, hF.weak [5] (by kernel_rfl), hS, hm⟩

noncomputable def gameroomref_OthelloBest_J5 (i1 : Int) (n5 : Int) : Option (St (Int × Int) Int) :=
  some (.next (n5, (w64 (i1 + 1))))

noncomputable def gameroomref_OthelloBest_J6 (g3 : List Int) (who1 : Int) (i1 : Int) (n4 : Int) : Option (St (Int × Int) Int) :=
  asrt (0 ≤ i1 ∧ i1 < (g3.length : Int)) <| if ((geti g3 i1) == (w64 (3 - who1))) then ((gameroomref_OthelloBest_J5 i1) (w64 (n4 - 1))) else ((gameroomref_OthelloBest_J5 i1) n4)

noncomputable def gameroomref_OthelloBest_J4 (g3 : List Int) (who1 : Int) (n2 : Int) (i1 : Int) : Option (St (Int × Int) Int) :=
  asrt (0 ≤ i1 ∧ i1 < (g3.length : Int)) <| if ((geti g3 i1) == who1) then ((gameroomref_OthelloBest_J6 g3 who1 i1) (w64 (n2 + 1))) else ((gameroomref_OthelloBest_J6 g3 who1 i1) n2)

noncomputable def gameroomref_OthelloBest_J3 (n3 : Int) : Option (Int × Int) :=
  some (n3, (-1))

noncomputable def gameroomref_OthelloBest_K1 : Int → Option (Int × Int) :=
  fun (x : Int) => match x with | n3 => gameroomref_OthelloBest_J3 n3

noncomputable def gameroomref_OthelloBest_L1 (g3 : List Int) (who1 : Int) : (Int × Int) → Option (St (Int × Int) Int) :=
  fun (x : (Int × Int)) => match x with | (n2, i1) => if (decide (i1 < (g3.length : Int))) then ((gameroomref_OthelloBest_J4 g3 who1 n2 i1)) else (some (.done n2))

noncomputable def gameroomref_OthelloBest_J10 (i2 : Int) (best3 : Int) (where3 : Int) : Option (St (Int × Int × Int) (Int × Int)) :=
  some (.next (best3, where3, (w64 (i2 + 1))))

noncomputable def gameroomref_OthelloBest_J11 (rec_gameroomref_OthelloBest : Int → Int → List Int → Int → Int → Option (Int × Int)) (who1 : Int) (deep1 : Int) (own5 : List Int) (best1 : Int) (where1 : Int) (i2 : Int) (x1 : Int) (x2 : Int) (x3 : List Int) : Option (St (Int × Int × Int) (Int × Int)) :=
  (rec_gameroomref_OthelloBest x1 x2 x3 (w64 (3 - who1)) (w64 (deep1 - 1))).bind fun r5 => if (decide (best1 < (w64 (0 - r5.1)))) then (asrt (0 ≤ i2 ∧ i2 < (own5.length : Int)) <| (gameroomref_OthelloBest_J10 i2) (w64 (0 - r5.1)) (geti own5 i2)) else ((gameroomref_OthelloBest_J10 i2) best1 where1)

noncomputable def gameroomref_OthelloBest_J9 (rec_gameroomref_OthelloBest : Int → Int → List Int → Int → Int → Option (Int × Int)) (g1 : Int) (g2 : Int) (g3 : List Int) (who1 : Int) (deep1 : Int) (own5 : List Int) (best1 : Int) (where1 : Int) (i2 : Int) : Option (St (Int × Int × Int) (Int × Int)) :=
  asrt (0 ≤ i2 ∧ i2 < (own5.length : Int)) <| (gameroomref_PutSign_m g1 g2 g3 who1 (geti own5 i2)).bind fun r4 => (gameroomref_OthelloBest_J11 rec_gameroomref_OthelloBest who1 deep1 own5 best1 where1 i2) r4.1 r4.2.1 r4.2.2.1

noncomputable def gameroomref_OthelloBest_J8 (best2 : Int) (where2 : Int) : Option (Int × Int) :=
  some (best2, where2)

noncomputable def gameroomref_OthelloBest_K2 : (Int × Int) → Option (Int × Int) :=
  fun (x : (Int × Int)) => match x with | (best2, where2) => gameroomref_OthelloBest_J8 best2 where2

noncomputable def gameroomref_OthelloBest_L2 (rec_gameroomref_OthelloBest : Int → Int → List Int → Int → Int → Option (Int × Int)) (g1 : Int) (g2 : Int) (g3 : List Int) (who1 : Int) (deep1 : Int) (own5 : List Int) : (Int × Int × Int) → Option (St (Int × Int × Int) (Int × Int)) :=
  fun (x : (Int × Int × Int)) => match x with | (best1, where1, i2) => if (decide (i2 < (own5.length : Int))) then ((gameroomref_OthelloBest_J9 rec_gameroomref_OthelloBest g1 g2 g3 who1 deep1 own5 best1 where1 i2)) else (some (.done (best1, where1)))

noncomputable def gameroomref_OthelloBest_J7 (rec_gameroomref_OthelloBest : Int → Int → List Int → Int → Int → Option (Int × Int)) (g1 : Int) (g2 : Int) (g3 : List Int) (who1 : Int) (deep1 : Int) (own5 : List Int) : Option (Int × Int) :=
  (loop (gameroomref_OthelloBest_L2 rec_gameroomref_OthelloBest g1 g2 g3 who1 deep1 own5) ((-1000), (-1), 0)).bind gameroomref_OthelloBest_K2

noncomputable def gameroomref_OthelloBest_J2 (rec_gameroomref_OthelloBest : Int → Int → List Int → Int → Int → Option (Int × Int)) (g1 : Int) (g2 : Int) (g3 : List Int) (who1 : Int) (deep1 : Int) (own5 : List Int) : Option (Int × Int) :=
  if ((own5.length : Int) == 0) then ((rec_gameroomref_OthelloBest g1 g2 g3 (w64 (3 - who1)) deep1).bind fun r3 => some ((w64 (0 - r3.1)), (-1))) else ((gameroomref_OthelloBest_J7 rec_gameroomref_OthelloBest g1 g2 g3 who1 deep1 own5))

noncomputable def gameroomref_OthelloBest_J1 (rec_gameroomref_OthelloBest : Int → Int → List Int → Int → Int → Option (Int × Int)) (g1 : Int) (g2 : Int) (g3 : List Int) (who1 : Int) (deep1 : Int) (own5 : List Int) (other1 : List Int) : Option (Int × Int) :=
  if ((deep1 == 0) || (((own5.length : Int) == 0) && ((other1.length : Int) == 0))) then ((loop (gameroomref_OthelloBest_L1 g3 who1) (0, 0)).bind gameroomref_OthelloBest_K1) else ((gameroomref_OthelloBest_J2 rec_gameroomref_OthelloBest g1 g2 g3 who1 deep1 own5))

noncomputable def gameroomref_OthelloBest_B (rec_gameroomref_OthelloBest : Int → Int → List Int → Int → Int → Option (Int × Int)) (g1 : Int) (g2 : Int) (g3 : List Int) (who1 : Int) (deep1 : Int) : Option (Int × Int) :=
  (gameroomref_SignPlaces_m g1 g2 g3 who1).bind fun r1 => (gameroomref_SignPlaces_m g1 g2 g3 (w64 (3 - who1))).bind fun r2 => (gameroomref_OthelloBest_J1 rec_gameroomref_OthelloBest g1 g2 g3 who1 deep1) r1 r2

noncomputable def gameroomref_OthelloBest_mF : Nat → Int → Int → List Int → Int → Int → Option (Int × Int)
  | 0 => fun _ _ _ _ _ => none
  | n + 1 => fun g1 g2 g3 who1 deep1 => gameroomref_OthelloBest_B (gameroomref_OthelloBest_mF n) g1 g2 g3 who1 deep1

noncomputable def gameroomref_OthelloBest_m (g1 : Int) (g2 : Int) (g3 : List Int) (who1 : Int) (deep1 : Int) : Option (Int × Int) :=
  recM fun n => gameroomref_OthelloBest_mF n g1 g2 g3 who1 deep1

set_option maxRecDepth 100000 in
set_option maxHeartbeats 4000000 in
theorem gameroomref_OthelloBest_wB {rec_gameroomref_OthelloBest : Int → Int → List Int → Int → Int → Option (Int × Int)} (ih_gameroomref_OthelloBest : ∀ {g1 : Int} {g2 : Int} {A1 : Option Addr} {c1 : Nat} {n1 : Nat} {g3 : List Int} {who1 : Int} {deep1 : Int} {r : (Int × Int)} {w0 w : World} {B : Nat} {fs : List HP} (_ : rec_gameroomref_OthelloBest g1 g2 g3 who1 deep1 = some r) (_ : Sep w0 B w (fs)) (hr_g3 : RdF w0 B fs A1 (vI g3)) (_hc_g3 : g3.length ≤ c1) (_hn_g3 : n1 = g3.length), Calls Try.prog 38 #[.agg #[.int .i64 g1, .int .i64 g2, .slice A1 n1 c1], .int .i64 who1, .int .i64 deep1] w fun e w' => e = .returned (.tuple #[.int .i64 r.1, .int .i64 r.2]) ∧ Sep w0 B w' (fs)) {g1 : Int} {g2 : Int} {A1 : Option Addr} {c1 : Nat} {n1 : Nat} {g3 : List Int} {who1 : Int} {deep1 : Int} {r : (Int × Int)} {w0 w : World} {B : Nat} {fs : List HP} (hm : gameroomref_OthelloBest_B rec_gameroomref_OthelloBest g1 g2 g3 who1 deep1 = some r) (hS : Sep w0 B w (fs)) (hr_g3 : RdF w0 B fs A1 (vI g3)) (_hc_g3 : g3.length ≤ c1) (_hn_g3 : n1 = g3.length) :
    Calls Try.prog 38 #[.agg #[.int .i64 g1, .int .i64 g2, .slice A1 n1 c1], .int .i64 who1, .int .i64 deep1] w fun e w' => e = .returned (.tuple #[.int .i64 r.1, .int .i64 r.2]) ∧ Sep w0 B w' (fs) := by
  obtain ⟨i3, hi3, hz3, hs3, hb3⟩ := info_parts Info3
  obtain rfl := _hn_g3
  unfold gameroomref_OthelloBest_B at hm
  replace hm := start_b hm
  refine enter (l := [.agg #[.int .i64 g1, .int .i64 g2, .slice A1 g3.length c1], .int .i64 who1, .int .i64 deep1]) (n := 117) Try.func38 rfl rfl (by simp) (fun a hF => ?_)
  refine seqR ?_
  refine at_do (d := 3) (s := vS (Instr.box 24 (.agg #[.int .i64 g1, .int .i64 g2, .slice A1 g3.length c1]))) (v := .pointer (some ⟨w.heap.size, 0, none⟩)) (w' := w.alloc (.cells #[.int .i64 g1, .int .i64 g2, .slice A1 g3.length c1] 24)) hF (by kernel_rfl) (by kernel_rfl) (by kernel_rfl) (fun a hF => ?_)
  have hS : Sep w0 B (w.alloc (.cells #[.int .i64 g1, .int .i64 g2, .slice A1 g3.length c1] 24)) (blk w.heap.size 24 #[.int .i64 g1, .int .i64 g2, .slice A1 g3.length c1] :: (fs)) := hS.box 24 #[.int .i64 g1, .int .i64 g2, .slice A1 g3.length c1]
  generalize w.heap.size = g4 at hF hS
  generalize w.alloc (.cells #[.int .i64 g1, .int .i64 g2, .slice A1 g3.length c1] 24) = w at hS ⊢
  refine at_run 2 [] [] [1, 2, 3] [pl 1 (.int .i64 who1), pl 2 (.int .i64 deep1), pl 3 (.pointer (some ⟨g4, 0, none⟩))] hF hS (by kernel_rfl) (by kernel_rfl) ?_ (fun a w hF hS => ?_)
  · exact obs_nil
  refine at_end [1, 2, 3] [pl 1 (.int .i64 who1), pl 2 (.int .i64 deep1), pl 3 (.pointer (some ⟨g4, 0, none⟩))] hF rfl (by kernel_rfl) (fun hF => ?_)
  refine then_n ?_
  refine seq_cut (fun a w => ∃ (own5 : List Int) (other1 : List Int) (A6 : Option Addr) (c6 : Nat) (A7 : Option Addr) (c7 : Nat), Fr 117 [pl 1 (.int .i64 who1), pl 2 (.int .i64 deep1), pl 3 (.pointer (some ⟨g4, 0, none⟩)), pl 8 (.slice A6 own5.length c6), pl 9 (.slice A7 other1.length c7)] a ∧ Sep w0 B w (blk g4 24 #[.int .i64 g1, .int .i64 g2, .slice A1 g3.length c1] :: own 3 (.slice A6 own5.length c6) (vI own5) :: own 3 (.slice A7 other1.length c7) (vI other1) :: fs) ∧ ((gameroomref_OthelloBest_J1 rec_gameroomref_OthelloBest g1 g2 g3 who1 deep1) own5 other1).bind some = some r) ?_ ?_
  · rintro a w ⟨own5, other1, A6, c6, A7, c7, hF, hS, hm⟩
    unfold gameroomref_OthelloBest_J1 at hm
    refine seq_cut (fun a w => Fr 117 [pl 1 (.int .i64 who1), pl 2 (.int .i64 deep1), pl 3 (.pointer (some ⟨g4, 0, none⟩)), pl 8 (.slice A6 own5.length c6)] a ∧ Sep w0 B w (blk g4 24 #[.int .i64 g1, .int .i64 g2, .slice A1 g3.length c1] :: own 3 (.slice A6 own5.length c6) (vI own5) :: fs) ∧ ((gameroomref_OthelloBest_J2 rec_gameroomref_OthelloBest g1 g2 g3 who1 deep1 own5)).bind some = some r) ?_ ?_
    · rintro a w ⟨hF, hS, hm⟩
      unfold gameroomref_OthelloBest_J2 at hm
      refine seq_cut (fun a w => Fr 117 [pl 1 (.int .i64 who1), pl 2 (.int .i64 deep1), pl 3 (.pointer (some ⟨g4, 0, none⟩)), pl 8 (.slice A6 own5.length c6)] a ∧ Sep w0 B w (blk g4 24 #[.int .i64 g1, .int .i64 g2, .slice A1 g3.length c1] :: own 3 (.slice A6 own5.length c6) (vI own5) :: fs) ∧ ((gameroomref_OthelloBest_J7 rec_gameroomref_OthelloBest g1 g2 g3 who1 deep1 own5)).bind some = some r) ?_ ?_
      · rintro a w ⟨hF, hS, hm⟩
        unfold gameroomref_OthelloBest_J7 at hm
        refine reg [] [] [1, 2, 3, 8, 14, 15] [pl 1 (.int .i64 who1), pl 2 (.int .i64 deep1), pl 3 (.pointer (some ⟨g4, 0, none⟩)), pl 8 (.slice A6 own5.length c6), pl 14 (.int .i64 (-1000)), pl 15 (.int .i64 (-1))] hF hS Fol (by kernel_rfl) (by kernel_rfl) (by kernel_rfl) ?_ (fun a w hF hS => ?_)
        · exact obs_nil
        refine seq_cut (fun a w => ∃ (best2 : Int) (where2 : Int), Fr 117 [pl 14 (.int .i64 best2), pl 15 (.int .i64 where2)] a ∧ Sep w0 B w (fs) ∧ (gameroomref_OthelloBest_J8 best2 where2).bind some = some r) ?_ ?_
        · rintro a w ⟨best2, where2, hF, hS, hm⟩
          unfold gameroomref_OthelloBest_J8 at hm
          refine reg [] [] [6, 7] [pl 6 (.int .i64 best2), pl 7 (.int .i64 where2)] hF hS Fol (by kernel_rfl) (by kernel_rfl) (by kernel_rfl) ?_ (fun a w hF hS => ?_)
          · exact obs_nil
          refine wp_ret ?_
          have hm : some (best2, where2) = some r := hm
          obtain rfl := Option.some.inj hm
          exact retV (rs := [.tmp 6, .tmp 7]) (vs := [.int .i64 best2, .int .i64 where2]) hF rfl (rv_t (by kernel_rfl) <| rv_t (by kernel_rfl) <| rv_nil) rfl ⟨rfl, hS⟩
        · refine reg [] [] [1, 2, 3, 8, 14, 15, 16] [pl 1 (.int .i64 who1), pl 2 (.int .i64 deep1), pl 3 (.pointer (some ⟨g4, 0, none⟩)), pl 8 (.slice A6 own5.length c6), pl 14 (.int .i64 (-1000)), pl 15 (.int .i64 (-1)), pl 16 (.int .i64 0)] hF hS Fol (by kernel_rfl) (by kernel_rfl) (by kernel_rfl) ?_ (fun a w hF hS => ?_)
          · exact obs_nil
          refine wp_block ?_
          refine wp_loop_model (S := (Int × Int × Int)) (R := (Int × Int)) (gameroomref_OthelloBest_L2 rec_gameroomref_OthelloBest g1 g2 g3 who1 deep1 own5) (fun x => (gameroomref_OthelloBest_K2 x).bind some) r (fun (x : (Int × Int × Int)) a w => Fr 117 [pl 1 (.int .i64 who1), pl 2 (.int .i64 deep1), pl 3 (.pointer (some ⟨g4, 0, none⟩)), pl 8 (.slice A6 own5.length c6), pl 14 (.int .i64 x.1), pl 15 (.int .i64 x.2.1), pl 16 (.int .i64 x.2.2)] a ∧ Sep w0 B w (blk g4 24 #[.int .i64 g1, .int .i64 g2, .slice A1 g3.length c1] :: own 3 (.slice A6 own5.length c6) (vI own5) :: fs)) (assoc_b hm) ⟨hF.weak [1, 2, 3, 8, 14, 15, 16] (by kernel_rfl), hS⟩ ?_
          clear hF hS hm
          rintro nn2 ⟨best1, where1, i2⟩ a w ⟨hF, hS⟩ hm
          generalize hφ2 : stK (gameroomref_OthelloBest_L2 rec_gameroomref_OthelloBest g1 g2 g3 who1 deep1 own5) nn2 (fun x => (gameroomref_OthelloBest_K2 x).bind some) = φ2 at hm
          unfold gameroomref_OthelloBest_L2 at hm
          dsimp only at hF hS hm
          refine seq_cut (fun a w => Fr 117 [pl 1 (.int .i64 who1), pl 2 (.int .i64 deep1), pl 3 (.pointer (some ⟨g4, 0, none⟩)), pl 8 (.slice A6 own5.length c6), pl 14 (.int .i64 best1), pl 15 (.int .i64 where1), pl 16 (.int .i64 i2)] a ∧ Sep w0 B w (blk g4 24 #[.int .i64 g1, .int .i64 g2, .slice A1 g3.length c1] :: own 3 (.slice A6 own5.length c6) (vI own5) :: fs) ∧ ((gameroomref_OthelloBest_J9 rec_gameroomref_OthelloBest g1 g2 g3 who1 deep1 own5 best1 where1 i2)).bind φ2 = some r) ?_ ?_
          · rintro a w ⟨hF, hS, hm⟩
            unfold gameroomref_OthelloBest_J9 at hm
            refine seq_cut (fun a w => ∃ (best3 : Int) (where3 : Int), Fr 117 [pl 1 (.int .i64 who1), pl 2 (.int .i64 deep1), pl 3 (.pointer (some ⟨g4, 0, none⟩)), pl 8 (.slice A6 own5.length c6), pl 14 (.int .i64 best3), pl 15 (.int .i64 where3), pl 16 (.int .i64 i2)] a ∧ Sep w0 B w (blk g4 24 #[.int .i64 g1, .int .i64 g2, .slice A1 g3.length c1] :: own 3 (.slice A6 own5.length c6) (vI own5) :: fs) ∧ ((gameroomref_OthelloBest_J10 i2) best3 where3).bind φ2 = some r) ?_ ?_
            · rintro a w ⟨best3, where3, hF, hS, hm⟩
              unfold gameroomref_OthelloBest_J10 at hm
              refine reg1 [] [] [1, 2, 3, 8, 14, 15, 16] [pl 1 (.int .i64 who1), pl 2 (.int .i64 deep1), pl 3 (.pointer (some ⟨g4, 0, none⟩)), pl 8 (.slice A6 own5.length c6), pl 14 (.int .i64 best3), pl 15 (.int .i64 where3), pl 16 (.int .i64 (w64 (i2 + 1)))] hF hS Fol (by kernel_rfl) (by kernel_rfl) (by kernel_rfl) ?_ (fun a w hF hS => ?_)
              · exact obs_nil
              refine then_n ?_
              rw [← hφ2] at hm
              exact ⟨(best3, where3, (w64 (i2 + 1))), ⟨hF.weak [1, 2, 3, 8, 14, 15, 16] (by kernel_rfl), hS⟩, hm⟩
            · refine wp_block ?_
              refine seq_cut (fun a w => ∃ (x1 : Int) (x2 : Int) (x3 : List Int) (g6 : Nat) (A10 : Option Addr) (c10 : Nat), Fr 117 [pl 1 (.int .i64 who1), pl 2 (.int .i64 deep1), pl 3 (.pointer (some ⟨g4, 0, none⟩)), pl 8 (.slice A6 own5.length c6), pl 14 (.int .i64 best1), pl 15 (.int .i64 where1), pl 16 (.int .i64 i2), pl 17 (.pointer (some ⟨g6, 0, none⟩))] a ∧ Sep w0 B w (blk g4 24 #[.int .i64 g1, .int .i64 g2, .slice A1 g3.length c1] :: own 3 (.slice A6 own5.length c6) (vI own5) :: blk g6 24 #[.int .i64 x1, .int .i64 x2, .slice A10 x3.length c10] :: own 3 (.slice A10 x3.length c10) (vI x3) :: fs) ∧ ((gameroomref_OthelloBest_J11 rec_gameroomref_OthelloBest who1 deep1 own5 best1 where1 i2) x1 x2 x3).bind φ2 = some r) ?_ ?_
              · rintro a w ⟨x1, x2, x3, g6, A10, c10, hF, hS, hm⟩
                unfold gameroomref_OthelloBest_J11 at hm
                obtain ⟨r5, hr5, hm⟩ := call_b hm
                refine reg [⟨false, [], vS (Instr.loadAt 24 (.pointer (some ⟨g6, 0, none⟩))), .agg #[.int .i64 x1, .int .i64 x2, .slice A10 x3.length c10]⟩, ⟨false, [], callFunc 38 #[.agg #[.int .i64 x1, .int .i64 x2, .slice A10 x3.length c10], .int .i64 (w64 (3 - who1)), .int .i64 (w64 (deep1 - 1))], .tuple #[.int .i64 r5.1, .int .i64 r5.2]⟩] [some (.agg #[.int .i64 x1, .int .i64 x2, .slice A10 x3.length c10]), none, none, none, none, some (.tuple #[.int .i64 r5.1, .int .i64 r5.2]), none, none, none, none, none] [1, 2, 3, 8, 14, 15, 16, 19] [pl 1 (.int .i64 who1), pl 2 (.int .i64 deep1), pl 3 (.pointer (some ⟨g4, 0, none⟩)), pl 8 (.slice A6 own5.length c6), pl 14 (.int .i64 best1), pl 15 (.int .i64 where1), pl 16 (.int .i64 i2), pl 19 (.int .i64 r5.1)] hF hS Fol (by kernel_rfl) (by kernel_rfl) (by kernel_rfl) ?_ (fun a w hF hS => ?_)
                · exact obs_cons (ob_loadA (cs := #[.int .i64 x1, .int .i64 x2, .slice A10 x3.length c10]) (by kernel_rfl) (by kernel_rfl) (fun _ _ hS => (hS.at_ 2 rfl).cellsAt 0 (by rfl))) <| obs_cons (ob_call Try.func38 (by kernel_rfl) rfl (fun _ _ hS => ih_gameroomref_OthelloBest hr5 hS (fun _ hS => (hS.at_ 3 rfl).rd) ((hS.at_ 3 rfl).cap1) rfl)) <| obs_nil
                refine reg [] [] [1, 2, 3, 8, 14, 15, 16, 19, 108] [pl 1 (.int .i64 who1), pl 2 (.int .i64 deep1), pl 3 (.pointer (some ⟨g4, 0, none⟩)), pl 8 (.slice A6 own5.length c6), pl 14 (.int .i64 best1), pl 15 (.int .i64 where1), pl 16 (.int .i64 i2), pl 19 (.int .i64 r5.1), pl 108 (.bool (decide (best1 < (w64 (0 - r5.1)))))] hF hS Fol (by kernel_rfl) (by kernel_rfl) (by kernel_rfl) ?_ (fun a w hF hS => ?_)
                · exact obs_nil
                refine cond_ev (t := 108) (b := decide (best1 < (w64 (0 - r5.1)))) hF (by kernel_rfl) (fun hb => ?_) (fun hb => ?_)
                · replace hm := if_t hm hb
                  refine reg [] [] [1, 2, 3, 8, 14, 16] [pl 1 (.int .i64 who1), pl 2 (.int .i64 deep1), pl 3 (.pointer (some ⟨g4, 0, none⟩)), pl 8 (.slice A6 own5.length c6), pl 14 (.int .i64 (w64 (0 - r5.1))), pl 16 (.int .i64 i2)] hF hS Fol (by kernel_rfl) (by kernel_rfl) (by kernel_rfl) ?_ (fun a w hF hS => ?_)
                  · exact obs_nil
                  obtain ⟨hp4, hm⟩ := asrt_b hm
                  refine reg1 [⟨true, [], vS (Instr.indexAt 22 (.slice A6 own5.length c6) (.int .i64 i2)), .pointer (some (sAddr A6 i2))⟩, ⟨false, [], vS (Instr.loadAt 3 (.pointer (some (sAddr A6 i2)))), .int .i64 (geti own5 i2)⟩] [none, none, some (.pointer (some (sAddr A6 i2))), some (.int .i64 (geti own5 i2)), none] [1, 2, 3, 8, 14, 15, 16] [pl 1 (.int .i64 who1), pl 2 (.int .i64 deep1), pl 3 (.pointer (some ⟨g4, 0, none⟩)), pl 8 (.slice A6 own5.length c6), pl 14 (.int .i64 (w64 (0 - r5.1))), pl 15 (.int .i64 (geti own5 i2)), pl 16 (.int .i64 i2)] hF hS Fol (by kernel_rfl) (by kernel_rfl) (by kernel_rfl) ?_ (fun a w hF hS => ?_)
                  · exact obs_cons (ob_ix1 (f := (Value.int .i64)) (m := own5) Und22 hi3 hs3 (hS.at_ 1 rfl).rd rfl (fun _ => hp4)) <| obs_cons (ob_get1 (n := own5.length) (m := own5) (Value.int .i64) (0 : Int) Agg3 (fun _ hS => ⟨_, (hS.at_ 1 rfl).rd⟩) (fun _ hS => rfl) (fun _ => hp4)) <| obs_nil
                  refine block_n ?_
                  refine then_n ?_
                  have hS := hS.pickN 4 [0, 1] (by decide)
                  exact ⟨(w64 (0 - r5.1)), (geti own5 i2), hF.weak [1, 2, 3, 8, 14, 15, 16] (by kernel_rfl), hS, hm⟩
                · replace hm := if_f hm hb
                  refine wp_skip ?_
                  refine block_n ?_
                  refine then_n ?_
                  have hS := hS.pickN 4 [0, 1] (by decide)
                  exact ⟨best1, where1, hF.weak [1, 2, 3, 8, 14, 15, 16] (by kernel_rfl), hS, hm⟩
              · obtain ⟨hp3, hm⟩ := asrt_b hm
                obtain ⟨r4, hr4, hm⟩ := call_b hm
                refine regMix5 [0, 1, 2, 3, 4, 5] [] 7 #[true, true, true, true, true, true, false, false, false, false, false, false, false] [⟨false, [], vS (Instr.loadAt 24 (.pointer (some ⟨g4, 0, none⟩))), .agg #[.int .i64 g1, .int .i64 g2, .slice A1 g3.length c1]⟩, ⟨true, [], vS (Instr.indexAt 22 (.slice A6 own5.length c6) (.int .i64 i2)), .pointer (some (sAddr A6 i2))⟩, ⟨false, [], vS (Instr.loadAt 3 (.pointer (some (sAddr A6 i2)))), .int .i64 (geti own5 i2)⟩] [some (.agg #[.int .i64 g1, .int .i64 g2, .slice A1 g3.length c1]), none, none, none, some (.pointer (some (sAddr A6 i2))), some (.int .i64 (geti own5 i2))] [1, 2, 3, 8, 14, 15, 16, 87, 88, 92] [pl 1 (.int .i64 who1), pl 2 (.int .i64 deep1), pl 3 (.pointer (some ⟨g4, 0, none⟩)), pl 8 (.slice A6 own5.length c6), pl 14 (.int .i64 best1), pl 15 (.int .i64 where1), pl 16 (.int .i64 i2), pl 87 (.agg #[.int .i64 g1, .int .i64 g2, .slice A1 g3.length c1]), pl 88 (.int .i64 who1), pl 92 (.int .i64 (geti own5 i2))] hF hS Fol (by kernel_rfl) (by kernel_rfl) (by kernel_rfl) (by kernel_rfl) ?_ (fun a w hF hS => ?_)
                · exact obs_cons (ob_loadA (cs := #[.int .i64 g1, .int .i64 g2, .slice A1 g3.length c1]) (by kernel_rfl) (by kernel_rfl) (fun _ _ hS => (hS.at_ 0 rfl).cellsAt 0 (by rfl))) <| obs_cons (ob_ix1 (f := (Value.int .i64)) (m := own5) Und22 hi3 hs3 (hS.at_ 1 rfl).rd rfl (fun _ => hp3)) <| obs_cons (ob_get1 (n := own5.length) (m := own5) (Value.int .i64) (0 : Int) Agg3 (fun _ hS => ⟨_, (hS.at_ 1 rfl).rd⟩) (fun _ hS => rfl) (fun _ => hp3)) <| obs_nil
                refine any_step [6, 10] (by kernel_rfl) rfl ?_
                refine (all_cons ?_ (all_cons ?_ all_nil))
                · refine any_op (listed' := #[true, true, true, true, true, true, true, false, false, false, false, false, false]) (by kernel_rfl) (by kernel_rfl) ?_
                  refine at_call (f := 23) (args := #[.agg #[.int .i64 g1, .int .i64 g2, .slice A1 g3.length c1], .int .i64 who1, .int .i64 (geti own5 i2)]) (d := 93) hF (by kernel_rfl) (by kernel_rfl) Try.func23 (by kernel_rfl) rfl (gameroomref_PutSign_w hr4 hS (fun _ hS => (hr_g3 _ (hS.dropN 2))) _hc_g3 rfl) (fun v a w hR hF => ?_)
                  clear hS
                  obtain ⟨A9, c9, rfl, hS⟩ := hR
                  have hS : Sep w0 B w (own 3 (.slice A9 r4.2.2.1.length c9) (vI r4.2.2.1) :: blk g4 24 #[.int .i64 g1, .int .i64 g2, .slice A1 g3.length c1] :: own 3 (.slice A6 own5.length c6) (vI own5) :: fs) := hS
                  refine any_fin rfl (hS.pickN 3 [1, 2] (by decide)) ?_
                  refine any_step [7, 10] (by kernel_rfl) rfl ?_
                  refine (all_cons ?_ (all_cons ?_ all_nil))
                  · refine any_op (listed' := #[true, true, true, true, true, true, true, true, false, false, false, false, false]) (by kernel_rfl) (by kernel_rfl) ?_
                    refine at_runW 1 [] [] [1, 2, 3, 8, 14, 15, 16, 86] [pl 1 (.int .i64 who1), pl 2 (.int .i64 deep1), pl 3 (.pointer (some ⟨g4, 0, none⟩)), pl 8 (.slice A6 own5.length c6), pl 14 (.int .i64 best1), pl 15 (.int .i64 where1), pl 16 (.int .i64 i2), pl 86 (.tuple #[.agg #[.int .i64 r4.1, .int .i64 r4.2.1, .slice A9 r4.2.2.1.length c9], .int .i64 r4.2.2.2])] hF hS (by kernel_rfl) (by kernel_rfl) ?_ (fun a hF => ?_)
                    · exact obs_nil
                    refine any_finI rfl (fun h => h) ?_
                    refine any_step [8, 9, 10] (by kernel_rfl) rfl ?_
                    refine (all_cons ?_ (all_cons ?_ (all_cons ?_ all_nil)))
                    · refine any_op (listed' := #[true, true, true, true, true, true, true, true, true, false, false, false, false]) (by kernel_rfl) (by kernel_rfl) ?_
                      refine at_runW 1 [] [] [1, 2, 3, 8, 14, 15, 16, 86, 94] [pl 1 (.int .i64 who1), pl 2 (.int .i64 deep1), pl 3 (.pointer (some ⟨g4, 0, none⟩)), pl 8 (.slice A6 own5.length c6), pl 14 (.int .i64 best1), pl 15 (.int .i64 where1), pl 16 (.int .i64 i2), pl 86 (.tuple #[.agg #[.int .i64 r4.1, .int .i64 r4.2.1, .slice A9 r4.2.2.1.length c9], .int .i64 r4.2.2.2]), pl 94 (.agg #[.int .i64 r4.1, .int .i64 r4.2.1, .slice A9 r4.2.2.1.length c9])] hF hS (by kernel_rfl) (by kernel_rfl) ?_ (fun a hF => ?_)
                      · exact obs_nil
                      refine any_finI rfl (fun h => h) ?_
                      refine any_step [9, 10] (by kernel_rfl) rfl ?_
                      refine (all_cons ?_ (all_cons ?_ all_nil))
                      · refine any_op (listed' := #[true, true, true, true, true, true, true, true, true, true, false, false, false]) (by kernel_rfl) (by kernel_rfl) ?_
                        refine at_runW 1 [] [] [1, 2, 3, 8, 14, 15, 16, 94, 95] [pl 1 (.int .i64 who1), pl 2 (.int .i64 deep1), pl 3 (.pointer (some ⟨g4, 0, none⟩)), pl 8 (.slice A6 own5.length c6), pl 14 (.int .i64 best1), pl 15 (.int .i64 where1), pl 16 (.int .i64 i2), pl 94 (.agg #[.int .i64 r4.1, .int .i64 r4.2.1, .slice A9 r4.2.2.1.length c9]), pl 95 (.int .i64 r4.2.2.2)] hF hS (by kernel_rfl) (by kernel_rfl) ?_ (fun a hF => ?_)
                        · exact obs_nil
                        refine any_finI rfl (fun h => h) ?_
                        refine any_step [10] (by kernel_rfl) rfl ?_
                        refine (all_cons ?_ all_nil)
                        · refine any_op (listed' := #[true, true, true, true, true, true, true, true, true, true, true, false, false]) (by kernel_rfl) (by kernel_rfl) ?_
                          refine at_do (d := 17) (s := vS (Instr.alloc 24 true (.tuple #[]))) (v := .pointer (some ⟨w.heap.size, 0, none⟩)) (w' := w.alloc (.cells #[.int .i64 0, .int .i64 0, .slice none 0 0] 24)) hF (by kernel_rfl) (by kernel_rfl) (by kernel_rfl) (fun a hF => ?_)
                          have hS : Sep w0 B (w.alloc (.cells #[.int .i64 0, .int .i64 0, .slice none 0 0] 24)) (blk w.heap.size 24 #[.int .i64 0, .int .i64 0, .slice none 0 0] :: (own 3 (.slice A9 r4.2.2.1.length c9) (vI r4.2.2.1) :: blk g4 24 #[.int .i64 g1, .int .i64 g2, .slice A1 g3.length c1] :: own 3 (.slice A6 own5.length c6) (vI own5) :: fs)) := hS.box 24 #[.int .i64 0, .int .i64 0, .slice none 0 0]
                          generalize w.heap.size = g5 at hF hS
                          generalize w.alloc (.cells #[.int .i64 0, .int .i64 0, .slice none 0 0] 24) = w at hS ⊢
                          refine any_fin rfl (hS.pickN 4 [2, 3] (by decide)) ?_
                          refine any_step [11] (by kernel_rfl) rfl ?_
                          refine (all_cons ?_ all_nil)
                          · refine any_op (listed' := #[true, true, true, true, true, true, true, true, true, true, true, true, false]) (by kernel_rfl) (by kernel_rfl) ?_
                            obtain ⟨w, hrun, hS⟩ := run_putA (P := Try.prog) (t := 24) (us := #[.int .i64 r4.1, .int .i64 r4.2.1, .slice A9 r4.2.2.1.length c9]) (o := 0) (hS.at_ 0 rfl) (by kernel_rfl) (all_one (by kernel_rfl)) (Nat.le_of_ble_eq_true (by kernel_rfl))
                            refine at_skip hF (by kernel_rfl) hrun ?_
                            have hS : Sep w0 B w (blk g5 24 #[.int .i64 r4.1, .int .i64 r4.2.1, .slice A9 r4.2.2.1.length c9] :: own 3 (.slice A9 r4.2.2.1.length c9) (vI r4.2.2.1) :: blk g4 24 #[.int .i64 g1, .int .i64 g2, .slice A1 g3.length c1] :: own 3 (.slice A6 own5.length c6) (vI own5) :: fs) := hS
                            refine any_fin rfl (hS.pickN 4 [2, 3] (by decide)) ?_
                            refine any_step [12] (by kernel_rfl) rfl ?_
                            refine (all_cons ?_ all_nil)
                            · refine any_op (listed' := #[true, true, true, true, true, true, true, true, true, true, true, true, true]) (by kernel_rfl) (by kernel_rfl) ?_
                              refine at_runW 1 [] [] [1, 2, 3, 8, 14, 15, 16, 17] [pl 1 (.int .i64 who1), pl 2 (.int .i64 deep1), pl 3 (.pointer (some ⟨g4, 0, none⟩)), pl 8 (.slice A6 own5.length c6), pl 14 (.int .i64 best1), pl 15 (.int .i64 where1), pl 16 (.int .i64 i2), pl 17 (.pointer (some ⟨g5, 0, none⟩))] hF hS (by kernel_rfl) (by kernel_rfl) ?_ (fun a hF => ?_)
                              · exact obs_nil
                              refine any_finI rfl (fun h => h) ?_
                              refine any_end (by kernel_rfl) ?_
                              refine np_n ?_
                              refine then_n ?_
                              have hS := hS.pickN 4 [2, 3, 0, 1] (by decide)
                              exact ⟨r4.1, r4.2.1, r4.2.2.1, g5, A9, c9, hF.weak [1, 2, 3, 8, 14, 15, 16, 17] (by kernel_rfl), hS, hm⟩
                      · refine any_op (listed' := #[true, true, true, true, true, true, true, true, true, false, true, false, false]) (by kernel_rfl) (by kernel_rfl) ?_
                        refine at_do (d := 17) (s := vS (Instr.alloc 24 true (.tuple #[]))) (v := .pointer (some ⟨w.heap.size, 0, none⟩)) (w' := w.alloc (.cells #[.int .i64 0, .int .i64 0, .slice none 0 0] 24)) hF (by kernel_rfl) (by kernel_rfl) (by kernel_rfl) (fun a hF => ?_)
                        have hS : Sep w0 B (w.alloc (.cells #[.int .i64 0, .int .i64 0, .slice none 0 0] 24)) (blk w.heap.size 24 #[.int .i64 0, .int .i64 0, .slice none 0 0] :: (own 3 (.slice A9 r4.2.2.1.length c9) (vI r4.2.2.1) :: blk g4 24 #[.int .i64 g1, .int .i64 g2, .slice A1 g3.length c1] :: own 3 (.slice A6 own5.length c6) (vI own5) :: fs)) := hS.box 24 #[.int .i64 0, .int .i64 0, .slice none 0 0]
                        generalize w.heap.size = g5 at hF hS
                        generalize w.alloc (.cells #[.int .i64 0, .int .i64 0, .slice none 0 0] 24) = w at hS ⊢
                        refine any_fin rfl (hS.pickN 4 [2, 3] (by decide)) ?_
                        refine any_step [9, 11] (by kernel_rfl) rfl ?_
                        refine (all_cons ?_ (all_cons ?_ all_nil))
                        · refine any_op (listed' := #[true, true, true, true, true, true, true, true, true, true, true, false, false]) (by kernel_rfl) (by kernel_rfl) ?_
                          refine at_runW 1 [] [] [1, 2, 3, 8, 14, 15, 16, 17, 94, 95] [pl 1 (.int .i64 who1), pl 2 (.int .i64 deep1), pl 3 (.pointer (some ⟨g4, 0, none⟩)), pl 8 (.slice A6 own5.length c6), pl 14 (.int .i64 best1), pl 15 (.int .i64 where1), pl 16 (.int .i64 i2), pl 17 (.pointer (some ⟨g5, 0, none⟩)), pl 94 (.agg #[.int .i64 r4.1, .int .i64 r4.2.1, .slice A9 r4.2.2.1.length c9]), pl 95 (.int .i64 r4.2.2.2)] hF hS (by kernel_rfl) (by kernel_rfl) ?_ (fun a hF => ?_)
                          · exact obs_nil
                          refine any_finI rfl (fun h => h) ?_
                          refine any_step [11] (by kernel_rfl) rfl ?_
                          refine (all_cons ?_ all_nil)
                          · refine any_op (listed' := #[true, true, true, true, true, true, true, true, true, true, true, true, false]) (by kernel_rfl) (by kernel_rfl) ?_
                            obtain ⟨w, hrun, hS⟩ := run_putA (P := Try.prog) (t := 24) (us := #[.int .i64 r4.1, .int .i64 r4.2.1, .slice A9 r4.2.2.1.length c9]) (o := 0) (hS.at_ 0 rfl) (by kernel_rfl) (all_one (by kernel_rfl)) (Nat.le_of_ble_eq_true (by kernel_rfl))
                            refine at_skip hF (by kernel_rfl) hrun ?_
                            have hS : Sep w0 B w (blk g5 24 #[.int .i64 r4.1, .int .i64 r4.2.1, .slice A9 r4.2.2.1.length c9] :: own 3 (.slice A9 r4.2.2.1.length c9) (vI r4.2.2.1) :: blk g4 24 #[.int .i64 g1, .int .i64 g2, .slice A1 g3.length c1] :: own 3 (.slice A6 own5.length c6) (vI own5) :: fs) := hS
                            refine any_fin rfl (hS.pickN 4 [2, 3] (by decide)) ?_
                            refine any_step [12] (by kernel_rfl) rfl ?_
                            refine (all_cons ?_ all_nil)
                            · refine any_op (listed' := #[true, true, true, true, true, true, true, true, true, true, true, true, true]) (by kernel_rfl) (by kernel_rfl) ?_
                              refine at_runW 1 [] [] [1, 2, 3, 8, 14, 15, 16, 17] [pl 1 (.int .i64 who1), pl 2 (.int .i64 deep1), pl 3 (.pointer (some ⟨g4, 0, none⟩)), pl 8 (.slice A6 own5.length c6), pl 14 (.int .i64 best1), pl 15 (.int .i64 where1), pl 16 (.int .i64 i2), pl 17 (.pointer (some ⟨g5, 0, none⟩))] hF hS (by kernel_rfl) (by kernel_rfl) ?_ (fun a hF => ?_)
                              · exact obs_nil
                              refine any_finI rfl (fun h => h) ?_
                              refine any_end (by kernel_rfl) ?_
                              refine np_n ?_
                              refine then_n ?_
                              have hS := hS.pickN 4 [2, 3, 0, 1] (by decide)
                              exact ⟨r4.1, r4.2.1, r4.2.2.1, g5, A9, c9, hF.weak [1, 2, 3, 8, 14, 15, 16, 17] (by kernel_rfl), hS, hm⟩
                        · refine any_op (listed' := #[true, true, true, true, true, true, true, true, true, false, true, true, false]) (by kernel_rfl) (by kernel_rfl) ?_
                          obtain ⟨w, hrun, hS⟩ := run_putA (P := Try.prog) (t := 24) (us := #[.int .i64 r4.1, .int .i64 r4.2.1, .slice A9 r4.2.2.1.length c9]) (o := 0) (hS.at_ 0 rfl) (by kernel_rfl) (all_one (by kernel_rfl)) (Nat.le_of_ble_eq_true (by kernel_rfl))
                          refine at_skip hF (by kernel_rfl) hrun ?_
                          have hS : Sep w0 B w (blk g5 24 #[.int .i64 r4.1, .int .i64 r4.2.1, .slice A9 r4.2.2.1.length c9] :: own 3 (.slice A9 r4.2.2.1.length c9) (vI r4.2.2.1) :: blk g4 24 #[.int .i64 g1, .int .i64 g2, .slice A1 g3.length c1] :: own 3 (.slice A6 own5.length c6) (vI own5) :: fs) := hS
                          refine any_fin rfl (hS.pickN 4 [2, 3] (by decide)) ?_
                          refine any_step [9] (by kernel_rfl) rfl ?_
                          refine (all_cons ?_ all_nil)
                          · refine any_op (listed' := #[true, true, true, true, true, true, true, true, true, true, true, true, false]) (by kernel_rfl) (by kernel_rfl) ?_
                            refine at_runW 1 [] [] [1, 2, 3, 8, 14, 15, 16, 17, 95] [pl 1 (.int .i64 who1), pl 2 (.int .i64 deep1), pl 3 (.pointer (some ⟨g4, 0, none⟩)), pl 8 (.slice A6 own5.length c6), pl 14 (.int .i64 best1), pl 15 (.int .i64 where1), pl 16 (.int .i64 i2), pl 17 (.pointer (some ⟨g5, 0, none⟩)), pl 95 (.int .i64 r4.2.2.2)] hF hS (by kernel_rfl) (by kernel_rfl) ?_ (fun a hF => ?_)
                            · exact obs_nil
                            refine any_finI rfl (fun h => h) ?_
                            refine any_step [12] (by kernel_rfl) rfl ?_
                            refine (all_cons ?_ all_nil)
                            · refine any_op (listed' := #[true, true, true, true, true, true, true, true, true, true, true, true, true]) (by kernel_rfl) (by kernel_rfl) ?_
                              refine at_runW 1 [] [] [1, 2, 3, 8, 14, 15, 16, 17] [pl 1 (.int .i64 who1), pl 2 (.int .i64 deep1), pl 3 (.pointer (some ⟨g4, 0, none⟩)), pl 8 (.slice A6 own5.length c6), pl 14 (.int .i64 best1), pl 15 (.int .i64 where1), pl 16 (.int .i64 i2), pl 17 (.pointer (some ⟨g5, 0, none⟩))] hF hS (by kernel_rfl) (by kernel_rfl) ?_ (fun a hF => ?_)
                              · exact obs_nil
                              refine any_finI rfl (fun h => h) ?_
                              refine any_end (by kernel_rfl) ?_
                              refine np_n ?_
                              refine then_n ?_
                              have hS := hS.pickN 4 [2, 3, 0, 1] (by decide)
                              exact ⟨r4.1, r4.2.1, r4.2.2.1, g5, A9, c9, hF.weak [1, 2, 3, 8, 14, 15, 16, 17] (by kernel_rfl), hS, hm⟩
                    · refine any_op (listed' := #[true, true, true, true, true, true, true, true, false, true, false, false, false]) (by kernel_rfl) (by kernel_rfl) ?_
                      refine at_runW 1 [] [] [1, 2, 3, 8, 14, 15, 16, 86, 95] [pl 1 (.int .i64 who1), pl 2 (.int .i64 deep1), pl 3 (.pointer (some ⟨g4, 0, none⟩)), pl 8 (.slice A6 own5.length c6), pl 14 (.int .i64 best1), pl 15 (.int .i64 where1), pl 16 (.int .i64 i2), pl 86 (.tuple #[.agg #[.int .i64 r4.1, .int .i64 r4.2.1, .slice A9 r4.2.2.1.length c9], .int .i64 r4.2.2.2]), pl 95 (.int .i64 r4.2.2.2)] hF hS (by kernel_rfl) (by kernel_rfl) ?_ (fun a hF => ?_)
                      · exact obs_nil
                      refine any_finI rfl (fun h => h) ?_
                      refine any_step [8, 10] (by kernel_rfl) rfl ?_
                      refine (all_cons ?_ (all_cons ?_ all_nil))
                      · refine any_op (listed' := #[true, true, true, true, true, true, true, true, true, true, false, false, false]) (by kernel_rfl) (by kernel_rfl) ?_
                        refine at_runW 1 [] [] [1, 2, 3, 8, 14, 15, 16, 94, 95] [pl 1 (.int .i64 who1), pl 2 (.int .i64 deep1), pl 3 (.pointer (some ⟨g4, 0, none⟩)), pl 8 (.slice A6 own5.length c6), pl 14 (.int .i64 best1), pl 15 (.int .i64 where1), pl 16 (.int .i64 i2), pl 94 (.agg #[.int .i64 r4.1, .int .i64 r4.2.1, .slice A9 r4.2.2.1.length c9]), pl 95 (.int .i64 r4.2.2.2)] hF hS (by kernel_rfl) (by kernel_rfl) ?_ (fun a hF => ?_)
                        · exact obs_nil
                        refine any_finI rfl (fun h => h) ?_
                        refine any_step [10] (by kernel_rfl) rfl ?_
                        refine (all_cons ?_ all_nil)
                        · refine any_op (listed' := #[true, true, true, true, true, true, true, true, true, true, true, false, false]) (by kernel_rfl) (by kernel_rfl) ?_
                          refine at_do (d := 17) (s := vS (Instr.alloc 24 true (.tuple #[]))) (v := .pointer (some ⟨w.heap.size, 0, none⟩)) (w' := w.alloc (.cells #[.int .i64 0, .int .i64 0, .slice none 0 0] 24)) hF (by kernel_rfl) (by kernel_rfl) (by kernel_rfl) (fun a hF => ?_)
                          have hS : Sep w0 B (w.alloc (.cells #[.int .i64 0, .int .i64 0, .slice none 0 0] 24)) (blk w.heap.size 24 #[.int .i64 0, .int .i64 0, .slice none 0 0] :: (own 3 (.slice A9 r4.2.2.1.length c9) (vI r4.2.2.1) :: blk g4 24 #[.int .i64 g1, .int .i64 g2, .slice A1 g3.length c1] :: own 3 (.slice A6 own5.length c6) (vI own5) :: fs)) := hS.box 24 #[.int .i64 0, .int .i64 0, .slice none 0 0]
                          generalize w.heap.size = g5 at hF hS
                          generalize w.alloc (.cells #[.int .i64 0, .int .i64 0, .slice none 0 0] 24) = w at hS ⊢
                          refine any_fin rfl (hS.pickN 4 [2, 3] (by decide)) ?_
                          refine any_step [11] (by kernel_rfl) rfl ?_
                          refine (all_cons ?_ all_nil)
                          · refine any_op (listed' := #[true, true, true, true, true, true, true, true, true, true, true, true, false]) (by kernel_rfl) (by kernel_rfl) ?_
                            obtain ⟨w, hrun, hS⟩ := run_putA (P := Try.prog) (t := 24) (us := #[.int .i64 r4.1, .int .i64 r4.2.1, .slice A9 r4.2.2.1.length c9]) (o := 0) (hS.at_ 0 rfl) (by kernel_rfl) (all_one (by kernel_rfl)) (Nat.le_of_ble_eq_true (by kernel_rfl))
                            refine at_skip hF (by kernel_rfl) hrun ?_
                            have hS : Sep w0 B w (blk g5 24 #[.int .i64 r4.1, .int .i64 r4.2.1, .slice A9 r4.2.2.1.length c9] :: own 3 (.slice A9 r4.2.2.1.length c9) (vI r4.2.2.1) :: blk g4 24 #[.int .i64 g1, .int .i64 g2, .slice A1 g3.length c1] :: own 3 (.slice A6 own5.length c6) (vI own5) :: fs) := hS
                            refine any_fin rfl (hS.pickN 4 [2, 3] (by decide)) ?_
                            refine any_step [12] (by kernel_rfl) rfl ?_
                            refine (all_cons ?_ all_nil)
                            · refine any_op (listed' := #[true, true, true, true, true, true, true, true, true, true, true, true, true]) (by kernel_rfl) (by kernel_rfl) ?_
                              refine at_runW 1 [] [] [1, 2, 3, 8, 14, 15, 16, 17] [pl 1 (.int .i64 who1), pl 2 (.int .i64 deep1), pl 3 (.pointer (some ⟨g4, 0, none⟩)), pl 8 (.slice A6 own5.length c6), pl 14 (.int .i64 best1), pl 15 (.int .i64 where1), pl 16 (.int .i64 i2), pl 17 (.pointer (some ⟨g5, 0, none⟩))] hF hS (by kernel_rfl) (by kernel_rfl) ?_ (fun a hF => ?_)
                              · exact obs_nil
                              refine any_finI rfl (fun h => h) ?_
                              refine any_end (by kernel_rfl) ?_
                              refine np_n ?_
                              refine then_n ?_
                              have hS := hS.pickN 4 [2, 3, 0, 1] (by decide)
                              exact ⟨r4.1, r4.2.1, r4.2.2.1, g5, A9, c9, hF.weak [1, 2, 3, 8, 14, 15, 16, 17] (by kernel_rfl), hS, hm⟩
                      · refine any_op (listed' := #[true, true, true, true, true, true, true, true, false, true, true, false, false]) (by kernel_rfl) (by kernel_rfl) ?_
                        refine at_do (d := 17) (s := vS (Instr.alloc 24 true (.tuple #[]))) (v := .pointer (some ⟨w.heap.size, 0, none⟩)) (w' := w.alloc (.cells #[.int .i64 0, .int .i64 0, .slice none 0 0] 24)) hF (by kernel_rfl) (by kernel_rfl) (by kernel_rfl) (fun a hF => ?_)
                        have hS : Sep w0 B (w.alloc (.cells #[.int .i64 0, .int .i64 0, .slice none 0 0] 24)) (blk w.heap.size 24 #[.int .i64 0, .int .i64 0, .slice none 0 0] :: (own 3 (.slice A9 r4.2.2.1.length c9) (vI r4.2.2.1) :: blk g4 24 #[.int .i64 g1, .int .i64 g2, .slice A1 g3.length c1] :: own 3 (.slice A6 own5.length c6) (vI own5) :: fs)) := hS.box 24 #[.int .i64 0, .int .i64 0, .slice none 0 0]
                        generalize w.heap.size = g5 at hF hS
                        generalize w.alloc (.cells #[.int .i64 0, .int .i64 0, .slice none 0 0] 24) = w at hS ⊢
                        refine any_fin rfl (hS.pickN 4 [2, 3] (by decide)) ?_
                        refine any_step [8] (by kernel_rfl) rfl ?_
                        refine (all_cons ?_ all_nil)
                        · refine any_op (listed' := #[true, true, true, true, true, true, true, true, true, true, true, false, false]) (by kernel_rfl) (by kernel_rfl) ?_
                          refine at_runW 1 [] [] [1, 2, 3, 8, 14, 15, 16, 17, 94, 95] [pl 1 (.int .i64 who1), pl 2 (.int .i64 deep1), pl 3 (.pointer (some ⟨g4, 0, none⟩)), pl 8 (.slice A6 own5.length c6), pl 14 (.int .i64 best1), pl 15 (.int .i64 where1), pl 16 (.int .i64 i2), pl 17 (.pointer (some ⟨g5, 0, none⟩)), pl 94 (.agg #[.int .i64 r4.1, .int .i64 r4.2.1, .slice A9 r4.2.2.1.length c9]), pl 95 (.int .i64 r4.2.2.2)] hF hS (by kernel_rfl) (by kernel_rfl) ?_ (fun a hF => ?_)
                          · exact obs_nil
                          refine any_finI rfl (fun h => h) ?_
                          refine any_step [11] (by kernel_rfl) rfl ?_
                          refine (all_cons ?_ all_nil)
                          · refine any_op (listed' := #[true, true, true, true, true, true, true, true, true, true, true, true, false]) (by kernel_rfl) (by kernel_rfl) ?_
                            obtain ⟨w, hrun, hS⟩ := run_putA (P := Try.prog) (t := 24) (us := #[.int .i64 r4.1, .int .i64 r4.2.1, .slice A9 r4.2.2.1.length c9]) (o := 0) (hS.at_ 0 rfl) (by kernel_rfl) (all_one (by kernel_rfl)) (Nat.le_of_ble_eq_true (by kernel_rfl))
                            refine at_skip hF (by kernel_rfl) hrun ?_
                            have hS : Sep w0 B w (blk g5 24 #[.int .i64 r4.1, .int .i64 r4.2.1, .slice A9 r4.2.2.1.length c9] :: own 3 (.slice A9 r4.2.2.1.length c9) (vI r4.2.2.1) :: blk g4 24 #[.int .i64 g1, .int .i64 g2, .slice A1 g3.length c1] :: own 3 (.slice A6 own5.length c6) (vI own5) :: fs) := hS
                            refine any_fin rfl (hS.pickN 4 [2, 3] (by decide)) ?_
                            refine any_step [12] (by kernel_rfl) rfl ?_
                            refine (all_cons ?_ all_nil)
                            · refine any_op (listed' := #[true, true, true, true, true, true, true, true, true, true, true, true, true]) (by kernel_rfl) (by kernel_rfl) ?_
                              refine at_runW 1 [] [] [1, 2, 3, 8, 14, 15, 16, 17] [pl 1 (.int .i64 who1), pl 2 (.int .i64 deep1), pl 3 (.pointer (some ⟨g4, 0, none⟩)), pl 8 (.slice A6 own5.length c6), pl 14 (.int .i64 best1), pl 15 (.int .i64 where1), pl 16 (.int .i64 i2), pl 17 (.pointer (some ⟨g5, 0, none⟩))] hF hS (by kernel_rfl) (by kernel_rfl) ?_ (fun a hF => ?_)
                              · exact obs_nil
                              refine any_finI rfl (fun h => h) ?_
                              refine any_end (by kernel_rfl) ?_
                              refine np_n ?_
                              refine then_n ?_
                              have hS := hS.pickN 4 [2, 3, 0, 1] (by decide)
                              exact ⟨r4.1, r4.2.1, r4.2.2.1, g5, A9, c9, hF.weak [1, 2, 3, 8, 14, 15, 16, 17] (by kernel_rfl), hS, hm⟩
                    · refine any_op (listed' := #[true, true, true, true, true, true, true, true, false, false, true, false, false]) (by kernel_rfl) (by kernel_rfl) ?_
                      refine at_do (d := 17) (s := vS (Instr.alloc 24 true (.tuple #[]))) (v := .pointer (some ⟨w.heap.size, 0, none⟩)) (w' := w.alloc (.cells #[.int .i64 0, .int .i64 0, .slice none 0 0] 24)) hF (by kernel_rfl) (by kernel_rfl) (by kernel_rfl) (fun a hF => ?_)
                      have hS : Sep w0 B (w.alloc (.cells #[.int .i64 0, .int .i64 0, .slice none 0 0] 24)) (blk w.heap.size 24 #[.int .i64 0, .int .i64 0, .slice none 0 0] :: (own 3 (.slice A9 r4.2.2.1.length c9) (vI r4.2.2.1) :: blk g4 24 #[.int .i64 g1, .int .i64 g2, .slice A1 g3.length c1] :: own 3 (.slice A6 own5.length c6) (vI own5) :: fs)) := hS.box 24 #[.int .i64 0, .int .i64 0, .slice none 0 0]
                      generalize w.heap.size = g5 at hF hS
                      generalize w.alloc (.cells #[.int .i64 0, .int .i64 0, .slice none 0 0] 24) = w at hS ⊢
                      refine any_fin rfl (hS.pickN 4 [2, 3] (by decide)) ?_
                      refine any_step [8, 9] (by kernel_rfl) rfl ?_
                      refine (all_cons ?_ (all_cons ?_ all_nil))
                      · refine any_op (listed' := #[true, true, true, true, true, true, true, true, true, false, true, false, false]) (by kernel_rfl) (by kernel_rfl) ?_
                        refine at_runW 1 [] [] [1, 2, 3, 8, 14, 15, 16, 17, 86, 94] [pl 1 (.int .i64 who1), pl 2 (.int .i64 deep1), pl 3 (.pointer (some ⟨g4, 0, none⟩)), pl 8 (.slice A6 own5.length c6), pl 14 (.int .i64 best1), pl 15 (.int .i64 where1), pl 16 (.int .i64 i2), pl 17 (.pointer (some ⟨g5, 0, none⟩)), pl 86 (.tuple #[.agg #[.int .i64 r4.1, .int .i64 r4.2.1, .slice A9 r4.2.2.1.length c9], .int .i64 r4.2.2.2]), pl 94 (.agg #[.int .i64 r4.1, .int .i64 r4.2.1, .slice A9 r4.2.2.1.length c9])] hF hS (by kernel_rfl) (by kernel_rfl) ?_ (fun a hF => ?_)
                        · exact obs_nil
                        refine any_finI rfl (fun h => h) ?_
                        refine any_step [9, 11] (by kernel_rfl) rfl ?_
                        refine (all_cons ?_ (all_cons ?_ all_nil))
                        · refine any_op (listed' := #[true, true, true, true, true, true, true, true, true, true, true, false, false]) (by kernel_rfl) (by kernel_rfl) ?_
                          refine at_runW 1 [] [] [1, 2, 3, 8, 14, 15, 16, 17, 94, 95] [pl 1 (.int .i64 who1), pl 2 (.int .i64 deep1), pl 3 (.pointer (some ⟨g4, 0, none⟩)), pl 8 (.slice A6 own5.length c6), pl 14 (.int .i64 best1), pl 15 (.int .i64 where1), pl 16 (.int .i64 i2), pl 17 (.pointer (some ⟨g5, 0, none⟩)), pl 94 (.agg #[.int .i64 r4.1, .int .i64 r4.2.1, .slice A9 r4.2.2.1.length c9]), pl 95 (.int .i64 r4.2.2.2)] hF hS (by kernel_rfl) (by kernel_rfl) ?_ (fun a hF => ?_)
                          · exact obs_nil
                          refine any_finI rfl (fun h => h) ?_
                          refine any_step [11] (by kernel_rfl) rfl ?_
                          refine (all_cons ?_ all_nil)
                          · refine any_op (listed' := #[true, true, true, true, true, true, true, true, true, true, true, true, false]) (by kernel_rfl) (by kernel_rfl) ?_
                            obtain ⟨w, hrun, hS⟩ := run_putA (P := Try.prog) (t := 24) (us := #[.int .i64 r4.1, .int .i64 r4.2.1, .slice A9 r4.2.2.1.length c9]) (o := 0) (hS.at_ 0 rfl) (by kernel_rfl) (all_one (by kernel_rfl)) (Nat.le_of_ble_eq_true (by kernel_rfl))
                            refine at_skip hF (by kernel_rfl) hrun ?_
                            have hS : Sep w0 B w (blk g5 24 #[.int .i64 r4.1, .int .i64 r4.2.1, .slice A9 r4.2.2.1.length c9] :: own 3 (.slice A9 r4.2.2.1.length c9) (vI r4.2.2.1) :: blk g4 24 #[.int .i64 g1, .int .i64 g2, .slice A1 g3.length c1] :: own 3 (.slice A6 own5.length c6) (vI own5) :: fs) := hS
                            refine any_fin rfl (hS.pickN 4 [2, 3] (by decide)) ?_
                            refine any_step [12] (by kernel_rfl) rfl ?_
                            refine (all_cons ?_ all_nil)
                            · refine any_op (listed' := #[true, true, true, true, true, true, true, true, true, true, true, true, true]) (by kernel_rfl) (by kernel_rfl) ?_
                              refine at_runW 1 [] [] [1, 2, 3, 8, 14, 15, 16, 17] [pl 1 (.int .i64 who1), pl 2 (.int .i64 deep1), pl 3 (.pointer (some ⟨g4, 0, none⟩)), pl 8 (.slice A6 own5.length c6), pl 14 (.int .i64 best1), pl 15 (.int .i64 where1), pl 16 (.int .i64 i2), pl 17 (.pointer (some ⟨g5, 0, none⟩))] hF hS (by kernel_rfl) (by kernel_rfl) ?_ (fun a hF => ?_)
                              · exact obs_nil
                              refine any_finI rfl (fun h => h) ?_
                              refine any_end (by kernel_rfl) ?_
                              refine np_n ?_
                              refine then_n ?_
                              have hS := hS.pickN 4 [2, 3, 0, 1] (by decide)
                              exact ⟨r4.1, r4.2.1, r4.2.2.1, g5, A9, c9, hF.weak [1, 2, 3, 8, 14, 15, 16, 17] (by kernel_rfl), hS, hm⟩
                        · refine any_op (listed' := #[true, true, true, true, true, true, true, true, true, false, true, true, false]) (by kernel_rfl) (by kernel_rfl) ?_
                          obtain ⟨w, hrun, hS⟩ := run_putA (P := Try.prog) (t := 24) (us := #[.int .i64 r4.1, .int .i64 r4.2.1, .slice A9 r4.2.2.1.length c9]) (o := 0) (hS.at_ 0 rfl) (by kernel_rfl) (all_one (by kernel_rfl)) (Nat.le_of_ble_eq_true (by kernel_rfl))
                          refine at_skip hF (by kernel_rfl) hrun ?_
                          have hS : Sep w0 B w (blk g5 24 #[.int .i64 r4.1, .int .i64 r4.2.1, .slice A9 r4.2.2.1.length c9] :: own 3 (.slice A9 r4.2.2.1.length c9) (vI r4.2.2.1) :: blk g4 24 #[.int .i64 g1, .int .i64 g2, .slice A1 g3.length c1] :: own 3 (.slice A6 own5.length c6) (vI own5) :: fs) := hS
                          refine any_fin rfl (hS.pickN 4 [2, 3] (by decide)) ?_
                          refine any_step [9] (by kernel_rfl) rfl ?_
                          refine (all_cons ?_ all_nil)
                          · refine any_op (listed' := #[true, true, true, true, true, true, true, true, true, true, true, true, false]) (by kernel_rfl) (by kernel_rfl) ?_
                            refine at_runW 1 [] [] [1, 2, 3, 8, 14, 15, 16, 17, 95] [pl 1 (.int .i64 who1), pl 2 (.int .i64 deep1), pl 3 (.pointer (some ⟨g4, 0, none⟩)), pl 8 (.slice A6 own5.length c6), pl 14 (.int .i64 best1), pl 15 (.int .i64 where1), pl 16 (.int .i64 i2), pl 17 (.pointer (some ⟨g5, 0, none⟩)), pl 95 (.int .i64 r4.2.2.2)] hF hS (by kernel_rfl) (by kernel_rfl) ?_ (fun a hF => ?_)
                            · exact obs_nil
                            refine any_finI rfl (fun h => h) ?_
                            refine any_step [12] (by kernel_rfl) rfl ?_
                            refine (all_cons ?_ all_nil)
                            · refine any_op (listed' := #[true, true, true, true, true, true, true, true, true, true, true, true, true]) (by kernel_rfl) (by kernel_rfl) ?_
                              refine at_runW 1 [] [] [1, 2, 3, 8, 14, 15, 16, 17] [pl 1 (.int .i64 who1), pl 2 (.int .i64 deep1), pl 3 (.pointer (some ⟨g4, 0, none⟩)), pl 8 (.slice A6 own5.length c6), pl 14 (.int .i64 best1), pl 15 (.int .i64 where1), pl 16 (.int .i64 i2), pl 17 (.pointer (some ⟨g5, 0, none⟩))] hF hS (by kernel_rfl) (by kernel_rfl) ?_ (fun a hF => ?_)
                              · exact obs_nil
                              refine any_finI rfl (fun h => h) ?_
                              refine any_end (by kernel_rfl) ?_
                              refine np_n ?_
                              refine then_n ?_
                              have hS := hS.pickN 4 [2, 3, 0, 1] (by decide)
                              exact ⟨r4.1, r4.2.1, r4.2.2.1, g5, A9, c9, hF.weak [1, 2, 3, 8, 14, 15, 16, 17] (by kernel_rfl), hS, hm⟩
                      · refine any_op (listed' := #[true, true, true, true, true, true, true, true, false, true, true, false, false]) (by kernel_rfl) (by kernel_rfl) ?_
                        refine at_runW 1 [] [] [1, 2, 3, 8, 14, 15, 16, 17, 86, 95] [pl 1 (.int .i64 who1), pl 2 (.int .i64 deep1), pl 3 (.pointer (some ⟨g4, 0, none⟩)), pl 8 (.slice A6 own5.length c6), pl 14 (.int .i64 best1), pl 15 (.int .i64 where1), pl 16 (.int .i64 i2), pl 17 (.pointer (some ⟨g5, 0, none⟩)), pl 86 (.tuple #[.agg #[.int .i64 r4.1, .int .i64 r4.2.1, .slice A9 r4.2.2.1.length c9], .int .i64 r4.2.2.2]), pl 95 (.int .i64 r4.2.2.2)] hF hS (by kernel_rfl) (by kernel_rfl) ?_ (fun a hF => ?_)
                        · exact obs_nil
                        refine any_finI rfl (fun h => h) ?_
                        refine any_step [8] (by kernel_rfl) rfl ?_
                        refine (all_cons ?_ all_nil)
                        · refine any_op (listed' := #[true, true, true, true, true, true, true, true, true, true, true, false, false]) (by kernel_rfl) (by kernel_rfl) ?_
                          refine at_runW 1 [] [] [1, 2, 3, 8, 14, 15, 16, 17, 94, 95] [pl 1 (.int .i64 who1), pl 2 (.int .i64 deep1), pl 3 (.pointer (some ⟨g4, 0, none⟩)), pl 8 (.slice A6 own5.length c6), pl 14 (.int .i64 best1), pl 15 (.int .i64 where1), pl 16 (.int .i64 i2), pl 17 (.pointer (some ⟨g5, 0, none⟩)), pl 94 (.agg #[.int .i64 r4.1, .int .i64 r4.2.1, .slice A9 r4.2.2.1.length c9]), pl 95 (.int .i64 r4.2.2.2)] hF hS (by kernel_rfl) (by kernel_rfl) ?_ (fun a hF => ?_)
                          · exact obs_nil
                          refine any_finI rfl (fun h => h) ?_
                          refine any_step [11] (by kernel_rfl) rfl ?_
                          refine (all_cons ?_ all_nil)
                          · refine any_op (listed' := #[true, true, true, true, true, true, true, true, true, true, true, true, false]) (by kernel_rfl) (by kernel_rfl) ?_
                            obtain ⟨w, hrun, hS⟩ := run_putA (P := Try.prog) (t := 24) (us := #[.int .i64 r4.1, .int .i64 r4.2.1, .slice A9 r4.2.2.1.length c9]) (o := 0) (hS.at_ 0 rfl) (by kernel_rfl) (all_one (by kernel_rfl)) (Nat.le_of_ble_eq_true (by kernel_rfl))
                            refine at_skip hF (by kernel_rfl) hrun ?_
                            have hS : Sep w0 B w (blk g5 24 #[.int .i64 r4.1, .int .i64 r4.2.1, .slice A9 r4.2.2.1.length c9] :: own 3 (.slice A9 r4.2.2.1.length c9) (vI r4.2.2.1) :: blk g4 24 #[.int .i64 g1, .int .i64 g2, .slice A1 g3.length c1] :: own 3 (.slice A6 own5.length c6) (vI own5) :: fs) := hS
                            refine any_fin rfl (hS.pickN 4 [2, 3] (by decide)) ?_
                            refine any_step [12] (by kernel_rfl) rfl ?_
                            refine (all_cons ?_ all_nil)
                            · refine any_op (listed' := #[true, true, true, true, true, true, true, true, true, true, true, true, true]) (by kernel_rfl) (by kernel_rfl) ?_
                              refine at_runW 1 [] [] [1, 2, 3, 8, 14, 15, 16, 17] [pl 1 (.int .i64 who1), pl 2 (.int .i64 deep1), pl 3 (.pointer (some ⟨g4, 0, none⟩)), pl 8 (.slice A6 own5.length c6), pl 14 (.int .i64 best1), pl 15 (.int .i64 where1), pl 16 (.int .i64 i2), pl 17 (.pointer (some ⟨g5, 0, none⟩))] hF hS (by kernel_rfl) (by kernel_rfl) ?_ (fun a hF => ?_)
                              · exact obs_nil
                              refine any_finI rfl (fun h => h) ?_
                              refine any_end (by kernel_rfl) ?_
                              refine np_n ?_
                              refine then_n ?_
                              have hS := hS.pickN 4 [2, 3, 0, 1] (by decide)
                              exact ⟨r4.1, r4.2.1, r4.2.2.1, g5, A9, c9, hF.weak [1, 2, 3, 8, 14, 15, 16, 17] (by kernel_rfl), hS, hm⟩
                  · refine any_op (listed' := #[true, true, true, true, true, true, true, false, false, false, true, false, false]) (by kernel_rfl) (by kernel_rfl) ?_
                    refine at_do (d := 17) (s := vS (Instr.alloc 24 true (.tuple #[]))) (v := .pointer (some ⟨w.heap.size, 0, none⟩)) (w' := w.alloc (.cells #[.int .i64 0, .int .i64 0, .slice none 0 0] 24)) hF (by kernel_rfl) (by kernel_rfl) (by kernel_rfl) (fun a hF => ?_)
                    have hS : Sep w0 B (w.alloc (.cells #[.int .i64 0, .int .i64 0, .slice none 0 0] 24)) (blk w.heap.size 24 #[.int .i64 0, .int .i64 0, .slice none 0 0] :: (own 3 (.slice A9 r4.2.2.1.length c9) (vI r4.2.2.1) :: blk g4 24 #[.int .i64 g1, .int .i64 g2, .slice A1 g3.length c1] :: own 3 (.slice A6 own5.length c6) (vI own5) :: fs)) := hS.box 24 #[.int .i64 0, .int .i64 0, .slice none 0 0]
                    generalize w.heap.size = g5 at hF hS
                    generalize w.alloc (.cells #[.int .i64 0, .int .i64 0, .slice none 0 0] 24) = w at hS ⊢
                    refine any_fin rfl (hS.pickN 4 [2, 3] (by decide)) ?_
                    refine any_step [7] (by kernel_rfl) rfl ?_
                    refine (all_cons ?_ all_nil)
                    · refine any_op (listed' := #[true, true, true, true, true, true, true, true, false, false, true, false, false]) (by kernel_rfl) (by kernel_rfl) ?_
                      refine at_runW 1 [] [] [1, 2, 3, 8, 14, 15, 16, 17, 86] [pl 1 (.int .i64 who1), pl 2 (.int .i64 deep1), pl 3 (.pointer (some ⟨g4, 0, none⟩)), pl 8 (.slice A6 own5.length c6), pl 14 (.int .i64 best1), pl 15 (.int .i64 where1), pl 16 (.int .i64 i2), pl 17 (.pointer (some ⟨g5, 0, none⟩)), pl 86 (.tuple #[.agg #[.int .i64 r4.1, .int .i64 r4.2.1, .slice A9 r4.2.2.1.length c9], .int .i64 r4.2.2.2])] hF hS (by kernel_rfl) (by kernel_rfl) ?_ (fun a hF => ?_)
                      · exact obs_nil
                      refine any_finI rfl (fun h => h) ?_
                      refine any_step [8, 9] (by kernel_rfl) rfl ?_
                      refine (all_cons ?_ (all_cons ?_ all_nil))
                      · refine any_op (listed' := #[true, true, true, true, true, true, true, true, true, false, true, false, false]) (by kernel_rfl) (by kernel_rfl) ?_
                        refine at_runW 1 [] [] [1, 2, 3, 8, 14, 15, 16, 17, 86, 94] [pl 1 (.int .i64 who1), pl 2 (.int .i64 deep1), pl 3 (.pointer (some ⟨g4, 0, none⟩)), pl 8 (.slice A6 own5.length c6), pl 14 (.int .i64 best1), pl 15 (.int .i64 where1), pl 16 (.int .i64 i2), pl 17 (.pointer (some ⟨g5, 0, none⟩)), pl 86 (.tuple #[.agg #[.int .i64 r4.1, .int .i64 r4.2.1, .slice A9 r4.2.2.1.length c9], .int .i64 r4.2.2.2]), pl 94 (.agg #[.int .i64 r4.1, .int .i64 r4.2.1, .slice A9 r4.2.2.1.length c9])] hF hS (by kernel_rfl) (by kernel_rfl) ?_ (fun a hF => ?_)
                        · exact obs_nil
                        refine any_finI rfl (fun h => h) ?_
                        refine any_step [9, 11] (by kernel_rfl) rfl ?_
                        refine (all_cons ?_ (all_cons ?_ all_nil))
                        · refine any_op (listed' := #[true, true, true, true, true, true, true, true, true, true, true, false, false]) (by kernel_rfl) (by kernel_rfl) ?_
                          refine at_runW 1 [] [] [1, 2, 3, 8, 14, 15, 16, 17, 94, 95] [pl 1 (.int .i64 who1), pl 2 (.int .i64 deep1), pl 3 (.pointer (some ⟨g4, 0, none⟩)), pl 8 (.slice A6 own5.length c6), pl 14 (.int .i64 best1), pl 15 (.int .i64 where1), pl 16 (.int .i64 i2), pl 17 (.pointer (some ⟨g5, 0, none⟩)), pl 94 (.agg #[.int .i64 r4.1, .int .i64 r4.2.1, .slice A9 r4.2.2.1.length c9]), pl 95 (.int .i64 r4.2.2.2)] hF hS (by kernel_rfl) (by kernel_rfl) ?_ (fun a hF => ?_)
                          · exact obs_nil
                          refine any_finI rfl (fun h => h) ?_
                          refine any_step [11] (by kernel_rfl) rfl ?_
                          refine (all_cons ?_ all_nil)
                          · refine any_op (listed' := #[true, true, true, true, true, true, true, true, true, true, true, true, false]) (by kernel_rfl) (by kernel_rfl) ?_
                            obtain ⟨w, hrun, hS⟩ := run_putA (P := Try.prog) (t := 24) (us := #[.int .i64 r4.1, .int .i64 r4.2.1, .slice A9 r4.2.2.1.length c9]) (o := 0) (hS.at_ 0 rfl) (by kernel_rfl) (all_one (by kernel_rfl)) (Nat.le_of_ble_eq_true (by kernel_rfl))
                            refine at_skip hF (by kernel_rfl) hrun ?_
                            have hS : Sep w0 B w (blk g5 24 #[.int .i64 r4.1, .int .i64 r4.2.1, .slice A9 r4.2.2.1.length c9] :: own 3 (.slice A9 r4.2.2.1.length c9) (vI r4.2.2.1) :: blk g4 24 #[.int .i64 g1, .int .i64 g2, .slice A1 g3.length c1] :: own 3 (.slice A6 own5.length c6) (vI own5) :: fs) := hS
                            refine any_fin rfl (hS.pickN 4 [2, 3] (by decide)) ?_
                            refine any_step [12] (by kernel_rfl) rfl ?_
                            refine (all_cons ?_ all_nil)
                            · refine any_op (listed' := #[true, true, true, true, true, true, true, true, true, true, true, true, true]) (by kernel_rfl) (by kernel_rfl) ?_
                              refine at_runW 1 [] [] [1, 2, 3, 8, 14, 15, 16, 17] [pl 1 (.int .i64 who1), pl 2 (.int .i64 deep1), pl 3 (.pointer (some ⟨g4, 0, none⟩)), pl 8 (.slice A6 own5.length c6), pl 14 (.int .i64 best1), pl 15 (.int .i64 where1), pl 16 (.int .i64 i2), pl 17 (.pointer (some ⟨g5, 0, none⟩))] hF hS (by kernel_rfl) (by kernel_rfl) ?_ (fun a hF => ?_)
                              · exact obs_nil
                              refine any_finI rfl (fun h => h) ?_
                              refine any_end (by kernel_rfl) ?_
                              refine np_n ?_
                              refine then_n ?_
                              have hS := hS.pickN 4 [2, 3, 0, 1] (by decide)
                              exact ⟨r4.1, r4.2.1, r4.2.2.1, g5, A9, c9, hF.weak [1, 2, 3, 8, 14, 15, 16, 17] (by kernel_rfl), hS, hm⟩
                        · refine any_op (listed' := #[true, true, true, true, true, true, true, true, true, false, true, true, false]) (by kernel_rfl) (by kernel_rfl) ?_
                          obtain ⟨w, hrun, hS⟩ := run_putA (P := Try.prog) (t := 24) (us := #[.int .i64 r4.1, .int .i64 r4.2.1, .slice A9 r4.2.2.1.length c9]) (o := 0) (hS.at_ 0 rfl) (by kernel_rfl) (all_one (by kernel_rfl)) (Nat.le_of_ble_eq_true (by kernel_rfl))
                          refine at_skip hF (by kernel_rfl) hrun ?_
                          have hS : Sep w0 B w (blk g5 24 #[.int .i64 r4.1, .int .i64 r4.2.1, .slice A9 r4.2.2.1.length c9] :: own 3 (.slice A9 r4.2.2.1.length c9) (vI r4.2.2.1) :: blk g4 24 #[.int .i64 g1, .int .i64 g2, .slice A1 g3.length c1] :: own 3 (.slice A6 own5.length c6) (vI own5) :: fs) := hS
                          refine any_fin rfl (hS.pickN 4 [2, 3] (by decide)) ?_
                          refine any_step [9] (by kernel_rfl) rfl ?_
                          refine (all_cons ?_ all_nil)
                          · refine any_op (listed' := #[true, true, true, true, true, true, true, true, true, true, true, true, false]) (by kernel_rfl) (by kernel_rfl) ?_
                            refine at_runW 1 [] [] [1, 2, 3, 8, 14, 15, 16, 17, 95] [pl 1 (.int .i64 who1), pl 2 (.int .i64 deep1), pl 3 (.pointer (some ⟨g4, 0, none⟩)), pl 8 (.slice A6 own5.length c6), pl 14 (.int .i64 best1), pl 15 (.int .i64 where1), pl 16 (.int .i64 i2), pl 17 (.pointer (some ⟨g5, 0, none⟩)), pl 95 (.int .i64 r4.2.2.2)] hF hS (by kernel_rfl) (by kernel_rfl) ?_ (fun a hF => ?_)
                            · exact obs_nil
                            refine any_finI rfl (fun h => h) ?_
                            refine any_step [12] (by kernel_rfl) rfl ?_
                            refine (all_cons ?_ all_nil)
                            · refine any_op (listed' := #[true, true, true, true, true, true, true, true, true, true, true, true, true]) (by kernel_rfl) (by kernel_rfl) ?_
                              refine at_runW 1 [] [] [1, 2, 3, 8, 14, 15, 16, 17] [pl 1 (.int .i64 who1), pl 2 (.int .i64 deep1), pl 3 (.pointer (some ⟨g4, 0, none⟩)), pl 8 (.slice A6 own5.length c6), pl 14 (.int .i64 best1), pl 15 (.int .i64 where1), pl 16 (.int .i64 i2), pl 17 (.pointer (some ⟨g5, 0, none⟩))] hF hS (by kernel_rfl) (by kernel_rfl) ?_ (fun a hF => ?_)
                              · exact obs_nil
                              refine any_finI rfl (fun h => h) ?_
                              refine any_end (by kernel_rfl) ?_
                              refine np_n ?_
                              refine then_n ?_
                              have hS := hS.pickN 4 [2, 3, 0, 1] (by decide)
                              exact ⟨r4.1, r4.2.1, r4.2.2.1, g5, A9, c9, hF.weak [1, 2, 3, 8, 14, 15, 16, 17] (by kernel_rfl), hS, hm⟩
                      · refine any_op (listed' := #[true, true, true, true, true, true, true, true, false, true, true, false, false]) (by kernel_rfl) (by kernel_rfl) ?_
                        refine at_runW 1 [] [] [1, 2, 3, 8, 14, 15, 16, 17, 86, 95] [pl 1 (.int .i64 who1), pl 2 (.int .i64 deep1), pl 3 (.pointer (some ⟨g4, 0, none⟩)), pl 8 (.slice A6 own5.length c6), pl 14 (.int .i64 best1), pl 15 (.int .i64 where1), pl 16 (.int .i64 i2), pl 17 (.pointer (some ⟨g5, 0, none⟩)), pl 86 (.tuple #[.agg #[.int .i64 r4.1, .int .i64 r4.2.1, .slice A9 r4.2.2.1.length c9], .int .i64 r4.2.2.2]), pl 95 (.int .i64 r4.2.2.2)] hF hS (by kernel_rfl) (by kernel_rfl) ?_ (fun a hF => ?_)
                        · exact obs_nil
                        refine any_finI rfl (fun h => h) ?_
                        refine any_step [8] (by kernel_rfl) rfl ?_
                        refine (all_cons ?_ all_nil)
                        · refine any_op (listed' := #[true, true, true, true, true, true, true, true, true, true, true, false, false]) (by kernel_rfl) (by kernel_rfl) ?_
                          refine at_runW 1 [] [] [1, 2, 3, 8, 14, 15, 16, 17, 94, 95] [pl 1 (.int .i64 who1), pl 2 (.int .i64 deep1), pl 3 (.pointer (some ⟨g4, 0, none⟩)), pl 8 (.slice A6 own5.length c6), pl 14 (.int .i64 best1), pl 15 (.int .i64 where1), pl 16 (.int .i64 i2), pl 17 (.pointer (some ⟨g5, 0, none⟩)), pl 94 (.agg #[.int .i64 r4.1, .int .i64 r4.2.1, .slice A9 r4.2.2.1.length c9]), pl 95 (.int .i64 r4.2.2.2)] hF hS (by kernel_rfl) (by kernel_rfl) ?_ (fun a hF => ?_)
                          · exact obs_nil
                          refine any_finI rfl (fun h => h) ?_
                          refine any_step [11] (by kernel_rfl) rfl ?_
                          refine (all_cons ?_ all_nil)
                          · refine any_op (listed' := #[true, true, true, true, true, true, true, true, true, true, true, true, false]) (by kernel_rfl) (by kernel_rfl) ?_
                            obtain ⟨w, hrun, hS⟩ := run_putA (P := Try.prog) (t := 24) (us := #[.int .i64 r4.1, .int .i64 r4.2.1, .slice A9 r4.2.2.1.length c9]) (o := 0) (hS.at_ 0 rfl) (by kernel_rfl) (all_one (by kernel_rfl)) (Nat.le_of_ble_eq_true (by kernel_rfl))
                            refine at_skip hF (by kernel_rfl) hrun ?_
                            have hS : Sep w0 B w (blk g5 24 #[.int .i64 r4.1, .int .i64 r4.2.1, .slice A9 r4.2.2.1.length c9] :: own 3 (.slice A9 r4.2.2.1.length c9) (vI r4.2.2.1) :: blk g4 24 #[.int .i64 g1, .int .i64 g2, .slice A1 g3.length c1] :: own 3 (.slice A6 own5.length c6) (vI own5) :: fs) := hS
                            refine any_fin rfl (hS.pickN 4 [2, 3] (by decide)) ?_
                            refine any_step [12] (by kernel_rfl) rfl ?_
                            refine (all_cons ?_ all_nil)
                            · refine any_op (listed' := #[true, true, true, true, true, true, true, true, true, true, true, true, true]) (by kernel_rfl) (by kernel_rfl) ?_
                              refine at_runW 1 [] [] [1, 2, 3, 8, 14, 15, 16, 17] [pl 1 (.int .i64 who1), pl 2 (.int .i64 deep1), pl 3 (.pointer (some ⟨g4, 0, none⟩)), pl 8 (.slice A6 own5.length c6), pl 14 (.int .i64 best1), pl 15 (.int .i64 where1), pl 16 (.int .i64 i2), pl 17 (.pointer (some ⟨g5, 0, none⟩))] hF hS (by kernel_rfl) (by kernel_rfl) ?_ (fun a hF => ?_)
                              · exact obs_nil
                              refine any_finI rfl (fun h => h) ?_
                              refine any_end (by kernel_rfl) ?_
                              refine np_n ?_
                              refine then_n ?_
                              have hS := hS.pickN 4 [2, 3, 0, 1] (by decide)
                              exact ⟨r4.1, r4.2.1, r4.2.2.1, g5, A9, c9, hF.weak [1, 2, 3, 8, 14, 15, 16, 17] (by kernel_rfl), hS, hm⟩
                · refine any_op (listed' := #[true, true, true, true, true, true, false, false, false, false, true, false, false]) (by kernel_rfl) (by kernel_rfl) ?_
                  refine at_do (d := 17) (s := vS (Instr.alloc 24 true (.tuple #[]))) (v := .pointer (some ⟨w.heap.size, 0, none⟩)) (w' := w.alloc (.cells #[.int .i64 0, .int .i64 0, .slice none 0 0] 24)) hF (by kernel_rfl) (by kernel_rfl) (by kernel_rfl) (fun a hF => ?_)
                  have hS : Sep w0 B (w.alloc (.cells #[.int .i64 0, .int .i64 0, .slice none 0 0] 24)) (blk w.heap.size 24 #[.int .i64 0, .int .i64 0, .slice none 0 0] :: (blk g4 24 #[.int .i64 g1, .int .i64 g2, .slice A1 g3.length c1] :: own 3 (.slice A6 own5.length c6) (vI own5) :: fs)) := hS.box 24 #[.int .i64 0, .int .i64 0, .slice none 0 0]
                  generalize w.heap.size = g5 at hF hS
                  generalize w.alloc (.cells #[.int .i64 0, .int .i64 0, .slice none 0 0] 24) = w at hS ⊢
                  refine any_fin rfl (hS.pickN 3 [1, 2] (by decide)) ?_
                  refine any_step [6] (by kernel_rfl) rfl ?_
                  refine (all_cons ?_ all_nil)
                  · refine any_op (listed' := #[true, true, true, true, true, true, true, false, false, false, true, false, false]) (by kernel_rfl) (by kernel_rfl) ?_
                    refine at_call (f := 23) (args := #[.agg #[.int .i64 g1, .int .i64 g2, .slice A1 g3.length c1], .int .i64 who1, .int .i64 (geti own5 i2)]) (d := 93) hF (by kernel_rfl) (by kernel_rfl) Try.func23 (by kernel_rfl) rfl (gameroomref_PutSign_w hr4 hS (fun _ hS => (hr_g3 _ (hS.dropN 3))) _hc_g3 rfl) (fun v a w hR hF => ?_)
                    clear hS
                    obtain ⟨A11, c11, rfl, hS⟩ := hR
                    have hS : Sep w0 B w (own 3 (.slice A11 r4.2.2.1.length c11) (vI r4.2.2.1) :: blk g5 24 #[.int .i64 0, .int .i64 0, .slice none 0 0] :: blk g4 24 #[.int .i64 g1, .int .i64 g2, .slice A1 g3.length c1] :: own 3 (.slice A6 own5.length c6) (vI own5) :: fs) := hS
                    refine any_fin rfl (hS.pickN 4 [2, 3] (by decide)) ?_
                    refine any_step [7] (by kernel_rfl) rfl ?_
                    refine (all_cons ?_ all_nil)
                    · refine any_op (listed' := #[true, true, true, true, true, true, true, true, false, false, true, false, false]) (by kernel_rfl) (by kernel_rfl) ?_
                      refine at_runW 1 [] [] [1, 2, 3, 8, 14, 15, 16, 17, 86] [pl 1 (.int .i64 who1), pl 2 (.int .i64 deep1), pl 3 (.pointer (some ⟨g4, 0, none⟩)), pl 8 (.slice A6 own5.length c6), pl 14 (.int .i64 best1), pl 15 (.int .i64 where1), pl 16 (.int .i64 i2), pl 17 (.pointer (some ⟨g5, 0, none⟩)), pl 86 (.tuple #[.agg #[.int .i64 r4.1, .int .i64 r4.2.1, .slice A11 r4.2.2.1.length c11], .int .i64 r4.2.2.2])] hF hS (by kernel_rfl) (by kernel_rfl) ?_ (fun a hF => ?_)
                      · exact obs_nil
                      refine any_finI rfl (fun h => h) ?_
                      refine any_step [8, 9] (by kernel_rfl) rfl ?_
                      refine (all_cons ?_ (all_cons ?_ all_nil))
                      · refine any_op (listed' := #[true, true, true, true, true, true, true, true, true, false, true, false, false]) (by kernel_rfl) (by kernel_rfl) ?_
                        refine at_runW 1 [] [] [1, 2, 3, 8, 14, 15, 16, 17, 86, 94] [pl 1 (.int .i64 who1), pl 2 (.int .i64 deep1), pl 3 (.pointer (some ⟨g4, 0, none⟩)), pl 8 (.slice A6 own5.length c6), pl 14 (.int .i64 best1), pl 15 (.int .i64 where1), pl 16 (.int .i64 i2), pl 17 (.pointer (some ⟨g5, 0, none⟩)), pl 86 (.tuple #[.agg #[.int .i64 r4.1, .int .i64 r4.2.1, .slice A11 r4.2.2.1.length c11], .int .i64 r4.2.2.2]), pl 94 (.agg #[.int .i64 r4.1, .int .i64 r4.2.1, .slice A11 r4.2.2.1.length c11])] hF hS (by kernel_rfl) (by kernel_rfl) ?_ (fun a hF => ?_)
                        · exact obs_nil
                        refine any_finI rfl (fun h => h) ?_
                        refine any_step [9, 11] (by kernel_rfl) rfl ?_
                        refine (all_cons ?_ (all_cons ?_ all_nil))
                        · refine any_op (listed' := #[true, true, true, true, true, true, true, true, true, true, true, false, false]) (by kernel_rfl) (by kernel_rfl) ?_
                          refine at_runW 1 [] [] [1, 2, 3, 8, 14, 15, 16, 17, 94, 95] [pl 1 (.int .i64 who1), pl 2 (.int .i64 deep1), pl 3 (.pointer (some ⟨g4, 0, none⟩)), pl 8 (.slice A6 own5.length c6), pl 14 (.int .i64 best1), pl 15 (.int .i64 where1), pl 16 (.int .i64 i2), pl 17 (.pointer (some ⟨g5, 0, none⟩)), pl 94 (.agg #[.int .i64 r4.1, .int .i64 r4.2.1, .slice A11 r4.2.2.1.length c11]), pl 95 (.int .i64 r4.2.2.2)] hF hS (by kernel_rfl) (by kernel_rfl) ?_ (fun a hF => ?_)
                          · exact obs_nil
                          refine any_finI rfl (fun h => h) ?_
                          refine any_step [11] (by kernel_rfl) rfl ?_
                          refine (all_cons ?_ all_nil)
                          · refine any_op (listed' := #[true, true, true, true, true, true, true, true, true, true, true, true, false]) (by kernel_rfl) (by kernel_rfl) ?_
                            obtain ⟨w, hrun, hS⟩ := run_putA (P := Try.prog) (t := 24) (us := #[.int .i64 r4.1, .int .i64 r4.2.1, .slice A11 r4.2.2.1.length c11]) (o := 0) (hS.at_ 1 rfl) (by kernel_rfl) (all_one (by kernel_rfl)) (Nat.le_of_ble_eq_true (by kernel_rfl))
                            refine at_skip hF (by kernel_rfl) hrun ?_
                            have hS : Sep w0 B w (own 3 (.slice A11 r4.2.2.1.length c11) (vI r4.2.2.1) :: blk g5 24 #[.int .i64 r4.1, .int .i64 r4.2.1, .slice A11 r4.2.2.1.length c11] :: blk g4 24 #[.int .i64 g1, .int .i64 g2, .slice A1 g3.length c1] :: own 3 (.slice A6 own5.length c6) (vI own5) :: fs) := hS
                            refine any_fin rfl (hS.pickN 4 [2, 3] (by decide)) ?_
                            refine any_step [12] (by kernel_rfl) rfl ?_
                            refine (all_cons ?_ all_nil)
                            · refine any_op (listed' := #[true, true, true, true, true, true, true, true, true, true, true, true, true]) (by kernel_rfl) (by kernel_rfl) ?_
                              refine at_runW 1 [] [] [1, 2, 3, 8, 14, 15, 16, 17] [pl 1 (.int .i64 who1), pl 2 (.int .i64 deep1), pl 3 (.pointer (some ⟨g4, 0, none⟩)), pl 8 (.slice A6 own5.length c6), pl 14 (.int .i64 best1), pl 15 (.int .i64 where1), pl 16 (.int .i64 i2), pl 17 (.pointer (some ⟨g5, 0, none⟩))] hF hS (by kernel_rfl) (by kernel_rfl) ?_ (fun a hF => ?_)
                              · exact obs_nil
                              refine any_finI rfl (fun h => h) ?_
                              refine any_end (by kernel_rfl) ?_
                              refine np_n ?_
                              refine then_n ?_
                              have hS := hS.pickN 4 [2, 3, 1, 0] (by decide)
                              exact ⟨r4.1, r4.2.1, r4.2.2.1, g5, A11, c11, hF.weak [1, 2, 3, 8, 14, 15, 16, 17] (by kernel_rfl), hS, hm⟩
                        · refine any_op (listed' := #[true, true, true, true, true, true, true, true, true, false, true, true, false]) (by kernel_rfl) (by kernel_rfl) ?_
                          obtain ⟨w, hrun, hS⟩ := run_putA (P := Try.prog) (t := 24) (us := #[.int .i64 r4.1, .int .i64 r4.2.1, .slice A11 r4.2.2.1.length c11]) (o := 0) (hS.at_ 1 rfl) (by kernel_rfl) (all_one (by kernel_rfl)) (Nat.le_of_ble_eq_true (by kernel_rfl))
                          refine at_skip hF (by kernel_rfl) hrun ?_
                          have hS : Sep w0 B w (own 3 (.slice A11 r4.2.2.1.length c11) (vI r4.2.2.1) :: blk g5 24 #[.int .i64 r4.1, .int .i64 r4.2.1, .slice A11 r4.2.2.1.length c11] :: blk g4 24 #[.int .i64 g1, .int .i64 g2, .slice A1 g3.length c1] :: own 3 (.slice A6 own5.length c6) (vI own5) :: fs) := hS
                          refine any_fin rfl (hS.pickN 4 [2, 3] (by decide)) ?_
                          refine any_step [9] (by kernel_rfl) rfl ?_
                          refine (all_cons ?_ all_nil)
                          · refine any_op (listed' := #[true, true, true, true, true, true, true, true, true, true, true, true, false]) (by kernel_rfl) (by kernel_rfl) ?_
                            refine at_runW 1 [] [] [1, 2, 3, 8, 14, 15, 16, 17, 95] [pl 1 (.int .i64 who1), pl 2 (.int .i64 deep1), pl 3 (.pointer (some ⟨g4, 0, none⟩)), pl 8 (.slice A6 own5.length c6), pl 14 (.int .i64 best1), pl 15 (.int .i64 where1), pl 16 (.int .i64 i2), pl 17 (.pointer (some ⟨g5, 0, none⟩)), pl 95 (.int .i64 r4.2.2.2)] hF hS (by kernel_rfl) (by kernel_rfl) ?_ (fun a hF => ?_)
                            · exact obs_nil
                            refine any_finI rfl (fun h => h) ?_
                            refine any_step [12] (by kernel_rfl) rfl ?_
                            refine (all_cons ?_ all_nil)
                            · refine any_op (listed' := #[true, true, true, true, true, true, true, true, true, true, true, true, true]) (by kernel_rfl) (by kernel_rfl) ?_
                              refine at_runW 1 [] [] [1, 2, 3, 8, 14, 15, 16, 17] [pl 1 (.int .i64 who1), pl 2 (.int .i64 deep1), pl 3 (.pointer (some ⟨g4, 0, none⟩)), pl 8 (.slice A6 own5.length c6), pl 14 (.int .i64 best1), pl 15 (.int .i64 where1), pl 16 (.int .i64 i2), pl 17 (.pointer (some ⟨g5, 0, none⟩))] hF hS (by kernel_rfl) (by kernel_rfl) ?_ (fun a hF => ?_)
                              · exact obs_nil
                              refine any_finI rfl (fun h => h) ?_
                              refine any_end (by kernel_rfl) ?_
                              refine np_n ?_
                              refine then_n ?_
                              have hS := hS.pickN 4 [2, 3, 1, 0] (by decide)
                              exact ⟨r4.1, r4.2.1, r4.2.2.1, g5, A11, c11, hF.weak [1, 2, 3, 8, 14, 15, 16, 17] (by kernel_rfl), hS, hm⟩
                      · refine any_op (listed' := #[true, true, true, true, true, true, true, true, false, true, true, false, false]) (by kernel_rfl) (by kernel_rfl) ?_
                        refine at_runW 1 [] [] [1, 2, 3, 8, 14, 15, 16, 17, 86, 95] [pl 1 (.int .i64 who1), pl 2 (.int .i64 deep1), pl 3 (.pointer (some ⟨g4, 0, none⟩)), pl 8 (.slice A6 own5.length c6), pl 14 (.int .i64 best1), pl 15 (.int .i64 where1), pl 16 (.int .i64 i2), pl 17 (.pointer (some ⟨g5, 0, none⟩)), pl 86 (.tuple #[.agg #[.int .i64 r4.1, .int .i64 r4.2.1, .slice A11 r4.2.2.1.length c11], .int .i64 r4.2.2.2]), pl 95 (.int .i64 r4.2.2.2)] hF hS (by kernel_rfl) (by kernel_rfl) ?_ (fun a hF => ?_)
                        · exact obs_nil
                        refine any_finI rfl (fun h => h) ?_
                        refine any_step [8] (by kernel_rfl) rfl ?_
                        refine (all_cons ?_ all_nil)
                        · refine any_op (listed' := #[true, true, true, true, true, true, true, true, true, true, true, false, false]) (by kernel_rfl) (by kernel_rfl) ?_
                          refine at_runW 1 [] [] [1, 2, 3, 8, 14, 15, 16, 17, 94, 95] [pl 1 (.int .i64 who1), pl 2 (.int .i64 deep1), pl 3 (.pointer (some ⟨g4, 0, none⟩)), pl 8 (.slice A6 own5.length c6), pl 14 (.int .i64 best1), pl 15 (.int .i64 where1), pl 16 (.int .i64 i2), pl 17 (.pointer (some ⟨g5, 0, none⟩)), pl 94 (.agg #[.int .i64 r4.1, .int .i64 r4.2.1, .slice A11 r4.2.2.1.length c11]), pl 95 (.int .i64 r4.2.2.2)] hF hS (by kernel_rfl) (by kernel_rfl) ?_ (fun a hF => ?_)
                          · exact obs_nil
                          refine any_finI rfl (fun h => h) ?_
                          refine any_step [11] (by kernel_rfl) rfl ?_
                          refine (all_cons ?_ all_nil)
                          · refine any_op (listed' := #[true, true, true, true, true, true, true, true, true, true, true, true, false]) (by kernel_rfl) (by kernel_rfl) ?_
                            obtain ⟨w, hrun, hS⟩ := run_putA (P := Try.prog) (t := 24) (us := #[.int .i64 r4.1, .int .i64 r4.2.1, .slice A11 r4.2.2.1.length c11]) (o := 0) (hS.at_ 1 rfl) (by kernel_rfl) (all_one (by kernel_rfl)) (Nat.le_of_ble_eq_true (by kernel_rfl))
                            refine at_skip hF (by kernel_rfl) hrun ?_
                            have hS : Sep w0 B w (own 3 (.slice A11 r4.2.2.1.length c11) (vI r4.2.2.1) :: blk g5 24 #[.int .i64 r4.1, .int .i64 r4.2.1, .slice A11 r4.2.2.1.length c11] :: blk g4 24 #[.int .i64 g1, .int .i64 g2, .slice A1 g3.length c1] :: own 3 (.slice A6 own5.length c6) (vI own5) :: fs) := hS
                            refine any_fin rfl (hS.pickN 4 [2, 3] (by decide)) ?_
                            refine any_step [12] (by kernel_rfl) rfl ?_
                            refine (all_cons ?_ all_nil)
                            · refine any_op (listed' := #[true, true, true, true, true, true, true, true, true, true, true, true, true]) (by kernel_rfl) (by kernel_rfl) ?_
                              refine at_runW 1 [] [] [1, 2, 3, 8, 14, 15, 16, 17] [pl 1 (.int .i64 who1), pl 2 (.int .i64 deep1), pl 3 (.pointer (some ⟨g4, 0, none⟩)), pl 8 (.slice A6 own5.length c6), pl 14 (.int .i64 best1), pl 15 (.int .i64 where1), pl 16 (.int .i64 i2), pl 17 (.pointer (some ⟨g5, 0, none⟩))] hF hS (by kernel_rfl) (by kernel_rfl) ?_ (fun a hF => ?_)
                              · exact obs_nil
                              refine any_finI rfl (fun h => h) ?_
                              refine any_end (by kernel_rfl) ?_
                              refine np_n ?_
                              refine then_n ?_
                              have hS := hS.pickN 4 [2, 3, 1, 0] (by decide)
                              exact ⟨r4.1, r4.2.1, r4.2.2.1, g5, A11, c11, hF.weak [1, 2, 3, 8, 14, 15, 16, 17] (by kernel_rfl), hS, hm⟩
          · refine reg [] [] [1, 2, 3, 8, 14, 15, 16, 83] [pl 1 (.int .i64 who1), pl 2 (.int .i64 deep1), pl 3 (.pointer (some ⟨g4, 0, none⟩)), pl 8 (.slice A6 own5.length c6), pl 14 (.int .i64 best1), pl 15 (.int .i64 where1), pl 16 (.int .i64 i2), pl 83 (.bool (decide (i2 < (own5.length : Int))))] hF hS Fol (by kernel_rfl) (by kernel_rfl) (by kernel_rfl) ?_ (fun a w hF hS => ?_)
            · exact obs_nil
            refine cond_ev (t := 83) (b := decide (i2 < (own5.length : Int))) hF (by kernel_rfl) (fun hb => ?_) (fun hb => ?_)
            · replace hm := if_t hm hb
              refine wp_skip ?_
              refine then_n ?_
              exact ⟨hF.weak [1, 2, 3, 8, 14, 15, 16] (by kernel_rfl), hS, hm⟩
            · replace hm := if_f hm hb
              refine wp_exit ?_
              refine then_e (then_e (block_e (then_n ?_)))
              have hS := hS.pickN 2 [] (by decide)
              rw [← hφ2] at hm
              replace hm := done_b hm
              unfold gameroomref_OthelloBest_K2 at hm
              try dsimp only at hm
              have hm : (gameroomref_OthelloBest_J8 best1 where1).bind some = some r := hm
              exact ⟨best1, where1, hF.weak [14, 15] (by kernel_rfl), hS, hm⟩
      · refine reg [] [] [1, 2, 3, 8, 69] [pl 1 (.int .i64 who1), pl 2 (.int .i64 deep1), pl 3 (.pointer (some ⟨g4, 0, none⟩)), pl 8 (.slice A6 own5.length c6), pl 69 (.bool ((own5.length : Int) == 0))] hF hS Fol (by kernel_rfl) (by kernel_rfl) (by kernel_rfl) ?_ (fun a w hF hS => ?_)
        · exact obs_nil
        refine cond_ev (t := 69) (b := ((own5.length : Int) == 0)) hF (by kernel_rfl) (fun hb => ?_) (fun hb => ?_)
        · replace hm := if_t hm hb
          obtain ⟨r3, hr3, hm⟩ := call_b hm
          refine reg [⟨false, [], vS (Instr.loadAt 24 (.pointer (some ⟨g4, 0, none⟩))), .agg #[.int .i64 g1, .int .i64 g2, .slice A1 g3.length c1]⟩, ⟨false, [], callFunc 38 #[.agg #[.int .i64 g1, .int .i64 g2, .slice A1 g3.length c1], .int .i64 (w64 (3 - who1)), .int .i64 deep1], .tuple #[.int .i64 r3.1, .int .i64 r3.2]⟩] [some (.agg #[.int .i64 g1, .int .i64 g2, .slice A1 g3.length c1]), none, none, none, some (.tuple #[.int .i64 r3.1, .int .i64 r3.2]), none, none, none, none, none] [12] [pl 12 (.int .i64 r3.1)] hF hS Fol (by kernel_rfl) (by kernel_rfl) (by kernel_rfl) ?_ (fun a w hF hS => ?_)
          · exact obs_cons (ob_loadA (cs := #[.int .i64 g1, .int .i64 g2, .slice A1 g3.length c1]) (by kernel_rfl) (by kernel_rfl) (fun _ _ hS => (hS.at_ 0 rfl).cellsAt 0 (by rfl))) <| obs_cons (ob_call Try.func38 (by kernel_rfl) rfl (fun _ _ hS => ih_gameroomref_OthelloBest hr3 hS (fun _ hS => (hr_g3 _ (hS.dropN 2))) _hc_g3 rfl)) <| obs_nil
          refine reg [] [] [6, 7] [pl 6 (.int .i64 (w64 (0 - r3.1))), pl 7 (.int .i64 (-1))] hF hS Fol (by kernel_rfl) (by kernel_rfl) (by kernel_rfl) ?_ (fun a w hF hS => ?_)
          · exact obs_nil
          refine wp_ret ?_
          refine then_r ?_
          have hS := hS.pickN 2 [] (by decide)
          have hm : some ((w64 (0 - r3.1)), (-1)) = some r := hm
          obtain rfl := Option.some.inj hm
          exact retV (rs := [.tmp 6, .tmp 7]) (vs := [.int .i64 (w64 (0 - r3.1)), .int .i64 (-1)]) hF rfl (rv_t (by kernel_rfl) <| rv_t (by kernel_rfl) <| rv_nil) rfl ⟨rfl, hS⟩
        · replace hm := if_f hm hb
          refine wp_skip ?_
          refine then_n ?_
          exact ⟨hF.weak [1, 2, 3, 8] (by kernel_rfl), hS, hm⟩
    · refine reg [] [] [1, 2, 3, 8, 39] [pl 1 (.int .i64 who1), pl 2 (.int .i64 deep1), pl 3 (.pointer (some ⟨g4, 0, none⟩)), pl 8 (.slice A6 own5.length c6), pl 39 (.bool ((deep1 == 0) || (((own5.length : Int) == 0) && ((other1.length : Int) == 0))))] hF hS Fol (by kernel_rfl) (by kernel_rfl) (by kernel_rfl) ?_ (fun a w hF hS => ?_)
      · exact obs_nil
      refine cond_ev (t := 39) (b := (deep1 == 0) || (((own5.length : Int) == 0) && ((other1.length : Int) == 0))) hF (by kernel_rfl) (fun hb => ?_) (fun hb => ?_)
      · replace hm := if_t hm hb
        refine reg [] [] [1, 3, 10] [pl 1 (.int .i64 who1), pl 3 (.pointer (some ⟨g4, 0, none⟩)), pl 10 (.int .i64 0)] hF hS Fol (by kernel_rfl) (by kernel_rfl) (by kernel_rfl) ?_ (fun a w hF hS => ?_)
        · exact obs_nil
        refine seq_cut (fun a w => ∃ (n3 : Int), Fr 117 [pl 10 (.int .i64 n3)] a ∧ Sep w0 B w (fs) ∧ (gameroomref_OthelloBest_J3 n3).bind some = some r) ?_ ?_
        · rintro a w ⟨n3, hF, hS, hm⟩
          unfold gameroomref_OthelloBest_J3 at hm
          refine reg [] [] [6, 7] [pl 6 (.int .i64 n3), pl 7 (.int .i64 (-1))] hF hS Fol (by kernel_rfl) (by kernel_rfl) (by kernel_rfl) ?_ (fun a w hF hS => ?_)
          · exact obs_nil
          refine wp_ret ?_
          refine then_r ?_
          have hm : some (n3, (-1)) = some r := hm
          obtain rfl := Option.some.inj hm
          exact retV (rs := [.tmp 6, .tmp 7]) (vs := [.int .i64 n3, .int .i64 (-1)]) hF rfl (rv_t (by kernel_rfl) <| rv_t (by kernel_rfl) <| rv_nil) rfl ⟨rfl, hS⟩
        · refine reg [] [] [1, 3, 10, 11] [pl 1 (.int .i64 who1), pl 3 (.pointer (some ⟨g4, 0, none⟩)), pl 10 (.int .i64 0), pl 11 (.int .i64 0)] hF hS Fol (by kernel_rfl) (by kernel_rfl) (by kernel_rfl) ?_ (fun a w hF hS => ?_)
          · exact obs_nil
          refine wp_block ?_
          have hS := hS.pickN 3 [0] (by decide)
          refine wp_loop_model (S := (Int × Int)) (R := Int) (gameroomref_OthelloBest_L1 g3 who1) (fun x => (gameroomref_OthelloBest_K1 x).bind some) r (fun (x : (Int × Int)) a w => Fr 117 [pl 1 (.int .i64 who1), pl 3 (.pointer (some ⟨g4, 0, none⟩)), pl 10 (.int .i64 x.1), pl 11 (.int .i64 x.2)] a ∧ Sep w0 B w (blk g4 24 #[.int .i64 g1, .int .i64 g2, .slice A1 g3.length c1] :: fs)) (assoc_b hm) ⟨hF.weak [1, 3, 10, 11] (by kernel_rfl), hS⟩ ?_
          clear hF hS hm
          rintro nn1 ⟨n2, i1⟩ a w ⟨hF, hS⟩ hm
          generalize hφ1 : stK (gameroomref_OthelloBest_L1 g3 who1) nn1 (fun x => (gameroomref_OthelloBest_K1 x).bind some) = φ1 at hm
          unfold gameroomref_OthelloBest_L1 at hm
          dsimp only at hF hS hm
          refine seq_cut (fun a w => Fr 117 [pl 1 (.int .i64 who1), pl 3 (.pointer (some ⟨g4, 0, none⟩)), pl 10 (.int .i64 n2), pl 11 (.int .i64 i1)] a ∧ Sep w0 B w (blk g4 24 #[.int .i64 g1, .int .i64 g2, .slice A1 g3.length c1] :: fs) ∧ ((gameroomref_OthelloBest_J4 g3 who1 n2 i1)).bind φ1 = some r) ?_ ?_
          · rintro a w ⟨hF, hS, hm⟩
            unfold gameroomref_OthelloBest_J4 at hm
            refine seq_cut (fun a w => ∃ (n5 : Int), Fr 117 [pl 1 (.int .i64 who1), pl 3 (.pointer (some ⟨g4, 0, none⟩)), pl 10 (.int .i64 n5), pl 11 (.int .i64 i1)] a ∧ Sep w0 B w (blk g4 24 #[.int .i64 g1, .int .i64 g2, .slice A1 g3.length c1] :: fs) ∧ ((gameroomref_OthelloBest_J5 i1) n5).bind φ1 = some r) ?_ ?_
            · rintro a w ⟨n5, hF, hS, hm⟩
              unfold gameroomref_OthelloBest_J5 at hm
              refine reg1 [] [] [1, 3, 10, 11] [pl 1 (.int .i64 who1), pl 3 (.pointer (some ⟨g4, 0, none⟩)), pl 10 (.int .i64 n5), pl 11 (.int .i64 (w64 (i1 + 1)))] hF hS Fol (by kernel_rfl) (by kernel_rfl) (by kernel_rfl) ?_ (fun a w hF hS => ?_)
              · exact obs_nil
              refine then_n ?_
              rw [← hφ1] at hm
              exact ⟨(n5, (w64 (i1 + 1))), ⟨hF.weak [1, 3, 10, 11] (by kernel_rfl), hS⟩, hm⟩
            · refine wp_block ?_
              refine seq_cut (fun a w => ∃ (n4 : Int), Fr 117 [pl 1 (.int .i64 who1), pl 3 (.pointer (some ⟨g4, 0, none⟩)), pl 10 (.int .i64 n4), pl 11 (.int .i64 i1)] a ∧ Sep w0 B w (blk g4 24 #[.int .i64 g1, .int .i64 g2, .slice A1 g3.length c1] :: fs) ∧ ((gameroomref_OthelloBest_J6 g3 who1 i1) n4).bind φ1 = some r) ?_ ?_
              · rintro a w ⟨n4, hF, hS, hm⟩
                unfold gameroomref_OthelloBest_J6 at hm
                obtain ⟨hp2, hm⟩ := asrt_b hm
                refine reg [⟨false, [], vS (Instr.loadAt 22 (.pointer (some ⟨g4, 2, none⟩))), .slice A1 g3.length c1⟩, ⟨true, [], vS (Instr.indexAt 22 (.slice A1 g3.length c1) (.int .i64 i1)), .pointer (some (sAddr A1 i1))⟩, ⟨false, [], vS (Instr.loadAt 3 (.pointer (some (sAddr A1 i1)))), .int .i64 (geti g3 i1)⟩] [none, some (.slice A1 g3.length c1), none, some (.pointer (some (sAddr A1 i1))), some (.int .i64 (geti g3 i1)), none, none, none] [1, 3, 10, 11, 63] [pl 1 (.int .i64 who1), pl 3 (.pointer (some ⟨g4, 0, none⟩)), pl 10 (.int .i64 n4), pl 11 (.int .i64 i1), pl 63 (.bool ((geti g3 i1) == (w64 (3 - who1))))] hF hS Fol (by kernel_rfl) (by kernel_rfl) (by kernel_rfl) ?_ (fun a w hF hS => ?_)
                · exact obs_cons (ob_load Agg22 (fun _ _ hS => (hS.at_ 0 rfl).cell rfl)) <| obs_cons (ob_ix1 (f := (Value.int .i64)) (m := g3) Und22 hi3 hs3 (hr_g3 _ (hS.dropN 1)) rfl (fun _ => hp2)) <| obs_cons (ob_get1 (n := g3.length) (m := g3) (Value.int .i64) (0 : Int) Agg3 (fun _ hS => ⟨_, (hr_g3 _ (hS.dropN 1))⟩) (fun _ hS => rfl) (fun _ => hp2)) <| obs_nil
                refine cond_ev (t := 63) (b := ((geti g3 i1) == (w64 (3 - who1)))) hF (by kernel_rfl) (fun hb => ?_) (fun hb => ?_)
                · replace hm := if_t hm hb
                  refine reg1 [] [] [1, 3, 10, 11] [pl 1 (.int .i64 who1), pl 3 (.pointer (some ⟨g4, 0, none⟩)), pl 10 (.int .i64 (w64 (n4 - 1))), pl 11 (.int .i64 i1)] hF hS Fol (by kernel_rfl) (by kernel_rfl) (by kernel_rfl) ?_ (fun a w hF hS => ?_)
                  · exact obs_nil
                  refine block_n ?_
                  refine then_n ?_
                  exact ⟨(w64 (n4 - 1)), hF.weak [1, 3, 10, 11] (by kernel_rfl), hS, hm⟩
                · replace hm := if_f hm hb
                  refine wp_skip ?_
                  refine block_n ?_
                  refine then_n ?_
                  exact ⟨n4, hF.weak [1, 3, 10, 11] (by kernel_rfl), hS, hm⟩
              · obtain ⟨hp1, hm⟩ := asrt_b hm
                refine reg [⟨false, [], vS (Instr.loadAt 22 (.pointer (some ⟨g4, 2, none⟩))), .slice A1 g3.length c1⟩, ⟨true, [], vS (Instr.indexAt 22 (.slice A1 g3.length c1) (.int .i64 i1)), .pointer (some (sAddr A1 i1))⟩, ⟨false, [], vS (Instr.loadAt 3 (.pointer (some (sAddr A1 i1)))), .int .i64 (geti g3 i1)⟩] [none, some (.slice A1 g3.length c1), none, some (.pointer (some (sAddr A1 i1))), some (.int .i64 (geti g3 i1)), none, none] [1, 3, 10, 11, 53] [pl 1 (.int .i64 who1), pl 3 (.pointer (some ⟨g4, 0, none⟩)), pl 10 (.int .i64 n2), pl 11 (.int .i64 i1), pl 53 (.bool ((geti g3 i1) == who1))] hF hS Fol (by kernel_rfl) (by kernel_rfl) (by kernel_rfl) ?_ (fun a w hF hS => ?_)
                · exact obs_cons (ob_load Agg22 (fun _ _ hS => (hS.at_ 0 rfl).cell rfl)) <| obs_cons (ob_ix1 (f := (Value.int .i64)) (m := g3) Und22 hi3 hs3 (hr_g3 _ (hS.dropN 1)) rfl (fun _ => hp1)) <| obs_cons (ob_get1 (n := g3.length) (m := g3) (Value.int .i64) (0 : Int) Agg3 (fun _ hS => ⟨_, (hr_g3 _ (hS.dropN 1))⟩) (fun _ hS => rfl) (fun _ => hp1)) <| obs_nil
                refine cond_ev (t := 53) (b := ((geti g3 i1) == who1)) hF (by kernel_rfl) (fun hb => ?_) (fun hb => ?_)
                · replace hm := if_t hm hb
                  refine reg1 [] [] [1, 3, 10, 11] [pl 1 (.int .i64 who1), pl 3 (.pointer (some ⟨g4, 0, none⟩)), pl 10 (.int .i64 (w64 (n2 + 1))), pl 11 (.int .i64 i1)] hF hS Fol (by kernel_rfl) (by kernel_rfl) (by kernel_rfl) ?_ (fun a w hF hS => ?_)
                  · exact obs_nil
                  refine then_n ?_
                  exact ⟨(w64 (n2 + 1)), hF.weak [1, 3, 10, 11] (by kernel_rfl), hS, hm⟩
                · replace hm := if_f hm hb
                  refine wp_skip ?_
                  refine then_n ?_
                  exact ⟨n2, hF.weak [1, 3, 10, 11] (by kernel_rfl), hS, hm⟩
          · refine reg [⟨false, [], vS (Instr.loadAt 22 (.pointer (some ⟨g4, 2, none⟩))), .slice A1 g3.length c1⟩] [none, none, some (.slice A1 g3.length c1), none, none] [1, 3, 10, 11, 44] [pl 1 (.int .i64 who1), pl 3 (.pointer (some ⟨g4, 0, none⟩)), pl 10 (.int .i64 n2), pl 11 (.int .i64 i1), pl 44 (.bool (decide (i1 < (g3.length : Int))))] hF hS Fol (by kernel_rfl) (by kernel_rfl) (by kernel_rfl) ?_ (fun a w hF hS => ?_)
            · exact obs_cons (ob_load Agg22 (fun _ _ hS => (hS.at_ 0 rfl).cell rfl)) <| obs_nil
            refine cond_ev (t := 44) (b := decide (i1 < (g3.length : Int))) hF (by kernel_rfl) (fun hb => ?_) (fun hb => ?_)
            · replace hm := if_t hm hb
              refine wp_skip ?_
              refine then_n ?_
              exact ⟨hF.weak [1, 3, 10, 11] (by kernel_rfl), hS, hm⟩
            · replace hm := if_f hm hb
              refine wp_exit ?_
              refine then_e (then_e (block_e (then_n ?_)))
              have hS := hS.pickN 1 [] (by decide)
              rw [← hφ1] at hm
              replace hm := done_b hm
              unfold gameroomref_OthelloBest_K1 at hm
              try dsimp only at hm
              have hm : (gameroomref_OthelloBest_J3 n2).bind some = some r := hm
              exact ⟨n2, hF.weak [10] (by kernel_rfl), hS, hm⟩
      · replace hm := if_f hm hb
        refine wp_skip ?_
        refine then_n ?_
        have hS := hS.pickN 3 [0, 1] (by decide)
        exact ⟨hF.weak [1, 2, 3, 8] (by kernel_rfl), hS, hm⟩
  · obtain ⟨r1, hr1, hm⟩ := call_b hm
    obtain ⟨r2, hr2, hm⟩ := call_b hm
    refine regMix5 [0, 1, 3, 4, 5] [] 4 #[true, true, false, true, true, true, false, false, false] [⟨false, [], vS (Instr.loadAt 24 (.pointer (some ⟨g4, 0, none⟩))), .agg #[.int .i64 g1, .int .i64 g2, .slice A1 g3.length c1]⟩, ⟨false, [], vS (Instr.loadAt 24 (.pointer (some ⟨g4, 0, none⟩))), .agg #[.int .i64 g1, .int .i64 g2, .slice A1 g3.length c1]⟩] [some (.agg #[.int .i64 g1, .int .i64 g2, .slice A1 g3.length c1]), none, some (.agg #[.int .i64 g1, .int .i64 g2, .slice A1 g3.length c1]), none, none] [1, 2, 3, 21, 22, 24, 26] [pl 1 (.int .i64 who1), pl 2 (.int .i64 deep1), pl 3 (.pointer (some ⟨g4, 0, none⟩)), pl 21 (.agg #[.int .i64 g1, .int .i64 g2, .slice A1 g3.length c1]), pl 22 (.int .i64 who1), pl 24 (.agg #[.int .i64 g1, .int .i64 g2, .slice A1 g3.length c1]), pl 26 (.int .i64 (w64 (3 - who1)))] hF hS Fol (by kernel_rfl) (by kernel_rfl) (by kernel_rfl) (by kernel_rfl) ?_ (fun a w hF hS => ?_)
    · exact obs_cons (ob_loadA (cs := #[.int .i64 g1, .int .i64 g2, .slice A1 g3.length c1]) (by kernel_rfl) (by kernel_rfl) (fun _ _ hS => (hS.at_ 0 rfl).cellsAt 0 (by rfl))) <| obs_cons (ob_loadA (cs := #[.int .i64 g1, .int .i64 g2, .slice A1 g3.length c1]) (by kernel_rfl) (by kernel_rfl) (fun _ _ hS => (hS.at_ 0 rfl).cellsAt 0 (by rfl))) <| obs_nil
    refine any_step [2] (by kernel_rfl) rfl ?_
    refine (all_cons ?_ all_nil)
    · refine any_op (listed' := #[true, true, true, true, true, true, false, false, false]) (by kernel_rfl) (by kernel_rfl) ?_
      refine at_call (f := 21) (args := #[.agg #[.int .i64 g1, .int .i64 g2, .slice A1 g3.length c1], .int .i64 who1]) (d := 23) hF (by kernel_rfl) (by kernel_rfl) Try.func21 (by kernel_rfl) rfl (gameroomref_SignPlaces_w hr1 hS (fun _ hS => (hr_g3 _ (hS.dropN 1))) _hc_g3 rfl) (fun v a w hR hF => ?_)
      clear hS
      obtain ⟨A4, c4, rfl, hS⟩ := hR
      have hS : Sep w0 B w (own 3 (.slice A4 r1.length c4) (vI r1) :: blk g4 24 #[.int .i64 g1, .int .i64 g2, .slice A1 g3.length c1] :: fs) := hS
      refine any_fin rfl (hS.pickN 2 [1] (by decide)) ?_
      refine any_step [6] (by kernel_rfl) rfl ?_
      refine (all_cons ?_ all_nil)
      · refine any_op (listed' := #[true, true, true, true, true, true, true, false, false]) (by kernel_rfl) (by kernel_rfl) ?_
        refine at_call (f := 21) (args := #[.agg #[.int .i64 g1, .int .i64 g2, .slice A1 g3.length c1], .int .i64 (w64 (3 - who1))]) (d := 27) hF (by kernel_rfl) (by kernel_rfl) Try.func21 (by kernel_rfl) rfl (gameroomref_SignPlaces_w hr2 hS (fun _ hS => (hr_g3 _ (hS.dropN 2))) _hc_g3 rfl) (fun v a w hR hF => ?_)
        clear hS
        obtain ⟨A5, c5, rfl, hS⟩ := hR
        have hS : Sep w0 B w (own 3 (.slice A5 r2.length c5) (vI r2) :: own 3 (.slice A4 r1.length c4) (vI r1) :: blk g4 24 #[.int .i64 g1, .int .i64 g2, .slice A1 g3.length c1] :: fs) := hS
        refine any_fin rfl (hS.pickN 3 [2] (by decide)) ?_
        refine any_step [7] (by kernel_rfl) rfl ?_
        refine (all_cons ?_ all_nil)
        · refine any_op (listed' := #[true, true, true, true, true, true, true, true, false]) (by kernel_rfl) (by kernel_rfl) ?_
          refine at_runW 1 [] [] [1, 2, 3, 8, 27] [pl 1 (.int .i64 who1), pl 2 (.int .i64 deep1), pl 3 (.pointer (some ⟨g4, 0, none⟩)), pl 8 (.slice A4 r1.length c4), pl 27 (.slice A5 r2.length c5)] hF hS (by kernel_rfl) (by kernel_rfl) ?_ (fun a hF => ?_)
          · exact obs_nil
          refine any_finI rfl (fun h => h) ?_
          refine any_step [8] (by kernel_rfl) rfl ?_
          refine (all_cons ?_ all_nil)
          · refine any_op (listed' := #[true, true, true, true, true, true, true, true, true]) (by kernel_rfl) (by kernel_rfl) ?_
            refine at_runW 1 [] [] [1, 2, 3, 8, 9] [pl 1 (.int .i64 who1), pl 2 (.int .i64 deep1), pl 3 (.pointer (some ⟨g4, 0, none⟩)), pl 8 (.slice A4 r1.length c4), pl 9 (.slice A5 r2.length c5)] hF hS (by kernel_rfl) (by kernel_rfl) ?_ (fun a hF => ?_)
            · exact obs_nil
            refine any_finI rfl (fun h => h) ?_
            refine any_end (by kernel_rfl) ?_
            refine np_n ?_
            refine then_n ?_
            have hS := hS.pickN 3 [2, 1, 0] (by decide)
            exact ⟨r1, r2, A4, c4, A5, c5, hF.weak [1, 2, 3, 8, 9] (by kernel_rfl), hS, hm⟩

theorem gameroomref_OthelloBest_w {g1 : Int} {g2 : Int} {A1 : Option Addr} {c1 : Nat} {n1 : Nat} {g3 : List Int} {who1 : Int} {deep1 : Int} {r : (Int × Int)} {w0 w : World} {B : Nat} {fs : List HP} (hm : gameroomref_OthelloBest_m g1 g2 g3 who1 deep1 = some r) (hS : Sep w0 B w (fs)) (hr_g3 : RdF w0 B fs A1 (vI g3)) (_hc_g3 : g3.length ≤ c1) (_hn_g3 : n1 = g3.length) :
    Calls Try.prog 38 #[.agg #[.int .i64 g1, .int .i64 g2, .slice A1 n1 c1], .int .i64 who1, .int .i64 deep1] w fun e w' => e = .returned (.tuple #[.int .i64 r.1, .int .i64 r.2]) ∧ Sep w0 B w' (fs) := by
  have key : ∀ (n : Nat) {g1 : Int} {g2 : Int} {A1 : Option Addr} {c1 : Nat} {n1 : Nat} {g3 : List Int} {who1 : Int} {deep1 : Int} {r : (Int × Int)} {w0 w : World} {B : Nat} {fs : List HP} (_ : gameroomref_OthelloBest_mF n g1 g2 g3 who1 deep1 = some r) (_ : Sep w0 B w (fs)) (hr_g3 : RdF w0 B fs A1 (vI g3)) (_hc_g3 : g3.length ≤ c1) (_hn_g3 : n1 = g3.length), Calls Try.prog 38 #[.agg #[.int .i64 g1, .int .i64 g2, .slice A1 n1 c1], .int .i64 who1, .int .i64 deep1] w fun e w' => e = .returned (.tuple #[.int .i64 r.1, .int .i64 r.2]) ∧ Sep w0 B w' (fs) := by
    intro n
    induction n with
    | zero => intros; rename_i hm0 _ _ _ _; cases hm0
    | succ n ih => intros; rename_i hm0 hS0 h0 h1 h2; exact gameroomref_OthelloBest_wB (rec_gameroomref_OthelloBest := gameroomref_OthelloBest_mF n) (fun hm hS h0 h1 h2 => ih hm hS h0 h1 h2) hm0 hS0 h0 h1 h2
  obtain ⟨n, hn⟩ := recM_some hm
  exact key n hn hS hr_g3 _hc_g3 _hn_g3

theorem gameroomref_OthelloBest_J11_le_gameroomref_OthelloBest {rec_gameroomref_OthelloBest1 rec_gameroomref_OthelloBest2 : Int → Int → List Int → Int → Int → Option (Int × Int)} (h_rec_gameroomref_OthelloBest : ∀ a0 a1 a2 a3 a4, Le (rec_gameroomref_OthelloBest1 a0 a1 a2 a3 a4) (rec_gameroomref_OthelloBest2 a0 a1 a2 a3 a4)) (who1 : Int) (deep1 : Int) (own5 : List Int) (best1 : Int) (where1 : Int) (i2 : Int) (x1 : Int) (x2 : Int) (x3 : List Int) : Le (gameroomref_OthelloBest_J11 rec_gameroomref_OthelloBest1 who1 deep1 own5 best1 where1 i2 x1 x2 x3) (gameroomref_OthelloBest_J11 rec_gameroomref_OthelloBest2 who1 deep1 own5 best1 where1 i2 x1 x2 x3) := by
  unfold gameroomref_OthelloBest_J11
  repeat' (first | with_reducible exact Le.refl _ | with_reducible exact h_rec_gameroomref_OthelloBest _ _ _ _ _ | refine Le.asrt ?_ | refine Le.ite ?_ ?_ | refine Le.bind ?_ (fun _ => ?_) | refine Le.loop2 (fun _ => ?_) | refine Le.elim2 (fun _ => ?_) (fun _ => ?_))

theorem gameroomref_OthelloBest_J9_le_gameroomref_OthelloBest {rec_gameroomref_OthelloBest1 rec_gameroomref_OthelloBest2 : Int → Int → List Int → Int → Int → Option (Int × Int)} (h_rec_gameroomref_OthelloBest : ∀ a0 a1 a2 a3 a4, Le (rec_gameroomref_OthelloBest1 a0 a1 a2 a3 a4) (rec_gameroomref_OthelloBest2 a0 a1 a2 a3 a4)) (g1 : Int) (g2 : Int) (g3 : List Int) (who1 : Int) (deep1 : Int) (own5 : List Int) (best1 : Int) (where1 : Int) (i2 : Int) : Le (gameroomref_OthelloBest_J9 rec_gameroomref_OthelloBest1 g1 g2 g3 who1 deep1 own5 best1 where1 i2) (gameroomref_OthelloBest_J9 rec_gameroomref_OthelloBest2 g1 g2 g3 who1 deep1 own5 best1 where1 i2) := by
  unfold gameroomref_OthelloBest_J9
  repeat' (first | with_reducible exact Le.refl _ | with_reducible exact h_rec_gameroomref_OthelloBest _ _ _ _ _ | with_reducible exact gameroomref_OthelloBest_J11_le_gameroomref_OthelloBest h_rec_gameroomref_OthelloBest _ _ _ _ _ _ _ _ _ | refine Le.asrt ?_ | refine Le.ite ?_ ?_ | refine Le.bind ?_ (fun _ => ?_) | refine Le.loop2 (fun _ => ?_) | refine Le.elim2 (fun _ => ?_) (fun _ => ?_))

theorem gameroomref_OthelloBest_L2_le_gameroomref_OthelloBest {rec_gameroomref_OthelloBest1 rec_gameroomref_OthelloBest2 : Int → Int → List Int → Int → Int → Option (Int × Int)} (h_rec_gameroomref_OthelloBest : ∀ a0 a1 a2 a3 a4, Le (rec_gameroomref_OthelloBest1 a0 a1 a2 a3 a4) (rec_gameroomref_OthelloBest2 a0 a1 a2 a3 a4)) (g1 : Int) (g2 : Int) (g3 : List Int) (who1 : Int) (deep1 : Int) (own5 : List Int) (x : (Int × Int × Int)) : Le (gameroomref_OthelloBest_L2 rec_gameroomref_OthelloBest1 g1 g2 g3 who1 deep1 own5 x) (gameroomref_OthelloBest_L2 rec_gameroomref_OthelloBest2 g1 g2 g3 who1 deep1 own5 x) := by
  rcases x with ⟨best1, where1, i2⟩
  all_goals
    unfold gameroomref_OthelloBest_L2
    try dsimp only
    repeat' (first | with_reducible exact Le.refl _ | with_reducible exact h_rec_gameroomref_OthelloBest _ _ _ _ _ | with_reducible exact gameroomref_OthelloBest_J9_le_gameroomref_OthelloBest h_rec_gameroomref_OthelloBest _ _ _ _ _ _ _ _ _ | refine Le.asrt ?_ | refine Le.ite ?_ ?_ | refine Le.bind ?_ (fun _ => ?_) | refine Le.loop2 (fun _ => ?_) | refine Le.elim2 (fun _ => ?_) (fun _ => ?_))

theorem gameroomref_OthelloBest_J7_le_gameroomref_OthelloBest {rec_gameroomref_OthelloBest1 rec_gameroomref_OthelloBest2 : Int → Int → List Int → Int → Int → Option (Int × Int)} (h_rec_gameroomref_OthelloBest : ∀ a0 a1 a2 a3 a4, Le (rec_gameroomref_OthelloBest1 a0 a1 a2 a3 a4) (rec_gameroomref_OthelloBest2 a0 a1 a2 a3 a4)) (g1 : Int) (g2 : Int) (g3 : List Int) (who1 : Int) (deep1 : Int) (own5 : List Int) : Le (gameroomref_OthelloBest_J7 rec_gameroomref_OthelloBest1 g1 g2 g3 who1 deep1 own5) (gameroomref_OthelloBest_J7 rec_gameroomref_OthelloBest2 g1 g2 g3 who1 deep1 own5) := by
  unfold gameroomref_OthelloBest_J7
  repeat' (first | with_reducible exact Le.refl _ | with_reducible exact h_rec_gameroomref_OthelloBest _ _ _ _ _ | with_reducible exact gameroomref_OthelloBest_L2_le_gameroomref_OthelloBest h_rec_gameroomref_OthelloBest _ _ _ _ _ _ _ | refine Le.asrt ?_ | refine Le.ite ?_ ?_ | refine Le.bind ?_ (fun _ => ?_) | refine Le.loop2 (fun _ => ?_) | refine Le.elim2 (fun _ => ?_) (fun _ => ?_))

theorem gameroomref_OthelloBest_J2_le_gameroomref_OthelloBest {rec_gameroomref_OthelloBest1 rec_gameroomref_OthelloBest2 : Int → Int → List Int → Int → Int → Option (Int × Int)} (h_rec_gameroomref_OthelloBest : ∀ a0 a1 a2 a3 a4, Le (rec_gameroomref_OthelloBest1 a0 a1 a2 a3 a4) (rec_gameroomref_OthelloBest2 a0 a1 a2 a3 a4)) (g1 : Int) (g2 : Int) (g3 : List Int) (who1 : Int) (deep1 : Int) (own5 : List Int) : Le (gameroomref_OthelloBest_J2 rec_gameroomref_OthelloBest1 g1 g2 g3 who1 deep1 own5) (gameroomref_OthelloBest_J2 rec_gameroomref_OthelloBest2 g1 g2 g3 who1 deep1 own5) := by
  unfold gameroomref_OthelloBest_J2
  repeat' (first | with_reducible exact Le.refl _ | with_reducible exact h_rec_gameroomref_OthelloBest _ _ _ _ _ | with_reducible exact gameroomref_OthelloBest_J7_le_gameroomref_OthelloBest h_rec_gameroomref_OthelloBest _ _ _ _ _ _ | refine Le.asrt ?_ | refine Le.ite ?_ ?_ | refine Le.bind ?_ (fun _ => ?_) | refine Le.loop2 (fun _ => ?_) | refine Le.elim2 (fun _ => ?_) (fun _ => ?_))

theorem gameroomref_OthelloBest_J1_le_gameroomref_OthelloBest {rec_gameroomref_OthelloBest1 rec_gameroomref_OthelloBest2 : Int → Int → List Int → Int → Int → Option (Int × Int)} (h_rec_gameroomref_OthelloBest : ∀ a0 a1 a2 a3 a4, Le (rec_gameroomref_OthelloBest1 a0 a1 a2 a3 a4) (rec_gameroomref_OthelloBest2 a0 a1 a2 a3 a4)) (g1 : Int) (g2 : Int) (g3 : List Int) (who1 : Int) (deep1 : Int) (own5 : List Int) (other1 : List Int) : Le (gameroomref_OthelloBest_J1 rec_gameroomref_OthelloBest1 g1 g2 g3 who1 deep1 own5 other1) (gameroomref_OthelloBest_J1 rec_gameroomref_OthelloBest2 g1 g2 g3 who1 deep1 own5 other1) := by
  unfold gameroomref_OthelloBest_J1
  repeat' (first | with_reducible exact Le.refl _ | with_reducible exact h_rec_gameroomref_OthelloBest _ _ _ _ _ | with_reducible exact gameroomref_OthelloBest_J2_le_gameroomref_OthelloBest h_rec_gameroomref_OthelloBest _ _ _ _ _ _ | refine Le.asrt ?_ | refine Le.ite ?_ ?_ | refine Le.bind ?_ (fun _ => ?_) | refine Le.loop2 (fun _ => ?_) | refine Le.elim2 (fun _ => ?_) (fun _ => ?_))

theorem gameroomref_OthelloBest_B_le {rec_gameroomref_OthelloBest1 rec_gameroomref_OthelloBest2 : Int → Int → List Int → Int → Int → Option (Int × Int)} (h_rec_gameroomref_OthelloBest : ∀ a0 a1 a2 a3 a4, Le (rec_gameroomref_OthelloBest1 a0 a1 a2 a3 a4) (rec_gameroomref_OthelloBest2 a0 a1 a2 a3 a4)) (g1 : Int) (g2 : Int) (g3 : List Int) (who1 : Int) (deep1 : Int) : Le (gameroomref_OthelloBest_B rec_gameroomref_OthelloBest1 g1 g2 g3 who1 deep1) (gameroomref_OthelloBest_B rec_gameroomref_OthelloBest2 g1 g2 g3 who1 deep1) := by
  unfold gameroomref_OthelloBest_B
  repeat' (first | with_reducible exact Le.refl _ | with_reducible exact h_rec_gameroomref_OthelloBest _ _ _ _ _ | with_reducible exact gameroomref_OthelloBest_J1_le_gameroomref_OthelloBest h_rec_gameroomref_OthelloBest _ _ _ _ _ _ _ | refine Le.asrt ?_ | refine Le.ite ?_ ?_ | refine Le.bind ?_ (fun _ => ?_) | refine Le.loop2 (fun _ => ?_) | refine Le.elim2 (fun _ => ?_) (fun _ => ?_))

theorem gameroomref_OthelloBest_mF_le : ∀ (n : Nat) (g1 : Int) (g2 : Int) (g3 : List Int) (who1 : Int) (deep1 : Int), Le (gameroomref_OthelloBest_mF n g1 g2 g3 who1 deep1) (gameroomref_OthelloBest_mF (n + 1) g1 g2 g3 who1 deep1)
  | 0, _, _, _, _, _ => fun _ h => by cases h
  | n + 1, _, _, _, _, _ => gameroomref_OthelloBest_B_le (fun a0 a1 a2 a3 a4 => gameroomref_OthelloBest_mF_le n a0 a1 a2 a3 a4) _ _ _ _ _

theorem gameroomref_OthelloBest_m_of (N : Nat) (g1 : Int) (g2 : Int) (g3 : List Int) (who1 : Int) (deep1 : Int) {r : (Int × Int)} (h : gameroomref_OthelloBest_mF N g1 g2 g3 who1 deep1 = some r) : gameroomref_OthelloBest_m g1 g2 g3 who1 deep1 = some r :=
  recM_mono (fun n => gameroomref_OthelloBest_mF_le n _ _ _ _ _) h

noncomputable def gameroomlaw_OthelloBests_J2 (g1 : Int) (g2 : Int) (g3 : List Int) (who1 : Int) (deep1 : Int) (r2 : (Int × Int × Int)) : Option Bool :=
  (gameroomref_OthelloBest_m g1 g2 g3 who1 deep1).bind fun r4 => some (((r2.2.2 == 0) && (r2.1 == r4.1)) && (r2.2.1 == r4.2))

noncomputable def gameroomlaw_OthelloBests_J1 (g1 : Int) (g2 : Int) (g3 : List Int) (who1 : Int) (deep1 : Int) (r2 : (Int × Int × Int)) (no1 : Int) : Option Bool :=
  if (no1 != 0) then (some (((r2.2.2 == no1) && (r2.1 == 0)) && (r2.2.1 == 0))) else ((gameroomlaw_OthelloBests_J2 g1 g2 g3 who1 deep1 r2))

noncomputable def gameroomlaw_OthelloBests_m (g1 : Int) (g2 : Int) (g3 : List Int) (who1 : Int) (deep1 : Int) : Option Bool :=
  (gameroomref_GridOf_m g1 g2 g3).bind fun r1 => (othello_Best_m r1.1 r1.2.1 r1.2.2 who1 deep1).bind fun r2 => (gameroomref_OthelloMay_m g1 g2 g3).bind fun r3 => if (!r3) then ((gameroomlaw_OthelloBests_J1 g1 g2 g3 who1 deep1 r2) 12) else (if ((who1 != 1) && (who1 != 2)) then ((gameroomlaw_OthelloBests_J1 g1 g2 g3 who1 deep1 r2) 4) else (if ((decide (deep1 < 0)) || (decide ((6 : Int) < deep1))) then ((gameroomlaw_OthelloBests_J1 g1 g2 g3 who1 deep1 r2) 3) else ((gameroomlaw_OthelloBests_J1 g1 g2 g3 who1 deep1 r2) 0)))

set_option maxRecDepth 100000 in
set_option maxHeartbeats 4000000 in
theorem gameroomlaw_OthelloBests_w {g1 : Int} {g2 : Int} {A1 : Option Addr} {c1 : Nat} {n1 : Nat} {g3 : List Int} {who1 : Int} {deep1 : Int} {r : Bool} {w0 w : World} {B : Nat} {fs : List HP} (hm : gameroomlaw_OthelloBests_m g1 g2 g3 who1 deep1 = some r) (hS : Sep w0 B w (fs)) (hr_g3 : RdF w0 B fs A1 (vI g3)) (_hc_g3 : g3.length ≤ c1) (_hn_g3 : n1 = g3.length) :
    Calls Try.prog 7 #[.agg #[.int .i64 g1, .int .i64 g2, .slice A1 n1 c1], .int .i64 who1, .int .i64 deep1] w fun e w' => e = .returned (.bool r) ∧ Sep w0 B w' (fs) := by
  obtain ⟨i3, hi3, hz3, hs3, hb3⟩ := info_parts Info3
  obtain rfl := _hn_g3
  unfold gameroomlaw_OthelloBests_m at hm
  replace hm := start_b hm
  refine enter (l := [.agg #[.int .i64 g1, .int .i64 g2, .slice A1 g3.length c1], .int .i64 who1, .int .i64 deep1]) (n := 69) Try.func7 rfl rfl (by simp) (fun a hF => ?_)
  refine seqR ?_
  refine at_do (d := 3) (s := vS (Instr.box 24 (.agg #[.int .i64 g1, .int .i64 g2, .slice A1 g3.length c1]))) (v := .pointer (some ⟨w.heap.size, 0, none⟩)) (w' := w.alloc (.cells #[.int .i64 g1, .int .i64 g2, .slice A1 g3.length c1] 24)) hF (by kernel_rfl) (by kernel_rfl) (by kernel_rfl) (fun a hF => ?_)
  have hS : Sep w0 B (w.alloc (.cells #[.int .i64 g1, .int .i64 g2, .slice A1 g3.length c1] 24)) (blk w.heap.size 24 #[.int .i64 g1, .int .i64 g2, .slice A1 g3.length c1] :: (fs)) := hS.box 24 #[.int .i64 g1, .int .i64 g2, .slice A1 g3.length c1]
  generalize w.heap.size = g4 at hF hS
  generalize w.alloc (.cells #[.int .i64 g1, .int .i64 g2, .slice A1 g3.length c1] 24) = w at hS ⊢
  refine at_run 1 [] [] [1, 2, 3] [pl 1 (.int .i64 who1), pl 2 (.int .i64 deep1), pl 3 (.pointer (some ⟨g4, 0, none⟩))] hF hS (by kernel_rfl) (by kernel_rfl) ?_ (fun a w hF hS => ?_)
  · exact obs_nil
  refine at_end [1, 2, 3] [pl 1 (.int .i64 who1), pl 2 (.int .i64 deep1), pl 3 (.pointer (some ⟨g4, 0, none⟩))] hF rfl (by kernel_rfl) (fun hF => ?_)
  refine then_n ?_
  refine seqR ?_
  obtain ⟨r1, hr1, hm⟩ := call_b hm
  obtain ⟨r2, hr2, hm⟩ := call_b hm
  refine at_run 1 [⟨false, [], vS (Instr.loadAt 24 (.pointer (some ⟨g4, 0, none⟩))), .agg #[.int .i64 g1, .int .i64 g2, .slice A1 g3.length c1]⟩] [some (.agg #[.int .i64 g1, .int .i64 g2, .slice A1 g3.length c1])] [1, 2, 3, 14] [pl 1 (.int .i64 who1), pl 2 (.int .i64 deep1), pl 3 (.pointer (some ⟨g4, 0, none⟩)), pl 14 (.agg #[.int .i64 g1, .int .i64 g2, .slice A1 g3.length c1])] hF hS (by kernel_rfl) (by kernel_rfl) ?_ (fun a w hF hS => ?_)
  · exact obs_cons (ob_loadA (cs := #[.int .i64 g1, .int .i64 g2, .slice A1 g3.length c1]) (by kernel_rfl) (by kernel_rfl) (fun _ _ hS => (hS.at_ 0 rfl).cellsAt 0 (by rfl))) <| obs_nil
  refine at_call (f := 13) (args := #[.agg #[.int .i64 g1, .int .i64 g2, .slice A1 g3.length c1]]) (d := 15) hF (by kernel_rfl) (by kernel_rfl) Try.func13 (by kernel_rfl) rfl (gameroomref_GridOf_w hr1 hS (fun _ hS => (hr_g3 _ (hS.dropN 1))) _hc_g3 rfl) (fun v a w hR hF => ?_)
  clear hS
  obtain ⟨A2, c2, rfl, hS⟩ := hR
  have hS : Sep w0 B w (own 3 (.slice A2 r1.2.2.length c2) (vI r1.2.2) :: blk g4 24 #[.int .i64 g1, .int .i64 g2, .slice A1 g3.length c1] :: fs) := hS
  refine at_run 10 [⟨false, [], callFunc 37 #[.agg #[.int .i64 r1.1, .int .i64 r1.2.1, .slice A2 r1.2.2.length c2], .int .i64 who1, .int .i64 deep1], .tuple #[.int .i64 r2.1, .int .i64 r2.2.1, .int .i64 r2.2.2]⟩] [none, none, some (.tuple #[.int .i64 r2.1, .int .i64 r2.2.1, .int .i64 r2.2.2]), none, none, none, none, none, none, none] [1, 2, 3, 7, 8, 9] [pl 1 (.int .i64 who1), pl 2 (.int .i64 deep1), pl 3 (.pointer (some ⟨g4, 0, none⟩)), pl 7 (.int .i64 r2.1), pl 8 (.int .i64 r2.2.1), pl 9 (.int .i64 r2.2.2)] hF hS (by kernel_rfl) (by kernel_rfl) ?_ (fun a w hF hS => ?_)
  · exact obs_cons (ob_call Try.func37 (by kernel_rfl) rfl (fun _ _ hS => othello_Best_w hr2 hS (fun _ hS => (hS.at_ 0 rfl).rd) ((hS.at_ 0 rfl).cap1) rfl)) <| obs_nil
  refine at_end [1, 2, 3, 7, 8, 9] [pl 1 (.int .i64 who1), pl 2 (.int .i64 deep1), pl 3 (.pointer (some ⟨g4, 0, none⟩)), pl 7 (.int .i64 r2.1), pl 8 (.int .i64 r2.2.1), pl 9 (.int .i64 r2.2.2)] hF rfl (by kernel_rfl) (fun hF => ?_)
  refine then_n ?_
  refine reg [] [] [1, 2, 3, 7, 8, 9, 10] [pl 1 (.int .i64 who1), pl 2 (.int .i64 deep1), pl 3 (.pointer (some ⟨g4, 0, none⟩)), pl 7 (.int .i64 r2.1), pl 8 (.int .i64 r2.2.1), pl 9 (.int .i64 r2.2.2), pl 10 (.int .i64 0)] hF hS Fol (by kernel_rfl) (by kernel_rfl) (by kernel_rfl) ?_ (fun a w hF hS => ?_)
  · exact obs_nil
  refine seq_cut (fun a w => ∃ (no1 : Int), Fr 69 [pl 1 (.int .i64 who1), pl 2 (.int .i64 deep1), pl 3 (.pointer (some ⟨g4, 0, none⟩)), pl 7 (.int .i64 r2.1), pl 8 (.int .i64 r2.2.1), pl 9 (.int .i64 r2.2.2), pl 10 (.int .i64 no1)] a ∧ Sep w0 B w (blk g4 24 #[.int .i64 g1, .int .i64 g2, .slice A1 g3.length c1] :: fs) ∧ ((gameroomlaw_OthelloBests_J1 g1 g2 g3 who1 deep1 r2) no1).bind some = some r) ?_ ?_
  · rintro a w ⟨no1, hF, hS, hm⟩
    unfold gameroomlaw_OthelloBests_J1 at hm
    refine seq_cut (fun a w => Fr 69 [pl 1 (.int .i64 who1), pl 2 (.int .i64 deep1), pl 3 (.pointer (some ⟨g4, 0, none⟩)), pl 7 (.int .i64 r2.1), pl 8 (.int .i64 r2.2.1), pl 9 (.int .i64 r2.2.2)] a ∧ Sep w0 B w (blk g4 24 #[.int .i64 g1, .int .i64 g2, .slice A1 g3.length c1] :: fs) ∧ ((gameroomlaw_OthelloBests_J2 g1 g2 g3 who1 deep1 r2)).bind some = some r) ?_ ?_
    · rintro a w ⟨hF, hS, hm⟩
      unfold gameroomlaw_OthelloBests_J2 at hm
      obtain ⟨r4, hr4, hm⟩ := call_b hm
      refine reg [⟨false, [], vS (Instr.loadAt 24 (.pointer (some ⟨g4, 0, none⟩))), .agg #[.int .i64 g1, .int .i64 g2, .slice A1 g3.length c1]⟩, ⟨false, [], callFunc 38 #[.agg #[.int .i64 g1, .int .i64 g2, .slice A1 g3.length c1], .int .i64 who1, .int .i64 deep1], .tuple #[.int .i64 r4.1, .int .i64 r4.2]⟩] [some (.agg #[.int .i64 g1, .int .i64 g2, .slice A1 g3.length c1]), none, none, some (.tuple #[.int .i64 r4.1, .int .i64 r4.2]), none, none, none, none, none] [7, 8, 9, 11, 12] [pl 7 (.int .i64 r2.1), pl 8 (.int .i64 r2.2.1), pl 9 (.int .i64 r2.2.2), pl 11 (.int .i64 r4.1), pl 12 (.int .i64 r4.2)] hF hS Fol (by kernel_rfl) (by kernel_rfl) (by kernel_rfl) ?_ (fun a w hF hS => ?_)
      · exact obs_cons (ob_loadA (cs := #[.int .i64 g1, .int .i64 g2, .slice A1 g3.length c1]) (by kernel_rfl) (by kernel_rfl) (fun _ _ hS => (hS.at_ 0 rfl).cellsAt 0 (by rfl))) <| obs_cons (ob_call Try.func38 (by kernel_rfl) rfl (fun _ _ hS => gameroomref_OthelloBest_w hr4 hS (fun _ hS => (hr_g3 _ (hS.dropN 1))) _hc_g3 rfl)) <| obs_nil
      refine reg [] [] [6] [pl 6 (.bool (((r2.2.2 == 0) && (r2.1 == r4.1)) && (r2.2.1 == r4.2)))] hF hS Fol (by kernel_rfl) (by kernel_rfl) (by kernel_rfl) ?_ (fun a w hF hS => ?_)
      · exact obs_nil
      refine wp_ret ?_
      have hS := hS.pickN 1 [] (by decide)
      have hm : some (((r2.2.2 == 0) && (r2.1 == r4.1)) && (r2.2.1 == r4.2)) = some r := hm
      obtain rfl := Option.some.inj hm
      exact retV (rs := [.tmp 6]) (vs := [.bool (((r2.2.2 == 0) && (r2.1 == r4.1)) && (r2.2.1 == r4.2))]) hF rfl (rv_t (by kernel_rfl) <| rv_nil) rfl ⟨rfl, hS⟩
    · refine reg [] [] [1, 2, 3, 7, 8, 9, 10, 38] [pl 1 (.int .i64 who1), pl 2 (.int .i64 deep1), pl 3 (.pointer (some ⟨g4, 0, none⟩)), pl 7 (.int .i64 r2.1), pl 8 (.int .i64 r2.2.1), pl 9 (.int .i64 r2.2.2), pl 10 (.int .i64 no1), pl 38 (.bool (no1 != 0))] hF hS Fol (by kernel_rfl) (by kernel_rfl) (by kernel_rfl) ?_ (fun a w hF hS => ?_)
      · exact obs_nil
      refine cond_ev (t := 38) (b := (no1 != 0)) hF (by kernel_rfl) (fun hb => ?_) (fun hb => ?_)
      · replace hm := if_t hm hb
        refine reg [] [] [6] [pl 6 (.bool (((r2.2.2 == no1) && (r2.1 == 0)) && (r2.2.1 == 0)))] hF hS Fol (by kernel_rfl) (by kernel_rfl) (by kernel_rfl) ?_ (fun a w hF hS => ?_)
        · exact obs_nil
        refine wp_ret ?_
        refine then_r ?_
        have hS := hS.pickN 1 [] (by decide)
        have hm : some (((r2.2.2 == no1) && (r2.1 == 0)) && (r2.2.1 == 0)) = some r := hm
        obtain rfl := Option.some.inj hm
        exact retV (rs := [.tmp 6]) (vs := [.bool (((r2.2.2 == no1) && (r2.1 == 0)) && (r2.2.1 == 0))]) hF rfl (rv_t (by kernel_rfl) <| rv_nil) rfl ⟨rfl, hS⟩
      · replace hm := if_f hm hb
        refine wp_skip ?_
        refine then_n ?_
        exact ⟨hF.weak [1, 2, 3, 7, 8, 9] (by kernel_rfl), hS, hm⟩
  · obtain ⟨r3, hr3, hm⟩ := call_b hm
    refine reg [⟨false, [], vS (Instr.loadAt 24 (.pointer (some ⟨g4, 0, none⟩))), .agg #[.int .i64 g1, .int .i64 g2, .slice A1 g3.length c1]⟩, ⟨false, [], callFunc 19 #[.agg #[.int .i64 g1, .int .i64 g2, .slice A1 g3.length c1]], .bool r3⟩] [some (.agg #[.int .i64 g1, .int .i64 g2, .slice A1 g3.length c1]), some (.bool r3), none] [1, 2, 3, 7, 8, 9, 10, 24] [pl 1 (.int .i64 who1), pl 2 (.int .i64 deep1), pl 3 (.pointer (some ⟨g4, 0, none⟩)), pl 7 (.int .i64 r2.1), pl 8 (.int .i64 r2.2.1), pl 9 (.int .i64 r2.2.2), pl 10 (.int .i64 0), pl 24 (.bool (!r3))] hF hS Fol (by kernel_rfl) (by kernel_rfl) (by kernel_rfl) ?_ (fun a w hF hS => ?_)
    · exact obs_cons (ob_loadA (cs := #[.int .i64 g1, .int .i64 g2, .slice A1 g3.length c1]) (by kernel_rfl) (by kernel_rfl) (fun _ _ hS => (hS.at_ 1 rfl).cellsAt 0 (by rfl))) <| obs_cons (ob_call Try.func19 (by kernel_rfl) rfl (fun _ _ hS => gameroomref_OthelloMay_w hr3 hS (fun _ hS => (hr_g3 _ (hS.dropN 2))) _hc_g3 rfl)) <| obs_nil
    refine cond_ev (t := 24) (b := !r3) hF (by kernel_rfl) (fun hb => ?_) (fun hb => ?_)
    · replace hm := if_t hm hb
      refine reg1 [] [] [1, 2, 3, 7, 8, 9, 10] [pl 1 (.int .i64 who1), pl 2 (.int .i64 deep1), pl 3 (.pointer (some ⟨g4, 0, none⟩)), pl 7 (.int .i64 r2.1), pl 8 (.int .i64 r2.2.1), pl 9 (.int .i64 r2.2.2), pl 10 (.int .i64 12)] hF hS Fol (by kernel_rfl) (by kernel_rfl) (by kernel_rfl) ?_ (fun a w hF hS => ?_)
      · exact obs_nil
      refine then_n ?_
      have hS := hS.pickN 2 [1] (by decide)
      exact ⟨12, hF.weak [1, 2, 3, 7, 8, 9, 10] (by kernel_rfl), hS, hm⟩
    · replace hm := if_f hm hb
      refine reg [] [] [1, 2, 3, 7, 8, 9, 10, 30] [pl 1 (.int .i64 who1), pl 2 (.int .i64 deep1), pl 3 (.pointer (some ⟨g4, 0, none⟩)), pl 7 (.int .i64 r2.1), pl 8 (.int .i64 r2.2.1), pl 9 (.int .i64 r2.2.2), pl 10 (.int .i64 0), pl 30 (.bool ((who1 != 1) && (who1 != 2)))] hF hS Fol (by kernel_rfl) (by kernel_rfl) (by kernel_rfl) ?_ (fun a w hF hS => ?_)
      · exact obs_nil
      refine cond_ev (t := 30) (b := (who1 != 1) && (who1 != 2)) hF (by kernel_rfl) (fun hb => ?_) (fun hb => ?_)
      · replace hm := if_t hm hb
        refine reg1 [] [] [1, 2, 3, 7, 8, 9, 10] [pl 1 (.int .i64 who1), pl 2 (.int .i64 deep1), pl 3 (.pointer (some ⟨g4, 0, none⟩)), pl 7 (.int .i64 r2.1), pl 8 (.int .i64 r2.2.1), pl 9 (.int .i64 r2.2.2), pl 10 (.int .i64 4)] hF hS Fol (by kernel_rfl) (by kernel_rfl) (by kernel_rfl) ?_ (fun a w hF hS => ?_)
        · exact obs_nil
        refine then_n ?_
        have hS := hS.pickN 2 [1] (by decide)
        exact ⟨4, hF.weak [1, 2, 3, 7, 8, 9, 10] (by kernel_rfl), hS, hm⟩
      · replace hm := if_f hm hb
        refine reg [] [] [1, 2, 3, 7, 8, 9, 10, 36] [pl 1 (.int .i64 who1), pl 2 (.int .i64 deep1), pl 3 (.pointer (some ⟨g4, 0, none⟩)), pl 7 (.int .i64 r2.1), pl 8 (.int .i64 r2.2.1), pl 9 (.int .i64 r2.2.2), pl 10 (.int .i64 0), pl 36 (.bool ((decide (deep1 < 0)) || (decide ((6 : Int) < deep1))))] hF hS Fol (by kernel_rfl) (by kernel_rfl) (by kernel_rfl) ?_ (fun a w hF hS => ?_)
        · exact obs_nil
        refine cond_ev (t := 36) (b := (decide (deep1 < 0)) || (decide ((6 : Int) < deep1))) hF (by kernel_rfl) (fun hb => ?_) (fun hb => ?_)
        · replace hm := if_t hm hb
          refine reg1 [] [] [1, 2, 3, 7, 8, 9, 10] [pl 1 (.int .i64 who1), pl 2 (.int .i64 deep1), pl 3 (.pointer (some ⟨g4, 0, none⟩)), pl 7 (.int .i64 r2.1), pl 8 (.int .i64 r2.2.1), pl 9 (.int .i64 r2.2.2), pl 10 (.int .i64 3)] hF hS Fol (by kernel_rfl) (by kernel_rfl) (by kernel_rfl) ?_ (fun a w hF hS => ?_)
          · exact obs_nil
          refine then_n ?_
          have hS := hS.pickN 2 [1] (by decide)
          exact ⟨3, hF.weak [1, 2, 3, 7, 8, 9, 10] (by kernel_rfl), hS, hm⟩
        · replace hm := if_f hm hb
          refine wp_skip ?_
          refine then_n ?_
          have hS := hS.pickN 2 [1] (by decide)
          exact ⟨0, hF.weak [1, 2, 3, 7, 8, 9, 10] (by kernel_rfl), hS, hm⟩

end Go.Proofs.Ytogecbgngnjhgaa
