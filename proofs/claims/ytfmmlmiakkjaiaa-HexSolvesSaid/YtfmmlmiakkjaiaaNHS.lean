/-
  Models and walks, printed by our own program (wip/gen).
-/
import Derived.Test.YtfmmlmiakkjaiaaFB
import Derived.Test.YtfmmlmiakkjaiaaLibD
import Derived.Test.YtfmmlmiakkjaiaaLibRF
import Derived.Test.YtfmmlmiakkjaiaaFM
import Derived.Test.YtfmmlmiakkjaiaaSH
import Derived.Test.YtfmmlmiakkjaiaaNHSc
namespace Go.Proofs.Ytfmmlmiakkjaiaa
open Go Go.GL Go.RowKit

noncomputable def gameroomref_HexGroups_m  (g1 : Int) (g2 : Int) (g3 : List Int) (who1 : Int) : Option (List (List Int)) :=
  asrt ((0 : Int) ≤ (g3.length : Int) ∧ (g3.length : Int) ≤ bigN) <| (loop (gameroomref_HexGroups_L1 g3) ((List.replicate (Int.toNat (g3.length : Int)) (0 : Int)), 0)).bind (gameroomref_HexGroups_K1 g1 g3 who1)

set_option maxRecDepth 100000 in
set_option maxHeartbeats 4000000 in
theorem gameroomref_HexGroups_w {g1 : Int} {g2 : Int} {A1 : Option Addr} {c1 : Nat} {n1 : Nat} {g3 : List Int} {who1 : Int} {r : (List (List Int))} {w0 w : World} {B : Nat} {fs : List HP} (hm : gameroomref_HexGroups_m g1 g2 g3 who1 = some r) (hS : Sep w0 B w (fs)) (hr_g3 : RdF w0 B fs A1 (vI g3)) (_hc_g3 : g3.length ≤ c1) (_hn_g3 : n1 = g3.length) :
    Calls Try.prog 189 #[.agg #[.int .i64 g1, .int .i64 g2, .slice A1 n1 c1], .int .i64 who1] w fun e w' => ∃ v, e = .returned v ∧ ∃ (A11 : Option Addr) (c11 : Nat) (hd4 : List Hd), v = .slice A11 r.length c11 ∧ Sep w0 B w' (rows 27 3 (.slice A11 r.length c11) hd4 r :: fs) := by
  obtain ⟨i3, hi3, hz3, hs3, hb3⟩ := info_parts Info3
  obtain ⟨i27, hi27, hz27, hs27, hb27⟩ := info_parts Info27
  obtain rfl := _hn_g3
  unfold gameroomref_HexGroups_m at hm
  replace hm := start_b hm
  refine enter (l := [.agg #[.int .i64 g1, .int .i64 g2, .slice A1 g3.length c1], .int .i64 who1]) (n := 130) Try.func189 rfl rfl (by simp) (fun a hF => ?_)
  refine seqR ?_
  refine at_do (d := 2) (s := vS (Instr.box 64 (.agg #[.int .i64 g1, .int .i64 g2, .slice A1 g3.length c1]))) (v := .pointer (some ⟨w.heap.size, 0, none⟩)) (w' := w.alloc (.cells #[.int .i64 g1, .int .i64 g2, .slice A1 g3.length c1] 64)) hF (by kernel_rfl) (by kernel_rfl) (by kernel_rfl) (fun a hF => ?_)
  have hS : Sep w0 B (w.alloc (.cells #[.int .i64 g1, .int .i64 g2, .slice A1 g3.length c1] 64)) (blk w.heap.size 64 #[.int .i64 g1, .int .i64 g2, .slice A1 g3.length c1] :: (fs)) := hS.box 64 #[.int .i64 g1, .int .i64 g2, .slice A1 g3.length c1]
  generalize w.heap.size = g4 at hF hS
  generalize w.alloc (.cells #[.int .i64 g1, .int .i64 g2, .slice A1 g3.length c1] 64) = w at hS ⊢
  refine at_run 1 [] [] [1, 2] [pl 1 (.int .i64 who1), pl 2 (.pointer (some ⟨g4, 0, none⟩))] hF hS (by kernel_rfl) (by kernel_rfl) ?_ (fun a w hF hS => ?_)
  · exact obs_nil
  refine at_end [1, 2] [pl 1 (.int .i64 who1), pl 2 (.pointer (some ⟨g4, 0, none⟩))] hF rfl (by kernel_rfl) (fun hF => ?_)
  refine then_n ?_
  refine reg [⟨false, [], vS (Instr.loadAt 27 (.pointer (some ⟨g4, 2, none⟩))), .slice A1 g3.length c1⟩] [none, some (.slice A1 g3.length c1), none, none] [1, 2, 5] [pl 1 (.int .i64 who1), pl 2 (.pointer (some ⟨g4, 0, none⟩)), pl 5 (.int .i64 (g3.length : Int))] hF hS Fol (by kernel_rfl) (by kernel_rfl) (by kernel_rfl) ?_ (fun a w hF hS => ?_)
  · exact obs_cons (ob_load Agg27 (fun _ _ hS => (hS.at_ 0 rfl).cell rfl)) <| obs_nil
  refine seqR ?_
  obtain ⟨hp1, hm⟩ := asrt_b hm
  refine at_run 1 [] [] [1, 2, 5, 18] [pl 1 (.int .i64 who1), pl 2 (.pointer (some ⟨g4, 0, none⟩)), pl 5 (.int .i64 (g3.length : Int)), pl 18 (.int .i64 (g3.length : Int))] hF hS (by kernel_rfl) (by kernel_rfl) ?_ (fun a w hF hS => ?_)
  · exact obs_nil
  obtain ⟨A2, c2, w, hrun, hS⟩ := run_mk1 (P := Try.prog) (t := 27) (Value.int .i64) (0 : Int) hS .i64 .i64 Und27 hi3 hz3 hs3 (by omega) rfl hp1
  have hS : Sep w0 B w (own 3 (.slice A2 (Int.toNat (g3.length : Int)) c2) (vI (List.replicate (Int.toNat (g3.length : Int)) (0 : Int))) :: blk g4 64 #[.int .i64 g1, .int .i64 g2, .slice A1 g3.length c1] :: fs) := hS
  refine at_do (d := 19) hF (by kernel_rfl) (by kernel_rfl) hrun (fun a hF => ?_)
  refine at_run 1 [] [] [1, 2, 5, 6] [pl 1 (.int .i64 who1), pl 2 (.pointer (some ⟨g4, 0, none⟩)), pl 5 (.int .i64 (g3.length : Int)), pl 6 (.slice A2 (Int.toNat (g3.length : Int)) c2)] hF hS (by kernel_rfl) (by kernel_rfl) ?_ (fun a w hF hS => ?_)
  · exact obs_nil
  refine at_end [1, 2, 5, 6] [pl 1 (.int .i64 who1), pl 2 (.pointer (some ⟨g4, 0, none⟩)), pl 5 (.int .i64 (g3.length : Int)), pl 6 (.slice A2 (Int.toNat (g3.length : Int)) c2)] hF rfl (by kernel_rfl) (fun hF => ?_)
  refine then_n ?_
  refine seq_cut (fun a w => ∃ (group2 : List Int), Fr 130 [pl 1 (.int .i64 who1), pl 2 (.pointer (some ⟨g4, 0, none⟩)), pl 5 (.int .i64 (g3.length : Int)), pl 6 (.slice A2 (Int.toNat (g3.length : Int)) c2)] a ∧ Sep w0 B w (blk g4 64 #[.int .i64 g1, .int .i64 g2, .slice A1 g3.length c1] :: own 3 (.slice A2 (Int.toNat (g3.length : Int)) c2) (vI group2) :: fs) ∧ ((gameroomref_HexGroups_J1 g1 g3 who1) group2).bind some = some r) ?_ ?_
  · rintro a w ⟨group2, hF, hS, hm⟩
    unfold gameroomref_HexGroups_J1 at hm
    refine seq_cut (fun a w => ∃ (group4 : List Int), Fr 130 [pl 1 (.int .i64 who1), pl 2 (.pointer (some ⟨g4, 0, none⟩)), pl 5 (.int .i64 (g3.length : Int)), pl 6 (.slice A2 (Int.toNat (g3.length : Int)) c2)] a ∧ Sep w0 B w (blk g4 64 #[.int .i64 g1, .int .i64 g2, .slice A1 g3.length c1] :: own 3 (.slice A2 (Int.toNat (g3.length : Int)) c2) (vI group4) :: fs) ∧ ((gameroomref_HexGroups_J4 g3 who1) group4).bind some = some r) ?_ ?_
    · rintro a w ⟨group4, hF, hS, hm⟩
      unfold gameroomref_HexGroups_J4 at hm
      refine reg [] [] [1, 2, 5, 6, 11] [pl 1 (.int .i64 who1), pl 2 (.pointer (some ⟨g4, 0, none⟩)), pl 5 (.int .i64 (g3.length : Int)), pl 6 (.slice A2 (Int.toNat (g3.length : Int)) c2), pl 11 (.slice none 0 0)] hF hS Fol (by kernel_rfl) (by kernel_rfl) (by kernel_rfl) ?_ (fun a w hF hS => ?_)
      · exact obs_nil
      refine seq_cut (fun a w => ∃ (l2 : List (List Int)) (A4 : Option Addr) (c4 : Nat) (hd2 : List Hd), Fr 130 [pl 11 (.slice A4 l2.length c4)] a ∧ Sep w0 B w (rows 27 3 (.slice A4 l2.length c4) hd2 l2 :: fs) ∧ (gameroomref_HexGroups_J10 l2).bind some = some r) ?_ ?_
      · rintro a w ⟨l2, A4, c4, hd2, hF, hS, hm⟩
        unfold gameroomref_HexGroups_J10 at hm
        refine reg [] [] [4] [pl 4 (.slice A4 l2.length c4)] hF hS Fol (by kernel_rfl) (by kernel_rfl) (by kernel_rfl) ?_ (fun a w hF hS => ?_)
        · exact obs_nil
        refine wpIn_ret ?_
        have hm : some l2 = some r := hm
        obtain rfl := Option.some.inj hm
        exact retV (rs := [.tmp 4]) (vs := [.slice A4 l2.length c4]) hF rfl (rv_t (by kernel_rfl) <| rv_nil) rfl ⟨_, rfl, A4, c4, hd2, rfl, hS⟩
      · refine reg [] [] [1, 2, 5, 6, 11, 12] [pl 1 (.int .i64 who1), pl 2 (.pointer (some ⟨g4, 0, none⟩)), pl 5 (.int .i64 (g3.length : Int)), pl 6 (.slice A2 (Int.toNat (g3.length : Int)) c2), pl 11 (.slice none 0 0), pl 12 (.int .i64 0)] hF hS Fol (by kernel_rfl) (by kernel_rfl) (by kernel_rfl) ?_ (fun a w hF hS => ?_)
        · exact obs_nil
        refine wpIn_block ?_
        have hS := hS.nilRows0 27 3
        have hl1 := (hS.at_ 0 rfl).lenR
        have hS := (hS.at_ 0 rfl).reNR hl1
        have hS : Sep w0 B w (rows 27 3 (.slice none (([] : List (List Int)).length) 0) ([]) ([] : List (List Int)) :: blk g4 64 #[.int .i64 g1, .int .i64 g2, .slice A1 g3.length c1] :: own 3 (.slice A2 (Int.toNat (g3.length : Int)) c2) (vI group4) :: fs) := hS
        have hF := hF.cast (t := 11) (v := .slice none 0 0) (v' := .slice none (([] : List (List Int)).length) 0) rfl rfl (congrArg (fun k => Value.slice none k 0) hl1)
        have hS := hS.pickN 3 [1, 2, 0] (by decide)
        refine wp_loop_model (S := (List (List Int) × Int)) (R := (List (List Int))) (gameroomref_HexGroups_L5 g3 who1 group4) (fun x => (gameroomref_HexGroups_K5 x).bind some) r (fun (x : (List (List Int) × Int)) a w => ∃ (A3 : Option Addr) (c3 : Nat) (hd1 : List Hd), Fr 130 [pl 1 (.int .i64 who1), pl 2 (.pointer (some ⟨g4, 0, none⟩)), pl 5 (.int .i64 (g3.length : Int)), pl 6 (.slice A2 (Int.toNat (g3.length : Int)) c2), pl 11 (.slice A3 x.1.length c3), pl 12 (.int .i64 x.2)] a ∧ Sep w0 B w (blk g4 64 #[.int .i64 g1, .int .i64 g2, .slice A1 g3.length c1] :: own 3 (.slice A2 (Int.toNat (g3.length : Int)) c2) (vI group4) :: rows 27 3 (.slice A3 x.1.length c3) hd1 x.1 :: fs)) (assoc_b hm) ⟨none, 0, ([]), hF.weak [1, 2, 5, 6, 11, 12] (by kernel_rfl), hS⟩ ?_
        clear hF hS hm
        rintro nn5 ⟨l1, i2⟩ a w ⟨A3, c3, hd1, hF, hS⟩ hm
        generalize hφ5 : stK (gameroomref_HexGroups_L5 g3 who1 group4) nn5 (fun x => (gameroomref_HexGroups_K5 x).bind some) = φ5 at hm
        unfold gameroomref_HexGroups_L5 at hm
        dsimp only at hF hS hm
        refine seq_cut (fun a w => Fr 130 [pl 1 (.int .i64 who1), pl 2 (.pointer (some ⟨g4, 0, none⟩)), pl 5 (.int .i64 (g3.length : Int)), pl 6 (.slice A2 (Int.toNat (g3.length : Int)) c2), pl 11 (.slice A3 l1.length c3), pl 12 (.int .i64 i2)] a ∧ Sep w0 B w (blk g4 64 #[.int .i64 g1, .int .i64 g2, .slice A1 g3.length c1] :: own 3 (.slice A2 (Int.toNat (g3.length : Int)) c2) (vI group4) :: rows 27 3 (.slice A3 l1.length c3) hd1 l1 :: fs) ∧ ((gameroomref_HexGroups_J11 g3 who1 group4 l1 i2)).bind φ5 = some r) ?_ ?_
        · rintro a w ⟨hF, hS, hm⟩
          unfold gameroomref_HexGroups_J11 at hm
          refine seq_cut (fun a w => ∃ (l3 : List (List Int)) (A5 : Option Addr) (c5 : Nat) (hd3 : List Hd), Fr 130 [pl 1 (.int .i64 who1), pl 2 (.pointer (some ⟨g4, 0, none⟩)), pl 5 (.int .i64 (g3.length : Int)), pl 6 (.slice A2 (Int.toNat (g3.length : Int)) c2), pl 11 (.slice A5 l3.length c5), pl 12 (.int .i64 i2)] a ∧ Sep w0 B w (blk g4 64 #[.int .i64 g1, .int .i64 g2, .slice A1 g3.length c1] :: own 3 (.slice A2 (Int.toNat (g3.length : Int)) c2) (vI group4) :: rows 27 3 (.slice A5 l3.length c5) hd3 l3 :: fs) ∧ ((gameroomref_HexGroups_J12 i2) l3).bind φ5 = some r) ?_ ?_
          · rintro a w ⟨l3, A5, c5, hd3, hF, hS, hm⟩
            unfold gameroomref_HexGroups_J12 at hm
            refine reg1 [] [] [1, 2, 5, 6, 11, 12] [pl 1 (.int .i64 who1), pl 2 (.pointer (some ⟨g4, 0, none⟩)), pl 5 (.int .i64 (g3.length : Int)), pl 6 (.slice A2 (Int.toNat (g3.length : Int)) c2), pl 11 (.slice A5 l3.length c5), pl 12 (.int .i64 (w64 (i2 + 1)))] hF hS Fol (by kernel_rfl) (by kernel_rfl) (by kernel_rfl) ?_ (fun a w hF hS => ?_)
            · exact obs_nil
            refine then_n ?_
            rw [← hφ5] at hm
            exact ⟨(l3, (w64 (i2 + 1))), ⟨A5, c5, hd3, hF.weak [1, 2, 5, 6, 11, 12] (by kernel_rfl), hS⟩, hm⟩
          · refine wpIn_block ?_
            refine seq_cut (fun a w => Fr 130 [pl 1 (.int .i64 who1), pl 2 (.pointer (some ⟨g4, 0, none⟩)), pl 5 (.int .i64 (g3.length : Int)), pl 6 (.slice A2 (Int.toNat (g3.length : Int)) c2), pl 11 (.slice A3 l1.length c3), pl 12 (.int .i64 i2)] a ∧ Sep w0 B w (blk g4 64 #[.int .i64 g1, .int .i64 g2, .slice A1 g3.length c1] :: own 3 (.slice A2 (Int.toNat (g3.length : Int)) c2) (vI group4) :: rows 27 3 (.slice A3 l1.length c3) hd1 l1 :: fs) ∧ ((gameroomref_HexGroups_J13 g3 who1 group4 l1 i2)).bind φ5 = some r) ?_ ?_
            · rintro a w ⟨hF, hS, hm⟩
              unfold gameroomref_HexGroups_J13 at hm
              refine reg [] [] [1, 2, 5, 6, 11, 12, 13] [pl 1 (.int .i64 who1), pl 2 (.pointer (some ⟨g4, 0, none⟩)), pl 5 (.int .i64 (g3.length : Int)), pl 6 (.slice A2 (Int.toNat (g3.length : Int)) c2), pl 11 (.slice A3 l1.length c3), pl 12 (.int .i64 i2), pl 13 (.slice none 0 0)] hF hS Fol (by kernel_rfl) (by kernel_rfl) (by kernel_rfl) ?_ (fun a w hF hS => ?_)
              · exact obs_nil
              refine seq_cut (fun a w => ∃ (x2 : List Int) (A7 : Option Addr) (c7 : Nat), Fr 130 [pl 1 (.int .i64 who1), pl 2 (.pointer (some ⟨g4, 0, none⟩)), pl 5 (.int .i64 (g3.length : Int)), pl 6 (.slice A2 (Int.toNat (g3.length : Int)) c2), pl 11 (.slice A3 l1.length c3), pl 12 (.int .i64 i2), pl 13 (.slice A7 x2.length c7)] a ∧ Sep w0 B w (blk g4 64 #[.int .i64 g1, .int .i64 g2, .slice A1 g3.length c1] :: own 3 (.slice A2 (Int.toNat (g3.length : Int)) c2) (vI group4) :: rows 27 3 (.slice A3 l1.length c3) hd1 l1 :: own 3 (.slice A7 x2.length c7) (vI x2) :: fs) ∧ ((gameroomref_HexGroups_J14 l1 i2) x2).bind φ5 = some r) ?_ ?_
              · rintro a w ⟨x2, A7, c7, hF, hS, hm⟩
                unfold gameroomref_HexGroups_J14 at hm
                refine oneR ?_
                obtain ⟨hp14, hm⟩ := asrt_b hm
                refine at_run 2 [] [] [1, 2, 5, 6, 12, 125, 126] [pl 1 (.int .i64 who1), pl 2 (.pointer (some ⟨g4, 0, none⟩)), pl 5 (.int .i64 (g3.length : Int)), pl 6 (.slice A2 (Int.toNat (g3.length : Int)) c2), pl 12 (.int .i64 i2), pl 125 (.slice A3 l1.length c3), pl 126 (.slice A7 x2.length c7)] hF hS (by kernel_rfl) (by kernel_rfl) ?_ (fun a w hF hS => ?_)
                · exact obs_nil
                refine at_do (d := 127) (s := vS (Instr.buildSlice 22 1 #[(0, .slice A7 x2.length c7)])) (v := .slice (some ⟨w.heap.size, 0, none⟩) 1 1) (w' := w.alloc (.cells #[.slice A7 x2.length c7] 27)) hF (by kernel_rfl) (by kernel_rfl) (by kernel_rfl) (fun a hF => ?_)
                have hS : Sep w0 B (w.alloc (.cells #[.slice A7 x2.length c7] 27)) (own 27 (.slice (some (⟨w.heap.size, 0, none⟩ : Addr)) 1 1) [.slice A7 x2.length c7] :: (blk g4 64 #[.int .i64 g1, .int .i64 g2, .slice A1 g3.length c1] :: own 3 (.slice A2 (Int.toNat (g3.length : Int)) c2) (vI group4) :: rows 27 3 (.slice A3 l1.length c3) hd1 l1 :: own 3 (.slice A7 x2.length c7) (vI x2) :: fs)) := hS.lit 27 #[.slice A7 x2.length c7] 1 rfl (by omega)
                generalize (some (⟨w.heap.size, 0, none⟩ : Addr)) = g6 at hF hS
                generalize w.alloc (.cells #[.slice A7 x2.length c7] 27) = w at hS ⊢
                have hS := hS.pickN 5 [4, 0, 1, 2, 3] (by decide)
                have hS : Sep w0 B w (own 3 (.slice A7 x2.length c7) (vI x2) :: own 27 (.slice g6 1 1) [.slice A7 x2.length c7] :: blk g4 64 #[.int .i64 g1, .int .i64 g2, .slice A1 g3.length c1] :: own 3 (.slice A2 (Int.toNat (g3.length : Int)) c2) (vI group4) :: rows 27 3 (.slice A3 l1.length c3) hd1 l1 :: fs) := hS
                obtain ⟨A10, c10, w, hrun, hS⟩ := run_appRow (P := Try.prog) (t := 22) (A2 := g6) (c2 := 1) (hS.at2 3 rfl) (hS.at_ 1 rfl).rd 22 Und22 hi27 hz27 hs27 hb27 hp14
                have hS : Sep w0 B w (own 27 (.slice g6 1 1) [.slice A7 x2.length c7] :: blk g4 64 #[.int .i64 g1, .int .i64 g2, .slice A1 g3.length c1] :: own 3 (.slice A2 (Int.toNat (g3.length : Int)) c2) (vI group4) :: rows 27 3 (.slice A10 ((l1 ++ [x2]).length) c10) (hd1 ++ [(A7, c7)]) (l1 ++ [x2]) :: fs) := hS
                refine at_do (d := 128) hF (by kernel_rfl) (by kernel_rfl) hrun (fun a hF => ?_)
                refine at_run 1 [] [] [1, 2, 5, 6, 11, 12] [pl 1 (.int .i64 who1), pl 2 (.pointer (some ⟨g4, 0, none⟩)), pl 5 (.int .i64 (g3.length : Int)), pl 6 (.slice A2 (Int.toNat (g3.length : Int)) c2), pl 11 (.slice A10 ((l1 ++ [x2]).length) c10), pl 12 (.int .i64 i2)] hF hS (by kernel_rfl) (by kernel_rfl) ?_ (fun a w hF hS => ?_)
                · exact obs_nil
                refine at_end [1, 2, 5, 6, 11, 12] [pl 1 (.int .i64 who1), pl 2 (.pointer (some ⟨g4, 0, none⟩)), pl 5 (.int .i64 (g3.length : Int)), pl 6 (.slice A2 (Int.toNat (g3.length : Int)) c2), pl 11 (.slice A10 ((l1 ++ [x2]).length) c10), pl 12 (.int .i64 i2)] hF rfl (by kernel_rfl) (fun hF => ?_)
                refine block_n ?_
                refine then_n ?_
                have hS := hS.pickN 4 [1, 2, 3] (by decide)
                exact ⟨(l1 ++ [x2]), A10, c10, (hd1 ++ [(A7, c7)]), hF.weak [1, 2, 5, 6, 11, 12] (by kernel_rfl), hS, hm⟩
              · refine reg [] [] [1, 2, 5, 6, 11, 12, 13, 14] [pl 1 (.int .i64 who1), pl 2 (.pointer (some ⟨g4, 0, none⟩)), pl 5 (.int .i64 (g3.length : Int)), pl 6 (.slice A2 (Int.toNat (g3.length : Int)) c2), pl 11 (.slice A3 l1.length c3), pl 12 (.int .i64 i2), pl 13 (.slice none 0 0), pl 14 (.int .i64 0)] hF hS Fol (by kernel_rfl) (by kernel_rfl) (by kernel_rfl) ?_ (fun a w hF hS => ?_)
                · exact obs_nil
                refine wpIn_block ?_
                have hS : Sep w0 B w (own 3 (.slice none 0 0) (vI ([] : List Int)) :: blk g4 64 #[.int .i64 g1, .int .i64 g2, .slice A1 g3.length c1] :: own 3 (.slice A2 (Int.toNat (g3.length : Int)) c2) (vI group4) :: rows 27 3 (.slice A3 l1.length c3) hd1 l1 :: fs) := hS.nil 3
                have hl2 := (hS.at_ 0 rfl).len1
                have hS := (hS.at_ 0 rfl).reN hl2
                have hS : Sep w0 B w (own 3 (.slice none (([] : List Int).length) 0) (vI ([] : List Int)) :: blk g4 64 #[.int .i64 g1, .int .i64 g2, .slice A1 g3.length c1] :: own 3 (.slice A2 (Int.toNat (g3.length : Int)) c2) (vI group4) :: rows 27 3 (.slice A3 l1.length c3) hd1 l1 :: fs) := hS
                have hF := hF.cast (t := 13) (v := .slice none 0 0) (v' := .slice none (([] : List Int).length) 0) rfl rfl (congrArg (fun k => Value.slice none k 0) hl2)
                have hS := hS.pickN 4 [1, 2, 3, 0] (by decide)
                refine wp_loop_model (S := (List Int × Int)) (R := (List Int)) (gameroomref_HexGroups_L6 g3 who1 group4 i2) (fun x => ((gameroomref_HexGroups_K6 l1 i2) x).bind φ5) r (fun (x : (List Int × Int)) a w => ∃ (A6 : Option Addr) (c6 : Nat), Fr 130 [pl 1 (.int .i64 who1), pl 2 (.pointer (some ⟨g4, 0, none⟩)), pl 5 (.int .i64 (g3.length : Int)), pl 6 (.slice A2 (Int.toNat (g3.length : Int)) c2), pl 11 (.slice A3 l1.length c3), pl 12 (.int .i64 i2), pl 13 (.slice A6 x.1.length c6), pl 14 (.int .i64 x.2)] a ∧ Sep w0 B w (blk g4 64 #[.int .i64 g1, .int .i64 g2, .slice A1 g3.length c1] :: own 3 (.slice A2 (Int.toNat (g3.length : Int)) c2) (vI group4) :: rows 27 3 (.slice A3 l1.length c3) hd1 l1 :: own 3 (.slice A6 x.1.length c6) (vI x.1) :: fs)) (assoc_b hm) ⟨none, 0, hF.weak [1, 2, 5, 6, 11, 12, 13, 14] (by kernel_rfl), hS⟩ ?_
                clear hF hS hm
                rintro nn6 ⟨x1, k1⟩ a w ⟨A6, c6, hF, hS⟩ hm
                generalize hφ6 : stK (gameroomref_HexGroups_L6 g3 who1 group4 i2) nn6 (fun x => ((gameroomref_HexGroups_K6 l1 i2) x).bind φ5) = φ6 at hm
                unfold gameroomref_HexGroups_L6 at hm
                dsimp only at hF hS hm
                refine seq_cut (fun a w => Fr 130 [pl 1 (.int .i64 who1), pl 2 (.pointer (some ⟨g4, 0, none⟩)), pl 5 (.int .i64 (g3.length : Int)), pl 6 (.slice A2 (Int.toNat (g3.length : Int)) c2), pl 11 (.slice A3 l1.length c3), pl 12 (.int .i64 i2), pl 13 (.slice A6 x1.length c6), pl 14 (.int .i64 k1)] a ∧ Sep w0 B w (blk g4 64 #[.int .i64 g1, .int .i64 g2, .slice A1 g3.length c1] :: own 3 (.slice A2 (Int.toNat (g3.length : Int)) c2) (vI group4) :: rows 27 3 (.slice A3 l1.length c3) hd1 l1 :: own 3 (.slice A6 x1.length c6) (vI x1) :: fs) ∧ ((gameroomref_HexGroups_J15 g3 who1 group4 i2 x1 k1)).bind φ6 = some r) ?_ ?_
                · rintro a w ⟨hF, hS, hm⟩
                  unfold gameroomref_HexGroups_J15 at hm
                  refine seq_cut (fun a w => ∃ (x3 : List Int) (A9 : Option Addr) (c9 : Nat), Fr 130 [pl 1 (.int .i64 who1), pl 2 (.pointer (some ⟨g4, 0, none⟩)), pl 5 (.int .i64 (g3.length : Int)), pl 6 (.slice A2 (Int.toNat (g3.length : Int)) c2), pl 11 (.slice A3 l1.length c3), pl 12 (.int .i64 i2), pl 13 (.slice A9 x3.length c9), pl 14 (.int .i64 k1)] a ∧ Sep w0 B w (blk g4 64 #[.int .i64 g1, .int .i64 g2, .slice A1 g3.length c1] :: own 3 (.slice A2 (Int.toNat (g3.length : Int)) c2) (vI group4) :: rows 27 3 (.slice A3 l1.length c3) hd1 l1 :: own 3 (.slice A9 x3.length c9) (vI x3) :: fs) ∧ ((gameroomref_HexGroups_J16 k1) x3).bind φ6 = some r) ?_ ?_
                  · rintro a w ⟨x3, A9, c9, hF, hS, hm⟩
                    unfold gameroomref_HexGroups_J16 at hm
                    refine reg1 [] [] [1, 2, 5, 6, 11, 12, 13, 14] [pl 1 (.int .i64 who1), pl 2 (.pointer (some ⟨g4, 0, none⟩)), pl 5 (.int .i64 (g3.length : Int)), pl 6 (.slice A2 (Int.toNat (g3.length : Int)) c2), pl 11 (.slice A3 l1.length c3), pl 12 (.int .i64 i2), pl 13 (.slice A9 x3.length c9), pl 14 (.int .i64 (w64 (k1 + 1)))] hF hS Fol (by kernel_rfl) (by kernel_rfl) (by kernel_rfl) ?_ (fun a w hF hS => ?_)
                    · exact obs_nil
                    refine then_n ?_
                    rw [← hφ6] at hm
                    exact ⟨(x3, (w64 (k1 + 1))), ⟨A9, c9, hF.weak [1, 2, 5, 6, 11, 12, 13, 14] (by kernel_rfl), hS⟩, hm⟩
                  · refine wpIn_block ?_
                    obtain ⟨hp11, hm⟩ := asrt_b hm
                    obtain ⟨hp12, hm⟩ := asrt_b hm
                    refine reg [⟨false, [], vS (Instr.loadAt 27 (.pointer (some ⟨g4, 2, none⟩))), .slice A1 g3.length c1⟩, ⟨true, [], vS (Instr.indexAt 27 (.slice A1 g3.length c1) (.int .i64 k1)), .pointer (some (sAddr A1 k1))⟩, ⟨false, [], vS (Instr.loadAt 3 (.pointer (some (sAddr A1 k1)))), .int .i64 (geti g3 k1)⟩, ⟨true, [(((geti g3 k1) == who1), true)], vS (Instr.indexAt 27 (.slice A2 (Int.toNat (g3.length : Int)) c2) (.int .i64 k1)), .pointer (some (sAddr A2 k1))⟩, ⟨false, [(((geti g3 k1) == who1), true)], vS (Instr.loadAt 3 (.pointer (some (sAddr A2 k1)))), .int .i64 (geti group4 k1)⟩] [none, some (.slice A1 g3.length c1), none, some (.pointer (some (sAddr A1 k1))), some (.int .i64 (geti g3 k1)), none, none, none, none, none, some (.pointer (some (sAddr A2 k1))), some (.int .i64 (geti group4 k1)), none, none, none] [1, 2, 5, 6, 11, 12, 13, 14, 120] [pl 1 (.int .i64 who1), pl 2 (.pointer (some ⟨g4, 0, none⟩)), pl 5 (.int .i64 (g3.length : Int)), pl 6 (.slice A2 (Int.toNat (g3.length : Int)) c2), pl 11 (.slice A3 l1.length c3), pl 12 (.int .i64 i2), pl 13 (.slice A6 x1.length c6), pl 14 (.int .i64 k1), pl 120 (.bool (((geti g3 k1) == who1) && ((geti group4 k1) == i2)))] hF hS Fol (by kernel_rfl) (by kernel_rfl) (by kernel_rfl) ?_ (fun a w hF hS => ?_)
                    · exact obs_cons (ob_load Agg27 (fun _ _ hS => (hS.at_ 0 rfl).cell rfl)) <| obs_cons (ob_ix1 (f := (Value.int .i64)) (m := g3) Und27 hi3 hs3 (hr_g3 _ (hS.dropN 4)) rfl (fun _ => hp11)) <| obs_cons (ob_get1 (n := g3.length) (m := g3) (Value.int .i64) (0 : Int) Agg3 (fun _ hS => ⟨_, (hr_g3 _ (hS.dropN 4))⟩) (fun _ hS => rfl) (fun _ => hp11)) <| obs_cons (ob_ix1 (f := (Value.int .i64)) (m := group4) Und27 hi3 hs3 (hS.at_ 1 rfl).rd ((hS.at_ 1 rfl).len1) (fun hy => hp12 (hy (((geti g3 k1) == who1), true) (by simp)))) <| obs_cons (ob_get1 (n := (Int.toNat (g3.length : Int))) (m := group4) (Value.int .i64) (0 : Int) Agg3 (fun _ hS => ⟨_, (hS.at_ 1 rfl).rd⟩) (fun _ hS => ((hS.at_ 1 rfl).len1)) (fun hy => hp12 (hy (((geti g3 k1) == who1), true) (by simp)))) <| obs_nil
                    refine cond_ev (t := 120) (b := ((geti g3 k1) == who1) && ((geti group4 k1) == i2)) hF (by kernel_rfl) (fun hb => ?_) (fun hb => ?_)
                    · replace hm := if_t hm hb
                      refine oneR ?_
                      obtain ⟨hp13, hm⟩ := asrt_b hm
                      refine at_run 2 [] [] [1, 2, 5, 6, 11, 12, 14, 121, 122] [pl 1 (.int .i64 who1), pl 2 (.pointer (some ⟨g4, 0, none⟩)), pl 5 (.int .i64 (g3.length : Int)), pl 6 (.slice A2 (Int.toNat (g3.length : Int)) c2), pl 11 (.slice A3 l1.length c3), pl 12 (.int .i64 i2), pl 14 (.int .i64 k1), pl 121 (.slice A6 x1.length c6), pl 122 (.int .i64 k1)] hF hS (by kernel_rfl) (by kernel_rfl) ?_ (fun a w hF hS => ?_)
                      · exact obs_nil
                      refine at_do (d := 123) (s := vS (Instr.buildSlice 27 1 #[(0, .int .i64 k1)])) (v := .slice (some ⟨w.heap.size, 0, none⟩) 1 1) (w' := w.alloc (.cells #[.int .i64 k1] 3)) hF (by kernel_rfl) (by kernel_rfl) (by kernel_rfl) (fun a hF => ?_)
                      have hS : Sep w0 B (w.alloc (.cells #[.int .i64 k1] 3)) (own 3 (.slice (some (⟨w.heap.size, 0, none⟩ : Addr)) 1 1) (vI ([k1] : List Int)) :: (blk g4 64 #[.int .i64 g1, .int .i64 g2, .slice A1 g3.length c1] :: own 3 (.slice A2 (Int.toNat (g3.length : Int)) c2) (vI group4) :: rows 27 3 (.slice A3 l1.length c3) hd1 l1 :: own 3 (.slice A6 x1.length c6) (vI x1) :: fs)) := hS.lit 3 #[.int .i64 k1] 1 rfl (by omega)
                      generalize (some (⟨w.heap.size, 0, none⟩ : Addr)) = g5 at hF hS
                      generalize w.alloc (.cells #[.int .i64 k1] 3) = w at hS ⊢
                      obtain ⟨A8, c8, w, hrun, hS⟩ := run_app1 (P := Try.prog) (t := 27) (m := x1) (ys := ([k1] : List Int)) (A2 := g5) (m2 := 1) (c2 := 1) (Value.int .i64) (0 : Int) (hS.at_ 4 rfl) (hS.at_ 0 rfl).rd ((hS.at_ 0 rfl).len1) 27 Und27 hi3 hz3 hs3 (by omega) rfl (fun _ => rfl) hp13
                      have hS : Sep w0 B w (own 3 (.slice g5 1 1) (vI ([k1] : List Int)) :: blk g4 64 #[.int .i64 g1, .int .i64 g2, .slice A1 g3.length c1] :: own 3 (.slice A2 (Int.toNat (g3.length : Int)) c2) (vI group4) :: rows 27 3 (.slice A3 l1.length c3) hd1 l1 :: own 3 (.slice A8 ((x1 ++ ([k1] : List Int)).length) c8) (vI (x1 ++ ([k1] : List Int))) :: fs) := hS
                      refine at_do (d := 124) hF (by kernel_rfl) (by kernel_rfl) hrun (fun a hF => ?_)
                      refine at_run 1 [] [] [1, 2, 5, 6, 11, 12, 13, 14] [pl 1 (.int .i64 who1), pl 2 (.pointer (some ⟨g4, 0, none⟩)), pl 5 (.int .i64 (g3.length : Int)), pl 6 (.slice A2 (Int.toNat (g3.length : Int)) c2), pl 11 (.slice A3 l1.length c3), pl 12 (.int .i64 i2), pl 13 (.slice A8 ((x1 ++ ([k1] : List Int)).length) c8), pl 14 (.int .i64 k1)] hF hS (by kernel_rfl) (by kernel_rfl) ?_ (fun a w hF hS => ?_)
                      · exact obs_nil
                      refine at_end [1, 2, 5, 6, 11, 12, 13, 14] [pl 1 (.int .i64 who1), pl 2 (.pointer (some ⟨g4, 0, none⟩)), pl 5 (.int .i64 (g3.length : Int)), pl 6 (.slice A2 (Int.toNat (g3.length : Int)) c2), pl 11 (.slice A3 l1.length c3), pl 12 (.int .i64 i2), pl 13 (.slice A8 ((x1 ++ ([k1] : List Int)).length) c8), pl 14 (.int .i64 k1)] hF rfl (by kernel_rfl) (fun hF => ?_)
                      refine block_n ?_
                      refine then_n ?_
                      have hS := hS.pickN 5 [1, 2, 3, 4] (by decide)
                      exact ⟨(x1 ++ ([k1] : List Int)), A8, c8, hF.weak [1, 2, 5, 6, 11, 12, 13, 14] (by kernel_rfl), hS, hm⟩
                    · replace hm := if_f hm hb
                      refine wpIn_skip ?_
                      refine block_n ?_
                      refine then_n ?_
                      exact ⟨x1, A6, c6, hF.weak [1, 2, 5, 6, 11, 12, 13, 14] (by kernel_rfl), hS, hm⟩
                · refine reg [] [] [1, 2, 5, 6, 11, 12, 13, 14, 103] [pl 1 (.int .i64 who1), pl 2 (.pointer (some ⟨g4, 0, none⟩)), pl 5 (.int .i64 (g3.length : Int)), pl 6 (.slice A2 (Int.toNat (g3.length : Int)) c2), pl 11 (.slice A3 l1.length c3), pl 12 (.int .i64 i2), pl 13 (.slice A6 x1.length c6), pl 14 (.int .i64 k1), pl 103 (.bool (decide (k1 < (g3.length : Int))))] hF hS Fol (by kernel_rfl) (by kernel_rfl) (by kernel_rfl) ?_ (fun a w hF hS => ?_)
                  · exact obs_nil
                  refine cond_ev (t := 103) (b := decide (k1 < (g3.length : Int))) hF (by kernel_rfl) (fun hb => ?_) (fun hb => ?_)
                  · replace hm := if_t hm hb
                    refine wpIn_skip ?_
                    refine then_n ?_
                    exact ⟨hF.weak [1, 2, 5, 6, 11, 12, 13, 14] (by kernel_rfl), hS, hm⟩
                  · replace hm := if_f hm hb
                    refine wpIn_exit ?_
                    refine then_e (then_e (block_e (then_n ?_)))
                    rw [← hφ6] at hm
                    replace hm := done_b hm
                    unfold gameroomref_HexGroups_K6 at hm
                    try dsimp only at hm
                    have hm : ((gameroomref_HexGroups_J14 l1 i2) x1).bind φ5 = some r := hm
                    exact ⟨x1, A6, c6, hF.weak [1, 2, 5, 6, 11, 12, 13] (by kernel_rfl), hS, hm⟩
            · obtain ⟨hp9, hm⟩ := asrt_b hm
              obtain ⟨hp10, hm⟩ := asrt_b hm
              refine reg [⟨false, [], vS (Instr.loadAt 27 (.pointer (some ⟨g4, 2, none⟩))), .slice A1 g3.length c1⟩, ⟨true, [], vS (Instr.indexAt 27 (.slice A1 g3.length c1) (.int .i64 i2)), .pointer (some (sAddr A1 i2))⟩, ⟨false, [], vS (Instr.loadAt 3 (.pointer (some (sAddr A1 i2)))), .int .i64 (geti g3 i2)⟩, ⟨true, [(((geti g3 i2) != who1), false)], vS (Instr.indexAt 27 (.slice A2 (Int.toNat (g3.length : Int)) c2) (.int .i64 i2)), .pointer (some (sAddr A2 i2))⟩, ⟨false, [(((geti g3 i2) != who1), false)], vS (Instr.loadAt 3 (.pointer (some (sAddr A2 i2)))), .int .i64 (geti group4 i2)⟩] [none, some (.slice A1 g3.length c1), none, some (.pointer (some (sAddr A1 i2))), some (.int .i64 (geti g3 i2)), none, none, none, none, none, some (.pointer (some (sAddr A2 i2))), some (.int .i64 (geti group4 i2)), none, none, none] [1, 2, 5, 6, 11, 12, 100] [pl 1 (.int .i64 who1), pl 2 (.pointer (some ⟨g4, 0, none⟩)), pl 5 (.int .i64 (g3.length : Int)), pl 6 (.slice A2 (Int.toNat (g3.length : Int)) c2), pl 11 (.slice A3 l1.length c3), pl 12 (.int .i64 i2), pl 100 (.bool (((geti g3 i2) != who1) || ((geti group4 i2) != i2)))] hF hS Fol (by kernel_rfl) (by kernel_rfl) (by kernel_rfl) ?_ (fun a w hF hS => ?_)
              · exact obs_cons (ob_load Agg27 (fun _ _ hS => (hS.at_ 0 rfl).cell rfl)) <| obs_cons (ob_ix1 (f := (Value.int .i64)) (m := g3) Und27 hi3 hs3 (hr_g3 _ (hS.dropN 3)) rfl (fun _ => hp9)) <| obs_cons (ob_get1 (n := g3.length) (m := g3) (Value.int .i64) (0 : Int) Agg3 (fun _ hS => ⟨_, (hr_g3 _ (hS.dropN 3))⟩) (fun _ hS => rfl) (fun _ => hp9)) <| obs_cons (ob_ix1 (f := (Value.int .i64)) (m := group4) Und27 hi3 hs3 (hS.at_ 1 rfl).rd ((hS.at_ 1 rfl).len1) (fun hy => hp10 (hy (((geti g3 i2) != who1), false) (by simp)))) <| obs_cons (ob_get1 (n := (Int.toNat (g3.length : Int))) (m := group4) (Value.int .i64) (0 : Int) Agg3 (fun _ hS => ⟨_, (hS.at_ 1 rfl).rd⟩) (fun _ hS => ((hS.at_ 1 rfl).len1)) (fun hy => hp10 (hy (((geti g3 i2) != who1), false) (by simp)))) <| obs_nil
              refine cond_ev (t := 100) (b := ((geti g3 i2) != who1) || ((geti group4 i2) != i2)) hF (by kernel_rfl) (fun hb => ?_) (fun hb => ?_)
              · replace hm := if_t hm hb
                refine wpIn_exit ?_
                refine then_e (block_e (then_n ?_))
                exact ⟨l1, A3, c3, hd1, hF.weak [1, 2, 5, 6, 11, 12] (by kernel_rfl), hS, hm⟩
              · replace hm := if_f hm hb
                refine wpIn_skip ?_
                refine then_n ?_
                exact ⟨hF.weak [1, 2, 5, 6, 11, 12] (by kernel_rfl), hS, hm⟩
        · refine reg [] [] [1, 2, 5, 6, 11, 12, 83] [pl 1 (.int .i64 who1), pl 2 (.pointer (some ⟨g4, 0, none⟩)), pl 5 (.int .i64 (g3.length : Int)), pl 6 (.slice A2 (Int.toNat (g3.length : Int)) c2), pl 11 (.slice A3 l1.length c3), pl 12 (.int .i64 i2), pl 83 (.bool (decide (i2 < (g3.length : Int))))] hF hS Fol (by kernel_rfl) (by kernel_rfl) (by kernel_rfl) ?_ (fun a w hF hS => ?_)
          · exact obs_nil
          refine cond_ev (t := 83) (b := decide (i2 < (g3.length : Int))) hF (by kernel_rfl) (fun hb => ?_) (fun hb => ?_)
          · replace hm := if_t hm hb
            refine wpIn_skip ?_
            refine then_n ?_
            exact ⟨hF.weak [1, 2, 5, 6, 11, 12] (by kernel_rfl), hS, hm⟩
          · replace hm := if_f hm hb
            refine wpIn_exit ?_
            refine then_e (then_e (block_e (then_n ?_)))
            have hS := hS.pickN 3 [2] (by decide)
            rw [← hφ5] at hm
            replace hm := done_b hm
            unfold gameroomref_HexGroups_K5 at hm
            try dsimp only at hm
            have hm : (gameroomref_HexGroups_J10 l1).bind some = some r := hm
            exact ⟨l1, A3, c3, hd1, hF.weak [11] (by kernel_rfl), hS, hm⟩
    · refine reg [] [] [1, 2, 5, 6, 8] [pl 1 (.int .i64 who1), pl 2 (.pointer (some ⟨g4, 0, none⟩)), pl 5 (.int .i64 (g3.length : Int)), pl 6 (.slice A2 (Int.toNat (g3.length : Int)) c2), pl 8 (.bool true)] hF hS Fol (by kernel_rfl) (by kernel_rfl) (by kernel_rfl) ?_ (fun a w hF hS => ?_)
      · exact obs_nil
      refine wpIn_block ?_
      refine wp_loop_model (S := (List Int × Bool)) (R := (List Int)) (gameroomref_HexGroups_L2 g1 g3 who1) (fun x => ((gameroomref_HexGroups_K2 g3 who1) x).bind some) r (fun (x : (List Int × Bool)) a w => Fr 130 [pl 1 (.int .i64 who1), pl 2 (.pointer (some ⟨g4, 0, none⟩)), pl 5 (.int .i64 (g3.length : Int)), pl 6 (.slice A2 (Int.toNat (g3.length : Int)) c2), pl 8 (.bool x.2)] a ∧ Sep w0 B w (blk g4 64 #[.int .i64 g1, .int .i64 g2, .slice A1 g3.length c1] :: own 3 (.slice A2 (Int.toNat (g3.length : Int)) c2) (vI x.1) :: fs)) (assoc_b hm) ⟨hF.weak [1, 2, 5, 6, 8] (by kernel_rfl), hS⟩ ?_
      clear hF hS hm
      rintro nn2 ⟨group3, changed1⟩ a w ⟨hF, hS⟩ hm
      generalize hφ2 : stK (gameroomref_HexGroups_L2 g1 g3 who1) nn2 (fun x => ((gameroomref_HexGroups_K2 g3 who1) x).bind some) = φ2 at hm
      unfold gameroomref_HexGroups_L2 at hm
      dsimp only at hF hS hm
      refine seq_cut (fun a w => Fr 130 [pl 1 (.int .i64 who1), pl 2 (.pointer (some ⟨g4, 0, none⟩)), pl 5 (.int .i64 (g3.length : Int)), pl 6 (.slice A2 (Int.toNat (g3.length : Int)) c2)] a ∧ Sep w0 B w (blk g4 64 #[.int .i64 g1, .int .i64 g2, .slice A1 g3.length c1] :: own 3 (.slice A2 (Int.toNat (g3.length : Int)) c2) (vI group3) :: fs) ∧ ((gameroomref_HexGroups_J5 g1 g3 who1 group3)).bind φ2 = some r) ?_ ?_
      · rintro a w ⟨hF, hS, hm⟩
        unfold gameroomref_HexGroups_J5 at hm
        refine wpIn_block ?_
        refine reg [] [] [1, 2, 5, 6, 8] [pl 1 (.int .i64 who1), pl 2 (.pointer (some ⟨g4, 0, none⟩)), pl 5 (.int .i64 (g3.length : Int)), pl 6 (.slice A2 (Int.toNat (g3.length : Int)) c2), pl 8 (.bool false)] hF hS Fol (by kernel_rfl) (by kernel_rfl) (by kernel_rfl) ?_ (fun a w hF hS => ?_)
        · exact obs_nil
        refine reg [] [] [1, 2, 5, 6, 8, 9] [pl 1 (.int .i64 who1), pl 2 (.pointer (some ⟨g4, 0, none⟩)), pl 5 (.int .i64 (g3.length : Int)), pl 6 (.slice A2 (Int.toNat (g3.length : Int)) c2), pl 8 (.bool false), pl 9 (.int .i64 0)] hF hS Fol (by kernel_rfl) (by kernel_rfl) (by kernel_rfl) ?_ (fun a w hF hS => ?_)
        · exact obs_nil
        refine wpIn_block ?_
        refine wp_loop_model (S := (List Int × Bool × Int)) (R := (List Int × Bool)) (gameroomref_HexGroups_L3 g1 g3 who1) (fun x => (gameroomref_HexGroups_K3 x).bind φ2) r (fun (x : (List Int × Bool × Int)) a w => Fr 130 [pl 1 (.int .i64 who1), pl 2 (.pointer (some ⟨g4, 0, none⟩)), pl 5 (.int .i64 (g3.length : Int)), pl 6 (.slice A2 (Int.toNat (g3.length : Int)) c2), pl 8 (.bool x.2.1), pl 9 (.int .i64 x.2.2)] a ∧ Sep w0 B w (blk g4 64 #[.int .i64 g1, .int .i64 g2, .slice A1 g3.length c1] :: own 3 (.slice A2 (Int.toNat (g3.length : Int)) c2) (vI x.1) :: fs)) (assoc_b hm) ⟨hF.weak [1, 2, 5, 6, 8, 9] (by kernel_rfl), hS⟩ ?_
        clear hF hS hm
        rintro nn3 ⟨group5, changed2, a1⟩ a w ⟨hF, hS⟩ hm
        generalize hφ3 : stK (gameroomref_HexGroups_L3 g1 g3 who1) nn3 (fun x => (gameroomref_HexGroups_K3 x).bind φ2) = φ3 at hm
        unfold gameroomref_HexGroups_L3 at hm
        dsimp only at hF hS hm
        refine seq_cut (fun a w => Fr 130 [pl 1 (.int .i64 who1), pl 2 (.pointer (some ⟨g4, 0, none⟩)), pl 5 (.int .i64 (g3.length : Int)), pl 6 (.slice A2 (Int.toNat (g3.length : Int)) c2), pl 8 (.bool changed2), pl 9 (.int .i64 a1)] a ∧ Sep w0 B w (blk g4 64 #[.int .i64 g1, .int .i64 g2, .slice A1 g3.length c1] :: own 3 (.slice A2 (Int.toNat (g3.length : Int)) c2) (vI group5) :: fs) ∧ ((gameroomref_HexGroups_J6 g1 g3 who1 group5 changed2 a1)).bind φ3 = some r) ?_ ?_
        · rintro a w ⟨hF, hS, hm⟩
          unfold gameroomref_HexGroups_J6 at hm
          refine seq_cut (fun a w => ∃ (group7 : List Int) (changed4 : Bool), Fr 130 [pl 1 (.int .i64 who1), pl 2 (.pointer (some ⟨g4, 0, none⟩)), pl 5 (.int .i64 (g3.length : Int)), pl 6 (.slice A2 (Int.toNat (g3.length : Int)) c2), pl 8 (.bool changed4), pl 9 (.int .i64 a1)] a ∧ Sep w0 B w (blk g4 64 #[.int .i64 g1, .int .i64 g2, .slice A1 g3.length c1] :: own 3 (.slice A2 (Int.toNat (g3.length : Int)) c2) (vI group7) :: fs) ∧ ((gameroomref_HexGroups_J7 a1) group7 changed4).bind φ3 = some r) ?_ ?_
          · rintro a w ⟨group7, changed4, hF, hS, hm⟩
            unfold gameroomref_HexGroups_J7 at hm
            refine reg1 [] [] [1, 2, 5, 6, 8, 9] [pl 1 (.int .i64 who1), pl 2 (.pointer (some ⟨g4, 0, none⟩)), pl 5 (.int .i64 (g3.length : Int)), pl 6 (.slice A2 (Int.toNat (g3.length : Int)) c2), pl 8 (.bool changed4), pl 9 (.int .i64 (w64 (a1 + 1)))] hF hS Fol (by kernel_rfl) (by kernel_rfl) (by kernel_rfl) ?_ (fun a w hF hS => ?_)
            · exact obs_nil
            refine then_n ?_
            rw [← hφ3] at hm
            exact ⟨(group7, changed4, (w64 (a1 + 1))), ⟨hF.weak [1, 2, 5, 6, 8, 9] (by kernel_rfl), hS⟩, hm⟩
          · refine wpIn_block ?_
            refine reg [] [] [1, 2, 5, 6, 8, 9, 10] [pl 1 (.int .i64 who1), pl 2 (.pointer (some ⟨g4, 0, none⟩)), pl 5 (.int .i64 (g3.length : Int)), pl 6 (.slice A2 (Int.toNat (g3.length : Int)) c2), pl 8 (.bool changed2), pl 9 (.int .i64 a1), pl 10 (.int .i64 0)] hF hS Fol (by kernel_rfl) (by kernel_rfl) (by kernel_rfl) ?_ (fun a w hF hS => ?_)
            · exact obs_nil
            refine wpIn_block ?_
            refine wp_loop_model (S := (List Int × Bool × Int)) (R := (List Int × Bool)) (gameroomref_HexGroups_L4 g1 g3 who1 a1) (fun x => ((gameroomref_HexGroups_K4 a1) x).bind φ3) r (fun (x : (List Int × Bool × Int)) a w => Fr 130 [pl 1 (.int .i64 who1), pl 2 (.pointer (some ⟨g4, 0, none⟩)), pl 5 (.int .i64 (g3.length : Int)), pl 6 (.slice A2 (Int.toNat (g3.length : Int)) c2), pl 8 (.bool x.2.1), pl 9 (.int .i64 a1), pl 10 (.int .i64 x.2.2)] a ∧ Sep w0 B w (blk g4 64 #[.int .i64 g1, .int .i64 g2, .slice A1 g3.length c1] :: own 3 (.slice A2 (Int.toNat (g3.length : Int)) c2) (vI x.1) :: fs)) (assoc_b hm) ⟨hF.weak [1, 2, 5, 6, 8, 9, 10] (by kernel_rfl), hS⟩ ?_
            clear hF hS hm
            rintro nn4 ⟨group6, changed3, b1⟩ a w ⟨hF, hS⟩ hm
            generalize hφ4 : stK (gameroomref_HexGroups_L4 g1 g3 who1 a1) nn4 (fun x => ((gameroomref_HexGroups_K4 a1) x).bind φ3) = φ4 at hm
            unfold gameroomref_HexGroups_L4 at hm
            dsimp only at hF hS hm
            refine seq_cut (fun a w => Fr 130 [pl 1 (.int .i64 who1), pl 2 (.pointer (some ⟨g4, 0, none⟩)), pl 5 (.int .i64 (g3.length : Int)), pl 6 (.slice A2 (Int.toNat (g3.length : Int)) c2), pl 8 (.bool changed3), pl 9 (.int .i64 a1), pl 10 (.int .i64 b1)] a ∧ Sep w0 B w (blk g4 64 #[.int .i64 g1, .int .i64 g2, .slice A1 g3.length c1] :: own 3 (.slice A2 (Int.toNat (g3.length : Int)) c2) (vI group6) :: fs) ∧ ((gameroomref_HexGroups_J8 g1 g3 who1 a1 group6 changed3 b1)).bind φ4 = some r) ?_ ?_
            · rintro a w ⟨hF, hS, hm⟩
              unfold gameroomref_HexGroups_J8 at hm
              refine seq_cut (fun a w => ∃ (group8 : List Int) (changed5 : Bool), Fr 130 [pl 1 (.int .i64 who1), pl 2 (.pointer (some ⟨g4, 0, none⟩)), pl 5 (.int .i64 (g3.length : Int)), pl 6 (.slice A2 (Int.toNat (g3.length : Int)) c2), pl 8 (.bool changed5), pl 9 (.int .i64 a1), pl 10 (.int .i64 b1)] a ∧ Sep w0 B w (blk g4 64 #[.int .i64 g1, .int .i64 g2, .slice A1 g3.length c1] :: own 3 (.slice A2 (Int.toNat (g3.length : Int)) c2) (vI group8) :: fs) ∧ ((gameroomref_HexGroups_J9 b1) group8 changed5).bind φ4 = some r) ?_ ?_
              · rintro a w ⟨group8, changed5, hF, hS, hm⟩
                unfold gameroomref_HexGroups_J9 at hm
                refine reg1 [] [] [1, 2, 5, 6, 8, 9, 10] [pl 1 (.int .i64 who1), pl 2 (.pointer (some ⟨g4, 0, none⟩)), pl 5 (.int .i64 (g3.length : Int)), pl 6 (.slice A2 (Int.toNat (g3.length : Int)) c2), pl 8 (.bool changed5), pl 9 (.int .i64 a1), pl 10 (.int .i64 (w64 (b1 + 1)))] hF hS Fol (by kernel_rfl) (by kernel_rfl) (by kernel_rfl) ?_ (fun a w hF hS => ?_)
                · exact obs_nil
                refine then_n ?_
                rw [← hφ4] at hm
                exact ⟨(group8, changed5, (w64 (b1 + 1))), ⟨hF.weak [1, 2, 5, 6, 8, 9, 10] (by kernel_rfl), hS⟩, hm⟩
              · refine wpIn_block ?_
                obtain ⟨hp3, hm⟩ := asrt_b hm
                obtain ⟨hp4, hm⟩ := asrt_b hm
                obtain ⟨r1, hr1, hm⟩ := call_b hm
                obtain ⟨hp5, hm⟩ := asrt_b hm
                obtain ⟨hp6, hm⟩ := asrt_b hm
                refine reg [⟨false, [], vS (Instr.loadAt 27 (.pointer (some ⟨g4, 2, none⟩))), .slice A1 g3.length c1⟩, ⟨true, [], vS (Instr.indexAt 27 (.slice A1 g3.length c1) (.int .i64 a1)), .pointer (some (sAddr A1 a1))⟩, ⟨false, [], vS (Instr.loadAt 3 (.pointer (some (sAddr A1 a1)))), .int .i64 (geti g3 a1)⟩, ⟨false, [(((geti g3 a1) == who1), true)], vS (Instr.loadAt 27 (.pointer (some ⟨g4, 2, none⟩))), .slice A1 g3.length c1⟩, ⟨true, [(((geti g3 a1) == who1), true)], vS (Instr.indexAt 27 (.slice A1 g3.length c1) (.int .i64 b1)), .pointer (some (sAddr A1 b1))⟩, ⟨false, [(((geti g3 a1) == who1), true)], vS (Instr.loadAt 3 (.pointer (some (sAddr A1 b1)))), .int .i64 (geti g3 b1)⟩, ⟨false, [(((geti g3 a1) == who1) && ((geti g3 b1) == who1), true)], vS (Instr.loadAt 3 (.pointer (some ⟨g4, 0, none⟩))), .int .i64 g1⟩, ⟨false, [(((geti g3 a1) == who1) && ((geti g3 b1) == who1), true)], callFunc 124 #[.int .i64 g1, .int .i64 a1, .int .i64 b1], .bool r1⟩, ⟨true, [((((geti g3 a1) == who1) && ((geti g3 b1) == who1)) && r1, true)], vS (Instr.indexAt 27 (.slice A2 (Int.toNat (g3.length : Int)) c2) (.int .i64 b1)), .pointer (some (sAddr A2 b1))⟩, ⟨false, [((((geti g3 a1) == who1) && ((geti g3 b1) == who1)) && r1, true)], vS (Instr.loadAt 3 (.pointer (some (sAddr A2 b1)))), .int .i64 (geti group6 b1)⟩, ⟨true, [((((geti g3 a1) == who1) && ((geti g3 b1) == who1)) && r1, true)], vS (Instr.indexAt 27 (.slice A2 (Int.toNat (g3.length : Int)) c2) (.int .i64 a1)), .pointer (some (sAddr A2 a1))⟩, ⟨false, [((((geti g3 a1) == who1) && ((geti g3 b1) == who1)) && r1, true)], vS (Instr.loadAt 3 (.pointer (some (sAddr A2 a1)))), .int .i64 (geti group6 a1)⟩] [none, some (.slice A1 g3.length c1), none, some (.pointer (some (sAddr A1 a1))), some (.int .i64 (geti g3 a1)), none, none, none, none, some (.slice A1 g3.length c1), none, some (.pointer (some (sAddr A1 b1))), some (.int .i64 (geti g3 b1)), none, none, none, none, none, some (.int .i64 g1), none, none, some (.bool r1), none, none, none, none, some (.pointer (some (sAddr A2 b1))), some (.int .i64 (geti group6 b1)), none, none, some (.pointer (some (sAddr A2 a1))), some (.int .i64 (geti group6 a1)), none, none] [1, 2, 5, 6, 8, 9, 10, 73] [pl 1 (.int .i64 who1), pl 2 (.pointer (some ⟨g4, 0, none⟩)), pl 5 (.int .i64 (g3.length : Int)), pl 6 (.slice A2 (Int.toNat (g3.length : Int)) c2), pl 8 (.bool changed3), pl 9 (.int .i64 a1), pl 10 (.int .i64 b1), pl 73 (.bool (((((geti g3 a1) == who1) && ((geti g3 b1) == who1)) && r1) && (decide ((geti group6 b1) < (geti group6 a1)))))] hF hS Fol (by kernel_rfl) (by kernel_rfl) (by kernel_rfl) ?_ (fun a w hF hS => ?_)
                · exact obs_cons (ob_load Agg27 (fun _ _ hS => (hS.at_ 0 rfl).cell rfl)) <| obs_cons (ob_ix1 (f := (Value.int .i64)) (m := g3) Und27 hi3 hs3 (hr_g3 _ (hS.dropN 2)) rfl (fun _ => hp3)) <| obs_cons (ob_get1 (n := g3.length) (m := g3) (Value.int .i64) (0 : Int) Agg3 (fun _ hS => ⟨_, (hr_g3 _ (hS.dropN 2))⟩) (fun _ hS => rfl) (fun _ => hp3)) <| obs_cons (ob_load Agg27 (fun _ _ hS => (hS.at_ 0 rfl).cell rfl)) <| obs_cons (ob_ix1 (f := (Value.int .i64)) (m := g3) Und27 hi3 hs3 (hr_g3 _ (hS.dropN 2)) rfl (fun hy => hp4 (hy (((geti g3 a1) == who1), true) (by simp)))) <| obs_cons (ob_get1 (n := g3.length) (m := g3) (Value.int .i64) (0 : Int) Agg3 (fun _ hS => ⟨_, (hr_g3 _ (hS.dropN 2))⟩) (fun _ hS => rfl) (fun hy => hp4 (hy (((geti g3 a1) == who1), true) (by simp)))) <| obs_cons (ob_load Agg3 (fun _ _ hS => (hS.at_ 0 rfl).cell rfl)) <| obs_cons (ob_call Try.func124 (by kernel_rfl) rfl (fun hy _ hS => gameroomref_hexNear_w (ite_some hr1 (by rw [show (((geti g3 a1) == who1) && ((geti g3 b1) == who1)) = true from hy (((geti g3 a1) == who1) && ((geti g3 b1) == who1), true) (by simp)]; try rfl)) hS )) <| obs_cons (ob_ix1 (f := (Value.int .i64)) (m := group6) Und27 hi3 hs3 (hS.at_ 1 rfl).rd ((hS.at_ 1 rfl).len1) (fun hy => hp5 (hy ((((geti g3 a1) == who1) && ((geti g3 b1) == who1)) && r1, true) (by simp)))) <| obs_cons (ob_get1 (n := (Int.toNat (g3.length : Int))) (m := group6) (Value.int .i64) (0 : Int) Agg3 (fun _ hS => ⟨_, (hS.at_ 1 rfl).rd⟩) (fun _ hS => ((hS.at_ 1 rfl).len1)) (fun hy => hp5 (hy ((((geti g3 a1) == who1) && ((geti g3 b1) == who1)) && r1, true) (by simp)))) <| obs_cons (ob_ix1 (f := (Value.int .i64)) (m := group6) Und27 hi3 hs3 (hS.at_ 1 rfl).rd ((hS.at_ 1 rfl).len1) (fun hy => hp6 (hy ((((geti g3 a1) == who1) && ((geti g3 b1) == who1)) && r1, true) (by simp)))) <| obs_cons (ob_get1 (n := (Int.toNat (g3.length : Int))) (m := group6) (Value.int .i64) (0 : Int) Agg3 (fun _ hS => ⟨_, (hS.at_ 1 rfl).rd⟩) (fun _ hS => ((hS.at_ 1 rfl).len1)) (fun hy => hp6 (hy ((((geti g3 a1) == who1) && ((geti g3 b1) == who1)) && r1, true) (by simp)))) <| obs_nil
                refine cond_ev (t := 73) (b := ((((geti g3 a1) == who1) && ((geti g3 b1) == who1)) && r1) && (decide ((geti group6 b1) < (geti group6 a1)))) hF (by kernel_rfl) (fun hb => ?_) (fun hb => ?_)
                · replace hm := if_t hm hb
                  refine seqR ?_
                  obtain ⟨hp7, hm⟩ := asrt_b hm
                  obtain ⟨hp8, hm⟩ := asrt_b hm
                  refine at_run 7 [⟨true, [], vS (Instr.indexAt 27 (.slice A2 (Int.toNat (g3.length : Int)) c2) (.int .i64 b1)), .pointer (some (sAddr A2 b1))⟩, ⟨false, [], vS (Instr.loadAt 3 (.pointer (some (sAddr A2 b1)))), .int .i64 (geti group6 b1)⟩, ⟨true, [], vS (Instr.indexAt 27 (.slice A2 (Int.toNat (g3.length : Int)) c2) (.int .i64 a1)), .pointer (some (sAddr A2 a1))⟩] [none, none, none, none, some (.pointer (some (sAddr A2 b1))), some (.int .i64 (geti group6 b1)), some (.pointer (some (sAddr A2 a1)))] [1, 2, 5, 6, 9, 10, 79, 80] [pl 1 (.int .i64 who1), pl 2 (.pointer (some ⟨g4, 0, none⟩)), pl 5 (.int .i64 (g3.length : Int)), pl 6 (.slice A2 (Int.toNat (g3.length : Int)) c2), pl 9 (.int .i64 a1), pl 10 (.int .i64 b1), pl 79 (.int .i64 (geti group6 b1)), pl 80 (.pointer (some (sAddr A2 a1)))] hF hS (by kernel_rfl) (by kernel_rfl) ?_ (fun a w hF hS => ?_)
                  · exact obs_cons (ob_ix1 (f := (Value.int .i64)) (m := group6) Und27 hi3 hs3 (hS.at_ 1 rfl).rd ((hS.at_ 1 rfl).len1) (fun _ => hp7)) <| obs_cons (ob_get1 (n := (Int.toNat (g3.length : Int))) (m := group6) (Value.int .i64) (0 : Int) Agg3 (fun _ hS => ⟨_, (hS.at_ 1 rfl).rd⟩) (fun _ hS => ((hS.at_ 1 rfl).len1)) (fun _ => hp7)) <| obs_cons (ob_ix1 (f := (Value.int .i64)) (m := group6) Und27 hi3 hs3 (hS.at_ 1 rfl).rd ((hS.at_ 1 rfl).len1) (fun _ => hp8)) <| obs_nil
                  obtain ⟨w, hrun, hS⟩ := run_set1 (P := Try.prog) (t := 3) (x := (geti group6 b1)) (Value.int .i64) (hS.at_ 1 rfl) hi3 hs3 rfl rfl hp8
                  refine at_skip hF (by kernel_rfl) hrun ?_
                  have hS : Sep w0 B w (blk g4 64 #[.int .i64 g1, .int .i64 g2, .slice A1 g3.length c1] :: own 3 (.slice A2 (Int.toNat (g3.length : Int)) c2) (vI (group6.set (Int.toNat a1) (geti group6 b1))) :: fs) := hS
                  refine at_end [1, 2, 5, 6, 9, 10] [pl 1 (.int .i64 who1), pl 2 (.pointer (some ⟨g4, 0, none⟩)), pl 5 (.int .i64 (g3.length : Int)), pl 6 (.slice A2 (Int.toNat (g3.length : Int)) c2), pl 9 (.int .i64 a1), pl 10 (.int .i64 b1)] hF rfl (by kernel_rfl) (fun hF => ?_)
                  refine then_n ?_
                  refine reg1 [] [] [1, 2, 5, 6, 8, 9, 10] [pl 1 (.int .i64 who1), pl 2 (.pointer (some ⟨g4, 0, none⟩)), pl 5 (.int .i64 (g3.length : Int)), pl 6 (.slice A2 (Int.toNat (g3.length : Int)) c2), pl 8 (.bool true), pl 9 (.int .i64 a1), pl 10 (.int .i64 b1)] hF hS Fol (by kernel_rfl) (by kernel_rfl) (by kernel_rfl) ?_ (fun a w hF hS => ?_)
                  · exact obs_nil
                  refine block_n ?_
                  refine then_n ?_
                  exact ⟨(group6.set (Int.toNat a1) (geti group6 b1)), true, hF.weak [1, 2, 5, 6, 8, 9, 10] (by kernel_rfl), hS, hm⟩
                · replace hm := if_f hm hb
                  refine wpIn_skip ?_
                  refine block_n ?_
                  refine then_n ?_
                  exact ⟨group6, changed3, hF.weak [1, 2, 5, 6, 8, 9, 10] (by kernel_rfl), hS, hm⟩
            · refine reg [] [] [1, 2, 5, 6, 8, 9, 10, 37] [pl 1 (.int .i64 who1), pl 2 (.pointer (some ⟨g4, 0, none⟩)), pl 5 (.int .i64 (g3.length : Int)), pl 6 (.slice A2 (Int.toNat (g3.length : Int)) c2), pl 8 (.bool changed3), pl 9 (.int .i64 a1), pl 10 (.int .i64 b1), pl 37 (.bool (decide (b1 < (g3.length : Int))))] hF hS Fol (by kernel_rfl) (by kernel_rfl) (by kernel_rfl) ?_ (fun a w hF hS => ?_)
              · exact obs_nil
              refine cond_ev (t := 37) (b := decide (b1 < (g3.length : Int))) hF (by kernel_rfl) (fun hb => ?_) (fun hb => ?_)
              · replace hm := if_t hm hb
                refine wpIn_skip ?_
                refine then_n ?_
                exact ⟨hF.weak [1, 2, 5, 6, 8, 9, 10] (by kernel_rfl), hS, hm⟩
              · replace hm := if_f hm hb
                refine wpIn_exit ?_
                refine then_e (then_e (block_e (block_n (then_n ?_))))
                rw [← hφ4] at hm
                replace hm := done_b hm
                unfold gameroomref_HexGroups_K4 at hm
                try dsimp only at hm
                have hm : ((gameroomref_HexGroups_J7 a1) group6 changed3).bind φ3 = some r := hm
                exact ⟨group6, changed3, hF.weak [1, 2, 5, 6, 8, 9] (by kernel_rfl), hS, hm⟩
        · refine reg [] [] [1, 2, 5, 6, 8, 9, 32] [pl 1 (.int .i64 who1), pl 2 (.pointer (some ⟨g4, 0, none⟩)), pl 5 (.int .i64 (g3.length : Int)), pl 6 (.slice A2 (Int.toNat (g3.length : Int)) c2), pl 8 (.bool changed2), pl 9 (.int .i64 a1), pl 32 (.bool (decide (a1 < (g3.length : Int))))] hF hS Fol (by kernel_rfl) (by kernel_rfl) (by kernel_rfl) ?_ (fun a w hF hS => ?_)
          · exact obs_nil
          refine cond_ev (t := 32) (b := decide (a1 < (g3.length : Int))) hF (by kernel_rfl) (fun hb => ?_) (fun hb => ?_)
          · replace hm := if_t hm hb
            refine wpIn_skip ?_
            refine then_n ?_
            exact ⟨hF.weak [1, 2, 5, 6, 8, 9] (by kernel_rfl), hS, hm⟩
          · replace hm := if_f hm hb
            refine wpIn_exit ?_
            refine then_e (then_e (block_e (block_n (then_n ?_))))
            rw [← hφ3] at hm
            replace hm := done_b hm
            unfold gameroomref_HexGroups_K3 at hm
            try dsimp only at hm
            have hm : (some (.next (group5, changed2))).bind φ2 = some r := hm
            rw [← hφ2] at hm
            exact ⟨(group5, changed2), ⟨hF.weak [1, 2, 5, 6, 8] (by kernel_rfl), hS⟩, hm⟩
      · refine reg [] [] [1, 2, 5, 6, 29] [pl 1 (.int .i64 who1), pl 2 (.pointer (some ⟨g4, 0, none⟩)), pl 5 (.int .i64 (g3.length : Int)), pl 6 (.slice A2 (Int.toNat (g3.length : Int)) c2), pl 29 (.bool changed1)] hF hS Fol (by kernel_rfl) (by kernel_rfl) (by kernel_rfl) ?_ (fun a w hF hS => ?_)
        · exact obs_nil
        refine cond_ev (t := 29) (b := changed1) hF (by kernel_rfl) (fun hb => ?_) (fun hb => ?_)
        · replace hm := if_t hm hb
          refine wpIn_skip ?_
          refine then_n ?_
          exact ⟨hF.weak [1, 2, 5, 6] (by kernel_rfl), hS, hm⟩
        · replace hm := if_f hm hb
          refine wpIn_exit ?_
          refine then_e (then_e (block_e (then_n ?_)))
          rw [← hφ2] at hm
          replace hm := done_b hm
          unfold gameroomref_HexGroups_K2 at hm
          try dsimp only at hm
          have hm : ((gameroomref_HexGroups_J4 g3 who1) group3).bind some = some r := hm
          exact ⟨group3, hF.weak [1, 2, 5, 6] (by kernel_rfl), hS, hm⟩
  · refine reg [] [] [1, 2, 5, 6, 7] [pl 1 (.int .i64 who1), pl 2 (.pointer (some ⟨g4, 0, none⟩)), pl 5 (.int .i64 (g3.length : Int)), pl 6 (.slice A2 (Int.toNat (g3.length : Int)) c2), pl 7 (.int .i64 0)] hF hS Fol (by kernel_rfl) (by kernel_rfl) (by kernel_rfl) ?_ (fun a w hF hS => ?_)
    · exact obs_nil
    refine wpIn_block ?_
    have hS := hS.pickN 2 [1, 0] (by decide)
    refine wp_loop_model (S := (List Int × Int)) (R := (List Int)) (gameroomref_HexGroups_L1 g3) (fun x => ((gameroomref_HexGroups_K1 g1 g3 who1) x).bind some) r (fun (x : (List Int × Int)) a w => Fr 130 [pl 1 (.int .i64 who1), pl 2 (.pointer (some ⟨g4, 0, none⟩)), pl 5 (.int .i64 (g3.length : Int)), pl 6 (.slice A2 (Int.toNat (g3.length : Int)) c2), pl 7 (.int .i64 x.2)] a ∧ Sep w0 B w (blk g4 64 #[.int .i64 g1, .int .i64 g2, .slice A1 g3.length c1] :: own 3 (.slice A2 (Int.toNat (g3.length : Int)) c2) (vI x.1) :: fs)) (assoc_b hm) ⟨hF.weak [1, 2, 5, 6, 7] (by kernel_rfl), hS⟩ ?_
    clear hF hS hm
    rintro nn1 ⟨group1, i1⟩ a w ⟨hF, hS⟩ hm
    generalize hφ1 : stK (gameroomref_HexGroups_L1 g3) nn1 (fun x => ((gameroomref_HexGroups_K1 g1 g3 who1) x).bind some) = φ1 at hm
    unfold gameroomref_HexGroups_L1 at hm
    dsimp only at hF hS hm
    refine seq_cut (fun a w => Fr 130 [pl 1 (.int .i64 who1), pl 2 (.pointer (some ⟨g4, 0, none⟩)), pl 5 (.int .i64 (g3.length : Int)), pl 6 (.slice A2 (Int.toNat (g3.length : Int)) c2), pl 7 (.int .i64 i1)] a ∧ Sep w0 B w (blk g4 64 #[.int .i64 g1, .int .i64 g2, .slice A1 g3.length c1] :: own 3 (.slice A2 (Int.toNat (g3.length : Int)) c2) (vI group1) :: fs) ∧ ((gameroomref_HexGroups_J2 g3 group1 i1)).bind φ1 = some r) ?_ ?_
    · rintro a w ⟨hF, hS, hm⟩
      unfold gameroomref_HexGroups_J2 at hm
      refine seq_cut (fun a w => Fr 130 [pl 1 (.int .i64 who1), pl 2 (.pointer (some ⟨g4, 0, none⟩)), pl 5 (.int .i64 (g3.length : Int)), pl 6 (.slice A2 (Int.toNat (g3.length : Int)) c2), pl 7 (.int .i64 i1)] a ∧ Sep w0 B w (blk g4 64 #[.int .i64 g1, .int .i64 g2, .slice A1 g3.length c1] :: own 3 (.slice A2 (Int.toNat (g3.length : Int)) c2) (vI (group1.set (Int.toNat i1) i1)) :: fs) ∧ ((gameroomref_HexGroups_J3 group1 i1)).bind φ1 = some r) ?_ ?_
      · rintro a w ⟨hF, hS, hm⟩
        unfold gameroomref_HexGroups_J3 at hm
        refine reg1 [] [] [1, 2, 5, 6, 7] [pl 1 (.int .i64 who1), pl 2 (.pointer (some ⟨g4, 0, none⟩)), pl 5 (.int .i64 (g3.length : Int)), pl 6 (.slice A2 (Int.toNat (g3.length : Int)) c2), pl 7 (.int .i64 (w64 (i1 + 1)))] hF hS Fol (by kernel_rfl) (by kernel_rfl) (by kernel_rfl) ?_ (fun a w hF hS => ?_)
        · exact obs_nil
        refine then_n ?_
        rw [← hφ1] at hm
        exact ⟨((group1.set (Int.toNat i1) i1), (w64 (i1 + 1))), ⟨hF.weak [1, 2, 5, 6, 7] (by kernel_rfl), hS⟩, hm⟩
      · refine wpIn_block ?_
        refine oneR ?_
        obtain ⟨hp2, hm⟩ := asrt_b hm
        refine at_run 4 [⟨true, [], vS (Instr.indexAt 27 (.slice A2 (Int.toNat (g3.length : Int)) c2) (.int .i64 i1)), .pointer (some (sAddr A2 i1))⟩] [none, none, none, some (.pointer (some (sAddr A2 i1)))] [1, 2, 5, 6, 7, 27, 28] [pl 1 (.int .i64 who1), pl 2 (.pointer (some ⟨g4, 0, none⟩)), pl 5 (.int .i64 (g3.length : Int)), pl 6 (.slice A2 (Int.toNat (g3.length : Int)) c2), pl 7 (.int .i64 i1), pl 27 (.int .i64 i1), pl 28 (.pointer (some (sAddr A2 i1)))] hF hS (by kernel_rfl) (by kernel_rfl) ?_ (fun a w hF hS => ?_)
        · exact obs_cons (ob_ix1 (f := (Value.int .i64)) (m := group1) Und27 hi3 hs3 (hS.at_ 1 rfl).rd ((hS.at_ 1 rfl).len1) (fun _ => hp2)) <| obs_nil
        obtain ⟨w, hrun, hS⟩ := run_set1 (P := Try.prog) (t := 3) (x := i1) (Value.int .i64) (hS.at_ 1 rfl) hi3 hs3 rfl rfl hp2
        refine at_skip hF (by kernel_rfl) hrun ?_
        have hS : Sep w0 B w (blk g4 64 #[.int .i64 g1, .int .i64 g2, .slice A1 g3.length c1] :: own 3 (.slice A2 (Int.toNat (g3.length : Int)) c2) (vI (group1.set (Int.toNat i1) i1)) :: fs) := hS
        refine at_end [1, 2, 5, 6, 7] [pl 1 (.int .i64 who1), pl 2 (.pointer (some ⟨g4, 0, none⟩)), pl 5 (.int .i64 (g3.length : Int)), pl 6 (.slice A2 (Int.toNat (g3.length : Int)) c2), pl 7 (.int .i64 i1)] hF rfl (by kernel_rfl) (fun hF => ?_)
        refine block_n ?_
        refine then_n ?_
        exact ⟨hF.weak [1, 2, 5, 6, 7] (by kernel_rfl), hS, hm⟩
    · refine reg [] [] [1, 2, 5, 6, 7, 22] [pl 1 (.int .i64 who1), pl 2 (.pointer (some ⟨g4, 0, none⟩)), pl 5 (.int .i64 (g3.length : Int)), pl 6 (.slice A2 (Int.toNat (g3.length : Int)) c2), pl 7 (.int .i64 i1), pl 22 (.bool (decide (i1 < (g3.length : Int))))] hF hS Fol (by kernel_rfl) (by kernel_rfl) (by kernel_rfl) ?_ (fun a w hF hS => ?_)
      · exact obs_nil
      refine cond_ev (t := 22) (b := decide (i1 < (g3.length : Int))) hF (by kernel_rfl) (fun hb => ?_) (fun hb => ?_)
      · replace hm := if_t hm hb
        refine wpIn_skip ?_
        refine then_n ?_
        exact ⟨hF.weak [1, 2, 5, 6, 7] (by kernel_rfl), hS, hm⟩
      · replace hm := if_f hm hb
        refine wpIn_exit ?_
        refine then_e (then_e (block_e (then_n ?_)))
        rw [← hφ1] at hm
        replace hm := done_b hm
        unfold gameroomref_HexGroups_K1 at hm
        try dsimp only at hm
        have hm : ((gameroomref_HexGroups_J1 g1 g3 who1) group1).bind some = some r := hm
        exact ⟨group1, hF.weak [1, 2, 5, 6] (by kernel_rfl), hS, hm⟩

noncomputable def gameroomref_HexJoined_J9  (k1 : Int) (first3 : Bool) (last3 : Bool) : Option (St (Bool × Bool × Int) (Bool × Bool)) :=
  some (.next (first3, last3, (w64 (k1 + 1))))

noncomputable def gameroomref_HexJoined_J10  (g1 : Int) (first1 : Bool) (last1 : Bool) (k1 : Int) (d1 : Int) : Option (St (Bool × Bool × Int) (Bool × Bool)) :=
  (gameroomref_HexJoined_J9 k1) (first1 || (d1 == 0)) (last1 || (d1 == (w64 (g1 - 1))))

noncomputable def gameroomref_HexJoined_J8  (g1 : Int) (who1 : Int) (r1 : (List (List Int))) (i1 : Int) (first1 : Bool) (last1 : Bool) (k1 : Int) : Option (St (Bool × Bool × Int) (Bool × Bool)) :=
  asrt (0 ≤ i1 ∧ i1 < (r1.length : Int)) <| asrt (0 ≤ k1 ∧ k1 < (((geti2 r1 i1).length : Nat) : Int)) <| asrt (g1 ≠ (0 : Int)) <| if (who1 == 2) then (asrt (0 ≤ i1 ∧ i1 < (r1.length : Int)) <| asrt (0 ≤ k1 ∧ k1 < (((geti2 r1 i1).length : Nat) : Int)) <| asrt (g1 ≠ (0 : Int)) <| (gameroomref_HexJoined_J10 g1 first1 last1 k1) (Int.tmod (geti (geti2 r1 i1) k1) g1)) else ((gameroomref_HexJoined_J10 g1 first1 last1 k1) (w64 (Int.tdiv (geti (geti2 r1 i1) k1) g1)))

noncomputable def gameroomref_HexJoined_J12  (r1 : (List (List Int))) (i1 : Int) (in3 : List Bool) (k2 : Int) : Option (St (List Bool × Bool × Int) (List Bool × Bool)) :=
  some (.next ((in3.set (Int.toNat (geti (geti2 r1 i1) k2)) true), true, (w64 (k2 + 1))))

noncomputable def gameroomref_HexJoined_J11  (g3 : List Int) (r1 : (List (List Int))) (i1 : Int) (in3 : List Bool) (k2 : Int) : Option (St (List Bool × Bool × Int) (List Bool × Bool)) :=
  asrt (0 ≤ i1 ∧ i1 < (r1.length : Int)) <| asrt (0 ≤ k2 ∧ k2 < (((geti2 r1 i1).length : Nat) : Int)) <| asrt (0 ≤ (geti (geti2 r1 i1) k2) ∧ (geti (geti2 r1 i1) k2) < (((Int.toNat (g3.length : Int)) : Nat) : Int)) <| (gameroomref_HexJoined_J12 r1 i1 in3 k2)

noncomputable def gameroomref_HexJoined_L4  (g3 : List Int) (r1 : (List (List Int))) (i1 : Int) (first2 : Bool) (last2 : Bool) : (List Bool × Bool × Int) → Option (St (List Bool × Bool × Int) (List Bool × Bool)) :=
  fun (x : (List Bool × Bool × Int)) => match x with | (in3, won3, k2) => asrt (0 ≤ i1 ∧ i1 < (r1.length : Int)) <| if (((decide (k2 < (((geti2 r1 i1).length : Nat) : Int))) && first2) && last2) then ((gameroomref_HexJoined_J11 g3 r1 i1 in3 k2)) else (some (.done (in3, won3)))

noncomputable def gameroomref_HexJoined_J6  (i1 : Int) (in4 : List Bool) (won4 : Bool) : Option (St (List Bool × Bool × Int) (List Bool × Bool)) :=
  some (.next (in4, won4, (w64 (i1 + 1))))

noncomputable def gameroomref_HexJoined_K4  (i1 : Int) : (List Bool × Bool) → Option (St (List Bool × Bool × Int) (List Bool × Bool)) :=
  fun (x : (List Bool × Bool)) => match x with | (in4, won4) => (gameroomref_HexJoined_J6 i1) in4 won4

noncomputable def gameroomref_HexJoined_J7  (g3 : List Int) (r1 : (List (List Int))) (in1 : List Bool) (won1 : Bool) (i1 : Int) (first2 : Bool) (last2 : Bool) : Option (St (List Bool × Bool × Int) (List Bool × Bool)) :=
  (loop (gameroomref_HexJoined_L4 g3 r1 i1 first2 last2) (in1, won1, 0)).bind (gameroomref_HexJoined_K4 i1)

noncomputable def gameroomref_HexJoined_K3  (g3 : List Int) (r1 : (List (List Int))) (in1 : List Bool) (won1 : Bool) (i1 : Int) : (Bool × Bool) → Option (St (List Bool × Bool × Int) (List Bool × Bool)) :=
  fun (x : (Bool × Bool)) => match x with | (first2, last2) => (gameroomref_HexJoined_J7 g3 r1 in1 won1 i1) first2 last2

noncomputable def gameroomref_HexJoined_L3  (g1 : Int) (who1 : Int) (r1 : (List (List Int))) (i1 : Int) : (Bool × Bool × Int) → Option (St (Bool × Bool × Int) (Bool × Bool)) :=
  fun (x : (Bool × Bool × Int)) => match x with | (first1, last1, k1) => asrt (0 ≤ i1 ∧ i1 < (r1.length : Int)) <| if (decide (k1 < (((geti2 r1 i1).length : Nat) : Int))) then ((gameroomref_HexJoined_J8 g1 who1 r1 i1 first1 last1 k1)) else (some (.done (first1, last1)))

noncomputable def gameroomref_HexJoined_J5  (g1 : Int) (g3 : List Int) (who1 : Int) (r1 : (List (List Int))) (in1 : List Bool) (won1 : Bool) (i1 : Int) : Option (St (List Bool × Bool × Int) (List Bool × Bool)) :=
  (loop (gameroomref_HexJoined_L3 g1 who1 r1 i1) (false, false, 0)).bind (gameroomref_HexJoined_K3 g3 r1 in1 won1 i1)

noncomputable def gameroomref_HexJoined_J15  (i2 : Int) (out3 : List Int) : Option (St (List Int × Int) (List Int)) :=
  some (.next (out3, (w64 (i2 + 1))))

noncomputable def gameroomref_HexJoined_J14  (g3 : List Int) (in2 : List Bool) (out1 : List Int) (i2 : Int) : Option (St (List Int × Int) (List Int)) :=
  asrt (0 ≤ i2 ∧ i2 < (((Int.toNat (g3.length : Int)) : Nat) : Int)) <| if (getb in2 i2) then (asrt ((out1.length : Int) + 1 ≤ bigN) <| (gameroomref_HexJoined_J15 i2) (out1 ++ ([i2] : List Int))) else ((gameroomref_HexJoined_J15 i2) out1)

noncomputable def gameroomref_HexJoined_L5  (g3 : List Int) (in2 : List Bool) : (List Int × Int) → Option (St (List Int × Int) (List Int)) :=
  fun (x : (List Int × Int)) => match x with | (out1, i2) => if (decide (i2 < (((Int.toNat (g3.length : Int)) : Nat) : Int))) then ((gameroomref_HexJoined_J14 g3 in2 out1 i2)) else (some (.done out1))

noncomputable def gameroomref_HexJoined_J13  (who1 : Int) (out2 : List Int) : Option (St Int (Fl Unit (Int × List Int))) :=
  some (.done (.ret (who1, out2)))

noncomputable def gameroomref_HexJoined_K5  (who1 : Int) : (List Int) → Option (St Int (Fl Unit (Int × List Int))) :=
  fun (x : (List Int)) => match x with | out2 => (gameroomref_HexJoined_J13 who1) out2

noncomputable def gameroomref_HexJoined_J3  (who1 : Int) : Option (St Int (Fl Unit (Int × List Int))) :=
  some (.next (w64 (who1 + 1)))

noncomputable def gameroomref_HexJoined_J4  (g3 : List Int) (who1 : Int) (in2 : List Bool) (won2 : Bool) : Option (St Int (Fl Unit (Int × List Int))) :=
  if won2 then ((loop (gameroomref_HexJoined_L5 g3 in2) (([] : List Int), 0)).bind (gameroomref_HexJoined_K5 who1)) else ((gameroomref_HexJoined_J3 who1))

noncomputable def gameroomref_HexJoined_K2  (g3 : List Int) (who1 : Int) : (List Bool × Bool) → Option (St Int (Fl Unit (Int × List Int))) :=
  fun (x : (List Bool × Bool)) => match x with | (in2, won2) => (gameroomref_HexJoined_J4 g3 who1) in2 won2

noncomputable def gameroomref_HexJoined_L2  (g1 : Int) (g3 : List Int) (who1 : Int) (r1 : (List (List Int))) : (List Bool × Bool × Int) → Option (St (List Bool × Bool × Int) (List Bool × Bool)) :=
  fun (x : (List Bool × Bool × Int)) => match x with | (in1, won1, i1) => if (decide (i1 < (r1.length : Int))) then ((gameroomref_HexJoined_J5 g1 g3 who1 r1 in1 won1 i1)) else (some (.done (in1, won1)))

noncomputable def gameroomref_HexJoined_J2  (g1 : Int) (g2 : Int) (g3 : List Int) (who1 : Int) : Option (St Int (Fl Unit (Int × List Int))) :=
  (gameroomref_HexGroups_m g1 g2 g3 who1).bind fun r1 => asrt ((0 : Int) ≤ (g3.length : Int) ∧ (g3.length : Int) ≤ bigN) <| (loop (gameroomref_HexJoined_L2 g1 g3 who1 r1) ((List.replicate (Int.toNat (g3.length : Int)) false), false, 0)).bind (gameroomref_HexJoined_K2 g3 who1)

noncomputable def gameroomref_HexJoined_J1  : Option (Int × List Int) :=
  some (0, ([] : List Int))

noncomputable def gameroomref_HexJoined_K1  : (Fl Unit (Int × List Int)) → Option (Int × List Int) :=
  fun (x : (Fl Unit (Int × List Int))) => match x with | .go _ => gameroomref_HexJoined_J1 | .ret x => some x

noncomputable def gameroomref_HexJoined_L1  (g1 : Int) (g2 : Int) (g3 : List Int) : Int → Option (St Int (Fl Unit (Int × List Int))) :=
  fun (x : Int) => match x with | who1 => if (decide (who1 ≤ 2)) then ((gameroomref_HexJoined_J2 g1 g2 g3 who1)) else (some (.done (.go ())))

noncomputable def gameroomref_HexJoined_m  (g1 : Int) (g2 : Int) (g3 : List Int) : Option (Int × List Int) :=
  (loop (gameroomref_HexJoined_L1 g1 g2 g3) 1).bind gameroomref_HexJoined_K1

set_option maxRecDepth 100000 in
set_option maxHeartbeats 4000000 in
theorem gameroomref_HexJoined_w {g1 : Int} {g2 : Int} {A1 : Option Addr} {c1 : Nat} {n1 : Nat} {g3 : List Int} {r : (Int × List Int)} {w0 w : World} {B : Nat} {fs : List HP} (hm : gameroomref_HexJoined_m g1 g2 g3 = some r) (hS : Sep w0 B w (fs)) (hr_g3 : RdF w0 B fs A1 (vI g3)) (_hc_g3 : g3.length ≤ c1) (_hn_g3 : n1 = g3.length) :
    Calls Try.prog 125 #[.agg #[.int .i64 g1, .int .i64 g2, .slice A1 n1 c1]] w fun e w' => ∃ v, e = .returned v ∧ ∃ (A8 : Option Addr) (c8 : Nat), v = .tuple #[.int .i64 r.1, .slice A8 r.2.length c8] ∧ Sep w0 B w' (own 3 (.slice A8 r.2.length c8) (vI r.2) :: fs) := by
  obtain ⟨i3, hi3, hz3, hs3, hb3⟩ := info_parts Info3
  obtain ⟨i4, hi4, hz4, hs4, hb4⟩ := info_parts Info4
  obtain ⟨i27, hi27, hz27, hs27, hb27⟩ := info_parts Info27
  obtain rfl := _hn_g3
  unfold gameroomref_HexJoined_m at hm
  replace hm := start_b hm
  refine enter (l := [.agg #[.int .i64 g1, .int .i64 g2, .slice A1 g3.length c1]]) (n := 118) Try.func125 rfl rfl (by simp) (fun a hF => ?_)
  refine seqR ?_
  refine at_do (d := 1) (s := vS (Instr.box 64 (.agg #[.int .i64 g1, .int .i64 g2, .slice A1 g3.length c1]))) (v := .pointer (some ⟨w.heap.size, 0, none⟩)) (w' := w.alloc (.cells #[.int .i64 g1, .int .i64 g2, .slice A1 g3.length c1] 64)) hF (by kernel_rfl) (by kernel_rfl) (by kernel_rfl) (fun a hF => ?_)
  have hS : Sep w0 B (w.alloc (.cells #[.int .i64 g1, .int .i64 g2, .slice A1 g3.length c1] 64)) (blk w.heap.size 64 #[.int .i64 g1, .int .i64 g2, .slice A1 g3.length c1] :: (fs)) := hS.box 64 #[.int .i64 g1, .int .i64 g2, .slice A1 g3.length c1]
  generalize w.heap.size = g4 at hF hS
  generalize w.alloc (.cells #[.int .i64 g1, .int .i64 g2, .slice A1 g3.length c1] 64) = w at hS ⊢
  refine at_run 2 [] [] [1] [pl 1 (.pointer (some ⟨g4, 0, none⟩))] hF hS (by kernel_rfl) (by kernel_rfl) ?_ (fun a w hF hS => ?_)
  · exact obs_nil
  refine at_end [1] [pl 1 (.pointer (some ⟨g4, 0, none⟩))] hF rfl (by kernel_rfl) (fun hF => ?_)
  refine then_n ?_
  refine reg [⟨false, [], vS (Instr.loadAt 3 (.pointer (some ⟨g4, 0, none⟩))), .int .i64 g1⟩] [none, some (.int .i64 g1), none] [1, 4] [pl 1 (.pointer (some ⟨g4, 0, none⟩)), pl 4 (.int .i64 g1)] hF hS Fol (by kernel_rfl) (by kernel_rfl) (by kernel_rfl) ?_ (fun a w hF hS => ?_)
  · exact obs_cons (ob_load Agg3 (fun _ _ hS => (hS.at_ 0 rfl).cell rfl)) <| obs_nil
  refine seq_cut (fun a w => Fr 118 [] a ∧ Sep w0 B w (fs) ∧ (gameroomref_HexJoined_J1).bind some = some r) ?_ ?_
  · rintro a w ⟨hF, hS, hm⟩
    unfold gameroomref_HexJoined_J1 at hm
    refine reg [] [] [2, 3] [pl 2 (.int .i64 0), pl 3 (.slice none 0 0)] hF hS Fol (by kernel_rfl) (by kernel_rfl) (by kernel_rfl) ?_ (fun a w hF hS => ?_)
    · exact obs_nil
    refine wpIn_ret ?_
    have hS : Sep w0 B w (own 3 (.slice none 0 0) (vI ([] : List Int)) :: fs) := hS.nil 3
    have hl2 := (hS.at_ 0 rfl).len1
    have hS := (hS.at_ 0 rfl).reN hl2
    have hS : Sep w0 B w (own 3 (.slice none (([] : List Int).length) 0) (vI ([] : List Int)) :: fs) := hS
    have hm : some (0, ([] : List Int)) = some r := hm
    obtain rfl := Option.some.inj hm
    exact retV (rs := [.tmp 2, .tmp 3]) (vs := [.int .i64 0, .slice none (([] : List Int).length) 0]) hF rfl (rv_t (by kernel_rfl) <| rv_t (by kernel_rfl) <| rv_nil) rfl ⟨_, rfl, none, 0, rfl, hS⟩
  · refine reg [] [] [1, 4, 5] [pl 1 (.pointer (some ⟨g4, 0, none⟩)), pl 4 (.int .i64 g1), pl 5 (.int .i64 1)] hF hS Fol (by kernel_rfl) (by kernel_rfl) (by kernel_rfl) ?_ (fun a w hF hS => ?_)
    · exact obs_nil
    refine wpIn_block ?_
    refine wp_loop_model (S := Int) (R := (Fl Unit (Int × List Int))) (gameroomref_HexJoined_L1 g1 g2 g3) (fun x => (gameroomref_HexJoined_K1 x).bind some) r (fun (x : Int) a w => Fr 118 [pl 1 (.pointer (some ⟨g4, 0, none⟩)), pl 4 (.int .i64 g1), pl 5 (.int .i64 x)] a ∧ Sep w0 B w (blk g4 64 #[.int .i64 g1, .int .i64 g2, .slice A1 g3.length c1] :: fs)) (assoc_b hm) ⟨hF.weak [1, 4, 5] (by kernel_rfl), hS⟩ ?_
    clear hF hS hm
    rintro nn1 who1 a w ⟨hF, hS⟩ hm
    generalize hφ1 : stK (gameroomref_HexJoined_L1 g1 g2 g3) nn1 (fun x => (gameroomref_HexJoined_K1 x).bind some) = φ1 at hm
    unfold gameroomref_HexJoined_L1 at hm
    dsimp only at hm
    refine seq_cut (fun a w => Fr 118 [pl 1 (.pointer (some ⟨g4, 0, none⟩)), pl 4 (.int .i64 g1), pl 5 (.int .i64 who1)] a ∧ Sep w0 B w (blk g4 64 #[.int .i64 g1, .int .i64 g2, .slice A1 g3.length c1] :: fs) ∧ ((gameroomref_HexJoined_J2 g1 g2 g3 who1)).bind φ1 = some r) ?_ ?_
    · rintro a w ⟨hF, hS, hm⟩
      unfold gameroomref_HexJoined_J2 at hm
      refine seq_cut (fun a w => Fr 118 [pl 1 (.pointer (some ⟨g4, 0, none⟩)), pl 4 (.int .i64 g1), pl 5 (.int .i64 who1)] a ∧ Sep w0 B w (blk g4 64 #[.int .i64 g1, .int .i64 g2, .slice A1 g3.length c1] :: fs) ∧ ((gameroomref_HexJoined_J3 who1)).bind φ1 = some r) ?_ ?_
      · rintro a w ⟨hF, hS, hm⟩
        unfold gameroomref_HexJoined_J3 at hm
        refine reg1 [] [] [1, 4, 5] [pl 1 (.pointer (some ⟨g4, 0, none⟩)), pl 4 (.int .i64 g1), pl 5 (.int .i64 (w64 (who1 + 1)))] hF hS Fol (by kernel_rfl) (by kernel_rfl) (by kernel_rfl) ?_ (fun a w hF hS => ?_)
        · exact obs_nil
        refine then_n ?_
        rw [← hφ1] at hm
        exact ⟨(w64 (who1 + 1)), ⟨hF.weak [1, 4, 5] (by kernel_rfl), hS⟩, hm⟩
      · refine wpIn_block ?_
        refine seqR ?_
        obtain ⟨r1, hr1, hm⟩ := call_b hm
        refine at_run 2 [⟨false, [], vS (Instr.loadAt 64 (.pointer (some ⟨g4, 0, none⟩))), .agg #[.int .i64 g1, .int .i64 g2, .slice A1 g3.length c1]⟩] [some (.agg #[.int .i64 g1, .int .i64 g2, .slice A1 g3.length c1]), none] [1, 4, 5, 23, 24] [pl 1 (.pointer (some ⟨g4, 0, none⟩)), pl 4 (.int .i64 g1), pl 5 (.int .i64 who1), pl 23 (.agg #[.int .i64 g1, .int .i64 g2, .slice A1 g3.length c1]), pl 24 (.int .i64 who1)] hF hS (by kernel_rfl) (by kernel_rfl) ?_ (fun a w hF hS => ?_)
        · exact obs_cons (ob_loadA (cs := #[.int .i64 g1, .int .i64 g2, .slice A1 g3.length c1]) (by kernel_rfl) (by kernel_rfl) (fun _ _ hS => (hS.at_ 0 rfl).cellsAt 0 (by rfl))) <| obs_nil
        refine at_call (f := 189) (args := #[.agg #[.int .i64 g1, .int .i64 g2, .slice A1 g3.length c1], .int .i64 who1]) (d := 25) hF (by kernel_rfl) (by kernel_rfl) Try.func189 (by kernel_rfl) rfl (gameroomref_HexGroups_w hr1 hS (fun _ hS => (hr_g3 _ (hS.dropN 1))) _hc_g3 rfl) (fun v a w hR hF => ?_)
        clear hS
        obtain ⟨A2, c2, hd1, rfl, hS⟩ := hR
        have hS : Sep w0 B w (rows 27 3 (.slice A2 r1.length c2) hd1 r1 :: blk g4 64 #[.int .i64 g1, .int .i64 g2, .slice A1 g3.length c1] :: fs) := hS
        refine at_run 1 [] [] [1, 4, 5, 6] [pl 1 (.pointer (some ⟨g4, 0, none⟩)), pl 4 (.int .i64 g1), pl 5 (.int .i64 who1), pl 6 (.slice A2 r1.length c2)] hF hS (by kernel_rfl) (by kernel_rfl) ?_ (fun a w hF hS => ?_)
        · exact obs_nil
        refine at_end [1, 4, 5, 6] [pl 1 (.pointer (some ⟨g4, 0, none⟩)), pl 4 (.int .i64 g1), pl 5 (.int .i64 who1), pl 6 (.slice A2 r1.length c2)] hF rfl (by kernel_rfl) (fun hF => ?_)
        refine then_n ?_
        refine seqR ?_
        obtain ⟨hp1, hm⟩ := asrt_b hm
        refine at_run 3 [⟨false, [], vS (Instr.loadAt 27 (.pointer (some ⟨g4, 2, none⟩))), .slice A1 g3.length c1⟩] [none, some (.slice A1 g3.length c1), none] [1, 4, 5, 6, 28] [pl 1 (.pointer (some ⟨g4, 0, none⟩)), pl 4 (.int .i64 g1), pl 5 (.int .i64 who1), pl 6 (.slice A2 r1.length c2), pl 28 (.int .i64 (g3.length : Int))] hF hS (by kernel_rfl) (by kernel_rfl) ?_ (fun a w hF hS => ?_)
        · exact obs_cons (ob_load Agg27 (fun _ _ hS => (hS.at_ 1 rfl).cell rfl)) <| obs_nil
        obtain ⟨A3, c3, w, hrun, hS⟩ := run_mk1 (P := Try.prog) (t := 147) Value.bool false hS .i64 .i64 Und147 hi4 hz4 hs4 (by omega) rfl hp1
        have hS : Sep w0 B w (own 4 (.slice A3 (Int.toNat (g3.length : Int)) c3) (vB (List.replicate (Int.toNat (g3.length : Int)) false)) :: rows 27 3 (.slice A2 r1.length c2) hd1 r1 :: blk g4 64 #[.int .i64 g1, .int .i64 g2, .slice A1 g3.length c1] :: fs) := hS
        refine at_do (d := 29) hF (by kernel_rfl) (by kernel_rfl) hrun (fun a hF => ?_)
        refine at_run 1 [] [] [1, 4, 5, 6, 7] [pl 1 (.pointer (some ⟨g4, 0, none⟩)), pl 4 (.int .i64 g1), pl 5 (.int .i64 who1), pl 6 (.slice A2 r1.length c2), pl 7 (.slice A3 (Int.toNat (g3.length : Int)) c3)] hF hS (by kernel_rfl) (by kernel_rfl) ?_ (fun a w hF hS => ?_)
        · exact obs_nil
        refine at_end [1, 4, 5, 6, 7] [pl 1 (.pointer (some ⟨g4, 0, none⟩)), pl 4 (.int .i64 g1), pl 5 (.int .i64 who1), pl 6 (.slice A2 r1.length c2), pl 7 (.slice A3 (Int.toNat (g3.length : Int)) c3)] hF rfl (by kernel_rfl) (fun hF => ?_)
        refine then_n ?_
        refine reg [] [] [1, 4, 5, 6, 7, 8] [pl 1 (.pointer (some ⟨g4, 0, none⟩)), pl 4 (.int .i64 g1), pl 5 (.int .i64 who1), pl 6 (.slice A2 r1.length c2), pl 7 (.slice A3 (Int.toNat (g3.length : Int)) c3), pl 8 (.bool false)] hF hS Fol (by kernel_rfl) (by kernel_rfl) (by kernel_rfl) ?_ (fun a w hF hS => ?_)
        · exact obs_nil
        refine seq_cut (fun a w => ∃ (in2 : List Bool) (won2 : Bool), Fr 118 [pl 1 (.pointer (some ⟨g4, 0, none⟩)), pl 4 (.int .i64 g1), pl 5 (.int .i64 who1), pl 7 (.slice A3 (Int.toNat (g3.length : Int)) c3), pl 8 (.bool won2)] a ∧ Sep w0 B w (blk g4 64 #[.int .i64 g1, .int .i64 g2, .slice A1 g3.length c1] :: own 4 (.slice A3 (Int.toNat (g3.length : Int)) c3) (vB in2) :: fs) ∧ ((gameroomref_HexJoined_J4 g3 who1) in2 won2).bind φ1 = some r) ?_ ?_
        · rintro a w ⟨in2, won2, hF, hS, hm⟩
          unfold gameroomref_HexJoined_J4 at hm
          refine reg [] [] [1, 4, 5, 7, 101] [pl 1 (.pointer (some ⟨g4, 0, none⟩)), pl 4 (.int .i64 g1), pl 5 (.int .i64 who1), pl 7 (.slice A3 (Int.toNat (g3.length : Int)) c3), pl 101 (.bool won2)] hF hS Fol (by kernel_rfl) (by kernel_rfl) (by kernel_rfl) ?_ (fun a w hF hS => ?_)
          · exact obs_nil
          refine cond_ev (t := 101) (b := won2) hF (by kernel_rfl) (fun hb => ?_) (fun hb => ?_)
          · replace hm := if_t hm hb
            refine reg [] [] [5, 7, 15] [pl 5 (.int .i64 who1), pl 7 (.slice A3 (Int.toNat (g3.length : Int)) c3), pl 15 (.slice none 0 0)] hF hS Fol (by kernel_rfl) (by kernel_rfl) (by kernel_rfl) ?_ (fun a w hF hS => ?_)
            · exact obs_nil
            refine seq_cut (fun a w => ∃ (out2 : List Int) (A5 : Option Addr) (c5 : Nat), Fr 118 [pl 5 (.int .i64 who1), pl 15 (.slice A5 out2.length c5)] a ∧ Sep w0 B w (own 3 (.slice A5 out2.length c5) (vI out2) :: fs) ∧ ((gameroomref_HexJoined_J13 who1) out2).bind φ1 = some r) ?_ ?_
            · rintro a w ⟨out2, A5, c5, hF, hS, hm⟩
              unfold gameroomref_HexJoined_J13 at hm
              refine reg [] [] [2, 3] [pl 2 (.int .i64 who1), pl 3 (.slice A5 out2.length c5)] hF hS Fol (by kernel_rfl) (by kernel_rfl) (by kernel_rfl) ?_ (fun a w hF hS => ?_)
              · exact obs_nil
              refine wpIn_ret ?_
              refine block_r (then_r (then_r (block_r (then_r ?_))))
              rw [← hφ1] at hm
              replace hm := done_b hm
              unfold gameroomref_HexJoined_K1 at hm
              try dsimp only at hm
              have hm : some (who1, out2) = some r := hm
              obtain rfl := Option.some.inj hm
              exact retV (rs := [.tmp 2, .tmp 3]) (vs := [.int .i64 who1, .slice A5 out2.length c5]) hF rfl (rv_t (by kernel_rfl) <| rv_t (by kernel_rfl) <| rv_nil) rfl ⟨_, rfl, A5, c5, rfl, hS⟩
            · refine reg [] [] [5, 7, 15, 16] [pl 5 (.int .i64 who1), pl 7 (.slice A3 (Int.toNat (g3.length : Int)) c3), pl 15 (.slice none 0 0), pl 16 (.int .i64 0)] hF hS Fol (by kernel_rfl) (by kernel_rfl) (by kernel_rfl) ?_ (fun a w hF hS => ?_)
              · exact obs_nil
              refine wpIn_block ?_
              have hS : Sep w0 B w (own 3 (.slice none 0 0) (vI ([] : List Int)) :: blk g4 64 #[.int .i64 g1, .int .i64 g2, .slice A1 g3.length c1] :: own 4 (.slice A3 (Int.toNat (g3.length : Int)) c3) (vB in2) :: fs) := hS.nil 3
              have hl1 := (hS.at_ 0 rfl).len1
              have hS := (hS.at_ 0 rfl).reN hl1
              have hS : Sep w0 B w (own 3 (.slice none (([] : List Int).length) 0) (vI ([] : List Int)) :: blk g4 64 #[.int .i64 g1, .int .i64 g2, .slice A1 g3.length c1] :: own 4 (.slice A3 (Int.toNat (g3.length : Int)) c3) (vB in2) :: fs) := hS
              have hF := hF.cast (t := 15) (v := .slice none 0 0) (v' := .slice none (([] : List Int).length) 0) rfl rfl (congrArg (fun k => Value.slice none k 0) hl1)
              have hS := hS.pickN 3 [2, 0] (by decide)
              refine wp_loop_model (S := (List Int × Int)) (R := (List Int)) (gameroomref_HexJoined_L5 g3 in2) (fun x => ((gameroomref_HexJoined_K5 who1) x).bind φ1) r (fun (x : (List Int × Int)) a w => ∃ (A4 : Option Addr) (c4 : Nat), Fr 118 [pl 5 (.int .i64 who1), pl 7 (.slice A3 (Int.toNat (g3.length : Int)) c3), pl 15 (.slice A4 x.1.length c4), pl 16 (.int .i64 x.2)] a ∧ Sep w0 B w (own 4 (.slice A3 (Int.toNat (g3.length : Int)) c3) (vB in2) :: own 3 (.slice A4 x.1.length c4) (vI x.1) :: fs)) (assoc_b hm) ⟨none, 0, hF.weak [5, 7, 15, 16] (by kernel_rfl), hS⟩ ?_
              clear hF hS hm
              rintro nn5 ⟨out1, i2⟩ a w ⟨A4, c4, hF, hS⟩ hm
              generalize hφ5 : stK (gameroomref_HexJoined_L5 g3 in2) nn5 (fun x => ((gameroomref_HexJoined_K5 who1) x).bind φ1) = φ5 at hm
              unfold gameroomref_HexJoined_L5 at hm
              dsimp only at hF hS hm
              refine seq_cut (fun a w => Fr 118 [pl 5 (.int .i64 who1), pl 7 (.slice A3 (Int.toNat (g3.length : Int)) c3), pl 15 (.slice A4 out1.length c4), pl 16 (.int .i64 i2)] a ∧ Sep w0 B w (own 4 (.slice A3 (Int.toNat (g3.length : Int)) c3) (vB in2) :: own 3 (.slice A4 out1.length c4) (vI out1) :: fs) ∧ ((gameroomref_HexJoined_J14 g3 in2 out1 i2)).bind φ5 = some r) ?_ ?_
              · rintro a w ⟨hF, hS, hm⟩
                unfold gameroomref_HexJoined_J14 at hm
                refine seq_cut (fun a w => ∃ (out3 : List Int) (A7 : Option Addr) (c7 : Nat), Fr 118 [pl 5 (.int .i64 who1), pl 7 (.slice A3 (Int.toNat (g3.length : Int)) c3), pl 15 (.slice A7 out3.length c7), pl 16 (.int .i64 i2)] a ∧ Sep w0 B w (own 4 (.slice A3 (Int.toNat (g3.length : Int)) c3) (vB in2) :: own 3 (.slice A7 out3.length c7) (vI out3) :: fs) ∧ ((gameroomref_HexJoined_J15 i2) out3).bind φ5 = some r) ?_ ?_
                · rintro a w ⟨out3, A7, c7, hF, hS, hm⟩
                  unfold gameroomref_HexJoined_J15 at hm
                  refine reg1 [] [] [5, 7, 15, 16] [pl 5 (.int .i64 who1), pl 7 (.slice A3 (Int.toNat (g3.length : Int)) c3), pl 15 (.slice A7 out3.length c7), pl 16 (.int .i64 (w64 (i2 + 1)))] hF hS Fol (by kernel_rfl) (by kernel_rfl) (by kernel_rfl) ?_ (fun a w hF hS => ?_)
                  · exact obs_nil
                  refine then_n ?_
                  rw [← hφ5] at hm
                  exact ⟨(out3, (w64 (i2 + 1))), ⟨A7, c7, hF.weak [5, 7, 15, 16] (by kernel_rfl), hS⟩, hm⟩
                · refine wpIn_block ?_
                  obtain ⟨hp13, hm⟩ := asrt_b hm
                  refine reg [⟨true, [], vS (Instr.indexAt 147 (.slice A3 (Int.toNat (g3.length : Int)) c3) (.int .i64 i2)), .pointer (some (sAddr A3 i2))⟩, ⟨false, [], vS (Instr.loadAt 4 (.pointer (some (sAddr A3 i2)))), .bool (getb in2 i2)⟩] [none, none, some (.pointer (some (sAddr A3 i2))), some (.bool (getb in2 i2))] [5, 7, 15, 16, 111] [pl 5 (.int .i64 who1), pl 7 (.slice A3 (Int.toNat (g3.length : Int)) c3), pl 15 (.slice A4 out1.length c4), pl 16 (.int .i64 i2), pl 111 (.bool (getb in2 i2))] hF hS Fol (by kernel_rfl) (by kernel_rfl) (by kernel_rfl) ?_ (fun a w hF hS => ?_)
                  · exact obs_cons (ob_ix1 (f := Value.bool) (m := in2) Und147 hi4 hs4 (hS.at_ 0 rfl).rd ((hS.at_ 0 rfl).len1) (fun _ => hp13)) <| obs_cons (ob_get1 (n := (Int.toNat (g3.length : Int))) (m := in2) Value.bool false Agg4 (fun _ hS => ⟨_, (hS.at_ 0 rfl).rd⟩) (fun _ hS => ((hS.at_ 0 rfl).len1)) (fun _ => hp13)) <| obs_nil
                  refine cond_ev (t := 111) (b := getb in2 i2) hF (by kernel_rfl) (fun hb => ?_) (fun hb => ?_)
                  · replace hm := if_t hm hb
                    refine oneR ?_
                    obtain ⟨hp14, hm⟩ := asrt_b hm
                    refine at_run 2 [] [] [5, 7, 16, 112, 113] [pl 5 (.int .i64 who1), pl 7 (.slice A3 (Int.toNat (g3.length : Int)) c3), pl 16 (.int .i64 i2), pl 112 (.slice A4 out1.length c4), pl 113 (.int .i64 i2)] hF hS (by kernel_rfl) (by kernel_rfl) ?_ (fun a w hF hS => ?_)
                    · exact obs_nil
                    refine at_do (d := 114) (s := vS (Instr.buildSlice 27 1 #[(0, .int .i64 i2)])) (v := .slice (some ⟨w.heap.size, 0, none⟩) 1 1) (w' := w.alloc (.cells #[.int .i64 i2] 3)) hF (by kernel_rfl) (by kernel_rfl) (by kernel_rfl) (fun a hF => ?_)
                    have hS : Sep w0 B (w.alloc (.cells #[.int .i64 i2] 3)) (own 3 (.slice (some (⟨w.heap.size, 0, none⟩ : Addr)) 1 1) (vI ([i2] : List Int)) :: (own 4 (.slice A3 (Int.toNat (g3.length : Int)) c3) (vB in2) :: own 3 (.slice A4 out1.length c4) (vI out1) :: fs)) := hS.lit 3 #[.int .i64 i2] 1 rfl (by omega)
                    generalize (some (⟨w.heap.size, 0, none⟩ : Addr)) = g5 at hF hS
                    generalize w.alloc (.cells #[.int .i64 i2] 3) = w at hS ⊢
                    obtain ⟨A6, c6, w, hrun, hS⟩ := run_app1 (P := Try.prog) (t := 27) (m := out1) (ys := ([i2] : List Int)) (A2 := g5) (m2 := 1) (c2 := 1) (Value.int .i64) (0 : Int) (hS.at_ 2 rfl) (hS.at_ 0 rfl).rd ((hS.at_ 0 rfl).len1) 27 Und27 hi3 hz3 hs3 (by omega) rfl (fun _ => rfl) hp14
                    have hS : Sep w0 B w (own 3 (.slice g5 1 1) (vI ([i2] : List Int)) :: own 4 (.slice A3 (Int.toNat (g3.length : Int)) c3) (vB in2) :: own 3 (.slice A6 ((out1 ++ ([i2] : List Int)).length) c6) (vI (out1 ++ ([i2] : List Int))) :: fs) := hS
                    refine at_do (d := 115) hF (by kernel_rfl) (by kernel_rfl) hrun (fun a hF => ?_)
                    refine at_run 1 [] [] [5, 7, 15, 16] [pl 5 (.int .i64 who1), pl 7 (.slice A3 (Int.toNat (g3.length : Int)) c3), pl 15 (.slice A6 ((out1 ++ ([i2] : List Int)).length) c6), pl 16 (.int .i64 i2)] hF hS (by kernel_rfl) (by kernel_rfl) ?_ (fun a w hF hS => ?_)
                    · exact obs_nil
                    refine at_end [5, 7, 15, 16] [pl 5 (.int .i64 who1), pl 7 (.slice A3 (Int.toNat (g3.length : Int)) c3), pl 15 (.slice A6 ((out1 ++ ([i2] : List Int)).length) c6), pl 16 (.int .i64 i2)] hF rfl (by kernel_rfl) (fun hF => ?_)
                    refine block_n ?_
                    refine then_n ?_
                    have hS := hS.pickN 3 [1, 2] (by decide)
                    exact ⟨(out1 ++ ([i2] : List Int)), A6, c6, hF.weak [5, 7, 15, 16] (by kernel_rfl), hS, hm⟩
                  · replace hm := if_f hm hb
                    refine wpIn_skip ?_
                    refine block_n ?_
                    refine then_n ?_
                    exact ⟨out1, A4, c4, hF.weak [5, 7, 15, 16] (by kernel_rfl), hS, hm⟩
              · refine reg [] [] [5, 7, 15, 16, 105] [pl 5 (.int .i64 who1), pl 7 (.slice A3 (Int.toNat (g3.length : Int)) c3), pl 15 (.slice A4 out1.length c4), pl 16 (.int .i64 i2), pl 105 (.bool (decide (i2 < (((Int.toNat (g3.length : Int)) : Nat) : Int))))] hF hS Fol (by kernel_rfl) (by kernel_rfl) (by kernel_rfl) ?_ (fun a w hF hS => ?_)
                · exact obs_nil
                refine cond_ev (t := 105) (b := decide (i2 < (((Int.toNat (g3.length : Int)) : Nat) : Int))) hF (by kernel_rfl) (fun hb => ?_) (fun hb => ?_)
                · replace hm := if_t hm hb
                  refine wpIn_skip ?_
                  refine then_n ?_
                  exact ⟨hF.weak [5, 7, 15, 16] (by kernel_rfl), hS, hm⟩
                · replace hm := if_f hm hb
                  refine wpIn_exit ?_
                  refine then_e (then_e (block_e (then_n ?_)))
                  have hS := hS.pickN 2 [1] (by decide)
                  rw [← hφ5] at hm
                  replace hm := done_b hm
                  unfold gameroomref_HexJoined_K5 at hm
                  try dsimp only at hm
                  have hm : ((gameroomref_HexJoined_J13 who1) out1).bind φ1 = some r := hm
                  exact ⟨out1, A4, c4, hF.weak [5, 15] (by kernel_rfl), hS, hm⟩
          · replace hm := if_f hm hb
            refine wpIn_skip ?_
            refine block_n ?_
            refine then_n ?_
            have hS := hS.pickN 2 [0] (by decide)
            exact ⟨hF.weak [1, 4, 5] (by kernel_rfl), hS, hm⟩
        · refine reg [] [] [1, 4, 5, 6, 7, 8, 9] [pl 1 (.pointer (some ⟨g4, 0, none⟩)), pl 4 (.int .i64 g1), pl 5 (.int .i64 who1), pl 6 (.slice A2 r1.length c2), pl 7 (.slice A3 (Int.toNat (g3.length : Int)) c3), pl 8 (.bool false), pl 9 (.int .i64 0)] hF hS Fol (by kernel_rfl) (by kernel_rfl) (by kernel_rfl) ?_ (fun a w hF hS => ?_)
          · exact obs_nil
          refine wpIn_block ?_
          have hS := hS.pickN 3 [2, 1, 0] (by decide)
          refine wp_loop_model (S := (List Bool × Bool × Int)) (R := (List Bool × Bool)) (gameroomref_HexJoined_L2 g1 g3 who1 r1) (fun x => ((gameroomref_HexJoined_K2 g3 who1) x).bind φ1) r (fun (x : (List Bool × Bool × Int)) a w => Fr 118 [pl 1 (.pointer (some ⟨g4, 0, none⟩)), pl 4 (.int .i64 g1), pl 5 (.int .i64 who1), pl 6 (.slice A2 r1.length c2), pl 7 (.slice A3 (Int.toNat (g3.length : Int)) c3), pl 8 (.bool x.2.1), pl 9 (.int .i64 x.2.2)] a ∧ Sep w0 B w (blk g4 64 #[.int .i64 g1, .int .i64 g2, .slice A1 g3.length c1] :: rows 27 3 (.slice A2 r1.length c2) hd1 r1 :: own 4 (.slice A3 (Int.toNat (g3.length : Int)) c3) (vB x.1) :: fs)) (assoc_b hm) ⟨hF.weak [1, 4, 5, 6, 7, 8, 9] (by kernel_rfl), hS⟩ ?_
          clear hF hS hm
          rintro nn2 ⟨in1, won1, i1⟩ a w ⟨hF, hS⟩ hm
          generalize hφ2 : stK (gameroomref_HexJoined_L2 g1 g3 who1 r1) nn2 (fun x => ((gameroomref_HexJoined_K2 g3 who1) x).bind φ1) = φ2 at hm
          unfold gameroomref_HexJoined_L2 at hm
          dsimp only at hF hS hm
          refine seq_cut (fun a w => Fr 118 [pl 1 (.pointer (some ⟨g4, 0, none⟩)), pl 4 (.int .i64 g1), pl 5 (.int .i64 who1), pl 6 (.slice A2 r1.length c2), pl 7 (.slice A3 (Int.toNat (g3.length : Int)) c3), pl 8 (.bool won1), pl 9 (.int .i64 i1)] a ∧ Sep w0 B w (blk g4 64 #[.int .i64 g1, .int .i64 g2, .slice A1 g3.length c1] :: rows 27 3 (.slice A2 r1.length c2) hd1 r1 :: own 4 (.slice A3 (Int.toNat (g3.length : Int)) c3) (vB in1) :: fs) ∧ ((gameroomref_HexJoined_J5 g1 g3 who1 r1 in1 won1 i1)).bind φ2 = some r) ?_ ?_
          · rintro a w ⟨hF, hS, hm⟩
            unfold gameroomref_HexJoined_J5 at hm
            refine seq_cut (fun a w => ∃ (in4 : List Bool) (won4 : Bool), Fr 118 [pl 1 (.pointer (some ⟨g4, 0, none⟩)), pl 4 (.int .i64 g1), pl 5 (.int .i64 who1), pl 6 (.slice A2 r1.length c2), pl 7 (.slice A3 (Int.toNat (g3.length : Int)) c3), pl 8 (.bool won4), pl 9 (.int .i64 i1)] a ∧ Sep w0 B w (blk g4 64 #[.int .i64 g1, .int .i64 g2, .slice A1 g3.length c1] :: rows 27 3 (.slice A2 r1.length c2) hd1 r1 :: own 4 (.slice A3 (Int.toNat (g3.length : Int)) c3) (vB in4) :: fs) ∧ ((gameroomref_HexJoined_J6 i1) in4 won4).bind φ2 = some r) ?_ ?_
            · rintro a w ⟨in4, won4, hF, hS, hm⟩
              unfold gameroomref_HexJoined_J6 at hm
              refine reg1 [] [] [1, 4, 5, 6, 7, 8, 9] [pl 1 (.pointer (some ⟨g4, 0, none⟩)), pl 4 (.int .i64 g1), pl 5 (.int .i64 who1), pl 6 (.slice A2 r1.length c2), pl 7 (.slice A3 (Int.toNat (g3.length : Int)) c3), pl 8 (.bool won4), pl 9 (.int .i64 (w64 (i1 + 1)))] hF hS Fol (by kernel_rfl) (by kernel_rfl) (by kernel_rfl) ?_ (fun a w hF hS => ?_)
              · exact obs_nil
              refine then_n ?_
              rw [← hφ2] at hm
              exact ⟨(in4, won4, (w64 (i1 + 1))), ⟨hF.weak [1, 4, 5, 6, 7, 8, 9] (by kernel_rfl), hS⟩, hm⟩
            · refine wpIn_block ?_
              refine reg [] [] [1, 4, 5, 6, 7, 8, 9, 10, 11] [pl 1 (.pointer (some ⟨g4, 0, none⟩)), pl 4 (.int .i64 g1), pl 5 (.int .i64 who1), pl 6 (.slice A2 r1.length c2), pl 7 (.slice A3 (Int.toNat (g3.length : Int)) c3), pl 8 (.bool won1), pl 9 (.int .i64 i1), pl 10 (.bool false), pl 11 (.bool false)] hF hS Fol (by kernel_rfl) (by kernel_rfl) (by kernel_rfl) ?_ (fun a w hF hS => ?_)
              · exact obs_nil
              refine seq_cut (fun a w => ∃ (first2 : Bool) (last2 : Bool), Fr 118 [pl 1 (.pointer (some ⟨g4, 0, none⟩)), pl 4 (.int .i64 g1), pl 5 (.int .i64 who1), pl 6 (.slice A2 r1.length c2), pl 7 (.slice A3 (Int.toNat (g3.length : Int)) c3), pl 8 (.bool won1), pl 9 (.int .i64 i1), pl 10 (.bool first2), pl 11 (.bool last2)] a ∧ Sep w0 B w (blk g4 64 #[.int .i64 g1, .int .i64 g2, .slice A1 g3.length c1] :: rows 27 3 (.slice A2 r1.length c2) hd1 r1 :: own 4 (.slice A3 (Int.toNat (g3.length : Int)) c3) (vB in1) :: fs) ∧ ((gameroomref_HexJoined_J7 g3 r1 in1 won1 i1) first2 last2).bind φ2 = some r) ?_ ?_
              · rintro a w ⟨first2, last2, hF, hS, hm⟩
                unfold gameroomref_HexJoined_J7 at hm
                refine reg [] [] [1, 4, 5, 6, 7, 8, 9, 10, 11, 14] [pl 1 (.pointer (some ⟨g4, 0, none⟩)), pl 4 (.int .i64 g1), pl 5 (.int .i64 who1), pl 6 (.slice A2 r1.length c2), pl 7 (.slice A3 (Int.toNat (g3.length : Int)) c3), pl 8 (.bool won1), pl 9 (.int .i64 i1), pl 10 (.bool first2), pl 11 (.bool last2), pl 14 (.int .i64 0)] hF hS Fol (by kernel_rfl) (by kernel_rfl) (by kernel_rfl) ?_ (fun a w hF hS => ?_)
                · exact obs_nil
                refine wpIn_block ?_
                refine wp_loop_model (S := (List Bool × Bool × Int)) (R := (List Bool × Bool)) (gameroomref_HexJoined_L4 g3 r1 i1 first2 last2) (fun x => ((gameroomref_HexJoined_K4 i1) x).bind φ2) r (fun (x : (List Bool × Bool × Int)) a w => Fr 118 [pl 1 (.pointer (some ⟨g4, 0, none⟩)), pl 4 (.int .i64 g1), pl 5 (.int .i64 who1), pl 6 (.slice A2 r1.length c2), pl 7 (.slice A3 (Int.toNat (g3.length : Int)) c3), pl 8 (.bool x.2.1), pl 9 (.int .i64 i1), pl 10 (.bool first2), pl 11 (.bool last2), pl 14 (.int .i64 x.2.2)] a ∧ Sep w0 B w (blk g4 64 #[.int .i64 g1, .int .i64 g2, .slice A1 g3.length c1] :: rows 27 3 (.slice A2 r1.length c2) hd1 r1 :: own 4 (.slice A3 (Int.toNat (g3.length : Int)) c3) (vB x.1) :: fs)) (assoc_b hm) ⟨hF.weak [1, 4, 5, 6, 7, 8, 9, 10, 11, 14] (by kernel_rfl), hS⟩ ?_
                clear hF hS hm
                rintro nn4 ⟨in3, won3, k2⟩ a w ⟨hF, hS⟩ hm
                generalize hφ4 : stK (gameroomref_HexJoined_L4 g3 r1 i1 first2 last2) nn4 (fun x => ((gameroomref_HexJoined_K4 i1) x).bind φ2) = φ4 at hm
                unfold gameroomref_HexJoined_L4 at hm
                dsimp only at hF hS hm
                refine seq_cut (fun a w => Fr 118 [pl 1 (.pointer (some ⟨g4, 0, none⟩)), pl 4 (.int .i64 g1), pl 5 (.int .i64 who1), pl 6 (.slice A2 r1.length c2), pl 7 (.slice A3 (Int.toNat (g3.length : Int)) c3), pl 9 (.int .i64 i1), pl 10 (.bool first2), pl 11 (.bool last2), pl 14 (.int .i64 k2)] a ∧ Sep w0 B w (blk g4 64 #[.int .i64 g1, .int .i64 g2, .slice A1 g3.length c1] :: rows 27 3 (.slice A2 r1.length c2) hd1 r1 :: own 4 (.slice A3 (Int.toNat (g3.length : Int)) c3) (vB in3) :: fs) ∧ ((gameroomref_HexJoined_J11 g3 r1 i1 in3 k2)).bind φ4 = some r) ?_ ?_
                · rintro a w ⟨hF, hS, hm⟩
                  unfold gameroomref_HexJoined_J11 at hm
                  refine seq_cut (fun a w => Fr 118 [pl 1 (.pointer (some ⟨g4, 0, none⟩)), pl 4 (.int .i64 g1), pl 5 (.int .i64 who1), pl 6 (.slice A2 r1.length c2), pl 7 (.slice A3 (Int.toNat (g3.length : Int)) c3), pl 8 (.bool true), pl 9 (.int .i64 i1), pl 10 (.bool first2), pl 11 (.bool last2), pl 14 (.int .i64 k2)] a ∧ Sep w0 B w (blk g4 64 #[.int .i64 g1, .int .i64 g2, .slice A1 g3.length c1] :: rows 27 3 (.slice A2 r1.length c2) hd1 r1 :: own 4 (.slice A3 (Int.toNat (g3.length : Int)) c3) (vB (in3.set (Int.toNat (geti (geti2 r1 i1) k2)) true)) :: fs) ∧ ((gameroomref_HexJoined_J12 r1 i1 in3 k2)).bind φ4 = some r) ?_ ?_
                  · rintro a w ⟨hF, hS, hm⟩
                    unfold gameroomref_HexJoined_J12 at hm
                    refine reg1 [] [] [1, 4, 5, 6, 7, 8, 9, 10, 11, 14] [pl 1 (.pointer (some ⟨g4, 0, none⟩)), pl 4 (.int .i64 g1), pl 5 (.int .i64 who1), pl 6 (.slice A2 r1.length c2), pl 7 (.slice A3 (Int.toNat (g3.length : Int)) c3), pl 8 (.bool true), pl 9 (.int .i64 i1), pl 10 (.bool first2), pl 11 (.bool last2), pl 14 (.int .i64 (w64 (k2 + 1)))] hF hS Fol (by kernel_rfl) (by kernel_rfl) (by kernel_rfl) ?_ (fun a w hF hS => ?_)
                    · exact obs_nil
                    refine then_n ?_
                    rw [← hφ4] at hm
                    exact ⟨((in3.set (Int.toNat (geti (geti2 r1 i1) k2)) true), true, (w64 (k2 + 1))), ⟨hF.weak [1, 4, 5, 6, 7, 8, 9, 10, 11, 14] (by kernel_rfl), hS⟩, hm⟩
                  · refine wpIn_block ?_
                    refine seqR ?_
                    obtain ⟨hp10, hm⟩ := asrt_b hm
                    obtain ⟨hp11, hm⟩ := asrt_b hm
                    obtain ⟨hp12, hm⟩ := asrt_b hm
                    have hb5 := rowb (n := r1.length) (hS.at_ 1 rfl).lenR hp10
                    refine at_run 9 [⟨true, [], vS (Instr.indexAt 22 (.slice A2 r1.length c2) (.int .i64 i1)), .pointer (some (sAddr A2 i1))⟩, ⟨false, [], vS (Instr.loadAt 27 (.pointer (some (sAddr A2 i1)))), .slice (hdA hd1 i1) ((geti2 r1 i1).length) (hdC hd1 i1)⟩, ⟨true, [], vS (Instr.indexAt 27 (.slice (hdA hd1 i1) ((geti2 r1 i1).length) (hdC hd1 i1)) (.int .i64 k2)), .pointer (some (sAddr (hdA hd1 i1) k2))⟩, ⟨false, [], vS (Instr.loadAt 3 (.pointer (some (sAddr (hdA hd1 i1) k2)))), .int .i64 (geti (geti2 r1 i1) k2)⟩, ⟨true, [], vS (Instr.indexAt 147 (.slice A3 (Int.toNat (g3.length : Int)) c3) (.int .i64 (geti (geti2 r1 i1) k2))), .pointer (some (sAddr A3 (geti (geti2 r1 i1) k2)))⟩] [none, none, none, some (.pointer (some (sAddr A2 i1))), some (.slice (hdA hd1 i1) ((geti2 r1 i1).length) (hdC hd1 i1)), none, some (.pointer (some (sAddr (hdA hd1 i1) k2))), some (.int .i64 (geti (geti2 r1 i1) k2)), some (.pointer (some (sAddr A3 (geti (geti2 r1 i1) k2))))] [1, 4, 5, 6, 7, 9, 10, 11, 14, 100] [pl 1 (.pointer (some ⟨g4, 0, none⟩)), pl 4 (.int .i64 g1), pl 5 (.int .i64 who1), pl 6 (.slice A2 r1.length c2), pl 7 (.slice A3 (Int.toNat (g3.length : Int)) c3), pl 9 (.int .i64 i1), pl 10 (.bool first2), pl 11 (.bool last2), pl 14 (.int .i64 k2), pl 100 (.pointer (some (sAddr A3 (geti (geti2 r1 i1) k2))))] hF hS (by kernel_rfl) (by kernel_rfl) ?_ (fun a w hF hS => ?_)
                    · exact obs_cons (ob_ixRn Und22 hi27 hs27 (hS.at_ 1 rfl).rdRows (hS.at_ 1 rfl).lenR (fun _ => hp10)) <| obs_cons (ob_getR Agg27 (fun _ hS => ⟨_, (hS.at_ 1 rfl).rdRows⟩) (fun _ => hb5)) <| obs_cons (ob_ix1 (f := (Value.int .i64)) (m := (geti2 r1 i1)) Und27 hi3 hs3 ((hS.at_ 1 rfl).rdRows.row _ hb5).1 rfl (fun _ => hp11)) <| obs_cons (ob_get1 (n := (geti2 r1 i1).length) (m := (geti2 r1 i1)) (Value.int .i64) (0 : Int) Agg3 (fun _ hS => ⟨_, ((hS.at_ 1 rfl).rdRows.row _ hb5).1⟩) (fun _ hS => rfl) (fun _ => hp11)) <| obs_cons (ob_ix1 (f := Value.bool) (m := in3) Und147 hi4 hs4 (hS.at_ 2 rfl).rd ((hS.at_ 2 rfl).len1) (fun _ => hp12)) <| obs_nil
                    obtain ⟨w, hrun, hS⟩ := run_set1 (P := Try.prog) (t := 4) (x := true) Value.bool (hS.at_ 2 rfl) hi4 hs4 rfl rfl hp12
                    refine at_skip hF (by kernel_rfl) hrun ?_
                    have hS : Sep w0 B w (blk g4 64 #[.int .i64 g1, .int .i64 g2, .slice A1 g3.length c1] :: rows 27 3 (.slice A2 r1.length c2) hd1 r1 :: own 4 (.slice A3 (Int.toNat (g3.length : Int)) c3) (vB (in3.set (Int.toNat (geti (geti2 r1 i1) k2)) true)) :: fs) := hS
                    refine at_end [1, 4, 5, 6, 7, 9, 10, 11, 14] [pl 1 (.pointer (some ⟨g4, 0, none⟩)), pl 4 (.int .i64 g1), pl 5 (.int .i64 who1), pl 6 (.slice A2 r1.length c2), pl 7 (.slice A3 (Int.toNat (g3.length : Int)) c3), pl 9 (.int .i64 i1), pl 10 (.bool first2), pl 11 (.bool last2), pl 14 (.int .i64 k2)] hF rfl (by kernel_rfl) (fun hF => ?_)
                    refine then_n ?_
                    refine reg1 [] [] [1, 4, 5, 6, 7, 8, 9, 10, 11, 14] [pl 1 (.pointer (some ⟨g4, 0, none⟩)), pl 4 (.int .i64 g1), pl 5 (.int .i64 who1), pl 6 (.slice A2 r1.length c2), pl 7 (.slice A3 (Int.toNat (g3.length : Int)) c3), pl 8 (.bool true), pl 9 (.int .i64 i1), pl 10 (.bool first2), pl 11 (.bool last2), pl 14 (.int .i64 k2)] hF hS Fol (by kernel_rfl) (by kernel_rfl) (by kernel_rfl) ?_ (fun a w hF hS => ?_)
                    · exact obs_nil
                    refine block_n ?_
                    refine then_n ?_
                    exact ⟨hF.weak [1, 4, 5, 6, 7, 8, 9, 10, 11, 14] (by kernel_rfl), hS, hm⟩
                · obtain ⟨hp9, hm⟩ := asrt_b hm
                  have hb4 := rowb (n := r1.length) (hS.at_ 1 rfl).lenR hp9
                  refine reg [⟨true, [], vS (Instr.indexAt 22 (.slice A2 r1.length c2) (.int .i64 i1)), .pointer (some (sAddr A2 i1))⟩, ⟨false, [], vS (Instr.loadAt 27 (.pointer (some (sAddr A2 i1)))), .slice (hdA hd1 i1) ((geti2 r1 i1).length) (hdC hd1 i1)⟩] [none, none, none, some (.pointer (some (sAddr A2 i1))), some (.slice (hdA hd1 i1) ((geti2 r1 i1).length) (hdC hd1 i1)), none, none, none, none, none, none, none, none] [1, 4, 5, 6, 7, 8, 9, 10, 11, 14, 89] [pl 1 (.pointer (some ⟨g4, 0, none⟩)), pl 4 (.int .i64 g1), pl 5 (.int .i64 who1), pl 6 (.slice A2 r1.length c2), pl 7 (.slice A3 (Int.toNat (g3.length : Int)) c3), pl 8 (.bool won3), pl 9 (.int .i64 i1), pl 10 (.bool first2), pl 11 (.bool last2), pl 14 (.int .i64 k2), pl 89 (.bool (((decide (k2 < (((geti2 r1 i1).length : Nat) : Int))) && first2) && last2))] hF hS Fol (by kernel_rfl) (by kernel_rfl) (by kernel_rfl) ?_ (fun a w hF hS => ?_)
                  · exact obs_cons (ob_ixRn Und22 hi27 hs27 (hS.at_ 1 rfl).rdRows (hS.at_ 1 rfl).lenR (fun _ => hp9)) <| obs_cons (ob_getR Agg27 (fun _ hS => ⟨_, (hS.at_ 1 rfl).rdRows⟩) (fun _ => hb4)) <| obs_nil
                  refine cond_ev (t := 89) (b := ((decide (k2 < (((geti2 r1 i1).length : Nat) : Int))) && first2) && last2) hF (by kernel_rfl) (fun hb => ?_) (fun hb => ?_)
                  · replace hm := if_t hm hb
                    refine wpIn_skip ?_
                    refine then_n ?_
                    exact ⟨hF.weak [1, 4, 5, 6, 7, 9, 10, 11, 14] (by kernel_rfl), hS, hm⟩
                  · replace hm := if_f hm hb
                    refine wpIn_exit ?_
                    refine then_e (then_e (block_e (block_n (then_n ?_))))
                    rw [← hφ4] at hm
                    replace hm := done_b hm
                    unfold gameroomref_HexJoined_K4 at hm
                    try dsimp only at hm
                    have hm : ((gameroomref_HexJoined_J6 i1) in3 won3).bind φ2 = some r := hm
                    exact ⟨in3, won3, hF.weak [1, 4, 5, 6, 7, 8, 9] (by kernel_rfl), hS, hm⟩
              · refine reg [] [] [1, 4, 5, 6, 7, 8, 9, 10, 11, 12] [pl 1 (.pointer (some ⟨g4, 0, none⟩)), pl 4 (.int .i64 g1), pl 5 (.int .i64 who1), pl 6 (.slice A2 r1.length c2), pl 7 (.slice A3 (Int.toNat (g3.length : Int)) c3), pl 8 (.bool won1), pl 9 (.int .i64 i1), pl 10 (.bool false), pl 11 (.bool false), pl 12 (.int .i64 0)] hF hS Fol (by kernel_rfl) (by kernel_rfl) (by kernel_rfl) ?_ (fun a w hF hS => ?_)
                · exact obs_nil
                refine wpIn_block ?_
                refine wp_loop_model (S := (Bool × Bool × Int)) (R := (Bool × Bool)) (gameroomref_HexJoined_L3 g1 who1 r1 i1) (fun x => ((gameroomref_HexJoined_K3 g3 r1 in1 won1 i1) x).bind φ2) r (fun (x : (Bool × Bool × Int)) a w => Fr 118 [pl 1 (.pointer (some ⟨g4, 0, none⟩)), pl 4 (.int .i64 g1), pl 5 (.int .i64 who1), pl 6 (.slice A2 r1.length c2), pl 7 (.slice A3 (Int.toNat (g3.length : Int)) c3), pl 8 (.bool won1), pl 9 (.int .i64 i1), pl 10 (.bool x.1), pl 11 (.bool x.2.1), pl 12 (.int .i64 x.2.2)] a ∧ Sep w0 B w (blk g4 64 #[.int .i64 g1, .int .i64 g2, .slice A1 g3.length c1] :: rows 27 3 (.slice A2 r1.length c2) hd1 r1 :: own 4 (.slice A3 (Int.toNat (g3.length : Int)) c3) (vB in1) :: fs)) (assoc_b hm) ⟨hF.weak [1, 4, 5, 6, 7, 8, 9, 10, 11, 12] (by kernel_rfl), hS⟩ ?_
                clear hF hS hm
                rintro nn3 ⟨first1, last1, k1⟩ a w ⟨hF, hS⟩ hm
                generalize hφ3 : stK (gameroomref_HexJoined_L3 g1 who1 r1 i1) nn3 (fun x => ((gameroomref_HexJoined_K3 g3 r1 in1 won1 i1) x).bind φ2) = φ3 at hm
                unfold gameroomref_HexJoined_L3 at hm
                dsimp only at hF hS hm
                refine seq_cut (fun a w => Fr 118 [pl 1 (.pointer (some ⟨g4, 0, none⟩)), pl 4 (.int .i64 g1), pl 5 (.int .i64 who1), pl 6 (.slice A2 r1.length c2), pl 7 (.slice A3 (Int.toNat (g3.length : Int)) c3), pl 8 (.bool won1), pl 9 (.int .i64 i1), pl 10 (.bool first1), pl 11 (.bool last1), pl 12 (.int .i64 k1)] a ∧ Sep w0 B w (blk g4 64 #[.int .i64 g1, .int .i64 g2, .slice A1 g3.length c1] :: rows 27 3 (.slice A2 r1.length c2) hd1 r1 :: own 4 (.slice A3 (Int.toNat (g3.length : Int)) c3) (vB in1) :: fs) ∧ ((gameroomref_HexJoined_J8 g1 who1 r1 i1 first1 last1 k1)).bind φ3 = some r) ?_ ?_
                · rintro a w ⟨hF, hS, hm⟩
                  unfold gameroomref_HexJoined_J8 at hm
                  refine seq_cut (fun a w => ∃ (first3 : Bool) (last3 : Bool), Fr 118 [pl 1 (.pointer (some ⟨g4, 0, none⟩)), pl 4 (.int .i64 g1), pl 5 (.int .i64 who1), pl 6 (.slice A2 r1.length c2), pl 7 (.slice A3 (Int.toNat (g3.length : Int)) c3), pl 8 (.bool won1), pl 9 (.int .i64 i1), pl 10 (.bool first3), pl 11 (.bool last3), pl 12 (.int .i64 k1)] a ∧ Sep w0 B w (blk g4 64 #[.int .i64 g1, .int .i64 g2, .slice A1 g3.length c1] :: rows 27 3 (.slice A2 r1.length c2) hd1 r1 :: own 4 (.slice A3 (Int.toNat (g3.length : Int)) c3) (vB in1) :: fs) ∧ ((gameroomref_HexJoined_J9 k1) first3 last3).bind φ3 = some r) ?_ ?_
                  · rintro a w ⟨first3, last3, hF, hS, hm⟩
                    unfold gameroomref_HexJoined_J9 at hm
                    refine reg1 [] [] [1, 4, 5, 6, 7, 8, 9, 10, 11, 12] [pl 1 (.pointer (some ⟨g4, 0, none⟩)), pl 4 (.int .i64 g1), pl 5 (.int .i64 who1), pl 6 (.slice A2 r1.length c2), pl 7 (.slice A3 (Int.toNat (g3.length : Int)) c3), pl 8 (.bool won1), pl 9 (.int .i64 i1), pl 10 (.bool first3), pl 11 (.bool last3), pl 12 (.int .i64 (w64 (k1 + 1)))] hF hS Fol (by kernel_rfl) (by kernel_rfl) (by kernel_rfl) ?_ (fun a w hF hS => ?_)
                    · exact obs_nil
                    refine then_n ?_
                    rw [← hφ3] at hm
                    exact ⟨(first3, last3, (w64 (k1 + 1))), ⟨hF.weak [1, 4, 5, 6, 7, 8, 9, 10, 11, 12] (by kernel_rfl), hS⟩, hm⟩
                  · refine wpIn_block ?_
                    obtain ⟨hp3, hm⟩ := asrt_b hm
                    obtain ⟨hp4, hm⟩ := asrt_b hm
                    obtain ⟨hp5, hm⟩ := asrt_b hm
                    have hb2 := rowb (n := r1.length) (hS.at_ 1 rfl).lenR hp3
                    refine reg [⟨true, [], vS (Instr.indexAt 22 (.slice A2 r1.length c2) (.int .i64 i1)), .pointer (some (sAddr A2 i1))⟩, ⟨false, [], vS (Instr.loadAt 27 (.pointer (some (sAddr A2 i1)))), .slice (hdA hd1 i1) ((geti2 r1 i1).length) (hdC hd1 i1)⟩, ⟨true, [], vS (Instr.indexAt 27 (.slice (hdA hd1 i1) ((geti2 r1 i1).length) (hdC hd1 i1)) (.int .i64 k1)), .pointer (some (sAddr (hdA hd1 i1) k1))⟩, ⟨false, [], vS (Instr.loadAt 3 (.pointer (some (sAddr (hdA hd1 i1) k1)))), .int .i64 (geti (geti2 r1 i1) k1)⟩, ⟨true, [], vS (Op.intDiv .quo .i64 (geti (geti2 r1 i1) k1) g1), .int .i64 (w64 (Int.tdiv (geti (geti2 r1 i1) k1) g1))⟩] [none, none, some (.pointer (some (sAddr A2 i1))), some (.slice (hdA hd1 i1) ((geti2 r1 i1).length) (hdC hd1 i1)), none, some (.pointer (some (sAddr (hdA hd1 i1) k1))), some (.int .i64 (geti (geti2 r1 i1) k1)), none, some (.int .i64 (w64 (Int.tdiv (geti (geti2 r1 i1) k1) g1))), none] [1, 4, 5, 6, 7, 8, 9, 10, 11, 12, 13] [pl 1 (.pointer (some ⟨g4, 0, none⟩)), pl 4 (.int .i64 g1), pl 5 (.int .i64 who1), pl 6 (.slice A2 r1.length c2), pl 7 (.slice A3 (Int.toNat (g3.length : Int)) c3), pl 8 (.bool won1), pl 9 (.int .i64 i1), pl 10 (.bool first1), pl 11 (.bool last1), pl 12 (.int .i64 k1), pl 13 (.int .i64 (w64 (Int.tdiv (geti (geti2 r1 i1) k1) g1)))] hF hS Fol (by kernel_rfl) (by kernel_rfl) (by kernel_rfl) ?_ (fun a w hF hS => ?_)
                    · exact obs_cons (ob_ixRn Und22 hi27 hs27 (hS.at_ 1 rfl).rdRows (hS.at_ 1 rfl).lenR (fun _ => hp3)) <| obs_cons (ob_getR Agg27 (fun _ hS => ⟨_, (hS.at_ 1 rfl).rdRows⟩) (fun _ => hb2)) <| obs_cons (ob_ix1 (f := (Value.int .i64)) (m := (geti2 r1 i1)) Und27 hi3 hs3 ((hS.at_ 1 rfl).rdRows.row _ hb2).1 rfl (fun _ => hp4)) <| obs_cons (ob_get1 (n := (geti2 r1 i1).length) (m := (geti2 r1 i1)) (Value.int .i64) (0 : Int) Agg3 (fun _ hS => ⟨_, ((hS.at_ 1 rfl).rdRows.row _ hb2).1⟩) (fun _ hS => rfl) (fun _ => hp4)) <| obs_cons (ob_quo rfl (fun _ => hp5)) <| obs_nil
                    refine seq_cut (fun a w => ∃ (d1 : Int), Fr 118 [pl 1 (.pointer (some ⟨g4, 0, none⟩)), pl 4 (.int .i64 g1), pl 5 (.int .i64 who1), pl 6 (.slice A2 r1.length c2), pl 7 (.slice A3 (Int.toNat (g3.length : Int)) c3), pl 8 (.bool won1), pl 9 (.int .i64 i1), pl 10 (.bool first1), pl 11 (.bool last1), pl 12 (.int .i64 k1), pl 13 (.int .i64 d1)] a ∧ Sep w0 B w (blk g4 64 #[.int .i64 g1, .int .i64 g2, .slice A1 g3.length c1] :: rows 27 3 (.slice A2 r1.length c2) hd1 r1 :: own 4 (.slice A3 (Int.toNat (g3.length : Int)) c3) (vB in1) :: fs) ∧ ((gameroomref_HexJoined_J10 g1 first1 last1 k1) d1).bind φ3 = some r) ?_ ?_
                    · rintro a w ⟨d1, hF, hS, hm⟩
                      unfold gameroomref_HexJoined_J10 at hm
                      refine reg [] [] [1, 4, 5, 6, 7, 8, 9, 10, 11, 12, 13] [pl 1 (.pointer (some ⟨g4, 0, none⟩)), pl 4 (.int .i64 g1), pl 5 (.int .i64 who1), pl 6 (.slice A2 r1.length c2), pl 7 (.slice A3 (Int.toNat (g3.length : Int)) c3), pl 8 (.bool won1), pl 9 (.int .i64 i1), pl 10 (.bool (first1 || (d1 == 0))), pl 11 (.bool last1), pl 12 (.int .i64 k1), pl 13 (.int .i64 d1)] hF hS Fol (by kernel_rfl) (by kernel_rfl) (by kernel_rfl) ?_ (fun a w hF hS => ?_)
                      · exact obs_nil
                      refine reg1 [] [] [1, 4, 5, 6, 7, 8, 9, 10, 11, 12] [pl 1 (.pointer (some ⟨g4, 0, none⟩)), pl 4 (.int .i64 g1), pl 5 (.int .i64 who1), pl 6 (.slice A2 r1.length c2), pl 7 (.slice A3 (Int.toNat (g3.length : Int)) c3), pl 8 (.bool won1), pl 9 (.int .i64 i1), pl 10 (.bool (first1 || (d1 == 0))), pl 11 (.bool (last1 || (d1 == (w64 (g1 - 1))))), pl 12 (.int .i64 k1)] hF hS Fol (by kernel_rfl) (by kernel_rfl) (by kernel_rfl) ?_ (fun a w hF hS => ?_)
                      · exact obs_nil
                      refine block_n ?_
                      refine then_n ?_
                      exact ⟨(first1 || (d1 == 0)), (last1 || (d1 == (w64 (g1 - 1)))), hF.weak [1, 4, 5, 6, 7, 8, 9, 10, 11, 12] (by kernel_rfl), hS, hm⟩
                    · refine reg [] [] [1, 4, 5, 6, 7, 8, 9, 10, 11, 12, 13, 55] [pl 1 (.pointer (some ⟨g4, 0, none⟩)), pl 4 (.int .i64 g1), pl 5 (.int .i64 who1), pl 6 (.slice A2 r1.length c2), pl 7 (.slice A3 (Int.toNat (g3.length : Int)) c3), pl 8 (.bool won1), pl 9 (.int .i64 i1), pl 10 (.bool first1), pl 11 (.bool last1), pl 12 (.int .i64 k1), pl 13 (.int .i64 (w64 (Int.tdiv (geti (geti2 r1 i1) k1) g1))), pl 55 (.bool (who1 == 2))] hF hS Fol (by kernel_rfl) (by kernel_rfl) (by kernel_rfl) ?_ (fun a w hF hS => ?_)
                      · exact obs_nil
                      refine cond_ev (t := 55) (b := (who1 == 2)) hF (by kernel_rfl) (fun hb => ?_) (fun hb => ?_)
                      · replace hm := if_t hm hb
                        obtain ⟨hp6, hm⟩ := asrt_b hm
                        obtain ⟨hp7, hm⟩ := asrt_b hm
                        obtain ⟨hp8, hm⟩ := asrt_b hm
                        have hb3 := rowb (n := r1.length) (hS.at_ 1 rfl).lenR hp6
                        refine reg1 [⟨true, [], vS (Instr.indexAt 22 (.slice A2 r1.length c2) (.int .i64 i1)), .pointer (some (sAddr A2 i1))⟩, ⟨false, [], vS (Instr.loadAt 27 (.pointer (some (sAddr A2 i1)))), .slice (hdA hd1 i1) ((geti2 r1 i1).length) (hdC hd1 i1)⟩, ⟨true, [], vS (Instr.indexAt 27 (.slice (hdA hd1 i1) ((geti2 r1 i1).length) (hdC hd1 i1)) (.int .i64 k1)), .pointer (some (sAddr (hdA hd1 i1) k1))⟩, ⟨false, [], vS (Instr.loadAt 3 (.pointer (some (sAddr (hdA hd1 i1) k1)))), .int .i64 (geti (geti2 r1 i1) k1)⟩, ⟨true, [], vS (Op.intDiv .rem .i64 (geti (geti2 r1 i1) k1) g1), .int .i64 (Int.tmod (geti (geti2 r1 i1) k1) g1)⟩] [none, none, some (.pointer (some (sAddr A2 i1))), some (.slice (hdA hd1 i1) ((geti2 r1 i1).length) (hdC hd1 i1)), none, some (.pointer (some (sAddr (hdA hd1 i1) k1))), some (.int .i64 (geti (geti2 r1 i1) k1)), none, some (.int .i64 (Int.tmod (geti (geti2 r1 i1) k1) g1)), none] [1, 4, 5, 6, 7, 8, 9, 10, 11, 12, 13] [pl 1 (.pointer (some ⟨g4, 0, none⟩)), pl 4 (.int .i64 g1), pl 5 (.int .i64 who1), pl 6 (.slice A2 r1.length c2), pl 7 (.slice A3 (Int.toNat (g3.length : Int)) c3), pl 8 (.bool won1), pl 9 (.int .i64 i1), pl 10 (.bool first1), pl 11 (.bool last1), pl 12 (.int .i64 k1), pl 13 (.int .i64 (Int.tmod (geti (geti2 r1 i1) k1) g1))] hF hS Fol (by kernel_rfl) (by kernel_rfl) (by kernel_rfl) ?_ (fun a w hF hS => ?_)
                        · exact obs_cons (ob_ixRn Und22 hi27 hs27 (hS.at_ 1 rfl).rdRows (hS.at_ 1 rfl).lenR (fun _ => hp6)) <| obs_cons (ob_getR Agg27 (fun _ hS => ⟨_, (hS.at_ 1 rfl).rdRows⟩) (fun _ => hb3)) <| obs_cons (ob_ix1 (f := (Value.int .i64)) (m := (geti2 r1 i1)) Und27 hi3 hs3 ((hS.at_ 1 rfl).rdRows.row _ hb3).1 rfl (fun _ => hp7)) <| obs_cons (ob_get1 (n := (geti2 r1 i1).length) (m := (geti2 r1 i1)) (Value.int .i64) (0 : Int) Agg3 (fun _ hS => ⟨_, ((hS.at_ 1 rfl).rdRows.row _ hb3).1⟩) (fun _ hS => rfl) (fun _ => hp7)) <| obs_cons (ob_rem rfl (fun _ => hp8)) <| obs_nil
                        refine then_n ?_
                        exact ⟨(Int.tmod (geti (geti2 r1 i1) k1) g1), hF.weak [1, 4, 5, 6, 7, 8, 9, 10, 11, 12, 13] (by kernel_rfl), hS, hm⟩
                      · replace hm := if_f hm hb
                        refine wpIn_skip ?_
                        refine then_n ?_
                        exact ⟨(w64 (Int.tdiv (geti (geti2 r1 i1) k1) g1)), hF.weak [1, 4, 5, 6, 7, 8, 9, 10, 11, 12, 13] (by kernel_rfl), hS, hm⟩
                · obtain ⟨hp2, hm⟩ := asrt_b hm
                  have hb1 := rowb (n := r1.length) (hS.at_ 1 rfl).lenR hp2
                  refine reg [⟨true, [], vS (Instr.indexAt 22 (.slice A2 r1.length c2) (.int .i64 i1)), .pointer (some (sAddr A2 i1))⟩, ⟨false, [], vS (Instr.loadAt 27 (.pointer (some (sAddr A2 i1)))), .slice (hdA hd1 i1) ((geti2 r1 i1).length) (hdC hd1 i1)⟩] [none, none, none, some (.pointer (some (sAddr A2 i1))), some (.slice (hdA hd1 i1) ((geti2 r1 i1).length) (hdC hd1 i1)), none, none] [1, 4, 5, 6, 7, 8, 9, 10, 11, 12, 42] [pl 1 (.pointer (some ⟨g4, 0, none⟩)), pl 4 (.int .i64 g1), pl 5 (.int .i64 who1), pl 6 (.slice A2 r1.length c2), pl 7 (.slice A3 (Int.toNat (g3.length : Int)) c3), pl 8 (.bool won1), pl 9 (.int .i64 i1), pl 10 (.bool first1), pl 11 (.bool last1), pl 12 (.int .i64 k1), pl 42 (.bool (decide (k1 < (((geti2 r1 i1).length : Nat) : Int))))] hF hS Fol (by kernel_rfl) (by kernel_rfl) (by kernel_rfl) ?_ (fun a w hF hS => ?_)
                  · exact obs_cons (ob_ixRn Und22 hi27 hs27 (hS.at_ 1 rfl).rdRows (hS.at_ 1 rfl).lenR (fun _ => hp2)) <| obs_cons (ob_getR Agg27 (fun _ hS => ⟨_, (hS.at_ 1 rfl).rdRows⟩) (fun _ => hb1)) <| obs_nil
                  refine cond_ev (t := 42) (b := decide (k1 < (((geti2 r1 i1).length : Nat) : Int))) hF (by kernel_rfl) (fun hb => ?_) (fun hb => ?_)
                  · replace hm := if_t hm hb
                    refine wpIn_skip ?_
                    refine then_n ?_
                    exact ⟨hF.weak [1, 4, 5, 6, 7, 8, 9, 10, 11, 12] (by kernel_rfl), hS, hm⟩
                  · replace hm := if_f hm hb
                    refine wpIn_exit ?_
                    refine then_e (then_e (block_e (then_n ?_)))
                    rw [← hφ3] at hm
                    replace hm := done_b hm
                    unfold gameroomref_HexJoined_K3 at hm
                    try dsimp only at hm
                    have hm : ((gameroomref_HexJoined_J7 g3 r1 in1 won1 i1) first1 last1).bind φ2 = some r := hm
                    exact ⟨first1, last1, hF.weak [1, 4, 5, 6, 7, 8, 9, 10, 11] (by kernel_rfl), hS, hm⟩
          · refine reg [] [] [1, 4, 5, 6, 7, 8, 9, 33] [pl 1 (.pointer (some ⟨g4, 0, none⟩)), pl 4 (.int .i64 g1), pl 5 (.int .i64 who1), pl 6 (.slice A2 r1.length c2), pl 7 (.slice A3 (Int.toNat (g3.length : Int)) c3), pl 8 (.bool won1), pl 9 (.int .i64 i1), pl 33 (.bool (decide (i1 < (r1.length : Int))))] hF hS Fol (by kernel_rfl) (by kernel_rfl) (by kernel_rfl) ?_ (fun a w hF hS => ?_)
            · exact obs_nil
            refine cond_ev (t := 33) (b := decide (i1 < (r1.length : Int))) hF (by kernel_rfl) (fun hb => ?_) (fun hb => ?_)
            · replace hm := if_t hm hb
              refine wpIn_skip ?_
              refine then_n ?_
              exact ⟨hF.weak [1, 4, 5, 6, 7, 8, 9] (by kernel_rfl), hS, hm⟩
            · replace hm := if_f hm hb
              refine wpIn_exit ?_
              refine then_e (then_e (block_e (then_n ?_)))
              have hS := hS.pickN 3 [0, 2] (by decide)
              rw [← hφ2] at hm
              replace hm := done_b hm
              unfold gameroomref_HexJoined_K2 at hm
              try dsimp only at hm
              have hm : ((gameroomref_HexJoined_J4 g3 who1) in1 won1).bind φ1 = some r := hm
              exact ⟨in1, won1, hF.weak [1, 4, 5, 7, 8] (by kernel_rfl), hS, hm⟩
    · refine reg [] [] [1, 4, 5, 20] [pl 1 (.pointer (some ⟨g4, 0, none⟩)), pl 4 (.int .i64 g1), pl 5 (.int .i64 who1), pl 20 (.bool (decide (who1 ≤ 2)))] hF hS Fol (by kernel_rfl) (by kernel_rfl) (by kernel_rfl) ?_ (fun a w hF hS => ?_)
      · exact obs_nil
      refine cond_ev (t := 20) (b := decide (who1 ≤ 2)) hF (by kernel_rfl) (fun hb => ?_) (fun hb => ?_)
      · replace hm := if_t hm hb
        refine wpIn_skip ?_
        refine then_n ?_
        exact ⟨hF.weak [1, 4, 5] (by kernel_rfl), hS, hm⟩
      · replace hm := if_f hm hb
        refine wpIn_exit ?_
        refine then_e (then_e (block_e (then_n ?_)))
        have hS := hS.pickN 1 [] (by decide)
        rw [← hφ1] at hm
        replace hm := done_b hm
        unfold gameroomref_HexJoined_K1 at hm
        try dsimp only at hm
        have hm : (gameroomref_HexJoined_J1).bind some = some r := hm
        exact ⟨hF.weak [] (by kernel_rfl), hS, hm⟩

noncomputable def gameroomref_HexWins_J4  (i1 : Int) : Option (St Int (Fl Unit Int)) :=
  some (.next (w64 (i1 + 1)))

noncomputable def gameroomref_HexWins_J5  (rec_gameroomref_HexWins : Int → Int → List Int → Int → Option Int) (g1 : Int) (g2 : Int) (g3 : List Int) (who1 : Int) (i1 : Int) : Option (St Int (Fl Unit Int)) :=
  (gameroomref_GridOf_m g1 g2 g3).bind fun r2 => asrt (0 ≤ i1 ∧ i1 < (r2.2.2.length : Int)) <| (rec_gameroomref_HexWins r2.1 r2.2.1 (r2.2.2.set (Int.toNat i1) who1) (w64 (3 - who1))).bind fun r3 => if (r3 == who1) then (some (.done (.ret who1))) else ((gameroomref_HexWins_J4 i1))

noncomputable def gameroomref_HexWins_J3  (rec_gameroomref_HexWins : Int → Int → List Int → Int → Option Int) (g1 : Int) (g2 : Int) (g3 : List Int) (who1 : Int) (i1 : Int) : Option (St Int (Fl Unit Int)) :=
  asrt (0 ≤ i1 ∧ i1 < (g3.length : Int)) <| if ((geti g3 i1) != 0) then ((gameroomref_HexWins_J4 i1)) else ((gameroomref_HexWins_J5 rec_gameroomref_HexWins g1 g2 g3 who1 i1))

noncomputable def gameroomref_HexWins_J2  (who1 : Int) : Option Int :=
  some (w64 (3 - who1))

noncomputable def gameroomref_HexWins_K1  (who1 : Int) : (Fl Unit Int) → Option Int :=
  fun (x : (Fl Unit Int)) => match x with | .go _ => (gameroomref_HexWins_J2 who1) | .ret x => some x

noncomputable def gameroomref_HexWins_L1  (rec_gameroomref_HexWins : Int → Int → List Int → Int → Option Int) (g1 : Int) (g2 : Int) (g3 : List Int) (who1 : Int) : Int → Option (St Int (Fl Unit Int)) :=
  fun (x : Int) => match x with | i1 => if (decide (i1 < (g3.length : Int))) then ((gameroomref_HexWins_J3 rec_gameroomref_HexWins g1 g2 g3 who1 i1)) else (some (.done (.go ())))

noncomputable def gameroomref_HexWins_J1  (rec_gameroomref_HexWins : Int → Int → List Int → Int → Option Int) (g1 : Int) (g2 : Int) (g3 : List Int) (who1 : Int) : Option Int :=
  (loop (gameroomref_HexWins_L1 rec_gameroomref_HexWins g1 g2 g3 who1) 0).bind (gameroomref_HexWins_K1 who1)

noncomputable def gameroomref_HexWins_B (rec_gameroomref_HexWins : Int → Int → List Int → Int → Option Int) (g1 : Int) (g2 : Int) (g3 : List Int) (who1 : Int) : Option Int :=
  (gameroomref_HexJoined_m g1 g2 g3).bind fun r1 => if (decide ((0 : Int) < r1.1)) then (some r1.1) else ((gameroomref_HexWins_J1 rec_gameroomref_HexWins g1 g2 g3 who1))

noncomputable def gameroomref_HexWins_mF : Nat → Int → Int → List Int → Int → Option Int
  | 0 => fun _ _ _ _ => none
  | n + 1 => fun g1 g2 g3 who1 => gameroomref_HexWins_B (gameroomref_HexWins_mF n) g1 g2 g3 who1

noncomputable def gameroomref_HexWins_m (g1 : Int) (g2 : Int) (g3 : List Int) (who1 : Int) : Option Int :=
  recM fun n => gameroomref_HexWins_mF n g1 g2 g3 who1

set_option maxRecDepth 100000 in
set_option maxHeartbeats 4000000 in
theorem gameroomref_HexWins_wB {rec_gameroomref_HexWins : Int → Int → List Int → Int → Option Int} (ih_gameroomref_HexWins : ∀ {g1 : Int} {g2 : Int} {A1 : Option Addr} {c1 : Nat} {n1 : Nat} {g3 : List Int} {who1 : Int} {r : Int} {w0 w : World} {B : Nat} {fs : List HP} (_ : rec_gameroomref_HexWins g1 g2 g3 who1 = some r) (_ : Sep w0 B w (fs)) (hr_g3 : RdF w0 B fs A1 (vI g3)) (_hc_g3 : g3.length ≤ c1) (_hn_g3 : n1 = g3.length), Calls Try.prog 126 #[.agg #[.int .i64 g1, .int .i64 g2, .slice A1 n1 c1], .int .i64 who1] w fun e w' => e = .returned (.int .i64 r) ∧ Sep w0 B w' (fs)) {g1 : Int} {g2 : Int} {A1 : Option Addr} {c1 : Nat} {n1 : Nat} {g3 : List Int} {who1 : Int} {r : Int} {w0 w : World} {B : Nat} {fs : List HP} (hm : gameroomref_HexWins_B rec_gameroomref_HexWins g1 g2 g3 who1 = some r) (hS : Sep w0 B w (fs)) (hr_g3 : RdF w0 B fs A1 (vI g3)) (_hc_g3 : g3.length ≤ c1) (_hn_g3 : n1 = g3.length) :
    Calls Try.prog 126 #[.agg #[.int .i64 g1, .int .i64 g2, .slice A1 n1 c1], .int .i64 who1] w fun e w' => e = .returned (.int .i64 r) ∧ Sep w0 B w' (fs) := by
  obtain ⟨i3, hi3, hz3, hs3, hb3⟩ := info_parts Info3
  obtain rfl := _hn_g3
  unfold gameroomref_HexWins_B at hm
  replace hm := start_b hm
  refine enter (l := [.agg #[.int .i64 g1, .int .i64 g2, .slice A1 g3.length c1], .int .i64 who1]) (n := 46) Try.func126 rfl rfl (by simp) (fun a hF => ?_)
  refine seqR ?_
  refine at_do (d := 2) (s := vS (Instr.box 64 (.agg #[.int .i64 g1, .int .i64 g2, .slice A1 g3.length c1]))) (v := .pointer (some ⟨w.heap.size, 0, none⟩)) (w' := w.alloc (.cells #[.int .i64 g1, .int .i64 g2, .slice A1 g3.length c1] 64)) hF (by kernel_rfl) (by kernel_rfl) (by kernel_rfl) (fun a hF => ?_)
  have hS : Sep w0 B (w.alloc (.cells #[.int .i64 g1, .int .i64 g2, .slice A1 g3.length c1] 64)) (blk w.heap.size 64 #[.int .i64 g1, .int .i64 g2, .slice A1 g3.length c1] :: (fs)) := hS.box 64 #[.int .i64 g1, .int .i64 g2, .slice A1 g3.length c1]
  generalize w.heap.size = g4 at hF hS
  generalize w.alloc (.cells #[.int .i64 g1, .int .i64 g2, .slice A1 g3.length c1] 64) = w at hS ⊢
  refine at_run 1 [] [] [1, 2] [pl 1 (.int .i64 who1), pl 2 (.pointer (some ⟨g4, 0, none⟩))] hF hS (by kernel_rfl) (by kernel_rfl) ?_ (fun a w hF hS => ?_)
  · exact obs_nil
  refine at_end [1, 2] [pl 1 (.int .i64 who1), pl 2 (.pointer (some ⟨g4, 0, none⟩))] hF rfl (by kernel_rfl) (fun hF => ?_)
  refine then_n ?_
  refine seqR ?_
  obtain ⟨r1, hr1, hm⟩ := call_b hm
  refine at_run 1 [⟨false, [], vS (Instr.loadAt 64 (.pointer (some ⟨g4, 0, none⟩))), .agg #[.int .i64 g1, .int .i64 g2, .slice A1 g3.length c1]⟩] [some (.agg #[.int .i64 g1, .int .i64 g2, .slice A1 g3.length c1])] [1, 2, 10] [pl 1 (.int .i64 who1), pl 2 (.pointer (some ⟨g4, 0, none⟩)), pl 10 (.agg #[.int .i64 g1, .int .i64 g2, .slice A1 g3.length c1])] hF hS (by kernel_rfl) (by kernel_rfl) ?_ (fun a w hF hS => ?_)
  · exact obs_cons (ob_loadA (cs := #[.int .i64 g1, .int .i64 g2, .slice A1 g3.length c1]) (by kernel_rfl) (by kernel_rfl) (fun _ _ hS => (hS.at_ 0 rfl).cellsAt 0 (by rfl))) <| obs_nil
  refine at_call (f := 125) (args := #[.agg #[.int .i64 g1, .int .i64 g2, .slice A1 g3.length c1]]) (d := 11) hF (by kernel_rfl) (by kernel_rfl) Try.func125 (by kernel_rfl) rfl (gameroomref_HexJoined_w hr1 hS (fun _ hS => (hr_g3 _ (hS.dropN 1))) _hc_g3 rfl) (fun v a w hR hF => ?_)
  clear hS
  obtain ⟨A2, c2, rfl, hS⟩ := hR
  have hS : Sep w0 B w (own 3 (.slice A2 r1.2.length c2) (vI r1.2) :: blk g4 64 #[.int .i64 g1, .int .i64 g2, .slice A1 g3.length c1] :: fs) := hS
  refine at_run 5 [] [] [1, 2, 5] [pl 1 (.int .i64 who1), pl 2 (.pointer (some ⟨g4, 0, none⟩)), pl 5 (.int .i64 r1.1)] hF hS (by kernel_rfl) (by kernel_rfl) ?_ (fun a w hF hS => ?_)
  · exact obs_nil
  refine at_end [1, 2, 5] [pl 1 (.int .i64 who1), pl 2 (.pointer (some ⟨g4, 0, none⟩)), pl 5 (.int .i64 r1.1)] hF rfl (by kernel_rfl) (fun hF => ?_)
  refine then_n ?_
  refine seq_cut (fun a w => Fr 46 [pl 1 (.int .i64 who1), pl 2 (.pointer (some ⟨g4, 0, none⟩))] a ∧ Sep w0 B w (blk g4 64 #[.int .i64 g1, .int .i64 g2, .slice A1 g3.length c1] :: fs) ∧ ((gameroomref_HexWins_J1 rec_gameroomref_HexWins g1 g2 g3 who1)).bind some = some r) ?_ ?_
  · rintro a w ⟨hF, hS, hm⟩
    unfold gameroomref_HexWins_J1 at hm
    refine seq_cut (fun a w => Fr 46 [pl 1 (.int .i64 who1)] a ∧ Sep w0 B w (fs) ∧ ((gameroomref_HexWins_J2 who1)).bind some = some r) ?_ ?_
    · rintro a w ⟨hF, hS, hm⟩
      unfold gameroomref_HexWins_J2 at hm
      refine reg [] [] [4] [pl 4 (.int .i64 (w64 (3 - who1)))] hF hS Fol (by kernel_rfl) (by kernel_rfl) (by kernel_rfl) ?_ (fun a w hF hS => ?_)
      · exact obs_nil
      refine wpIn_ret ?_
      have hm : some (w64 (3 - who1)) = some r := hm
      obtain rfl := Option.some.inj hm
      exact retV (rs := [.tmp 4]) (vs := [.int .i64 (w64 (3 - who1))]) hF rfl (rv_t (by kernel_rfl) <| rv_nil) rfl ⟨rfl, hS⟩
    · refine reg [] [] [1, 2, 7] [pl 1 (.int .i64 who1), pl 2 (.pointer (some ⟨g4, 0, none⟩)), pl 7 (.int .i64 0)] hF hS Fol (by kernel_rfl) (by kernel_rfl) (by kernel_rfl) ?_ (fun a w hF hS => ?_)
      · exact obs_nil
      refine wpIn_block ?_
      refine wp_loop_model (S := Int) (R := (Fl Unit Int)) (gameroomref_HexWins_L1 rec_gameroomref_HexWins g1 g2 g3 who1) (fun x => ((gameroomref_HexWins_K1 who1) x).bind some) r (fun (x : Int) a w => Fr 46 [pl 1 (.int .i64 who1), pl 2 (.pointer (some ⟨g4, 0, none⟩)), pl 7 (.int .i64 x)] a ∧ Sep w0 B w (blk g4 64 #[.int .i64 g1, .int .i64 g2, .slice A1 g3.length c1] :: fs)) (assoc_b hm) ⟨hF.weak [1, 2, 7] (by kernel_rfl), hS⟩ ?_
      clear hF hS hm
      rintro nn1 i1 a w ⟨hF, hS⟩ hm
      generalize hφ1 : stK (gameroomref_HexWins_L1 rec_gameroomref_HexWins g1 g2 g3 who1) nn1 (fun x => ((gameroomref_HexWins_K1 who1) x).bind some) = φ1 at hm
      unfold gameroomref_HexWins_L1 at hm
      dsimp only at hm
      refine seq_cut (fun a w => Fr 46 [pl 1 (.int .i64 who1), pl 2 (.pointer (some ⟨g4, 0, none⟩)), pl 7 (.int .i64 i1)] a ∧ Sep w0 B w (blk g4 64 #[.int .i64 g1, .int .i64 g2, .slice A1 g3.length c1] :: fs) ∧ ((gameroomref_HexWins_J3 rec_gameroomref_HexWins g1 g2 g3 who1 i1)).bind φ1 = some r) ?_ ?_
      · rintro a w ⟨hF, hS, hm⟩
        unfold gameroomref_HexWins_J3 at hm
        refine seq_cut (fun a w => Fr 46 [pl 1 (.int .i64 who1), pl 2 (.pointer (some ⟨g4, 0, none⟩)), pl 7 (.int .i64 i1)] a ∧ Sep w0 B w (blk g4 64 #[.int .i64 g1, .int .i64 g2, .slice A1 g3.length c1] :: fs) ∧ ((gameroomref_HexWins_J4 i1)).bind φ1 = some r) ?_ ?_
        · rintro a w ⟨hF, hS, hm⟩
          unfold gameroomref_HexWins_J4 at hm
          refine reg1 [] [] [1, 2, 7] [pl 1 (.int .i64 who1), pl 2 (.pointer (some ⟨g4, 0, none⟩)), pl 7 (.int .i64 (w64 (i1 + 1)))] hF hS Fol (by kernel_rfl) (by kernel_rfl) (by kernel_rfl) ?_ (fun a w hF hS => ?_)
          · exact obs_nil
          refine then_n ?_
          rw [← hφ1] at hm
          exact ⟨(w64 (i1 + 1)), ⟨hF.weak [1, 2, 7] (by kernel_rfl), hS⟩, hm⟩
        · refine wpIn_block ?_
          refine seq_cut (fun a w => Fr 46 [pl 1 (.int .i64 who1), pl 2 (.pointer (some ⟨g4, 0, none⟩)), pl 7 (.int .i64 i1)] a ∧ Sep w0 B w (blk g4 64 #[.int .i64 g1, .int .i64 g2, .slice A1 g3.length c1] :: fs) ∧ ((gameroomref_HexWins_J5 rec_gameroomref_HexWins g1 g2 g3 who1 i1)).bind φ1 = some r) ?_ ?_
          · rintro a w ⟨hF, hS, hm⟩
            unfold gameroomref_HexWins_J5 at hm
            refine seqR ?_
            obtain ⟨r2, hr2, hm⟩ := call_b hm
            refine at_run 1 [⟨false, [], vS (Instr.loadAt 64 (.pointer (some ⟨g4, 0, none⟩))), .agg #[.int .i64 g1, .int .i64 g2, .slice A1 g3.length c1]⟩] [some (.agg #[.int .i64 g1, .int .i64 g2, .slice A1 g3.length c1])] [1, 2, 7, 30] [pl 1 (.int .i64 who1), pl 2 (.pointer (some ⟨g4, 0, none⟩)), pl 7 (.int .i64 i1), pl 30 (.agg #[.int .i64 g1, .int .i64 g2, .slice A1 g3.length c1])] hF hS (by kernel_rfl) (by kernel_rfl) ?_ (fun a w hF hS => ?_)
            · exact obs_cons (ob_loadA (cs := #[.int .i64 g1, .int .i64 g2, .slice A1 g3.length c1]) (by kernel_rfl) (by kernel_rfl) (fun _ _ hS => (hS.at_ 0 rfl).cellsAt 0 (by rfl))) <| obs_nil
            refine at_call (f := 40) (args := #[.agg #[.int .i64 g1, .int .i64 g2, .slice A1 g3.length c1]]) (d := 31) hF (by kernel_rfl) (by kernel_rfl) Try.func40 (by kernel_rfl) rfl (gameroomref_GridOf_w hr2 hS (fun _ hS => (hr_g3 _ (hS.dropN 1))) _hc_g3 rfl) (fun v a w hR hF => ?_)
            clear hS
            obtain ⟨A3, c3, rfl, hS⟩ := hR
            have hS : Sep w0 B w (own 3 (.slice A3 r2.2.2.length c3) (vI r2.2.2) :: blk g4 64 #[.int .i64 g1, .int .i64 g2, .slice A1 g3.length c1] :: fs) := hS
            refine at_do (d := 8) (s := vS (Instr.alloc 64 true (.tuple #[]))) (v := .pointer (some ⟨w.heap.size, 0, none⟩)) (w' := w.alloc (.cells #[.int .i64 0, .int .i64 0, .slice none 0 0] 64)) hF (by kernel_rfl) (by kernel_rfl) (by kernel_rfl) (fun a hF => ?_)
            have hS : Sep w0 B (w.alloc (.cells #[.int .i64 0, .int .i64 0, .slice none 0 0] 64)) (blk w.heap.size 64 #[.int .i64 0, .int .i64 0, .slice none 0 0] :: (own 3 (.slice A3 r2.2.2.length c3) (vI r2.2.2) :: blk g4 64 #[.int .i64 g1, .int .i64 g2, .slice A1 g3.length c1] :: fs)) := hS.box 64 #[.int .i64 0, .int .i64 0, .slice none 0 0]
            generalize w.heap.size = g5 at hF hS
            generalize w.alloc (.cells #[.int .i64 0, .int .i64 0, .slice none 0 0] 64) = w at hS ⊢
            obtain ⟨w, hrun, hS⟩ := run_putA (P := Try.prog) (t := 64) (us := #[.int .i64 r2.1, .int .i64 r2.2.1, .slice A3 r2.2.2.length c3]) (o := 0) (hS.at_ 0 rfl) (by kernel_rfl) (all_one (by kernel_rfl)) (Nat.le_of_ble_eq_true (by kernel_rfl))
            refine at_skip hF (by kernel_rfl) hrun ?_
            have hS : Sep w0 B w (blk g5 64 #[.int .i64 r2.1, .int .i64 r2.2.1, .slice A3 r2.2.2.length c3] :: own 3 (.slice A3 r2.2.2.length c3) (vI r2.2.2) :: blk g4 64 #[.int .i64 g1, .int .i64 g2, .slice A1 g3.length c1] :: fs) := hS
            refine at_end [1, 2, 7, 8] [pl 1 (.int .i64 who1), pl 2 (.pointer (some ⟨g4, 0, none⟩)), pl 7 (.int .i64 i1), pl 8 (.pointer (some ⟨g5, 0, none⟩))] hF rfl (by kernel_rfl) (fun hF => ?_)
            refine then_n ?_
            refine seqR ?_
            obtain ⟨hp2, hm⟩ := asrt_b hm
            refine at_run 5 [⟨false, [], vS (Instr.loadAt 27 (.pointer (some ⟨g5, 2, none⟩))), .slice A3 r2.2.2.length c3⟩, ⟨true, [], vS (Instr.indexAt 27 (.slice A3 r2.2.2.length c3) (.int .i64 i1)), .pointer (some (sAddr A3 i1))⟩] [none, some (.slice A3 r2.2.2.length c3), none, none, some (.pointer (some (sAddr A3 i1)))] [1, 2, 7, 8, 35, 36] [pl 1 (.int .i64 who1), pl 2 (.pointer (some ⟨g4, 0, none⟩)), pl 7 (.int .i64 i1), pl 8 (.pointer (some ⟨g5, 0, none⟩)), pl 35 (.int .i64 who1), pl 36 (.pointer (some (sAddr A3 i1)))] hF hS (by kernel_rfl) (by kernel_rfl) ?_ (fun a w hF hS => ?_)
            · exact obs_cons (ob_load Agg27 (fun _ _ hS => (hS.at_ 0 rfl).cell rfl)) <| obs_cons (ob_ix1 (f := (Value.int .i64)) (m := r2.2.2) Und27 hi3 hs3 (hS.at_ 1 rfl).rd rfl (fun _ => hp2)) <| obs_nil
            obtain ⟨w, hrun, hS⟩ := run_set1 (P := Try.prog) (t := 3) (x := who1) (Value.int .i64) (hS.at_ 1 rfl) hi3 hs3 rfl rfl hp2
            refine at_skip hF (by kernel_rfl) hrun ?_
            have hS : Sep w0 B w (blk g5 64 #[.int .i64 r2.1, .int .i64 r2.2.1, .slice A3 r2.2.2.length c3] :: own 3 (.slice A3 r2.2.2.length c3) (vI (r2.2.2.set (Int.toNat i1) who1)) :: blk g4 64 #[.int .i64 g1, .int .i64 g2, .slice A1 g3.length c1] :: fs) := hS
            refine at_end [1, 2, 7, 8] [pl 1 (.int .i64 who1), pl 2 (.pointer (some ⟨g4, 0, none⟩)), pl 7 (.int .i64 i1), pl 8 (.pointer (some ⟨g5, 0, none⟩))] hF rfl (by kernel_rfl) (fun hF => ?_)
            refine then_n ?_
            obtain ⟨r3, hr3, hm⟩ := call_b hm
            refine reg [⟨false, [], vS (Instr.loadAt 64 (.pointer (some ⟨g5, 0, none⟩))), .agg #[.int .i64 r2.1, .int .i64 r2.2.1, .slice A3 r2.2.2.length c3]⟩, ⟨false, [], callFunc 126 #[.agg #[.int .i64 r2.1, .int .i64 r2.2.1, .slice A3 r2.2.2.length c3], .int .i64 (w64 (3 - who1))], .int .i64 r3⟩] [some (.agg #[.int .i64 r2.1, .int .i64 r2.2.1, .slice A3 r2.2.2.length c3]), none, none, some (.int .i64 r3), none, none] [1, 2, 7, 42] [pl 1 (.int .i64 who1), pl 2 (.pointer (some ⟨g4, 0, none⟩)), pl 7 (.int .i64 i1), pl 42 (.bool (r3 == who1))] hF hS Fol (by kernel_rfl) (by kernel_rfl) (by kernel_rfl) ?_ (fun a w hF hS => ?_)
            · exact obs_cons (ob_loadA (cs := #[.int .i64 r2.1, .int .i64 r2.2.1, .slice A3 r2.2.2.length c3]) (by kernel_rfl) (by kernel_rfl) (fun _ _ hS => (hS.at_ 0 rfl).cellsAt 0 (by rfl))) <| obs_cons (ob_call Try.func126 (by kernel_rfl) rfl (fun _ _ hS => ih_gameroomref_HexWins hr3 hS (fun _ hS => (hS.at_ 1 rfl).rd) ((hS.at_ 1 rfl).cap1) ((hS.at_ 1 rfl).len1))) <| obs_nil
            refine cond_ev (t := 42) (b := (r3 == who1)) hF (by kernel_rfl) (fun hb => ?_) (fun hb => ?_)
            · replace hm := if_t hm hb
              refine reg [] [] [4] [pl 4 (.int .i64 who1)] hF hS Fol (by kernel_rfl) (by kernel_rfl) (by kernel_rfl) ?_ (fun a w hF hS => ?_)
              · exact obs_nil
              refine wpIn_ret ?_
              refine block_r (then_r (then_r (block_r (then_r ?_))))
              rw [← hφ1] at hm
              replace hm := done_b hm
              unfold gameroomref_HexWins_K1 at hm
              try dsimp only at hm
              have hS := hS.pickN 3 [] (by decide)
              have hm : some who1 = some r := hm
              obtain rfl := Option.some.inj hm
              exact retV (rs := [.tmp 4]) (vs := [.int .i64 who1]) hF rfl (rv_t (by kernel_rfl) <| rv_nil) rfl ⟨rfl, hS⟩
            · replace hm := if_f hm hb
              refine wpIn_skip ?_
              refine block_n ?_
              refine then_n ?_
              have hS := hS.pickN 3 [2] (by decide)
              exact ⟨hF.weak [1, 2, 7] (by kernel_rfl), hS, hm⟩
          · obtain ⟨hp1, hm⟩ := asrt_b hm
            refine reg [⟨false, [], vS (Instr.loadAt 27 (.pointer (some ⟨g4, 2, none⟩))), .slice A1 g3.length c1⟩, ⟨true, [], vS (Instr.indexAt 27 (.slice A1 g3.length c1) (.int .i64 i1)), .pointer (some (sAddr A1 i1))⟩, ⟨false, [], vS (Instr.loadAt 3 (.pointer (some (sAddr A1 i1)))), .int .i64 (geti g3 i1)⟩] [none, some (.slice A1 g3.length c1), none, some (.pointer (some (sAddr A1 i1))), some (.int .i64 (geti g3 i1)), none] [1, 2, 7, 29] [pl 1 (.int .i64 who1), pl 2 (.pointer (some ⟨g4, 0, none⟩)), pl 7 (.int .i64 i1), pl 29 (.bool ((geti g3 i1) != 0))] hF hS Fol (by kernel_rfl) (by kernel_rfl) (by kernel_rfl) ?_ (fun a w hF hS => ?_)
            · exact obs_cons (ob_load Agg27 (fun _ _ hS => (hS.at_ 0 rfl).cell rfl)) <| obs_cons (ob_ix1 (f := (Value.int .i64)) (m := g3) Und27 hi3 hs3 (hr_g3 _ (hS.dropN 1)) rfl (fun _ => hp1)) <| obs_cons (ob_get1 (n := g3.length) (m := g3) (Value.int .i64) (0 : Int) Agg3 (fun _ hS => ⟨_, (hr_g3 _ (hS.dropN 1))⟩) (fun _ hS => rfl) (fun _ => hp1)) <| obs_nil
            refine cond_ev (t := 29) (b := ((geti g3 i1) != 0)) hF (by kernel_rfl) (fun hb => ?_) (fun hb => ?_)
            · replace hm := if_t hm hb
              refine wpIn_exit ?_
              refine then_e (block_e (then_n ?_))
              exact ⟨hF.weak [1, 2, 7] (by kernel_rfl), hS, hm⟩
            · replace hm := if_f hm hb
              refine wpIn_skip ?_
              refine then_n ?_
              exact ⟨hF.weak [1, 2, 7] (by kernel_rfl), hS, hm⟩
      · refine reg [⟨false, [], vS (Instr.loadAt 27 (.pointer (some ⟨g4, 2, none⟩))), .slice A1 g3.length c1⟩] [none, none, some (.slice A1 g3.length c1), none, none] [1, 2, 7, 21] [pl 1 (.int .i64 who1), pl 2 (.pointer (some ⟨g4, 0, none⟩)), pl 7 (.int .i64 i1), pl 21 (.bool (decide (i1 < (g3.length : Int))))] hF hS Fol (by kernel_rfl) (by kernel_rfl) (by kernel_rfl) ?_ (fun a w hF hS => ?_)
        · exact obs_cons (ob_load Agg27 (fun _ _ hS => (hS.at_ 0 rfl).cell rfl)) <| obs_nil
        refine cond_ev (t := 21) (b := decide (i1 < (g3.length : Int))) hF (by kernel_rfl) (fun hb => ?_) (fun hb => ?_)
        · replace hm := if_t hm hb
          refine wpIn_skip ?_
          refine then_n ?_
          exact ⟨hF.weak [1, 2, 7] (by kernel_rfl), hS, hm⟩
        · replace hm := if_f hm hb
          refine wpIn_exit ?_
          refine then_e (then_e (block_e (then_n ?_)))
          have hS := hS.pickN 1 [] (by decide)
          rw [← hφ1] at hm
          replace hm := done_b hm
          unfold gameroomref_HexWins_K1 at hm
          try dsimp only at hm
          have hm : ((gameroomref_HexWins_J2 who1)).bind some = some r := hm
          exact ⟨hF.weak [1] (by kernel_rfl), hS, hm⟩
  · refine reg [] [] [1, 2, 5, 15] [pl 1 (.int .i64 who1), pl 2 (.pointer (some ⟨g4, 0, none⟩)), pl 5 (.int .i64 r1.1), pl 15 (.bool (decide ((0 : Int) < r1.1)))] hF hS Fol (by kernel_rfl) (by kernel_rfl) (by kernel_rfl) ?_ (fun a w hF hS => ?_)
    · exact obs_nil
    refine cond_ev (t := 15) (b := decide ((0 : Int) < r1.1)) hF (by kernel_rfl) (fun hb => ?_) (fun hb => ?_)
    · replace hm := if_t hm hb
      refine reg [] [] [4] [pl 4 (.int .i64 r1.1)] hF hS Fol (by kernel_rfl) (by kernel_rfl) (by kernel_rfl) ?_ (fun a w hF hS => ?_)
      · exact obs_nil
      refine wpIn_ret ?_
      refine then_r ?_
      have hS := hS.pickN 2 [] (by decide)
      have hm : some r1.1 = some r := hm
      obtain rfl := Option.some.inj hm
      exact retV (rs := [.tmp 4]) (vs := [.int .i64 r1.1]) hF rfl (rv_t (by kernel_rfl) <| rv_nil) rfl ⟨rfl, hS⟩
    · replace hm := if_f hm hb
      refine wpIn_skip ?_
      refine then_n ?_
      have hS := hS.pickN 2 [1] (by decide)
      exact ⟨hF.weak [1, 2] (by kernel_rfl), hS, hm⟩

theorem gameroomref_HexWins_w {g1 : Int} {g2 : Int} {A1 : Option Addr} {c1 : Nat} {n1 : Nat} {g3 : List Int} {who1 : Int} {r : Int} {w0 w : World} {B : Nat} {fs : List HP} (hm : gameroomref_HexWins_m g1 g2 g3 who1 = some r) (hS : Sep w0 B w (fs)) (hr_g3 : RdF w0 B fs A1 (vI g3)) (_hc_g3 : g3.length ≤ c1) (_hn_g3 : n1 = g3.length) :
    Calls Try.prog 126 #[.agg #[.int .i64 g1, .int .i64 g2, .slice A1 n1 c1], .int .i64 who1] w fun e w' => e = .returned (.int .i64 r) ∧ Sep w0 B w' (fs) := by
  have key : ∀ (n : Nat) {g1 : Int} {g2 : Int} {A1 : Option Addr} {c1 : Nat} {n1 : Nat} {g3 : List Int} {who1 : Int} {r : Int} {w0 w : World} {B : Nat} {fs : List HP} (_ : gameroomref_HexWins_mF n g1 g2 g3 who1 = some r) (_ : Sep w0 B w (fs)) (hr_g3 : RdF w0 B fs A1 (vI g3)) (_hc_g3 : g3.length ≤ c1) (_hn_g3 : n1 = g3.length), Calls Try.prog 126 #[.agg #[.int .i64 g1, .int .i64 g2, .slice A1 n1 c1], .int .i64 who1] w fun e w' => e = .returned (.int .i64 r) ∧ Sep w0 B w' (fs) := by
    intro n
    induction n with
    | zero => intros; rename_i hm0 _ _ _ _; cases hm0
    | succ n ih => intros; rename_i hm0 hS0 h0 h1 h2; exact gameroomref_HexWins_wB (rec_gameroomref_HexWins := gameroomref_HexWins_mF n) (fun hm hS h0 h1 h2 => ih hm hS h0 h1 h2) hm0 hS0 h0 h1 h2
  obtain ⟨n, hn⟩ := recM_some hm
  exact key n hn hS hr_g3 _hc_g3 _hn_g3

set_option maxRecDepth 100000 in
theorem gameroomref_HexWins_J5_le_gameroomref_HexWins {rec_gameroomref_HexWins1 rec_gameroomref_HexWins2 : Int → Int → List Int → Int → Option Int} (h_rec_gameroomref_HexWins : ∀ a0 a1 a2 a3, Le (rec_gameroomref_HexWins1 a0 a1 a2 a3) (rec_gameroomref_HexWins2 a0 a1 a2 a3)) (g1 : Int) (g2 : Int) (g3 : List Int) (who1 : Int) (i1 : Int) : Le (gameroomref_HexWins_J5 rec_gameroomref_HexWins1 g1 g2 g3 who1 i1) (gameroomref_HexWins_J5 rec_gameroomref_HexWins2 g1 g2 g3 who1 i1) := by
  unfold gameroomref_HexWins_J5
  repeat' (first | with_reducible exact Le.refl _ | with_reducible exact h_rec_gameroomref_HexWins _ _ _ _ | with_reducible refine Le.asrt ?_ | with_reducible refine Le.ite ?_ ?_ | refine Le.bind ?_ (fun _ => ?_) | refine Le.loop2 (fun _ => ?_) | refine Le.elim2 (fun _ => ?_) (fun _ => ?_))

set_option maxRecDepth 100000 in
theorem gameroomref_HexWins_J3_le_gameroomref_HexWins {rec_gameroomref_HexWins1 rec_gameroomref_HexWins2 : Int → Int → List Int → Int → Option Int} (h_rec_gameroomref_HexWins : ∀ a0 a1 a2 a3, Le (rec_gameroomref_HexWins1 a0 a1 a2 a3) (rec_gameroomref_HexWins2 a0 a1 a2 a3)) (g1 : Int) (g2 : Int) (g3 : List Int) (who1 : Int) (i1 : Int) : Le (gameroomref_HexWins_J3 rec_gameroomref_HexWins1 g1 g2 g3 who1 i1) (gameroomref_HexWins_J3 rec_gameroomref_HexWins2 g1 g2 g3 who1 i1) := by
  unfold gameroomref_HexWins_J3
  repeat' (first | with_reducible exact Le.refl _ | with_reducible exact h_rec_gameroomref_HexWins _ _ _ _ | with_reducible exact gameroomref_HexWins_J5_le_gameroomref_HexWins h_rec_gameroomref_HexWins _ _ _ _ _ | with_reducible refine Le.asrt ?_ | with_reducible refine Le.ite ?_ ?_ | refine Le.bind ?_ (fun _ => ?_) | refine Le.loop2 (fun _ => ?_) | refine Le.elim2 (fun _ => ?_) (fun _ => ?_))

set_option maxRecDepth 100000 in
theorem gameroomref_HexWins_L1_le_gameroomref_HexWins {rec_gameroomref_HexWins1 rec_gameroomref_HexWins2 : Int → Int → List Int → Int → Option Int} (h_rec_gameroomref_HexWins : ∀ a0 a1 a2 a3, Le (rec_gameroomref_HexWins1 a0 a1 a2 a3) (rec_gameroomref_HexWins2 a0 a1 a2 a3)) (g1 : Int) (g2 : Int) (g3 : List Int) (who1 : Int) (x : Int) : Le (gameroomref_HexWins_L1 rec_gameroomref_HexWins1 g1 g2 g3 who1 x) (gameroomref_HexWins_L1 rec_gameroomref_HexWins2 g1 g2 g3 who1 x) := by
  rcases x with i1
  all_goals
    unfold gameroomref_HexWins_L1
    try dsimp only
    repeat' (first | with_reducible exact Le.refl _ | with_reducible exact h_rec_gameroomref_HexWins _ _ _ _ | with_reducible exact gameroomref_HexWins_J3_le_gameroomref_HexWins h_rec_gameroomref_HexWins _ _ _ _ _ | with_reducible refine Le.asrt ?_ | with_reducible refine Le.ite ?_ ?_ | refine Le.bind ?_ (fun _ => ?_) | refine Le.loop2 (fun _ => ?_) | refine Le.elim2 (fun _ => ?_) (fun _ => ?_))

set_option maxRecDepth 100000 in
theorem gameroomref_HexWins_J1_le_gameroomref_HexWins {rec_gameroomref_HexWins1 rec_gameroomref_HexWins2 : Int → Int → List Int → Int → Option Int} (h_rec_gameroomref_HexWins : ∀ a0 a1 a2 a3, Le (rec_gameroomref_HexWins1 a0 a1 a2 a3) (rec_gameroomref_HexWins2 a0 a1 a2 a3)) (g1 : Int) (g2 : Int) (g3 : List Int) (who1 : Int) : Le (gameroomref_HexWins_J1 rec_gameroomref_HexWins1 g1 g2 g3 who1) (gameroomref_HexWins_J1 rec_gameroomref_HexWins2 g1 g2 g3 who1) := by
  unfold gameroomref_HexWins_J1
  repeat' (first | with_reducible exact Le.refl _ | with_reducible exact h_rec_gameroomref_HexWins _ _ _ _ | with_reducible exact gameroomref_HexWins_L1_le_gameroomref_HexWins h_rec_gameroomref_HexWins _ _ _ _ _ | with_reducible refine Le.asrt ?_ | with_reducible refine Le.ite ?_ ?_ | refine Le.bind ?_ (fun _ => ?_) | refine Le.loop2 (fun _ => ?_) | refine Le.elim2 (fun _ => ?_) (fun _ => ?_))

set_option maxRecDepth 100000 in
theorem gameroomref_HexWins_B_le {rec_gameroomref_HexWins1 rec_gameroomref_HexWins2 : Int → Int → List Int → Int → Option Int} (h_rec_gameroomref_HexWins : ∀ a0 a1 a2 a3, Le (rec_gameroomref_HexWins1 a0 a1 a2 a3) (rec_gameroomref_HexWins2 a0 a1 a2 a3)) (g1 : Int) (g2 : Int) (g3 : List Int) (who1 : Int) : Le (gameroomref_HexWins_B rec_gameroomref_HexWins1 g1 g2 g3 who1) (gameroomref_HexWins_B rec_gameroomref_HexWins2 g1 g2 g3 who1) := by
  unfold gameroomref_HexWins_B
  repeat' (first | with_reducible exact Le.refl _ | with_reducible exact h_rec_gameroomref_HexWins _ _ _ _ | with_reducible exact gameroomref_HexWins_J1_le_gameroomref_HexWins h_rec_gameroomref_HexWins _ _ _ _ | with_reducible refine Le.asrt ?_ | with_reducible refine Le.ite ?_ ?_ | refine Le.bind ?_ (fun _ => ?_) | refine Le.loop2 (fun _ => ?_) | refine Le.elim2 (fun _ => ?_) (fun _ => ?_))

set_option maxRecDepth 100000 in
theorem gameroomref_HexWins_mF_le : ∀ (n : Nat) (g1 : Int) (g2 : Int) (g3 : List Int) (who1 : Int), Le (gameroomref_HexWins_mF n g1 g2 g3 who1) (gameroomref_HexWins_mF (n + 1) g1 g2 g3 who1)
  | 0, _, _, _, _ => fun _ h => by cases h
  | n + 1, _, _, _, _ => gameroomref_HexWins_B_le (fun a0 a1 a2 a3 => gameroomref_HexWins_mF_le n a0 a1 a2 a3) _ _ _ _

set_option maxRecDepth 100000 in
theorem gameroomref_HexWins_m_of (N : Nat) (g1 : Int) (g2 : Int) (g3 : List Int) (who1 : Int) {r : Int} (h : gameroomref_HexWins_mF N g1 g2 g3 who1 = some r) : gameroomref_HexWins_m g1 g2 g3 who1 = some r :=
  recM_mono (fun n => gameroomref_HexWins_mF_le n _ _ _ _) h

noncomputable def gameroomref_HexSolve_J4  (i1 : Int) (l3 : List Int) : Option (St (List Int × Int) (List Int)) :=
  some (.next (l3, (w64 (i1 + 1))))

noncomputable def gameroomref_HexSolve_J5  (g1 : Int) (g2 : Int) (g3 : List Int) (who1 : Int) (l1 : List Int) (i1 : Int) : Option (St (List Int × Int) (List Int)) :=
  (gameroomref_GridOf_m g1 g2 g3).bind fun r2 => asrt (0 ≤ i1 ∧ i1 < (r2.2.2.length : Int)) <| (gameroomref_HexWins_m r2.1 r2.2.1 (r2.2.2.set (Int.toNat i1) who1) (w64 (3 - who1))).bind fun r3 => if (r3 == who1) then (asrt ((l1.length : Int) + 1 ≤ bigN) <| (gameroomref_HexSolve_J4 i1) (l1 ++ ([i1] : List Int))) else ((gameroomref_HexSolve_J4 i1) l1)

noncomputable def gameroomref_HexSolve_J3  (g1 : Int) (g2 : Int) (g3 : List Int) (who1 : Int) (l1 : List Int) (i1 : Int) : Option (St (List Int × Int) (List Int)) :=
  asrt (0 ≤ i1 ∧ i1 < (g3.length : Int)) <| if ((geti g3 i1) != 0) then ((gameroomref_HexSolve_J4 i1) l1) else ((gameroomref_HexSolve_J5 g1 g2 g3 who1 l1 i1))

noncomputable def gameroomref_HexSolve_J6  (who1 : Int) : Option (Int × List Int) :=
  some ((w64 (3 - who1)), ([] : List Int))

noncomputable def gameroomref_HexSolve_J2  (who1 : Int) (l2 : List Int) : Option (Int × List Int) :=
  if (decide ((0 : Int) < (l2.length : Int))) then (some (who1, l2)) else ((gameroomref_HexSolve_J6 who1))

noncomputable def gameroomref_HexSolve_K1  (who1 : Int) : (List Int) → Option (Int × List Int) :=
  fun (x : (List Int)) => match x with | l2 => (gameroomref_HexSolve_J2 who1) l2

noncomputable def gameroomref_HexSolve_L1  (g1 : Int) (g2 : Int) (g3 : List Int) (who1 : Int) : (List Int × Int) → Option (St (List Int × Int) (List Int)) :=
  fun (x : (List Int × Int)) => match x with | (l1, i1) => if (decide (i1 < (g3.length : Int))) then ((gameroomref_HexSolve_J3 g1 g2 g3 who1 l1 i1)) else (some (.done l1))

noncomputable def gameroomref_HexSolve_J1  (g1 : Int) (g2 : Int) (g3 : List Int) (who1 : Int) : Option (Int × List Int) :=
  (loop (gameroomref_HexSolve_L1 g1 g2 g3 who1) (([] : List Int), 0)).bind (gameroomref_HexSolve_K1 who1)

noncomputable def gameroomref_HexSolve_m  (g1 : Int) (g2 : Int) (g3 : List Int) (who1 : Int) : Option (Int × List Int) :=
  (gameroomref_HexJoined_m g1 g2 g3).bind fun r1 => if (decide ((0 : Int) < r1.1)) then (some (r1.1, ([] : List Int))) else ((gameroomref_HexSolve_J1 g1 g2 g3 who1))

set_option maxRecDepth 100000 in
set_option maxHeartbeats 4000000 in
theorem gameroomref_HexSolve_w {g1 : Int} {g2 : Int} {A1 : Option Addr} {c1 : Nat} {n1 : Nat} {g3 : List Int} {who1 : Int} {r : (Int × List Int)} {w0 w : World} {B : Nat} {fs : List HP} (hm : gameroomref_HexSolve_m g1 g2 g3 who1 = some r) (hS : Sep w0 B w (fs)) (hr_g3 : RdF w0 B fs A1 (vI g3)) (_hc_g3 : g3.length ≤ c1) (_hn_g3 : n1 = g3.length) :
    Calls Try.prog 45 #[.agg #[.int .i64 g1, .int .i64 g2, .slice A1 n1 c1], .int .i64 who1] w fun e w' => ∃ v, e = .returned v ∧ ∃ (A8 : Option Addr) (c8 : Nat), v = .tuple #[.int .i64 r.1, .slice A8 r.2.length c8] ∧ Sep w0 B w' (own 3 (.slice A8 r.2.length c8) (vI r.2) :: fs) := by
  obtain ⟨i3, hi3, hz3, hs3, hb3⟩ := info_parts Info3
  obtain rfl := _hn_g3
  unfold gameroomref_HexSolve_m at hm
  replace hm := start_b hm
  refine enter (l := [.agg #[.int .i64 g1, .int .i64 g2, .slice A1 g3.length c1], .int .i64 who1]) (n := 56) Try.func45 rfl rfl (by simp) (fun a hF => ?_)
  refine seqR ?_
  refine at_do (d := 2) (s := vS (Instr.box 64 (.agg #[.int .i64 g1, .int .i64 g2, .slice A1 g3.length c1]))) (v := .pointer (some ⟨w.heap.size, 0, none⟩)) (w' := w.alloc (.cells #[.int .i64 g1, .int .i64 g2, .slice A1 g3.length c1] 64)) hF (by kernel_rfl) (by kernel_rfl) (by kernel_rfl) (fun a hF => ?_)
  have hS : Sep w0 B (w.alloc (.cells #[.int .i64 g1, .int .i64 g2, .slice A1 g3.length c1] 64)) (blk w.heap.size 64 #[.int .i64 g1, .int .i64 g2, .slice A1 g3.length c1] :: (fs)) := hS.box 64 #[.int .i64 g1, .int .i64 g2, .slice A1 g3.length c1]
  generalize w.heap.size = g4 at hF hS
  generalize w.alloc (.cells #[.int .i64 g1, .int .i64 g2, .slice A1 g3.length c1] 64) = w at hS ⊢
  refine at_run 2 [] [] [1, 2] [pl 1 (.int .i64 who1), pl 2 (.pointer (some ⟨g4, 0, none⟩))] hF hS (by kernel_rfl) (by kernel_rfl) ?_ (fun a w hF hS => ?_)
  · exact obs_nil
  refine at_end [1, 2] [pl 1 (.int .i64 who1), pl 2 (.pointer (some ⟨g4, 0, none⟩))] hF rfl (by kernel_rfl) (fun hF => ?_)
  refine then_n ?_
  refine seqR ?_
  obtain ⟨r1, hr1, hm⟩ := call_b hm
  refine at_run 1 [⟨false, [], vS (Instr.loadAt 64 (.pointer (some ⟨g4, 0, none⟩))), .agg #[.int .i64 g1, .int .i64 g2, .slice A1 g3.length c1]⟩] [some (.agg #[.int .i64 g1, .int .i64 g2, .slice A1 g3.length c1])] [1, 2, 12] [pl 1 (.int .i64 who1), pl 2 (.pointer (some ⟨g4, 0, none⟩)), pl 12 (.agg #[.int .i64 g1, .int .i64 g2, .slice A1 g3.length c1])] hF hS (by kernel_rfl) (by kernel_rfl) ?_ (fun a w hF hS => ?_)
  · exact obs_cons (ob_loadA (cs := #[.int .i64 g1, .int .i64 g2, .slice A1 g3.length c1]) (by kernel_rfl) (by kernel_rfl) (fun _ _ hS => (hS.at_ 0 rfl).cellsAt 0 (by rfl))) <| obs_nil
  refine at_call (f := 125) (args := #[.agg #[.int .i64 g1, .int .i64 g2, .slice A1 g3.length c1]]) (d := 13) hF (by kernel_rfl) (by kernel_rfl) Try.func125 (by kernel_rfl) rfl (gameroomref_HexJoined_w hr1 hS (fun _ hS => (hr_g3 _ (hS.dropN 1))) _hc_g3 rfl) (fun v a w hR hF => ?_)
  clear hS
  obtain ⟨A2, c2, rfl, hS⟩ := hR
  have hS : Sep w0 B w (own 3 (.slice A2 r1.2.length c2) (vI r1.2) :: blk g4 64 #[.int .i64 g1, .int .i64 g2, .slice A1 g3.length c1] :: fs) := hS
  refine at_run 5 [] [] [1, 2, 6] [pl 1 (.int .i64 who1), pl 2 (.pointer (some ⟨g4, 0, none⟩)), pl 6 (.int .i64 r1.1)] hF hS (by kernel_rfl) (by kernel_rfl) ?_ (fun a w hF hS => ?_)
  · exact obs_nil
  refine at_end [1, 2, 6] [pl 1 (.int .i64 who1), pl 2 (.pointer (some ⟨g4, 0, none⟩)), pl 6 (.int .i64 r1.1)] hF rfl (by kernel_rfl) (fun hF => ?_)
  refine then_n ?_
  refine seq_cut (fun a w => Fr 56 [pl 1 (.int .i64 who1), pl 2 (.pointer (some ⟨g4, 0, none⟩))] a ∧ Sep w0 B w (blk g4 64 #[.int .i64 g1, .int .i64 g2, .slice A1 g3.length c1] :: fs) ∧ ((gameroomref_HexSolve_J1 g1 g2 g3 who1)).bind some = some r) ?_ ?_
  · rintro a w ⟨hF, hS, hm⟩
    unfold gameroomref_HexSolve_J1 at hm
    refine reg [] [] [1, 2, 8] [pl 1 (.int .i64 who1), pl 2 (.pointer (some ⟨g4, 0, none⟩)), pl 8 (.slice none 0 0)] hF hS Fol (by kernel_rfl) (by kernel_rfl) (by kernel_rfl) ?_ (fun a w hF hS => ?_)
    · exact obs_nil
    refine seq_cut (fun a w => ∃ (l2 : List Int) (A4 : Option Addr) (c4 : Nat), Fr 56 [pl 1 (.int .i64 who1), pl 8 (.slice A4 l2.length c4)] a ∧ Sep w0 B w (own 3 (.slice A4 l2.length c4) (vI l2) :: fs) ∧ ((gameroomref_HexSolve_J2 who1) l2).bind some = some r) ?_ ?_
    · rintro a w ⟨l2, A4, c4, hF, hS, hm⟩
      unfold gameroomref_HexSolve_J2 at hm
      refine seq_cut (fun a w => Fr 56 [pl 1 (.int .i64 who1)] a ∧ Sep w0 B w (fs) ∧ ((gameroomref_HexSolve_J6 who1)).bind some = some r) ?_ ?_
      · rintro a w ⟨hF, hS, hm⟩
        unfold gameroomref_HexSolve_J6 at hm
        refine reg [] [] [4, 5] [pl 4 (.int .i64 (w64 (3 - who1))), pl 5 (.slice none 0 0)] hF hS Fol (by kernel_rfl) (by kernel_rfl) (by kernel_rfl) ?_ (fun a w hF hS => ?_)
        · exact obs_nil
        refine wpIn_ret ?_
        have hS : Sep w0 B w (own 3 (.slice none 0 0) (vI ([] : List Int)) :: fs) := hS.nil 3
        have hl3 := (hS.at_ 0 rfl).len1
        have hS := (hS.at_ 0 rfl).reN hl3
        have hS : Sep w0 B w (own 3 (.slice none (([] : List Int).length) 0) (vI ([] : List Int)) :: fs) := hS
        have hm : some ((w64 (3 - who1)), ([] : List Int)) = some r := hm
        obtain rfl := Option.some.inj hm
        exact retV (rs := [.tmp 4, .tmp 5]) (vs := [.int .i64 (w64 (3 - who1)), .slice none (([] : List Int).length) 0]) hF rfl (rv_t (by kernel_rfl) <| rv_t (by kernel_rfl) <| rv_nil) rfl ⟨_, rfl, none, 0, rfl, hS⟩
      · refine reg [] [] [1, 8, 51] [pl 1 (.int .i64 who1), pl 8 (.slice A4 l2.length c4), pl 51 (.bool (decide ((0 : Int) < (l2.length : Int))))] hF hS Fol (by kernel_rfl) (by kernel_rfl) (by kernel_rfl) ?_ (fun a w hF hS => ?_)
        · exact obs_nil
        refine cond_ev (t := 51) (b := decide ((0 : Int) < (l2.length : Int))) hF (by kernel_rfl) (fun hb => ?_) (fun hb => ?_)
        · replace hm := if_t hm hb
          refine reg [] [] [4, 5] [pl 4 (.int .i64 who1), pl 5 (.slice A4 l2.length c4)] hF hS Fol (by kernel_rfl) (by kernel_rfl) (by kernel_rfl) ?_ (fun a w hF hS => ?_)
          · exact obs_nil
          refine wpIn_ret ?_
          refine then_r ?_
          have hm : some (who1, l2) = some r := hm
          obtain rfl := Option.some.inj hm
          exact retV (rs := [.tmp 4, .tmp 5]) (vs := [.int .i64 who1, .slice A4 l2.length c4]) hF rfl (rv_t (by kernel_rfl) <| rv_t (by kernel_rfl) <| rv_nil) rfl ⟨_, rfl, A4, c4, rfl, hS⟩
        · replace hm := if_f hm hb
          refine wpIn_skip ?_
          refine then_n ?_
          have hS := hS.pickN 1 [] (by decide)
          exact ⟨hF.weak [1] (by kernel_rfl), hS, hm⟩
    · refine reg [] [] [1, 2, 8, 9] [pl 1 (.int .i64 who1), pl 2 (.pointer (some ⟨g4, 0, none⟩)), pl 8 (.slice none 0 0), pl 9 (.int .i64 0)] hF hS Fol (by kernel_rfl) (by kernel_rfl) (by kernel_rfl) ?_ (fun a w hF hS => ?_)
      · exact obs_nil
      refine wpIn_block ?_
      have hS : Sep w0 B w (own 3 (.slice none 0 0) (vI ([] : List Int)) :: blk g4 64 #[.int .i64 g1, .int .i64 g2, .slice A1 g3.length c1] :: fs) := hS.nil 3
      have hl2 := (hS.at_ 0 rfl).len1
      have hS := (hS.at_ 0 rfl).reN hl2
      have hS : Sep w0 B w (own 3 (.slice none (([] : List Int).length) 0) (vI ([] : List Int)) :: blk g4 64 #[.int .i64 g1, .int .i64 g2, .slice A1 g3.length c1] :: fs) := hS
      have hF := hF.cast (t := 8) (v := .slice none 0 0) (v' := .slice none (([] : List Int).length) 0) rfl rfl (congrArg (fun k => Value.slice none k 0) hl2)
      have hS := hS.pickN 2 [1, 0] (by decide)
      refine wp_loop_model (S := (List Int × Int)) (R := (List Int)) (gameroomref_HexSolve_L1 g1 g2 g3 who1) (fun x => ((gameroomref_HexSolve_K1 who1) x).bind some) r (fun (x : (List Int × Int)) a w => ∃ (A3 : Option Addr) (c3 : Nat), Fr 56 [pl 1 (.int .i64 who1), pl 2 (.pointer (some ⟨g4, 0, none⟩)), pl 8 (.slice A3 x.1.length c3), pl 9 (.int .i64 x.2)] a ∧ Sep w0 B w (blk g4 64 #[.int .i64 g1, .int .i64 g2, .slice A1 g3.length c1] :: own 3 (.slice A3 x.1.length c3) (vI x.1) :: fs)) (assoc_b hm) ⟨none, 0, hF.weak [1, 2, 8, 9] (by kernel_rfl), hS⟩ ?_
      clear hF hS hm
      rintro nn1 ⟨l1, i1⟩ a w ⟨A3, c3, hF, hS⟩ hm
      generalize hφ1 : stK (gameroomref_HexSolve_L1 g1 g2 g3 who1) nn1 (fun x => ((gameroomref_HexSolve_K1 who1) x).bind some) = φ1 at hm
      unfold gameroomref_HexSolve_L1 at hm
      dsimp only at hF hS hm
      refine seq_cut (fun a w => Fr 56 [pl 1 (.int .i64 who1), pl 2 (.pointer (some ⟨g4, 0, none⟩)), pl 8 (.slice A3 l1.length c3), pl 9 (.int .i64 i1)] a ∧ Sep w0 B w (blk g4 64 #[.int .i64 g1, .int .i64 g2, .slice A1 g3.length c1] :: own 3 (.slice A3 l1.length c3) (vI l1) :: fs) ∧ ((gameroomref_HexSolve_J3 g1 g2 g3 who1 l1 i1)).bind φ1 = some r) ?_ ?_
      · rintro a w ⟨hF, hS, hm⟩
        unfold gameroomref_HexSolve_J3 at hm
        refine seq_cut (fun a w => ∃ (l3 : List Int) (A5 : Option Addr) (c5 : Nat), Fr 56 [pl 1 (.int .i64 who1), pl 2 (.pointer (some ⟨g4, 0, none⟩)), pl 8 (.slice A5 l3.length c5), pl 9 (.int .i64 i1)] a ∧ Sep w0 B w (blk g4 64 #[.int .i64 g1, .int .i64 g2, .slice A1 g3.length c1] :: own 3 (.slice A5 l3.length c5) (vI l3) :: fs) ∧ ((gameroomref_HexSolve_J4 i1) l3).bind φ1 = some r) ?_ ?_
        · rintro a w ⟨l3, A5, c5, hF, hS, hm⟩
          unfold gameroomref_HexSolve_J4 at hm
          refine reg1 [] [] [1, 2, 8, 9] [pl 1 (.int .i64 who1), pl 2 (.pointer (some ⟨g4, 0, none⟩)), pl 8 (.slice A5 l3.length c5), pl 9 (.int .i64 (w64 (i1 + 1)))] hF hS Fol (by kernel_rfl) (by kernel_rfl) (by kernel_rfl) ?_ (fun a w hF hS => ?_)
          · exact obs_nil
          refine then_n ?_
          rw [← hφ1] at hm
          exact ⟨(l3, (w64 (i1 + 1))), ⟨A5, c5, hF.weak [1, 2, 8, 9] (by kernel_rfl), hS⟩, hm⟩
        · refine wpIn_block ?_
          refine seq_cut (fun a w => Fr 56 [pl 1 (.int .i64 who1), pl 2 (.pointer (some ⟨g4, 0, none⟩)), pl 8 (.slice A3 l1.length c3), pl 9 (.int .i64 i1)] a ∧ Sep w0 B w (blk g4 64 #[.int .i64 g1, .int .i64 g2, .slice A1 g3.length c1] :: own 3 (.slice A3 l1.length c3) (vI l1) :: fs) ∧ ((gameroomref_HexSolve_J5 g1 g2 g3 who1 l1 i1)).bind φ1 = some r) ?_ ?_
          · rintro a w ⟨hF, hS, hm⟩
            unfold gameroomref_HexSolve_J5 at hm
            refine seqR ?_
            obtain ⟨r2, hr2, hm⟩ := call_b hm
            refine at_run 1 [⟨false, [], vS (Instr.loadAt 64 (.pointer (some ⟨g4, 0, none⟩))), .agg #[.int .i64 g1, .int .i64 g2, .slice A1 g3.length c1]⟩] [some (.agg #[.int .i64 g1, .int .i64 g2, .slice A1 g3.length c1])] [1, 2, 8, 9, 32] [pl 1 (.int .i64 who1), pl 2 (.pointer (some ⟨g4, 0, none⟩)), pl 8 (.slice A3 l1.length c3), pl 9 (.int .i64 i1), pl 32 (.agg #[.int .i64 g1, .int .i64 g2, .slice A1 g3.length c1])] hF hS (by kernel_rfl) (by kernel_rfl) ?_ (fun a w hF hS => ?_)
            · exact obs_cons (ob_loadA (cs := #[.int .i64 g1, .int .i64 g2, .slice A1 g3.length c1]) (by kernel_rfl) (by kernel_rfl) (fun _ _ hS => (hS.at_ 0 rfl).cellsAt 0 (by rfl))) <| obs_nil
            refine at_call (f := 40) (args := #[.agg #[.int .i64 g1, .int .i64 g2, .slice A1 g3.length c1]]) (d := 33) hF (by kernel_rfl) (by kernel_rfl) Try.func40 (by kernel_rfl) rfl (gameroomref_GridOf_w hr2 hS (fun _ hS => (hr_g3 _ (hS.dropN 2))) _hc_g3 rfl) (fun v a w hR hF => ?_)
            clear hS
            obtain ⟨A6, c6, rfl, hS⟩ := hR
            have hS : Sep w0 B w (own 3 (.slice A6 r2.2.2.length c6) (vI r2.2.2) :: blk g4 64 #[.int .i64 g1, .int .i64 g2, .slice A1 g3.length c1] :: own 3 (.slice A3 l1.length c3) (vI l1) :: fs) := hS
            refine at_do (d := 10) (s := vS (Instr.alloc 64 true (.tuple #[]))) (v := .pointer (some ⟨w.heap.size, 0, none⟩)) (w' := w.alloc (.cells #[.int .i64 0, .int .i64 0, .slice none 0 0] 64)) hF (by kernel_rfl) (by kernel_rfl) (by kernel_rfl) (fun a hF => ?_)
            have hS : Sep w0 B (w.alloc (.cells #[.int .i64 0, .int .i64 0, .slice none 0 0] 64)) (blk w.heap.size 64 #[.int .i64 0, .int .i64 0, .slice none 0 0] :: (own 3 (.slice A6 r2.2.2.length c6) (vI r2.2.2) :: blk g4 64 #[.int .i64 g1, .int .i64 g2, .slice A1 g3.length c1] :: own 3 (.slice A3 l1.length c3) (vI l1) :: fs)) := hS.box 64 #[.int .i64 0, .int .i64 0, .slice none 0 0]
            generalize w.heap.size = g5 at hF hS
            generalize w.alloc (.cells #[.int .i64 0, .int .i64 0, .slice none 0 0] 64) = w at hS ⊢
            obtain ⟨w, hrun, hS⟩ := run_putA (P := Try.prog) (t := 64) (us := #[.int .i64 r2.1, .int .i64 r2.2.1, .slice A6 r2.2.2.length c6]) (o := 0) (hS.at_ 0 rfl) (by kernel_rfl) (all_one (by kernel_rfl)) (Nat.le_of_ble_eq_true (by kernel_rfl))
            refine at_skip hF (by kernel_rfl) hrun ?_
            have hS : Sep w0 B w (blk g5 64 #[.int .i64 r2.1, .int .i64 r2.2.1, .slice A6 r2.2.2.length c6] :: own 3 (.slice A6 r2.2.2.length c6) (vI r2.2.2) :: blk g4 64 #[.int .i64 g1, .int .i64 g2, .slice A1 g3.length c1] :: own 3 (.slice A3 l1.length c3) (vI l1) :: fs) := hS
            refine at_end [1, 2, 8, 9, 10] [pl 1 (.int .i64 who1), pl 2 (.pointer (some ⟨g4, 0, none⟩)), pl 8 (.slice A3 l1.length c3), pl 9 (.int .i64 i1), pl 10 (.pointer (some ⟨g5, 0, none⟩))] hF rfl (by kernel_rfl) (fun hF => ?_)
            refine then_n ?_
            refine seqR ?_
            obtain ⟨hp2, hm⟩ := asrt_b hm
            refine at_run 5 [⟨false, [], vS (Instr.loadAt 27 (.pointer (some ⟨g5, 2, none⟩))), .slice A6 r2.2.2.length c6⟩, ⟨true, [], vS (Instr.indexAt 27 (.slice A6 r2.2.2.length c6) (.int .i64 i1)), .pointer (some (sAddr A6 i1))⟩] [none, some (.slice A6 r2.2.2.length c6), none, none, some (.pointer (some (sAddr A6 i1)))] [1, 2, 8, 9, 10, 37, 38] [pl 1 (.int .i64 who1), pl 2 (.pointer (some ⟨g4, 0, none⟩)), pl 8 (.slice A3 l1.length c3), pl 9 (.int .i64 i1), pl 10 (.pointer (some ⟨g5, 0, none⟩)), pl 37 (.int .i64 who1), pl 38 (.pointer (some (sAddr A6 i1)))] hF hS (by kernel_rfl) (by kernel_rfl) ?_ (fun a w hF hS => ?_)
            · exact obs_cons (ob_load Agg27 (fun _ _ hS => (hS.at_ 0 rfl).cell rfl)) <| obs_cons (ob_ix1 (f := (Value.int .i64)) (m := r2.2.2) Und27 hi3 hs3 (hS.at_ 1 rfl).rd rfl (fun _ => hp2)) <| obs_nil
            obtain ⟨w, hrun, hS⟩ := run_set1 (P := Try.prog) (t := 3) (x := who1) (Value.int .i64) (hS.at_ 1 rfl) hi3 hs3 rfl rfl hp2
            refine at_skip hF (by kernel_rfl) hrun ?_
            have hS : Sep w0 B w (blk g5 64 #[.int .i64 r2.1, .int .i64 r2.2.1, .slice A6 r2.2.2.length c6] :: own 3 (.slice A6 r2.2.2.length c6) (vI (r2.2.2.set (Int.toNat i1) who1)) :: blk g4 64 #[.int .i64 g1, .int .i64 g2, .slice A1 g3.length c1] :: own 3 (.slice A3 l1.length c3) (vI l1) :: fs) := hS
            refine at_end [1, 2, 8, 9, 10] [pl 1 (.int .i64 who1), pl 2 (.pointer (some ⟨g4, 0, none⟩)), pl 8 (.slice A3 l1.length c3), pl 9 (.int .i64 i1), pl 10 (.pointer (some ⟨g5, 0, none⟩))] hF rfl (by kernel_rfl) (fun hF => ?_)
            refine then_n ?_
            obtain ⟨r3, hr3, hm⟩ := call_b hm
            refine reg [⟨false, [], vS (Instr.loadAt 64 (.pointer (some ⟨g5, 0, none⟩))), .agg #[.int .i64 r2.1, .int .i64 r2.2.1, .slice A6 r2.2.2.length c6]⟩, ⟨false, [], callFunc 126 #[.agg #[.int .i64 r2.1, .int .i64 r2.2.1, .slice A6 r2.2.2.length c6], .int .i64 (w64 (3 - who1))], .int .i64 r3⟩] [some (.agg #[.int .i64 r2.1, .int .i64 r2.2.1, .slice A6 r2.2.2.length c6]), none, none, some (.int .i64 r3), none, none] [1, 2, 8, 9, 44] [pl 1 (.int .i64 who1), pl 2 (.pointer (some ⟨g4, 0, none⟩)), pl 8 (.slice A3 l1.length c3), pl 9 (.int .i64 i1), pl 44 (.bool (r3 == who1))] hF hS Fol (by kernel_rfl) (by kernel_rfl) (by kernel_rfl) ?_ (fun a w hF hS => ?_)
            · exact obs_cons (ob_loadA (cs := #[.int .i64 r2.1, .int .i64 r2.2.1, .slice A6 r2.2.2.length c6]) (by kernel_rfl) (by kernel_rfl) (fun _ _ hS => (hS.at_ 0 rfl).cellsAt 0 (by rfl))) <| obs_cons (ob_call Try.func126 (by kernel_rfl) rfl (fun _ _ hS => gameroomref_HexWins_w hr3 hS (fun _ hS => (hS.at_ 1 rfl).rd) ((hS.at_ 1 rfl).cap1) ((hS.at_ 1 rfl).len1))) <| obs_nil
            refine cond_ev (t := 44) (b := (r3 == who1)) hF (by kernel_rfl) (fun hb => ?_) (fun hb => ?_)
            · replace hm := if_t hm hb
              refine oneR ?_
              obtain ⟨hp3, hm⟩ := asrt_b hm
              refine at_run 2 [] [] [1, 2, 9, 45, 46] [pl 1 (.int .i64 who1), pl 2 (.pointer (some ⟨g4, 0, none⟩)), pl 9 (.int .i64 i1), pl 45 (.slice A3 l1.length c3), pl 46 (.int .i64 i1)] hF hS (by kernel_rfl) (by kernel_rfl) ?_ (fun a w hF hS => ?_)
              · exact obs_nil
              refine at_do (d := 47) (s := vS (Instr.buildSlice 27 1 #[(0, .int .i64 i1)])) (v := .slice (some ⟨w.heap.size, 0, none⟩) 1 1) (w' := w.alloc (.cells #[.int .i64 i1] 3)) hF (by kernel_rfl) (by kernel_rfl) (by kernel_rfl) (fun a hF => ?_)
              have hS : Sep w0 B (w.alloc (.cells #[.int .i64 i1] 3)) (own 3 (.slice (some (⟨w.heap.size, 0, none⟩ : Addr)) 1 1) (vI ([i1] : List Int)) :: (blk g5 64 #[.int .i64 r2.1, .int .i64 r2.2.1, .slice A6 r2.2.2.length c6] :: own 3 (.slice A6 r2.2.2.length c6) (vI (r2.2.2.set (Int.toNat i1) who1)) :: blk g4 64 #[.int .i64 g1, .int .i64 g2, .slice A1 g3.length c1] :: own 3 (.slice A3 l1.length c3) (vI l1) :: fs)) := hS.lit 3 #[.int .i64 i1] 1 rfl (by omega)
              generalize (some (⟨w.heap.size, 0, none⟩ : Addr)) = g6 at hF hS
              generalize w.alloc (.cells #[.int .i64 i1] 3) = w at hS ⊢
              obtain ⟨A7, c7, w, hrun, hS⟩ := run_app1 (P := Try.prog) (t := 27) (m := l1) (ys := ([i1] : List Int)) (A2 := g6) (m2 := 1) (c2 := 1) (Value.int .i64) (0 : Int) (hS.at_ 4 rfl) (hS.at_ 0 rfl).rd ((hS.at_ 0 rfl).len1) 27 Und27 hi3 hz3 hs3 (by omega) rfl (fun _ => rfl) hp3
              have hS : Sep w0 B w (own 3 (.slice g6 1 1) (vI ([i1] : List Int)) :: blk g5 64 #[.int .i64 r2.1, .int .i64 r2.2.1, .slice A6 r2.2.2.length c6] :: own 3 (.slice A6 r2.2.2.length c6) (vI (r2.2.2.set (Int.toNat i1) who1)) :: blk g4 64 #[.int .i64 g1, .int .i64 g2, .slice A1 g3.length c1] :: own 3 (.slice A7 ((l1 ++ ([i1] : List Int)).length) c7) (vI (l1 ++ ([i1] : List Int))) :: fs) := hS
              refine at_do (d := 48) hF (by kernel_rfl) (by kernel_rfl) hrun (fun a hF => ?_)
              refine at_run 1 [] [] [1, 2, 8, 9] [pl 1 (.int .i64 who1), pl 2 (.pointer (some ⟨g4, 0, none⟩)), pl 8 (.slice A7 ((l1 ++ ([i1] : List Int)).length) c7), pl 9 (.int .i64 i1)] hF hS (by kernel_rfl) (by kernel_rfl) ?_ (fun a w hF hS => ?_)
              · exact obs_nil
              refine at_end [1, 2, 8, 9] [pl 1 (.int .i64 who1), pl 2 (.pointer (some ⟨g4, 0, none⟩)), pl 8 (.slice A7 ((l1 ++ ([i1] : List Int)).length) c7), pl 9 (.int .i64 i1)] hF rfl (by kernel_rfl) (fun hF => ?_)
              refine block_n ?_
              refine then_n ?_
              have hS := hS.pickN 5 [3, 4] (by decide)
              exact ⟨(l1 ++ ([i1] : List Int)), A7, c7, hF.weak [1, 2, 8, 9] (by kernel_rfl), hS, hm⟩
            · replace hm := if_f hm hb
              refine wpIn_skip ?_
              refine block_n ?_
              refine then_n ?_
              have hS := hS.pickN 4 [2, 3] (by decide)
              exact ⟨l1, A3, c3, hF.weak [1, 2, 8, 9] (by kernel_rfl), hS, hm⟩
          · obtain ⟨hp1, hm⟩ := asrt_b hm
            refine reg [⟨false, [], vS (Instr.loadAt 27 (.pointer (some ⟨g4, 2, none⟩))), .slice A1 g3.length c1⟩, ⟨true, [], vS (Instr.indexAt 27 (.slice A1 g3.length c1) (.int .i64 i1)), .pointer (some (sAddr A1 i1))⟩, ⟨false, [], vS (Instr.loadAt 3 (.pointer (some (sAddr A1 i1)))), .int .i64 (geti g3 i1)⟩] [none, some (.slice A1 g3.length c1), none, some (.pointer (some (sAddr A1 i1))), some (.int .i64 (geti g3 i1)), none] [1, 2, 8, 9, 31] [pl 1 (.int .i64 who1), pl 2 (.pointer (some ⟨g4, 0, none⟩)), pl 8 (.slice A3 l1.length c3), pl 9 (.int .i64 i1), pl 31 (.bool ((geti g3 i1) != 0))] hF hS Fol (by kernel_rfl) (by kernel_rfl) (by kernel_rfl) ?_ (fun a w hF hS => ?_)
            · exact obs_cons (ob_load Agg27 (fun _ _ hS => (hS.at_ 0 rfl).cell rfl)) <| obs_cons (ob_ix1 (f := (Value.int .i64)) (m := g3) Und27 hi3 hs3 (hr_g3 _ (hS.dropN 2)) rfl (fun _ => hp1)) <| obs_cons (ob_get1 (n := g3.length) (m := g3) (Value.int .i64) (0 : Int) Agg3 (fun _ hS => ⟨_, (hr_g3 _ (hS.dropN 2))⟩) (fun _ hS => rfl) (fun _ => hp1)) <| obs_nil
            refine cond_ev (t := 31) (b := ((geti g3 i1) != 0)) hF (by kernel_rfl) (fun hb => ?_) (fun hb => ?_)
            · replace hm := if_t hm hb
              refine wpIn_exit ?_
              refine then_e (block_e (then_n ?_))
              exact ⟨l1, A3, c3, hF.weak [1, 2, 8, 9] (by kernel_rfl), hS, hm⟩
            · replace hm := if_f hm hb
              refine wpIn_skip ?_
              refine then_n ?_
              exact ⟨hF.weak [1, 2, 8, 9] (by kernel_rfl), hS, hm⟩
      · refine reg [⟨false, [], vS (Instr.loadAt 27 (.pointer (some ⟨g4, 2, none⟩))), .slice A1 g3.length c1⟩] [none, none, some (.slice A1 g3.length c1), none, none] [1, 2, 8, 9, 23] [pl 1 (.int .i64 who1), pl 2 (.pointer (some ⟨g4, 0, none⟩)), pl 8 (.slice A3 l1.length c3), pl 9 (.int .i64 i1), pl 23 (.bool (decide (i1 < (g3.length : Int))))] hF hS Fol (by kernel_rfl) (by kernel_rfl) (by kernel_rfl) ?_ (fun a w hF hS => ?_)
        · exact obs_cons (ob_load Agg27 (fun _ _ hS => (hS.at_ 0 rfl).cell rfl)) <| obs_nil
        refine cond_ev (t := 23) (b := decide (i1 < (g3.length : Int))) hF (by kernel_rfl) (fun hb => ?_) (fun hb => ?_)
        · replace hm := if_t hm hb
          refine wpIn_skip ?_
          refine then_n ?_
          exact ⟨hF.weak [1, 2, 8, 9] (by kernel_rfl), hS, hm⟩
        · replace hm := if_f hm hb
          refine wpIn_exit ?_
          refine then_e (then_e (block_e (then_n ?_)))
          have hS := hS.pickN 2 [1] (by decide)
          rw [← hφ1] at hm
          replace hm := done_b hm
          unfold gameroomref_HexSolve_K1 at hm
          try dsimp only at hm
          have hm : ((gameroomref_HexSolve_J2 who1) l1).bind some = some r := hm
          exact ⟨l1, A3, c3, hF.weak [1, 8] (by kernel_rfl), hS, hm⟩
  · refine reg [] [] [1, 2, 6, 17] [pl 1 (.int .i64 who1), pl 2 (.pointer (some ⟨g4, 0, none⟩)), pl 6 (.int .i64 r1.1), pl 17 (.bool (decide ((0 : Int) < r1.1)))] hF hS Fol (by kernel_rfl) (by kernel_rfl) (by kernel_rfl) ?_ (fun a w hF hS => ?_)
    · exact obs_nil
    refine cond_ev (t := 17) (b := decide ((0 : Int) < r1.1)) hF (by kernel_rfl) (fun hb => ?_) (fun hb => ?_)
    · replace hm := if_t hm hb
      refine reg [] [] [4, 5] [pl 4 (.int .i64 r1.1), pl 5 (.slice none 0 0)] hF hS Fol (by kernel_rfl) (by kernel_rfl) (by kernel_rfl) ?_ (fun a w hF hS => ?_)
      · exact obs_nil
      refine wpIn_ret ?_
      refine then_r ?_
      have hS : Sep w0 B w (own 3 (.slice none 0 0) (vI ([] : List Int)) :: own 3 (.slice A2 r1.2.length c2) (vI r1.2) :: blk g4 64 #[.int .i64 g1, .int .i64 g2, .slice A1 g3.length c1] :: fs) := hS.nil 3
      have hl1 := (hS.at_ 0 rfl).len1
      have hS := (hS.at_ 0 rfl).reN hl1
      have hS : Sep w0 B w (own 3 (.slice none (([] : List Int).length) 0) (vI ([] : List Int)) :: own 3 (.slice A2 r1.2.length c2) (vI r1.2) :: blk g4 64 #[.int .i64 g1, .int .i64 g2, .slice A1 g3.length c1] :: fs) := hS
      have hS := hS.pickN 3 [0] (by decide)
      have hm : some (r1.1, ([] : List Int)) = some r := hm
      obtain rfl := Option.some.inj hm
      exact retV (rs := [.tmp 4, .tmp 5]) (vs := [.int .i64 r1.1, .slice none (([] : List Int).length) 0]) hF rfl (rv_t (by kernel_rfl) <| rv_t (by kernel_rfl) <| rv_nil) rfl ⟨_, rfl, none, 0, rfl, hS⟩
    · replace hm := if_f hm hb
      refine wpIn_skip ?_
      refine then_n ?_
      have hS := hS.pickN 2 [1] (by decide)
      exact ⟨hF.weak [1, 2] (by kernel_rfl), hS, hm⟩

noncomputable def gameroomlaw_sameInts_J4  (i1 : Int) : Option (St Int (Fl Unit Bool)) :=
  some (.next (w64 (i1 + 1)))

noncomputable def gameroomlaw_sameInts_J3  (a1 : List Int) (b1 : List Int) (i1 : Int) : Option (St Int (Fl Unit Bool)) :=
  asrt (0 ≤ i1 ∧ i1 < (a1.length : Int)) <| asrt (0 ≤ i1 ∧ i1 < (b1.length : Int)) <| if ((geti a1 i1) != (geti b1 i1)) then (some (.done (.ret false))) else ((gameroomlaw_sameInts_J4 i1))

noncomputable def gameroomlaw_sameInts_J2  : Option Bool :=
  some true

noncomputable def gameroomlaw_sameInts_K1  : (Fl Unit Bool) → Option Bool :=
  fun (x : (Fl Unit Bool)) => match x with | .go _ => gameroomlaw_sameInts_J2 | .ret x => some x

noncomputable def gameroomlaw_sameInts_L1  (a1 : List Int) (b1 : List Int) : Int → Option (St Int (Fl Unit Bool)) :=
  fun (x : Int) => match x with | i1 => if (decide (i1 < (a1.length : Int))) then ((gameroomlaw_sameInts_J3 a1 b1 i1)) else (some (.done (.go ())))

noncomputable def gameroomlaw_sameInts_J1  (a1 : List Int) (b1 : List Int) : Option Bool :=
  (loop (gameroomlaw_sameInts_L1 a1 b1) 0).bind gameroomlaw_sameInts_K1

noncomputable def gameroomlaw_sameInts_m  (a1 : List Int) (b1 : List Int) : Option Bool :=
  if ((a1.length : Int) != (b1.length : Int)) then (some false) else ((gameroomlaw_sameInts_J1 a1 b1))

set_option maxRecDepth 100000 in
set_option maxHeartbeats 4000000 in
theorem gameroomlaw_sameInts_w {A1 : Option Addr} {c1 : Nat} {n1 : Nat} {a1 : List Int} {A2 : Option Addr} {c2 : Nat} {n2 : Nat} {b1 : List Int} {r : Bool} {w0 w : World} {B : Nat} {fs : List HP} (hm : gameroomlaw_sameInts_m a1 b1 = some r) (hS : Sep w0 B w (fs)) (hr_a1 : RdF w0 B fs A1 (vI a1)) (_hc_a1 : a1.length ≤ c1) (_hn_a1 : n1 = a1.length) (hr_b1 : RdF w0 B fs A2 (vI b1)) (_hc_b1 : b1.length ≤ c2) (_hn_b1 : n2 = b1.length) :
    Calls Try.prog 25 #[.slice A1 n1 c1, .slice A2 n2 c2] w fun e w' => e = .returned (.bool r) ∧ Sep w0 B w' (fs) := by
  obtain ⟨i3, hi3, hz3, hs3, hb3⟩ := info_parts Info3
  obtain rfl := _hn_a1
  obtain rfl := _hn_b1
  unfold gameroomlaw_sameInts_m at hm
  replace hm := start_b hm
  refine enter (l := [.slice A1 a1.length c1, .slice A2 b1.length c2]) (n := 26) Try.func25 rfl rfl (by simp) (fun a hF => ?_)
  refine reg [] [] [0, 1] [pl 0 (.slice A1 a1.length c1), pl 1 (.slice A2 b1.length c2)] hF hS Fol (by kernel_rfl) (by kernel_rfl) (by kernel_rfl) ?_ (fun a w hF hS => ?_)
  · exact obs_nil
  refine seq_cut (fun a w => Fr 26 [pl 0 (.slice A1 a1.length c1), pl 1 (.slice A2 b1.length c2)] a ∧ Sep w0 B w (fs) ∧ ((gameroomlaw_sameInts_J1 a1 b1)).bind some = some r) ?_ ?_
  · rintro a w ⟨hF, hS, hm⟩
    unfold gameroomlaw_sameInts_J1 at hm
    refine seq_cut (fun a w => Fr 26 [] a ∧ Sep w0 B w (fs) ∧ (gameroomlaw_sameInts_J2).bind some = some r) ?_ ?_
    · rintro a w ⟨hF, hS, hm⟩
      unfold gameroomlaw_sameInts_J2 at hm
      refine reg [] [] [4] [pl 4 (.bool true)] hF hS Fol (by kernel_rfl) (by kernel_rfl) (by kernel_rfl) ?_ (fun a w hF hS => ?_)
      · exact obs_nil
      refine wpIn_ret ?_
      have hm : some true = some r := hm
      obtain rfl := Option.some.inj hm
      exact retV (rs := [.tmp 4]) (vs := [.bool true]) hF rfl (rv_t (by kernel_rfl) <| rv_nil) rfl ⟨rfl, hS⟩
    · refine reg [] [] [0, 1, 5] [pl 0 (.slice A1 a1.length c1), pl 1 (.slice A2 b1.length c2), pl 5 (.int .i64 0)] hF hS Fol (by kernel_rfl) (by kernel_rfl) (by kernel_rfl) ?_ (fun a w hF hS => ?_)
      · exact obs_nil
      refine wpIn_block ?_
      refine wp_loop_model (S := Int) (R := (Fl Unit Bool)) (gameroomlaw_sameInts_L1 a1 b1) (fun x => (gameroomlaw_sameInts_K1 x).bind some) r (fun (x : Int) a w => Fr 26 [pl 0 (.slice A1 a1.length c1), pl 1 (.slice A2 b1.length c2), pl 5 (.int .i64 x)] a ∧ Sep w0 B w (fs)) (assoc_b hm) ⟨hF.weak [0, 1, 5] (by kernel_rfl), hS⟩ ?_
      clear hF hS hm
      rintro nn1 i1 a w ⟨hF, hS⟩ hm
      generalize hφ1 : stK (gameroomlaw_sameInts_L1 a1 b1) nn1 (fun x => (gameroomlaw_sameInts_K1 x).bind some) = φ1 at hm
      unfold gameroomlaw_sameInts_L1 at hm
      dsimp only at hm
      refine seq_cut (fun a w => Fr 26 [pl 0 (.slice A1 a1.length c1), pl 1 (.slice A2 b1.length c2), pl 5 (.int .i64 i1)] a ∧ Sep w0 B w (fs) ∧ ((gameroomlaw_sameInts_J3 a1 b1 i1)).bind φ1 = some r) ?_ ?_
      · rintro a w ⟨hF, hS, hm⟩
        unfold gameroomlaw_sameInts_J3 at hm
        refine seq_cut (fun a w => Fr 26 [pl 0 (.slice A1 a1.length c1), pl 1 (.slice A2 b1.length c2), pl 5 (.int .i64 i1)] a ∧ Sep w0 B w (fs) ∧ ((gameroomlaw_sameInts_J4 i1)).bind φ1 = some r) ?_ ?_
        · rintro a w ⟨hF, hS, hm⟩
          unfold gameroomlaw_sameInts_J4 at hm
          refine reg1 [] [] [0, 1, 5] [pl 0 (.slice A1 a1.length c1), pl 1 (.slice A2 b1.length c2), pl 5 (.int .i64 (w64 (i1 + 1)))] hF hS Fol (by kernel_rfl) (by kernel_rfl) (by kernel_rfl) ?_ (fun a w hF hS => ?_)
          · exact obs_nil
          refine then_n ?_
          rw [← hφ1] at hm
          exact ⟨(w64 (i1 + 1)), ⟨hF.weak [0, 1, 5] (by kernel_rfl), hS⟩, hm⟩
        · refine wpIn_block ?_
          obtain ⟨hp1, hm⟩ := asrt_b hm
          obtain ⟨hp2, hm⟩ := asrt_b hm
          refine reg [⟨true, [], vS (Instr.indexAt 27 (.slice A1 a1.length c1) (.int .i64 i1)), .pointer (some (sAddr A1 i1))⟩, ⟨false, [], vS (Instr.loadAt 3 (.pointer (some (sAddr A1 i1)))), .int .i64 (geti a1 i1)⟩, ⟨true, [], vS (Instr.indexAt 27 (.slice A2 b1.length c2) (.int .i64 i1)), .pointer (some (sAddr A2 i1))⟩, ⟨false, [], vS (Instr.loadAt 3 (.pointer (some (sAddr A2 i1)))), .int .i64 (geti b1 i1)⟩] [none, none, some (.pointer (some (sAddr A1 i1))), some (.int .i64 (geti a1 i1)), none, none, some (.pointer (some (sAddr A2 i1))), some (.int .i64 (geti b1 i1)), none] [0, 1, 5, 25] [pl 0 (.slice A1 a1.length c1), pl 1 (.slice A2 b1.length c2), pl 5 (.int .i64 i1), pl 25 (.bool ((geti a1 i1) != (geti b1 i1)))] hF hS Fol (by kernel_rfl) (by kernel_rfl) (by kernel_rfl) ?_ (fun a w hF hS => ?_)
          · exact obs_cons (ob_ix1 (f := (Value.int .i64)) (m := a1) Und27 hi3 hs3 (hr_a1 _ (hS.dropN 0)) rfl (fun _ => hp1)) <| obs_cons (ob_get1 (n := a1.length) (m := a1) (Value.int .i64) (0 : Int) Agg3 (fun _ hS => ⟨_, (hr_a1 _ (hS.dropN 0))⟩) (fun _ hS => rfl) (fun _ => hp1)) <| obs_cons (ob_ix1 (f := (Value.int .i64)) (m := b1) Und27 hi3 hs3 (hr_b1 _ (hS.dropN 0)) rfl (fun _ => hp2)) <| obs_cons (ob_get1 (n := b1.length) (m := b1) (Value.int .i64) (0 : Int) Agg3 (fun _ hS => ⟨_, (hr_b1 _ (hS.dropN 0))⟩) (fun _ hS => rfl) (fun _ => hp2)) <| obs_nil
          refine cond_ev (t := 25) (b := ((geti a1 i1) != (geti b1 i1))) hF (by kernel_rfl) (fun hb => ?_) (fun hb => ?_)
          · replace hm := if_t hm hb
            refine reg [] [] [4] [pl 4 (.bool false)] hF hS Fol (by kernel_rfl) (by kernel_rfl) (by kernel_rfl) ?_ (fun a w hF hS => ?_)
            · exact obs_nil
            refine wpIn_ret ?_
            refine block_r (then_r (then_r (block_r (then_r ?_))))
            rw [← hφ1] at hm
            replace hm := done_b hm
            unfold gameroomlaw_sameInts_K1 at hm
            try dsimp only at hm
            have hm : some false = some r := hm
            obtain rfl := Option.some.inj hm
            exact retV (rs := [.tmp 4]) (vs := [.bool false]) hF rfl (rv_t (by kernel_rfl) <| rv_nil) rfl ⟨rfl, hS⟩
          · replace hm := if_f hm hb
            refine wpIn_skip ?_
            refine block_n ?_
            refine then_n ?_
            exact ⟨hF.weak [0, 1, 5] (by kernel_rfl), hS, hm⟩
      · refine reg [] [] [0, 1, 5, 14] [pl 0 (.slice A1 a1.length c1), pl 1 (.slice A2 b1.length c2), pl 5 (.int .i64 i1), pl 14 (.bool (decide (i1 < (a1.length : Int))))] hF hS Fol (by kernel_rfl) (by kernel_rfl) (by kernel_rfl) ?_ (fun a w hF hS => ?_)
        · exact obs_nil
        refine cond_ev (t := 14) (b := decide (i1 < (a1.length : Int))) hF (by kernel_rfl) (fun hb => ?_) (fun hb => ?_)
        · replace hm := if_t hm hb
          refine wpIn_skip ?_
          refine then_n ?_
          exact ⟨hF.weak [0, 1, 5] (by kernel_rfl), hS, hm⟩
        · replace hm := if_f hm hb
          refine wpIn_exit ?_
          refine then_e (then_e (block_e (then_n ?_)))
          rw [← hφ1] at hm
          replace hm := done_b hm
          unfold gameroomlaw_sameInts_K1 at hm
          try dsimp only at hm
          have hm : (gameroomlaw_sameInts_J2).bind some = some r := hm
          exact ⟨hF.weak [] (by kernel_rfl), hS, hm⟩
  · refine reg [] [] [0, 1, 10] [pl 0 (.slice A1 a1.length c1), pl 1 (.slice A2 b1.length c2), pl 10 (.bool ((a1.length : Int) != (b1.length : Int)))] hF hS Fol (by kernel_rfl) (by kernel_rfl) (by kernel_rfl) ?_ (fun a w hF hS => ?_)
    · exact obs_nil
    refine cond_ev (t := 10) (b := ((a1.length : Int) != (b1.length : Int))) hF (by kernel_rfl) (fun hb => ?_) (fun hb => ?_)
    · replace hm := if_t hm hb
      refine reg [] [] [4] [pl 4 (.bool false)] hF hS Fol (by kernel_rfl) (by kernel_rfl) (by kernel_rfl) ?_ (fun a w hF hS => ?_)
      · exact obs_nil
      refine wpIn_ret ?_
      refine then_r ?_
      have hm : some false = some r := hm
      obtain rfl := Option.some.inj hm
      exact retV (rs := [.tmp 4]) (vs := [.bool false]) hF rfl (rv_t (by kernel_rfl) <| rv_nil) rfl ⟨rfl, hS⟩
    · replace hm := if_f hm hb
      refine wpIn_skip ?_
      refine then_n ?_
      exact ⟨hF.weak [0, 1] (by kernel_rfl), hS, hm⟩

noncomputable def gameroomlaw_HexSolves_J4  (g1 : Int) (g2 : Int) (g3 : List Int) (who1 : Int) (r2 : (Int × List Int × Int)) : Option Bool :=
  (gameroomref_HexSolve_m g1 g2 g3 who1).bind fun r8 => ((if ((r2.2.2 == 0) && (r2.1 == r8.1)) then gameroomlaw_sameInts_m r2.2.1 r8.2 else some false)).bind fun r9 => some (((r2.2.2 == 0) && (r2.1 == r8.1)) && r9)

noncomputable def gameroomlaw_HexSolves_J3  (g1 : Int) (g2 : Int) (g3 : List Int) (who1 : Int) (r2 : (Int × List Int × Int)) : Option Bool :=
  (gameroomref_OpenPlaces_m g1 g2 g3).bind fun r7 => if (decide ((9 : Int) < r7)) then (some (((r2.2.2 == 2) && (r2.1 == 0)) && ((r2.2.1.length : Int) == 0))) else ((gameroomlaw_HexSolves_J4 g1 g2 g3 who1 r2))

noncomputable def gameroomlaw_HexSolves_J2  (g1 : Int) (g2 : Int) (g3 : List Int) (who1 : Int) (r2 : (Int × List Int × Int)) (r4 : (Int × Int)) : Option Bool :=
  ((if (!(r4.2 != 0)) then gameroomref_HexShortest_m g1 g2 g3 who1 else some 0)).bind fun r6 => if ((r4.2 != 0) || (r4.1 != r6)) then (some false) else ((gameroomlaw_HexSolves_J3 g1 g2 g3 who1 r2))

noncomputable def gameroomlaw_HexSolves_J1  (g1 : Int) (g2 : Int) (g3 : List Int) (who1 : Int) (r2 : (Int × List Int × Int)) (r4 : (Int × Int)) (no1 : Int) : Option Bool :=
  if (no1 != 0) then (some (((((r2.2.2 == no1) && (r4.2 == no1)) && (r2.1 == 0)) && ((r2.2.1.length : Int) == 0)) && (r4.1 == 0))) else ((gameroomlaw_HexSolves_J2 g1 g2 g3 who1 r2 r4))

noncomputable def gameroomlaw_HexSolves_m  (g1 : Int) (g2 : Int) (g3 : List Int) (who1 : Int) : Option Bool :=
  (gameroomref_GridOf_m g1 g2 g3).bind fun r1 => (hex_Solve_m r1.1 r1.2.1 r1.2.2 who1).bind fun r2 => (gameroomref_GridOf_m g1 g2 g3).bind fun r3 => (hex_Shortest_m r3.1 r3.2.1 r3.2.2 who1).bind fun r4 => (gameroomref_HexMay_m g1 g2 g3).bind fun r5 => if (!r5) then ((gameroomlaw_HexSolves_J1 g1 g2 g3 who1 r2 r4) 12) else (if ((who1 != 1) && (who1 != 2)) then ((gameroomlaw_HexSolves_J1 g1 g2 g3 who1 r2 r4) 4) else ((gameroomlaw_HexSolves_J1 g1 g2 g3 who1 r2 r4) 0))

set_option maxRecDepth 100000 in
set_option maxHeartbeats 4000000 in
theorem gameroomlaw_HexSolves_w {g1 : Int} {g2 : Int} {A1 : Option Addr} {c1 : Nat} {n1 : Nat} {g3 : List Int} {who1 : Int} {r : Bool} {w0 w : World} {B : Nat} {fs : List HP} (hm : gameroomlaw_HexSolves_m g1 g2 g3 who1 = some r) (hS : Sep w0 B w (fs)) (hr_g3 : RdF w0 B fs A1 (vI g3)) (_hc_g3 : g3.length ≤ c1) (_hn_g3 : n1 = g3.length) :
    Calls Try.prog 7 #[.agg #[.int .i64 g1, .int .i64 g2, .slice A1 n1 c1], .int .i64 who1] w fun e w' => e = .returned (.bool r) ∧ Sep w0 B w' (fs) := by
  obtain ⟨i3, hi3, hz3, hs3, hb3⟩ := info_parts Info3
  obtain rfl := _hn_g3
  unfold gameroomlaw_HexSolves_m at hm
  replace hm := start_b hm
  refine enter (l := [.agg #[.int .i64 g1, .int .i64 g2, .slice A1 g3.length c1], .int .i64 who1]) (n := 101) Try.func7 rfl rfl (by simp) (fun a hF => ?_)
  refine seqR ?_
  refine at_do (d := 2) (s := vS (Instr.box 64 (.agg #[.int .i64 g1, .int .i64 g2, .slice A1 g3.length c1]))) (v := .pointer (some ⟨w.heap.size, 0, none⟩)) (w' := w.alloc (.cells #[.int .i64 g1, .int .i64 g2, .slice A1 g3.length c1] 64)) hF (by kernel_rfl) (by kernel_rfl) (by kernel_rfl) (fun a hF => ?_)
  have hS : Sep w0 B (w.alloc (.cells #[.int .i64 g1, .int .i64 g2, .slice A1 g3.length c1] 64)) (blk w.heap.size 64 #[.int .i64 g1, .int .i64 g2, .slice A1 g3.length c1] :: (fs)) := hS.box 64 #[.int .i64 g1, .int .i64 g2, .slice A1 g3.length c1]
  generalize w.heap.size = g4 at hF hS
  generalize w.alloc (.cells #[.int .i64 g1, .int .i64 g2, .slice A1 g3.length c1] 64) = w at hS ⊢
  refine at_run 1 [] [] [1, 2] [pl 1 (.int .i64 who1), pl 2 (.pointer (some ⟨g4, 0, none⟩))] hF hS (by kernel_rfl) (by kernel_rfl) ?_ (fun a w hF hS => ?_)
  · exact obs_nil
  refine at_end [1, 2] [pl 1 (.int .i64 who1), pl 2 (.pointer (some ⟨g4, 0, none⟩))] hF rfl (by kernel_rfl) (fun hF => ?_)
  refine then_n ?_
  refine seqR ?_
  obtain ⟨r1, hr1, hm⟩ := call_b hm
  obtain ⟨r2, hr2, hm⟩ := call_b hm
  refine at_run 1 [⟨false, [], vS (Instr.loadAt 64 (.pointer (some ⟨g4, 0, none⟩))), .agg #[.int .i64 g1, .int .i64 g2, .slice A1 g3.length c1]⟩] [some (.agg #[.int .i64 g1, .int .i64 g2, .slice A1 g3.length c1])] [1, 2, 14] [pl 1 (.int .i64 who1), pl 2 (.pointer (some ⟨g4, 0, none⟩)), pl 14 (.agg #[.int .i64 g1, .int .i64 g2, .slice A1 g3.length c1])] hF hS (by kernel_rfl) (by kernel_rfl) ?_ (fun a w hF hS => ?_)
  · exact obs_cons (ob_loadA (cs := #[.int .i64 g1, .int .i64 g2, .slice A1 g3.length c1]) (by kernel_rfl) (by kernel_rfl) (fun _ _ hS => (hS.at_ 0 rfl).cellsAt 0 (by rfl))) <| obs_nil
  refine at_call (f := 40) (args := #[.agg #[.int .i64 g1, .int .i64 g2, .slice A1 g3.length c1]]) (d := 15) hF (by kernel_rfl) (by kernel_rfl) Try.func40 (by kernel_rfl) rfl (gameroomref_GridOf_w hr1 hS (fun _ hS => (hr_g3 _ (hS.dropN 1))) _hc_g3 rfl) (fun v a w hR hF => ?_)
  clear hS
  obtain ⟨A2, c2, rfl, hS⟩ := hR
  have hS : Sep w0 B w (own 3 (.slice A2 r1.2.2.length c2) (vI r1.2.2) :: blk g4 64 #[.int .i64 g1, .int .i64 g2, .slice A1 g3.length c1] :: fs) := hS
  refine at_run 1 [] [] [1, 2, 15, 16] [pl 1 (.int .i64 who1), pl 2 (.pointer (some ⟨g4, 0, none⟩)), pl 15 (.agg #[.int .i64 r1.1, .int .i64 r1.2.1, .slice A2 r1.2.2.length c2]), pl 16 (.int .i64 who1)] hF hS (by kernel_rfl) (by kernel_rfl) ?_ (fun a w hF hS => ?_)
  · exact obs_nil
  refine at_call (f := 39) (args := #[.agg #[.int .i64 r1.1, .int .i64 r1.2.1, .slice A2 r1.2.2.length c2], .int .i64 who1]) (d := 17) hF (by kernel_rfl) (by kernel_rfl) Try.func39 (by kernel_rfl) rfl (hex_Solve_w hr2 hS (fun _ hS => (hS.at_ 0 rfl).rd) ((hS.at_ 0 rfl).cap1) rfl) (fun v a w hR hF => ?_)
  clear hS
  obtain ⟨A3, c3, rfl, hS⟩ := hR
  have hS : Sep w0 B w (own 3 (.slice A3 r2.2.1.length c3) (vI r2.2.1) :: own 3 (.slice A2 r1.2.2.length c2) (vI r1.2.2) :: blk g4 64 #[.int .i64 g1, .int .i64 g2, .slice A1 g3.length c1] :: fs) := hS
  refine at_run 7 [] [] [1, 2, 5, 6, 7] [pl 1 (.int .i64 who1), pl 2 (.pointer (some ⟨g4, 0, none⟩)), pl 5 (.int .i64 r2.1), pl 6 (.slice A3 r2.2.1.length c3), pl 7 (.int .i64 r2.2.2)] hF hS (by kernel_rfl) (by kernel_rfl) ?_ (fun a w hF hS => ?_)
  · exact obs_nil
  refine at_end [1, 2, 5, 6, 7] [pl 1 (.int .i64 who1), pl 2 (.pointer (some ⟨g4, 0, none⟩)), pl 5 (.int .i64 r2.1), pl 6 (.slice A3 r2.2.1.length c3), pl 7 (.int .i64 r2.2.2)] hF rfl (by kernel_rfl) (fun hF => ?_)
  refine then_n ?_
  refine seqR ?_
  obtain ⟨r3, hr3, hm⟩ := call_b hm
  obtain ⟨r4, hr4, hm⟩ := call_b hm
  refine at_run 1 [⟨false, [], vS (Instr.loadAt 64 (.pointer (some ⟨g4, 0, none⟩))), .agg #[.int .i64 g1, .int .i64 g2, .slice A1 g3.length c1]⟩] [some (.agg #[.int .i64 g1, .int .i64 g2, .slice A1 g3.length c1])] [1, 2, 5, 6, 7, 22] [pl 1 (.int .i64 who1), pl 2 (.pointer (some ⟨g4, 0, none⟩)), pl 5 (.int .i64 r2.1), pl 6 (.slice A3 r2.2.1.length c3), pl 7 (.int .i64 r2.2.2), pl 22 (.agg #[.int .i64 g1, .int .i64 g2, .slice A1 g3.length c1])] hF hS (by kernel_rfl) (by kernel_rfl) ?_ (fun a w hF hS => ?_)
  · exact obs_cons (ob_loadA (cs := #[.int .i64 g1, .int .i64 g2, .slice A1 g3.length c1]) (by kernel_rfl) (by kernel_rfl) (fun _ _ hS => (hS.at_ 2 rfl).cellsAt 0 (by rfl))) <| obs_nil
  refine at_call (f := 40) (args := #[.agg #[.int .i64 g1, .int .i64 g2, .slice A1 g3.length c1]]) (d := 23) hF (by kernel_rfl) (by kernel_rfl) Try.func40 (by kernel_rfl) rfl (gameroomref_GridOf_w hr3 hS (fun _ hS => (hr_g3 _ (hS.dropN 3))) _hc_g3 rfl) (fun v a w hR hF => ?_)
  clear hS
  obtain ⟨A4, c4, rfl, hS⟩ := hR
  have hS : Sep w0 B w (own 3 (.slice A4 r3.2.2.length c4) (vI r3.2.2) :: own 3 (.slice A3 r2.2.1.length c3) (vI r2.2.1) :: own 3 (.slice A2 r1.2.2.length c2) (vI r1.2.2) :: blk g4 64 #[.int .i64 g1, .int .i64 g2, .slice A1 g3.length c1] :: fs) := hS
  refine at_run 7 [⟨false, [], callFunc 41 #[.agg #[.int .i64 r3.1, .int .i64 r3.2.1, .slice A4 r3.2.2.length c4], .int .i64 who1], .tuple #[.int .i64 r4.1, .int .i64 r4.2]⟩] [none, some (.tuple #[.int .i64 r4.1, .int .i64 r4.2]), none, none, none, none, none] [1, 2, 5, 6, 7, 8, 9] [pl 1 (.int .i64 who1), pl 2 (.pointer (some ⟨g4, 0, none⟩)), pl 5 (.int .i64 r2.1), pl 6 (.slice A3 r2.2.1.length c3), pl 7 (.int .i64 r2.2.2), pl 8 (.int .i64 r4.1), pl 9 (.int .i64 r4.2)] hF hS (by kernel_rfl) (by kernel_rfl) ?_ (fun a w hF hS => ?_)
  · exact obs_cons (ob_call Try.func41 (by kernel_rfl) rfl (fun _ _ hS => hex_Shortest_w hr4 hS (fun _ hS => (hS.at_ 0 rfl).rd) ((hS.at_ 0 rfl).cap1) rfl)) <| obs_nil
  refine at_end [1, 2, 5, 6, 7, 8, 9] [pl 1 (.int .i64 who1), pl 2 (.pointer (some ⟨g4, 0, none⟩)), pl 5 (.int .i64 r2.1), pl 6 (.slice A3 r2.2.1.length c3), pl 7 (.int .i64 r2.2.2), pl 8 (.int .i64 r4.1), pl 9 (.int .i64 r4.2)] hF rfl (by kernel_rfl) (fun hF => ?_)
  refine then_n ?_
  refine reg [] [] [1, 2, 5, 6, 7, 8, 9, 10] [pl 1 (.int .i64 who1), pl 2 (.pointer (some ⟨g4, 0, none⟩)), pl 5 (.int .i64 r2.1), pl 6 (.slice A3 r2.2.1.length c3), pl 7 (.int .i64 r2.2.2), pl 8 (.int .i64 r4.1), pl 9 (.int .i64 r4.2), pl 10 (.int .i64 0)] hF hS Fol (by kernel_rfl) (by kernel_rfl) (by kernel_rfl) ?_ (fun a w hF hS => ?_)
  · exact obs_nil
  refine seq_cut (fun a w => ∃ (no1 : Int), Fr 101 [pl 1 (.int .i64 who1), pl 2 (.pointer (some ⟨g4, 0, none⟩)), pl 5 (.int .i64 r2.1), pl 6 (.slice A3 r2.2.1.length c3), pl 7 (.int .i64 r2.2.2), pl 8 (.int .i64 r4.1), pl 9 (.int .i64 r4.2), pl 10 (.int .i64 no1)] a ∧ Sep w0 B w (blk g4 64 #[.int .i64 g1, .int .i64 g2, .slice A1 g3.length c1] :: own 3 (.slice A3 r2.2.1.length c3) (vI r2.2.1) :: fs) ∧ ((gameroomlaw_HexSolves_J1 g1 g2 g3 who1 r2 r4) no1).bind some = some r) ?_ ?_
  · rintro a w ⟨no1, hF, hS, hm⟩
    unfold gameroomlaw_HexSolves_J1 at hm
    refine seq_cut (fun a w => Fr 101 [pl 1 (.int .i64 who1), pl 2 (.pointer (some ⟨g4, 0, none⟩)), pl 5 (.int .i64 r2.1), pl 6 (.slice A3 r2.2.1.length c3), pl 7 (.int .i64 r2.2.2), pl 8 (.int .i64 r4.1), pl 9 (.int .i64 r4.2)] a ∧ Sep w0 B w (blk g4 64 #[.int .i64 g1, .int .i64 g2, .slice A1 g3.length c1] :: own 3 (.slice A3 r2.2.1.length c3) (vI r2.2.1) :: fs) ∧ ((gameroomlaw_HexSolves_J2 g1 g2 g3 who1 r2 r4)).bind some = some r) ?_ ?_
    · rintro a w ⟨hF, hS, hm⟩
      unfold gameroomlaw_HexSolves_J2 at hm
      refine seq_cut (fun a w => Fr 101 [pl 1 (.int .i64 who1), pl 2 (.pointer (some ⟨g4, 0, none⟩)), pl 5 (.int .i64 r2.1), pl 6 (.slice A3 r2.2.1.length c3), pl 7 (.int .i64 r2.2.2)] a ∧ Sep w0 B w (blk g4 64 #[.int .i64 g1, .int .i64 g2, .slice A1 g3.length c1] :: own 3 (.slice A3 r2.2.1.length c3) (vI r2.2.1) :: fs) ∧ ((gameroomlaw_HexSolves_J3 g1 g2 g3 who1 r2)).bind some = some r) ?_ ?_
      · rintro a w ⟨hF, hS, hm⟩
        unfold gameroomlaw_HexSolves_J3 at hm
        refine seq_cut (fun a w => Fr 101 [pl 1 (.int .i64 who1), pl 2 (.pointer (some ⟨g4, 0, none⟩)), pl 5 (.int .i64 r2.1), pl 6 (.slice A3 r2.2.1.length c3), pl 7 (.int .i64 r2.2.2)] a ∧ Sep w0 B w (blk g4 64 #[.int .i64 g1, .int .i64 g2, .slice A1 g3.length c1] :: own 3 (.slice A3 r2.2.1.length c3) (vI r2.2.1) :: fs) ∧ ((gameroomlaw_HexSolves_J4 g1 g2 g3 who1 r2)).bind some = some r) ?_ ?_
        · rintro a w ⟨hF, hS, hm⟩
          unfold gameroomlaw_HexSolves_J4 at hm
          refine seqR ?_
          obtain ⟨r8, hr8, hm⟩ := call_b hm
          refine at_run 2 [⟨false, [], vS (Instr.loadAt 64 (.pointer (some ⟨g4, 0, none⟩))), .agg #[.int .i64 g1, .int .i64 g2, .slice A1 g3.length c1]⟩] [some (.agg #[.int .i64 g1, .int .i64 g2, .slice A1 g3.length c1]), none] [5, 6, 7, 84, 85] [pl 5 (.int .i64 r2.1), pl 6 (.slice A3 r2.2.1.length c3), pl 7 (.int .i64 r2.2.2), pl 84 (.agg #[.int .i64 g1, .int .i64 g2, .slice A1 g3.length c1]), pl 85 (.int .i64 who1)] hF hS (by kernel_rfl) (by kernel_rfl) ?_ (fun a w hF hS => ?_)
          · exact obs_cons (ob_loadA (cs := #[.int .i64 g1, .int .i64 g2, .slice A1 g3.length c1]) (by kernel_rfl) (by kernel_rfl) (fun _ _ hS => (hS.at_ 0 rfl).cellsAt 0 (by rfl))) <| obs_nil
          refine at_call (f := 45) (args := #[.agg #[.int .i64 g1, .int .i64 g2, .slice A1 g3.length c1], .int .i64 who1]) (d := 86) hF (by kernel_rfl) (by kernel_rfl) Try.func45 (by kernel_rfl) rfl (gameroomref_HexSolve_w hr8 hS (fun _ hS => (hr_g3 _ (hS.dropN 2))) _hc_g3 rfl) (fun v a w hR hF => ?_)
          clear hS
          obtain ⟨A5, c5, rfl, hS⟩ := hR
          have hS : Sep w0 B w (own 3 (.slice A5 r8.2.length c5) (vI r8.2) :: blk g4 64 #[.int .i64 g1, .int .i64 g2, .slice A1 g3.length c1] :: own 3 (.slice A3 r2.2.1.length c3) (vI r2.2.1) :: fs) := hS
          refine at_run 5 [] [] [5, 6, 7, 11, 12] [pl 5 (.int .i64 r2.1), pl 6 (.slice A3 r2.2.1.length c3), pl 7 (.int .i64 r2.2.2), pl 11 (.int .i64 r8.1), pl 12 (.slice A5 r8.2.length c5)] hF hS (by kernel_rfl) (by kernel_rfl) ?_ (fun a w hF hS => ?_)
          · exact obs_nil
          refine at_end [5, 6, 7, 11, 12] [pl 5 (.int .i64 r2.1), pl 6 (.slice A3 r2.2.1.length c3), pl 7 (.int .i64 r2.2.2), pl 11 (.int .i64 r8.1), pl 12 (.slice A5 r8.2.length c5)] hF rfl (by kernel_rfl) (fun hF => ?_)
          refine then_n ?_
          obtain ⟨r9, hr9, hm⟩ := call_b hm
          refine reg [⟨false, [((r2.2.2 == 0) && (r2.1 == r8.1), true)], callFunc 25 #[.slice A3 r2.2.1.length c3, .slice A5 r8.2.length c5], .bool r9⟩] [none, none, none, none, none, none, none, none, none, none, some (.bool r9), none, none] [4] [pl 4 (.bool (((r2.2.2 == 0) && (r2.1 == r8.1)) && r9))] hF hS Fol (by kernel_rfl) (by kernel_rfl) (by kernel_rfl) ?_ (fun a w hF hS => ?_)
          · exact obs_cons (ob_call Try.func25 (by kernel_rfl) rfl (fun hy _ hS => gameroomlaw_sameInts_w (ite_some hr9 (by rw [show ((r2.2.2 == 0) && (r2.1 == r8.1)) = true from hy ((r2.2.2 == 0) && (r2.1 == r8.1), true) (by simp)]; try rfl)) hS (fun _ hS => (hS.at_ 2 rfl).rd) ((hS.at_ 2 rfl).cap1) rfl (fun _ hS => (hS.at_ 0 rfl).rd) ((hS.at_ 0 rfl).cap1) rfl)) <| obs_nil
          refine wpIn_ret ?_
          have hS := hS.pickN 3 [] (by decide)
          have hm : some (((r2.2.2 == 0) && (r2.1 == r8.1)) && r9) = some r := hm
          obtain rfl := Option.some.inj hm
          exact retV (rs := [.tmp 4]) (vs := [.bool (((r2.2.2 == 0) && (r2.1 == r8.1)) && r9)]) hF rfl (rv_t (by kernel_rfl) <| rv_nil) rfl ⟨rfl, hS⟩
        · obtain ⟨r7, hr7, hm⟩ := call_b hm
          refine reg [⟨false, [], vS (Instr.loadAt 64 (.pointer (some ⟨g4, 0, none⟩))), .agg #[.int .i64 g1, .int .i64 g2, .slice A1 g3.length c1]⟩, ⟨false, [], callFunc 44 #[.agg #[.int .i64 g1, .int .i64 g2, .slice A1 g3.length c1]], .int .i64 r7⟩] [some (.agg #[.int .i64 g1, .int .i64 g2, .slice A1 g3.length c1]), some (.int .i64 r7), none] [1, 2, 5, 6, 7, 71] [pl 1 (.int .i64 who1), pl 2 (.pointer (some ⟨g4, 0, none⟩)), pl 5 (.int .i64 r2.1), pl 6 (.slice A3 r2.2.1.length c3), pl 7 (.int .i64 r2.2.2), pl 71 (.bool (decide ((9 : Int) < r7)))] hF hS Fol (by kernel_rfl) (by kernel_rfl) (by kernel_rfl) ?_ (fun a w hF hS => ?_)
          · exact obs_cons (ob_loadA (cs := #[.int .i64 g1, .int .i64 g2, .slice A1 g3.length c1]) (by kernel_rfl) (by kernel_rfl) (fun _ _ hS => (hS.at_ 0 rfl).cellsAt 0 (by rfl))) <| obs_cons (ob_call Try.func44 (by kernel_rfl) rfl (fun _ _ hS => gameroomref_OpenPlaces_w hr7 hS (fun _ hS => (hr_g3 _ (hS.dropN 2))) _hc_g3 rfl)) <| obs_nil
          refine cond_ev (t := 71) (b := decide ((9 : Int) < r7)) hF (by kernel_rfl) (fun hb => ?_) (fun hb => ?_)
          · replace hm := if_t hm hb
            refine reg [] [] [4] [pl 4 (.bool (((r2.2.2 == 2) && (r2.1 == 0)) && ((r2.2.1.length : Int) == 0)))] hF hS Fol (by kernel_rfl) (by kernel_rfl) (by kernel_rfl) ?_ (fun a w hF hS => ?_)
            · exact obs_nil
            refine wpIn_ret ?_
            refine then_r ?_
            have hS := hS.pickN 2 [] (by decide)
            have hm : some (((r2.2.2 == 2) && (r2.1 == 0)) && ((r2.2.1.length : Int) == 0)) = some r := hm
            obtain rfl := Option.some.inj hm
            exact retV (rs := [.tmp 4]) (vs := [.bool (((r2.2.2 == 2) && (r2.1 == 0)) && ((r2.2.1.length : Int) == 0))]) hF rfl (rv_t (by kernel_rfl) <| rv_nil) rfl ⟨rfl, hS⟩
          · replace hm := if_f hm hb
            refine wpIn_skip ?_
            refine then_n ?_
            exact ⟨hF.weak [1, 2, 5, 6, 7] (by kernel_rfl), hS, hm⟩
      · obtain ⟨r6, hr6, hm⟩ := call_b hm
        refine reg [⟨false, [((r4.2 != 0), false)], vS (Instr.loadAt 64 (.pointer (some ⟨g4, 0, none⟩))), .agg #[.int .i64 g1, .int .i64 g2, .slice A1 g3.length c1]⟩, ⟨false, [((r4.2 != 0), false)], callFunc 43 #[.agg #[.int .i64 g1, .int .i64 g2, .slice A1 g3.length c1], .int .i64 who1], .int .i64 r6⟩] [none, none, none, none, some (.agg #[.int .i64 g1, .int .i64 g2, .slice A1 g3.length c1]), none, some (.int .i64 r6), none, none] [1, 2, 5, 6, 7, 68] [pl 1 (.int .i64 who1), pl 2 (.pointer (some ⟨g4, 0, none⟩)), pl 5 (.int .i64 r2.1), pl 6 (.slice A3 r2.2.1.length c3), pl 7 (.int .i64 r2.2.2), pl 68 (.bool ((r4.2 != 0) || (r4.1 != r6)))] hF hS Fol (by kernel_rfl) (by kernel_rfl) (by kernel_rfl) ?_ (fun a w hF hS => ?_)
        · exact obs_cons (ob_loadA (cs := #[.int .i64 g1, .int .i64 g2, .slice A1 g3.length c1]) (by kernel_rfl) (by kernel_rfl) (fun _ _ hS => (hS.at_ 0 rfl).cellsAt 0 (by rfl))) <| obs_cons (ob_call Try.func43 (by kernel_rfl) rfl (fun hy _ hS => gameroomref_HexShortest_w (ite_some hr6 (by rw [show (r4.2 != 0) = false from hy ((r4.2 != 0), false) (by simp)]; try rfl)) hS (fun _ hS => (hr_g3 _ (hS.dropN 2))) _hc_g3 rfl)) <| obs_nil
        refine cond_ev (t := 68) (b := (r4.2 != 0) || (r4.1 != r6)) hF (by kernel_rfl) (fun hb => ?_) (fun hb => ?_)
        · replace hm := if_t hm hb
          refine reg [] [] [4] [pl 4 (.bool false)] hF hS Fol (by kernel_rfl) (by kernel_rfl) (by kernel_rfl) ?_ (fun a w hF hS => ?_)
          · exact obs_nil
          refine wpIn_ret ?_
          refine then_r ?_
          have hS := hS.pickN 2 [] (by decide)
          have hm : some false = some r := hm
          obtain rfl := Option.some.inj hm
          exact retV (rs := [.tmp 4]) (vs := [.bool false]) hF rfl (rv_t (by kernel_rfl) <| rv_nil) rfl ⟨rfl, hS⟩
        · replace hm := if_f hm hb
          refine wpIn_skip ?_
          refine then_n ?_
          exact ⟨hF.weak [1, 2, 5, 6, 7] (by kernel_rfl), hS, hm⟩
    · refine reg [] [] [1, 2, 5, 6, 7, 8, 9, 10, 38] [pl 1 (.int .i64 who1), pl 2 (.pointer (some ⟨g4, 0, none⟩)), pl 5 (.int .i64 r2.1), pl 6 (.slice A3 r2.2.1.length c3), pl 7 (.int .i64 r2.2.2), pl 8 (.int .i64 r4.1), pl 9 (.int .i64 r4.2), pl 10 (.int .i64 no1), pl 38 (.bool (no1 != 0))] hF hS Fol (by kernel_rfl) (by kernel_rfl) (by kernel_rfl) ?_ (fun a w hF hS => ?_)
      · exact obs_nil
      refine cond_ev (t := 38) (b := (no1 != 0)) hF (by kernel_rfl) (fun hb => ?_) (fun hb => ?_)
      · replace hm := if_t hm hb
        refine reg [] [] [4] [pl 4 (.bool (((((r2.2.2 == no1) && (r4.2 == no1)) && (r2.1 == 0)) && ((r2.2.1.length : Int) == 0)) && (r4.1 == 0)))] hF hS Fol (by kernel_rfl) (by kernel_rfl) (by kernel_rfl) ?_ (fun a w hF hS => ?_)
        · exact obs_nil
        refine wpIn_ret ?_
        refine then_r ?_
        have hS := hS.pickN 2 [] (by decide)
        have hm : some (((((r2.2.2 == no1) && (r4.2 == no1)) && (r2.1 == 0)) && ((r2.2.1.length : Int) == 0)) && (r4.1 == 0)) = some r := hm
        obtain rfl := Option.some.inj hm
        exact retV (rs := [.tmp 4]) (vs := [.bool (((((r2.2.2 == no1) && (r4.2 == no1)) && (r2.1 == 0)) && ((r2.2.1.length : Int) == 0)) && (r4.1 == 0))]) hF rfl (rv_t (by kernel_rfl) <| rv_nil) rfl ⟨rfl, hS⟩
      · replace hm := if_f hm hb
        refine wpIn_skip ?_
        refine then_n ?_
        exact ⟨hF.weak [1, 2, 5, 6, 7, 8, 9] (by kernel_rfl), hS, hm⟩
  · obtain ⟨r5, hr5, hm⟩ := call_b hm
    refine reg [⟨false, [], vS (Instr.loadAt 64 (.pointer (some ⟨g4, 0, none⟩))), .agg #[.int .i64 g1, .int .i64 g2, .slice A1 g3.length c1]⟩, ⟨false, [], callFunc 42 #[.agg #[.int .i64 g1, .int .i64 g2, .slice A1 g3.length c1]], .bool r5⟩] [some (.agg #[.int .i64 g1, .int .i64 g2, .slice A1 g3.length c1]), some (.bool r5), none] [1, 2, 5, 6, 7, 8, 9, 10, 30] [pl 1 (.int .i64 who1), pl 2 (.pointer (some ⟨g4, 0, none⟩)), pl 5 (.int .i64 r2.1), pl 6 (.slice A3 r2.2.1.length c3), pl 7 (.int .i64 r2.2.2), pl 8 (.int .i64 r4.1), pl 9 (.int .i64 r4.2), pl 10 (.int .i64 0), pl 30 (.bool (!r5))] hF hS Fol (by kernel_rfl) (by kernel_rfl) (by kernel_rfl) ?_ (fun a w hF hS => ?_)
    · exact obs_cons (ob_loadA (cs := #[.int .i64 g1, .int .i64 g2, .slice A1 g3.length c1]) (by kernel_rfl) (by kernel_rfl) (fun _ _ hS => (hS.at_ 3 rfl).cellsAt 0 (by rfl))) <| obs_cons (ob_call Try.func42 (by kernel_rfl) rfl (fun _ _ hS => gameroomref_HexMay_w hr5 hS (fun _ hS => (hr_g3 _ (hS.dropN 4))) _hc_g3 rfl)) <| obs_nil
    refine cond_ev (t := 30) (b := !r5) hF (by kernel_rfl) (fun hb => ?_) (fun hb => ?_)
    · replace hm := if_t hm hb
      refine reg1 [] [] [1, 2, 5, 6, 7, 8, 9, 10] [pl 1 (.int .i64 who1), pl 2 (.pointer (some ⟨g4, 0, none⟩)), pl 5 (.int .i64 r2.1), pl 6 (.slice A3 r2.2.1.length c3), pl 7 (.int .i64 r2.2.2), pl 8 (.int .i64 r4.1), pl 9 (.int .i64 r4.2), pl 10 (.int .i64 12)] hF hS Fol (by kernel_rfl) (by kernel_rfl) (by kernel_rfl) ?_ (fun a w hF hS => ?_)
      · exact obs_nil
      refine then_n ?_
      have hS := hS.pickN 4 [3, 1] (by decide)
      exact ⟨12, hF.weak [1, 2, 5, 6, 7, 8, 9, 10] (by kernel_rfl), hS, hm⟩
    · replace hm := if_f hm hb
      refine reg [] [] [1, 2, 5, 6, 7, 8, 9, 10, 36] [pl 1 (.int .i64 who1), pl 2 (.pointer (some ⟨g4, 0, none⟩)), pl 5 (.int .i64 r2.1), pl 6 (.slice A3 r2.2.1.length c3), pl 7 (.int .i64 r2.2.2), pl 8 (.int .i64 r4.1), pl 9 (.int .i64 r4.2), pl 10 (.int .i64 0), pl 36 (.bool ((who1 != 1) && (who1 != 2)))] hF hS Fol (by kernel_rfl) (by kernel_rfl) (by kernel_rfl) ?_ (fun a w hF hS => ?_)
      · exact obs_nil
      refine cond_ev (t := 36) (b := (who1 != 1) && (who1 != 2)) hF (by kernel_rfl) (fun hb => ?_) (fun hb => ?_)
      · replace hm := if_t hm hb
        refine reg1 [] [] [1, 2, 5, 6, 7, 8, 9, 10] [pl 1 (.int .i64 who1), pl 2 (.pointer (some ⟨g4, 0, none⟩)), pl 5 (.int .i64 r2.1), pl 6 (.slice A3 r2.2.1.length c3), pl 7 (.int .i64 r2.2.2), pl 8 (.int .i64 r4.1), pl 9 (.int .i64 r4.2), pl 10 (.int .i64 4)] hF hS Fol (by kernel_rfl) (by kernel_rfl) (by kernel_rfl) ?_ (fun a w hF hS => ?_)
        · exact obs_nil
        refine then_n ?_
        have hS := hS.pickN 4 [3, 1] (by decide)
        exact ⟨4, hF.weak [1, 2, 5, 6, 7, 8, 9, 10] (by kernel_rfl), hS, hm⟩
      · replace hm := if_f hm hb
        refine wpIn_skip ?_
        refine then_n ?_
        have hS := hS.pickN 4 [3, 1] (by decide)
        exact ⟨0, hF.weak [1, 2, 5, 6, 7, 8, 9, 10] (by kernel_rfl), hS, hm⟩

end Go.Proofs.Ytfmmlmiakkjaiaa
