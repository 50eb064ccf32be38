/-
  Models and walks, printed by our own program (wip/gen).
-/
import Derived.Test.YtnplejebgbdfpaaFB
import Derived.Test.YtnplejebgbdfpaaNFa
namespace Go.Proofs.Ytnplejebgbdfpaa
open Go Go.GL Go.RowKit

noncomputable def gameroomref_WonOf_m (g1 : Int) (g2 : Int) (g3 : List Int) (k1 : Int) : Option (Int × List Int) :=
  asrt ((0 : Int) ≤ (g3.length : Int) ∧ (g3.length : Int) ≤ bigN) <| (loop (gameroomref_WonOf_L1 g1 g2 g3 k1) ((List.replicate (Int.toNat (g3.length : Int)) false), false, false, 0)).bind (gameroomref_WonOf_K1 g3)

set_option maxRecDepth 100000 in
set_option maxHeartbeats 4000000 in
theorem gameroomref_WonOf_w {g1 : Int} {g2 : Int} {A1 : Option Addr} {c1 : Nat} {n1 : Nat} {g3 : List Int} {k1 : Int} {r : (Int × List Int)} {w0 w : World} {B : Nat} {fs : List HP} (hm : gameroomref_WonOf_m g1 g2 g3 k1 = some r) (hS : Sep w0 B w (fs)) (hr_g3 : RdF w0 B fs A1 (vI g3)) (_hc_g3 : g3.length ≤ c1) (_hn_g3 : n1 = g3.length) :
    Calls Try.prog 70 #[.agg #[.int .i64 g1, .int .i64 g2, .slice A1 n1 c1], .int .i64 k1] w fun e w' => ∃ v, e = .returned v ∧ ∃ (A7 : Option Addr) (c7 : Nat), v = .tuple #[.int .i64 r.1, .slice A7 r.2.length c7] ∧ Sep w0 B w' (own 3 (.slice A7 r.2.length c7) (vI r.2) :: fs) := by
  obtain ⟨i3, hi3, hz3, hs3, hb3⟩ := info_parts Info3
  obtain ⟨i4, hi4, hz4, hs4, hb4⟩ := info_parts Info4
  obtain rfl := _hn_g3
  unfold gameroomref_WonOf_m at hm
  replace hm := start_b hm
  refine enter (l := [.agg #[.int .i64 g1, .int .i64 g2, .slice A1 g3.length c1], .int .i64 k1]) (n := 109) Try.func70 rfl rfl (by simp) (fun a hF => ?_)
  refine seqR ?_
  refine at_do (d := 2) (s := vS (Instr.box 55 (.agg #[.int .i64 g1, .int .i64 g2, .slice A1 g3.length c1]))) (v := .pointer (some ⟨w.heap.size, 0, none⟩)) (w' := w.alloc (.cells #[.int .i64 g1, .int .i64 g2, .slice A1 g3.length c1] 55)) hF (by kernel_rfl) (by kernel_rfl) (by kernel_rfl) (fun a hF => ?_)
  have hS : Sep w0 B (w.alloc (.cells #[.int .i64 g1, .int .i64 g2, .slice A1 g3.length c1] 55)) (blk w.heap.size 55 #[.int .i64 g1, .int .i64 g2, .slice A1 g3.length c1] :: (fs)) := hS.box 55 #[.int .i64 g1, .int .i64 g2, .slice A1 g3.length c1]
  generalize w.heap.size = g4 at hF hS
  generalize w.alloc (.cells #[.int .i64 g1, .int .i64 g2, .slice A1 g3.length c1] 55) = w at hS ⊢
  refine at_run 2 [] [] [1, 2] [pl 1 (.int .i64 k1), pl 2 (.pointer (some ⟨g4, 0, none⟩))] hF hS (by kernel_rfl) (by kernel_rfl) ?_ (fun a w hF hS => ?_)
  · exact obs_nil
  refine at_end [1, 2] [pl 1 (.int .i64 k1), pl 2 (.pointer (some ⟨g4, 0, none⟩))] hF rfl (by kernel_rfl) (fun hF => ?_)
  refine then_n ?_
  refine seqR ?_
  obtain ⟨hp1, hm⟩ := asrt_b hm
  refine at_run 3 [⟨false, [], vS (Instr.loadAt 22 (.pointer (some ⟨g4, 2, none⟩))), .slice A1 g3.length c1⟩] [none, some (.slice A1 g3.length c1), none] [1, 2, 21] [pl 1 (.int .i64 k1), pl 2 (.pointer (some ⟨g4, 0, none⟩)), pl 21 (.int .i64 (g3.length : Int))] hF hS (by kernel_rfl) (by kernel_rfl) ?_ (fun a w hF hS => ?_)
  · exact obs_cons (ob_load Agg22 (fun _ _ hS => (hS.at_ 0 rfl).cell rfl)) <| obs_nil
  obtain ⟨A2, c2, w, hrun, hS⟩ := run_mk1 (P := Try.prog) (t := 120) Value.bool false hS .i64 .i64 Und120 hi4 hz4 hs4 (by omega) rfl hp1
  have hS : Sep w0 B w (own 4 (.slice A2 (Int.toNat (g3.length : Int)) c2) (vB (List.replicate (Int.toNat (g3.length : Int)) false)) :: blk g4 55 #[.int .i64 g1, .int .i64 g2, .slice A1 g3.length c1] :: fs) := hS
  refine at_do (d := 22) hF (by kernel_rfl) (by kernel_rfl) hrun (fun a hF => ?_)
  refine at_run 1 [] [] [1, 2, 6] [pl 1 (.int .i64 k1), pl 2 (.pointer (some ⟨g4, 0, none⟩)), pl 6 (.slice A2 (Int.toNat (g3.length : Int)) c2)] hF hS (by kernel_rfl) (by kernel_rfl) ?_ (fun a w hF hS => ?_)
  · exact obs_nil
  refine at_end [1, 2, 6] [pl 1 (.int .i64 k1), pl 2 (.pointer (some ⟨g4, 0, none⟩)), pl 6 (.slice A2 (Int.toNat (g3.length : Int)) c2)] hF rfl (by kernel_rfl) (fun hF => ?_)
  refine then_n ?_
  refine reg [] [] [1, 2, 6, 7, 8] [pl 1 (.int .i64 k1), pl 2 (.pointer (some ⟨g4, 0, none⟩)), pl 6 (.slice A2 (Int.toNat (g3.length : Int)) c2), pl 7 (.bool false), pl 8 (.bool false)] hF hS Fol (by kernel_rfl) (by kernel_rfl) (by kernel_rfl) ?_ (fun a w hF hS => ?_)
  · exact obs_nil
  refine seq_cut (fun a w => ∃ (in2 : List Bool) (one2 : Bool) (two2 : Bool), Fr 109 [pl 6 (.slice A2 (Int.toNat (g3.length : Int)) c2), pl 7 (.bool one2), pl 8 (.bool two2)] a ∧ Sep w0 B w (own 4 (.slice A2 (Int.toNat (g3.length : Int)) c2) (vB in2) :: fs) ∧ ((gameroomref_WonOf_J1 g3) in2 one2 two2).bind some = some r) ?_ ?_
  · rintro a w ⟨in2, one2, two2, hF, hS, hm⟩
    unfold gameroomref_WonOf_J1 at hm
    refine reg [] [] [6, 7, 8, 16] [pl 6 (.slice A2 (Int.toNat (g3.length : Int)) c2), pl 7 (.bool one2), pl 8 (.bool two2), pl 16 (.int .i64 0)] hF hS Fol (by kernel_rfl) (by kernel_rfl) (by kernel_rfl) ?_ (fun a w hF hS => ?_)
    · exact obs_nil
    refine seq_cut (fun a w => ∃ (n2 : Int), Fr 109 [pl 6 (.slice A2 (Int.toNat (g3.length : Int)) c2), pl 8 (.bool two2), pl 16 (.int .i64 n2)] a ∧ Sep w0 B w (own 4 (.slice A2 (Int.toNat (g3.length : Int)) c2) (vB in2) :: fs) ∧ ((gameroomref_WonOf_J11 g3 in2 two2) n2).bind some = some r) ?_ ?_
    · rintro a w ⟨n2, hF, hS, hm⟩
      unfold gameroomref_WonOf_J11 at hm
      refine seq_cut (fun a w => ∃ (n3 : Int), Fr 109 [pl 6 (.slice A2 (Int.toNat (g3.length : Int)) c2), pl 16 (.int .i64 n3)] a ∧ Sep w0 B w (own 4 (.slice A2 (Int.toNat (g3.length : Int)) c2) (vB in2) :: fs) ∧ ((gameroomref_WonOf_J12 g3 in2) n3).bind some = some r) ?_ ?_
      · rintro a w ⟨n3, hF, hS, hm⟩
        unfold gameroomref_WonOf_J12 at hm
        refine reg [] [] [6, 16, 17] [pl 6 (.slice A2 (Int.toNat (g3.length : Int)) c2), pl 16 (.int .i64 n3), pl 17 (.slice none 0 0)] hF hS Fol (by kernel_rfl) (by kernel_rfl) (by kernel_rfl) ?_ (fun a w hF hS => ?_)
        · exact obs_nil
        refine seq_cut (fun a w => ∃ (l2 : List Int) (A4 : Option Addr) (c4 : Nat), Fr 109 [pl 16 (.int .i64 n3), pl 17 (.slice A4 l2.length c4)] a ∧ Sep w0 B w (own 3 (.slice A4 l2.length c4) (vI l2) :: fs) ∧ ((gameroomref_WonOf_J13 n3) l2).bind some = some r) ?_ ?_
        · rintro a w ⟨l2, A4, c4, hF, hS, hm⟩
          unfold gameroomref_WonOf_J13 at hm
          refine reg [] [] [4, 5] [pl 4 (.int .i64 n3), pl 5 (.slice A4 l2.length c4)] hF hS Fol (by kernel_rfl) (by kernel_rfl) (by kernel_rfl) ?_ (fun a w hF hS => ?_)
          · exact obs_nil
          refine wp_ret ?_
          have hm : some (n3, l2) = some r := hm
          obtain rfl := Option.some.inj hm
          exact retV (rs := [.tmp 4, .tmp 5]) (vs := [.int .i64 n3, .slice A4 l2.length c4]) hF rfl (rv_t (by kernel_rfl) <| rv_t (by kernel_rfl) <| rv_nil) rfl ⟨_, rfl, A4, c4, rfl, hS⟩
        · refine reg [] [] [6, 16, 17, 18] [pl 6 (.slice A2 (Int.toNat (g3.length : Int)) c2), pl 16 (.int .i64 n3), pl 17 (.slice none 0 0), pl 18 (.int .i64 0)] hF hS Fol (by kernel_rfl) (by kernel_rfl) (by kernel_rfl) ?_ (fun a w hF hS => ?_)
          · exact obs_nil
          refine wp_block ?_
          have hS : Sep w0 B w (own 3 (.slice none 0 0) (vI ([] : List Int)) :: own 4 (.slice A2 (Int.toNat (g3.length : Int)) c2) (vB in2) :: fs) := hS.nil 3
          have hl1 := (hS.at_ 0 rfl).len1
          have hS := (hS.at_ 0 rfl).reN hl1
          have hS : Sep w0 B w (own 3 (.slice none (([] : List Int).length) 0) (vI ([] : List Int)) :: own 4 (.slice A2 (Int.toNat (g3.length : Int)) c2) (vB in2) :: fs) := hS
          have hF := hF.cast (t := 17) (v := .slice none 0 0) (v' := .slice none (([] : List Int).length) 0) rfl rfl (congrArg (fun k => Value.slice none k 0) hl1)
          have hS := hS.pickN 2 [1, 0] (by decide)
          refine wp_loop_model (S := (List Int × Int)) (R := (List Int)) (gameroomref_WonOf_L5 g3 in2) (fun x => ((gameroomref_WonOf_K5 n3) x).bind some) r (fun (x : (List Int × Int)) a w => ∃ (A3 : Option Addr) (c3 : Nat), Fr 109 [pl 6 (.slice A2 (Int.toNat (g3.length : Int)) c2), pl 16 (.int .i64 n3), pl 17 (.slice A3 x.1.length c3), pl 18 (.int .i64 x.2)] a ∧ Sep w0 B w (own 4 (.slice A2 (Int.toNat (g3.length : Int)) c2) (vB in2) :: own 3 (.slice A3 x.1.length c3) (vI x.1) :: fs)) (assoc_b hm) ⟨none, 0, hF.weak [6, 16, 17, 18] (by kernel_rfl), hS⟩ ?_
          clear hF hS hm
          rintro nn5 ⟨l1, i2⟩ a w ⟨A3, c3, hF, hS⟩ hm
          generalize hφ5 : stK (gameroomref_WonOf_L5 g3 in2) nn5 (fun x => ((gameroomref_WonOf_K5 n3) x).bind some) = φ5 at hm
          unfold gameroomref_WonOf_L5 at hm
          dsimp only at hF hS hm
          refine seq_cut (fun a w => Fr 109 [pl 6 (.slice A2 (Int.toNat (g3.length : Int)) c2), pl 16 (.int .i64 n3), pl 17 (.slice A3 l1.length c3), pl 18 (.int .i64 i2)] a ∧ Sep w0 B w (own 4 (.slice A2 (Int.toNat (g3.length : Int)) c2) (vB in2) :: own 3 (.slice A3 l1.length c3) (vI l1) :: fs) ∧ ((gameroomref_WonOf_J14 g3 in2 l1 i2)).bind φ5 = some r) ?_ ?_
          · rintro a w ⟨hF, hS, hm⟩
            unfold gameroomref_WonOf_J14 at hm
            refine seq_cut (fun a w => ∃ (l3 : List Int) (A6 : Option Addr) (c6 : Nat), Fr 109 [pl 6 (.slice A2 (Int.toNat (g3.length : Int)) c2), pl 16 (.int .i64 n3), pl 17 (.slice A6 l3.length c6), pl 18 (.int .i64 i2)] a ∧ Sep w0 B w (own 4 (.slice A2 (Int.toNat (g3.length : Int)) c2) (vB in2) :: own 3 (.slice A6 l3.length c6) (vI l3) :: fs) ∧ ((gameroomref_WonOf_J15 i2) l3).bind φ5 = some r) ?_ ?_
            · rintro a w ⟨l3, A6, c6, hF, hS, hm⟩
              unfold gameroomref_WonOf_J15 at hm
              refine reg1 [] [] [6, 16, 17, 18] [pl 6 (.slice A2 (Int.toNat (g3.length : Int)) c2), pl 16 (.int .i64 n3), pl 17 (.slice A6 l3.length c6), pl 18 (.int .i64 (w64 (i2 + 1)))] hF hS Fol (by kernel_rfl) (by kernel_rfl) (by kernel_rfl) ?_ (fun a w hF hS => ?_)
              · exact obs_nil
              refine then_n ?_
              rw [← hφ5] at hm
              exact ⟨(l3, (w64 (i2 + 1))), ⟨A6, c6, hF.weak [6, 16, 17, 18] (by kernel_rfl), hS⟩, hm⟩
            · refine wp_block ?_
              obtain ⟨hp5, hm⟩ := asrt_b hm
              refine reg [⟨true, [], vS (Instr.indexAt 120 (.slice A2 (Int.toNat (g3.length : Int)) c2) (.int .i64 i2)), .pointer (some (sAddr A2 i2))⟩, ⟨false, [], vS (Instr.loadAt 4 (.pointer (some (sAddr A2 i2)))), .bool (getb in2 i2)⟩] [none, none, some (.pointer (some (sAddr A2 i2))), some (.bool (getb in2 i2))] [6, 16, 17, 18, 102] [pl 6 (.slice A2 (Int.toNat (g3.length : Int)) c2), pl 16 (.int .i64 n3), pl 17 (.slice A3 l1.length c3), pl 18 (.int .i64 i2), pl 102 (.bool (getb in2 i2))] hF hS Fol (by kernel_rfl) (by kernel_rfl) (by kernel_rfl) ?_ (fun a w hF hS => ?_)
              · exact obs_cons (ob_ix1 (f := Value.bool) (m := in2) Und120 hi4 hs4 (hS.at_ 0 rfl).rd ((hS.at_ 0 rfl).len1) (fun _ => hp5)) <| obs_cons (ob_get1 (n := (Int.toNat (g3.length : Int))) (m := in2) Value.bool false Agg4 (fun _ hS => ⟨_, (hS.at_ 0 rfl).rd⟩) (fun _ hS => ((hS.at_ 0 rfl).len1)) (fun _ => hp5)) <| obs_nil
              refine cond_ev (t := 102) (b := getb in2 i2) hF (by kernel_rfl) (fun hb => ?_) (fun hb => ?_)
              · replace hm := if_t hm hb
                refine oneR ?_
                obtain ⟨hp6, hm⟩ := asrt_b hm
                refine at_run 2 [] [] [6, 16, 18, 103, 104] [pl 6 (.slice A2 (Int.toNat (g3.length : Int)) c2), pl 16 (.int .i64 n3), pl 18 (.int .i64 i2), pl 103 (.slice A3 l1.length c3), pl 104 (.int .i64 i2)] hF hS (by kernel_rfl) (by kernel_rfl) ?_ (fun a w hF hS => ?_)
                · exact obs_nil
                refine at_do (d := 105) (s := vS (Instr.buildSlice 22 1 #[(0, .int .i64 i2)])) (v := .slice (some ⟨w.heap.size, 0, none⟩) 1 1) (w' := w.alloc (.cells #[.int .i64 i2] 3)) hF (by kernel_rfl) (by kernel_rfl) (by kernel_rfl) (fun a hF => ?_)
                have hS : Sep w0 B (w.alloc (.cells #[.int .i64 i2] 3)) (own 3 (.slice (some (⟨w.heap.size, 0, none⟩ : Addr)) 1 1) (vI ([i2] : List Int)) :: (own 4 (.slice A2 (Int.toNat (g3.length : Int)) c2) (vB in2) :: own 3 (.slice A3 l1.length c3) (vI l1) :: fs)) := hS.lit 3 #[.int .i64 i2] 1 rfl (by omega)
                generalize (some (⟨w.heap.size, 0, none⟩ : Addr)) = g7 at hF hS
                generalize w.alloc (.cells #[.int .i64 i2] 3) = w at hS ⊢
                obtain ⟨A5, c5, w, hrun, hS⟩ := run_app1 (P := Try.prog) (t := 22) (m := l1) (ys := ([i2] : List Int)) (A2 := g7) (m2 := 1) (c2 := 1) (Value.int .i64) (0 : Int) (hS.at_ 2 rfl) (hS.at_ 0 rfl).rd ((hS.at_ 0 rfl).len1) 22 Und22 hi3 hz3 hs3 (by omega) rfl (fun _ => rfl) hp6
                have hS : Sep w0 B w (own 3 (.slice g7 1 1) (vI ([i2] : List Int)) :: own 4 (.slice A2 (Int.toNat (g3.length : Int)) c2) (vB in2) :: own 3 (.slice A5 ((l1 ++ ([i2] : List Int)).length) c5) (vI (l1 ++ ([i2] : List Int))) :: fs) := hS
                refine at_do (d := 106) hF (by kernel_rfl) (by kernel_rfl) hrun (fun a hF => ?_)
                refine at_run 1 [] [] [6, 16, 17, 18] [pl 6 (.slice A2 (Int.toNat (g3.length : Int)) c2), pl 16 (.int .i64 n3), pl 17 (.slice A5 ((l1 ++ ([i2] : List Int)).length) c5), pl 18 (.int .i64 i2)] hF hS (by kernel_rfl) (by kernel_rfl) ?_ (fun a w hF hS => ?_)
                · exact obs_nil
                refine at_end [6, 16, 17, 18] [pl 6 (.slice A2 (Int.toNat (g3.length : Int)) c2), pl 16 (.int .i64 n3), pl 17 (.slice A5 ((l1 ++ ([i2] : List Int)).length) c5), pl 18 (.int .i64 i2)] hF rfl (by kernel_rfl) (fun hF => ?_)
                refine block_n ?_
                refine then_n ?_
                have hS := hS.pickN 3 [1, 2] (by decide)
                exact ⟨(l1 ++ ([i2] : List Int)), A5, c5, hF.weak [6, 16, 17, 18] (by kernel_rfl), hS, hm⟩
              · replace hm := if_f hm hb
                refine wp_skip ?_
                refine block_n ?_
                refine then_n ?_
                exact ⟨l1, A3, c3, hF.weak [6, 16, 17, 18] (by kernel_rfl), hS, hm⟩
          · refine reg [] [] [6, 16, 17, 18, 96] [pl 6 (.slice A2 (Int.toNat (g3.length : Int)) c2), pl 16 (.int .i64 n3), pl 17 (.slice A3 l1.length c3), pl 18 (.int .i64 i2), pl 96 (.bool (decide (i2 < (((Int.toNat (g3.length : Int)) : Nat) : Int))))] hF hS Fol (by kernel_rfl) (by kernel_rfl) (by kernel_rfl) ?_ (fun a w hF hS => ?_)
            · exact obs_nil
            refine cond_ev (t := 96) (b := decide (i2 < (((Int.toNat (g3.length : Int)) : Nat) : Int))) hF (by kernel_rfl) (fun hb => ?_) (fun hb => ?_)
            · replace hm := if_t hm hb
              refine wp_skip ?_
              refine then_n ?_
              exact ⟨hF.weak [6, 16, 17, 18] (by kernel_rfl), hS, hm⟩
            · replace hm := if_f hm hb
              refine wp_exit ?_
              refine then_e (then_e (block_e (then_n ?_)))
              have hS := hS.pickN 2 [1] (by decide)
              rw [← hφ5] at hm
              replace hm := done_b hm
              unfold gameroomref_WonOf_K5 at hm
              try dsimp only at hm
              have hm : ((gameroomref_WonOf_J13 n3) l1).bind some = some r := hm
              exact ⟨l1, A3, c3, hF.weak [16, 17] (by kernel_rfl), hS, hm⟩
      · refine reg [] [] [6, 16, 90] [pl 6 (.slice A2 (Int.toNat (g3.length : Int)) c2), pl 16 (.int .i64 n2), pl 90 (.bool two2)] hF hS Fol (by kernel_rfl) (by kernel_rfl) (by kernel_rfl) ?_ (fun a w hF hS => ?_)
        · exact obs_nil
        refine cond_ev (t := 90) (b := two2) hF (by kernel_rfl) (fun hb => ?_) (fun hb => ?_)
        · replace hm := if_t hm hb
          refine reg1 [] [] [6, 16] [pl 6 (.slice A2 (Int.toNat (g3.length : Int)) c2), pl 16 (.int .i64 (w64 (n2 + 2)))] hF hS Fol (by kernel_rfl) (by kernel_rfl) (by kernel_rfl) ?_ (fun a w hF hS => ?_)
          · exact obs_nil
          refine then_n ?_
          exact ⟨(w64 (n2 + 2)), hF.weak [6, 16] (by kernel_rfl), hS, hm⟩
        · replace hm := if_f hm hb
          refine wp_skip ?_
          refine then_n ?_
          exact ⟨n2, hF.weak [6, 16] (by kernel_rfl), hS, hm⟩
    · refine reg [] [] [6, 8, 16, 89] [pl 6 (.slice A2 (Int.toNat (g3.length : Int)) c2), pl 8 (.bool two2), pl 16 (.int .i64 0), pl 89 (.bool one2)] hF hS Fol (by kernel_rfl) (by kernel_rfl) (by kernel_rfl) ?_ (fun a w hF hS => ?_)
      · exact obs_nil
      refine cond_ev (t := 89) (b := one2) hF (by kernel_rfl) (fun hb => ?_) (fun hb => ?_)
      · replace hm := if_t hm hb
        refine reg1 [] [] [6, 8, 16] [pl 6 (.slice A2 (Int.toNat (g3.length : Int)) c2), pl 8 (.bool two2), pl 16 (.int .i64 1)] hF hS Fol (by kernel_rfl) (by kernel_rfl) (by kernel_rfl) ?_ (fun a w hF hS => ?_)
        · exact obs_nil
        refine then_n ?_
        exact ⟨1, hF.weak [6, 8, 16] (by kernel_rfl), hS, hm⟩
      · replace hm := if_f hm hb
        refine wp_skip ?_
        refine then_n ?_
        exact ⟨0, hF.weak [6, 8, 16] (by kernel_rfl), hS, hm⟩
  · refine reg [] [] [1, 2, 6, 7, 8, 9] [pl 1 (.int .i64 k1), pl 2 (.pointer (some ⟨g4, 0, none⟩)), pl 6 (.slice A2 (Int.toNat (g3.length : Int)) c2), pl 7 (.bool false), pl 8 (.bool false), pl 9 (.int .i64 0)] hF hS Fol (by kernel_rfl) (by kernel_rfl) (by kernel_rfl) ?_ (fun a w hF hS => ?_)
    · exact obs_nil
    refine wp_block ?_
    have hS := hS.pickN 2 [1, 0] (by decide)
    refine wp_loop_model (S := (List Bool × Bool × Bool × Int)) (R := (List Bool × Bool × Bool)) (gameroomref_WonOf_L1 g1 g2 g3 k1) (fun x => ((gameroomref_WonOf_K1 g3) x).bind some) r (fun (x : (List Bool × Bool × Bool × Int)) a w => Fr 109 [pl 1 (.int .i64 k1), pl 2 (.pointer (some ⟨g4, 0, none⟩)), pl 6 (.slice A2 (Int.toNat (g3.length : Int)) c2), pl 7 (.bool x.2.1), pl 8 (.bool x.2.2.1), pl 9 (.int .i64 x.2.2.2)] a ∧ Sep w0 B w (blk g4 55 #[.int .i64 g1, .int .i64 g2, .slice A1 g3.length c1] :: own 4 (.slice A2 (Int.toNat (g3.length : Int)) c2) (vB x.1) :: fs)) (assoc_b hm) ⟨hF.weak [1, 2, 6, 7, 8, 9] (by kernel_rfl), hS⟩ ?_
    clear hF hS hm
    rintro nn1 ⟨in1, one1, two1, y1⟩ a w ⟨hF, hS⟩ hm
    generalize hφ1 : stK (gameroomref_WonOf_L1 g1 g2 g3 k1) nn1 (fun x => ((gameroomref_WonOf_K1 g3) x).bind some) = φ1 at hm
    unfold gameroomref_WonOf_L1 at hm
    dsimp only at hF hS hm
    refine seq_cut (fun a w => Fr 109 [pl 1 (.int .i64 k1), pl 2 (.pointer (some ⟨g4, 0, none⟩)), pl 6 (.slice A2 (Int.toNat (g3.length : Int)) c2), pl 7 (.bool one1), pl 8 (.bool two1), pl 9 (.int .i64 y1)] a ∧ Sep w0 B w (blk g4 55 #[.int .i64 g1, .int .i64 g2, .slice A1 g3.length c1] :: own 4 (.slice A2 (Int.toNat (g3.length : Int)) c2) (vB in1) :: fs) ∧ ((gameroomref_WonOf_J2 g1 g2 g3 k1 in1 one1 two1 y1)).bind φ1 = some r) ?_ ?_
    · rintro a w ⟨hF, hS, hm⟩
      unfold gameroomref_WonOf_J2 at hm
      refine seq_cut (fun a w => ∃ (in4 : List Bool) (one4 : Bool) (two4 : Bool), Fr 109 [pl 1 (.int .i64 k1), pl 2 (.pointer (some ⟨g4, 0, none⟩)), pl 6 (.slice A2 (Int.toNat (g3.length : Int)) c2), pl 7 (.bool one4), pl 8 (.bool two4), pl 9 (.int .i64 y1)] a ∧ Sep w0 B w (blk g4 55 #[.int .i64 g1, .int .i64 g2, .slice A1 g3.length c1] :: own 4 (.slice A2 (Int.toNat (g3.length : Int)) c2) (vB in4) :: fs) ∧ ((gameroomref_WonOf_J3 y1) in4 one4 two4).bind φ1 = some r) ?_ ?_
      · rintro a w ⟨in4, one4, two4, hF, hS, hm⟩
        unfold gameroomref_WonOf_J3 at hm
        refine reg1 [] [] [1, 2, 6, 7, 8, 9] [pl 1 (.int .i64 k1), pl 2 (.pointer (some ⟨g4, 0, none⟩)), pl 6 (.slice A2 (Int.toNat (g3.length : Int)) c2), pl 7 (.bool one4), pl 8 (.bool two4), pl 9 (.int .i64 (w64 (y1 + 1)))] hF hS Fol (by kernel_rfl) (by kernel_rfl) (by kernel_rfl) ?_ (fun a w hF hS => ?_)
        · exact obs_nil
        refine then_n ?_
        rw [← hφ1] at hm
        exact ⟨(in4, one4, two4, (w64 (y1 + 1))), ⟨hF.weak [1, 2, 6, 7, 8, 9] (by kernel_rfl), hS⟩, hm⟩
      · refine wp_block ?_
        refine reg [] [] [1, 2, 6, 7, 8, 9, 10] [pl 1 (.int .i64 k1), pl 2 (.pointer (some ⟨g4, 0, none⟩)), pl 6 (.slice A2 (Int.toNat (g3.length : Int)) c2), pl 7 (.bool one1), pl 8 (.bool two1), pl 9 (.int .i64 y1), pl 10 (.int .i64 0)] hF hS Fol (by kernel_rfl) (by kernel_rfl) (by kernel_rfl) ?_ (fun a w hF hS => ?_)
        · exact obs_nil
        refine wp_block ?_
        refine wp_loop_model (S := (List Bool × Bool × Bool × Int)) (R := (List Bool × Bool × Bool)) (gameroomref_WonOf_L2 g1 g2 g3 k1 y1) (fun x => ((gameroomref_WonOf_K2 y1) x).bind φ1) r (fun (x : (List Bool × Bool × Bool × Int)) a w => Fr 109 [pl 1 (.int .i64 k1), pl 2 (.pointer (some ⟨g4, 0, none⟩)), pl 6 (.slice A2 (Int.toNat (g3.length : Int)) c2), pl 7 (.bool x.2.1), pl 8 (.bool x.2.2.1), pl 9 (.int .i64 y1), pl 10 (.int .i64 x.2.2.2)] a ∧ Sep w0 B w (blk g4 55 #[.int .i64 g1, .int .i64 g2, .slice A1 g3.length c1] :: own 4 (.slice A2 (Int.toNat (g3.length : Int)) c2) (vB x.1) :: fs)) (assoc_b hm) ⟨hF.weak [1, 2, 6, 7, 8, 9, 10] (by kernel_rfl), hS⟩ ?_
        clear hF hS hm
        rintro nn2 ⟨in3, one3, two3, x1⟩ a w ⟨hF, hS⟩ hm
        generalize hφ2 : stK (gameroomref_WonOf_L2 g1 g2 g3 k1 y1) nn2 (fun x => ((gameroomref_WonOf_K2 y1) x).bind φ1) = φ2 at hm
        unfold gameroomref_WonOf_L2 at hm
        dsimp only at hF hS hm
        refine seq_cut (fun a w => Fr 109 [pl 1 (.int .i64 k1), pl 2 (.pointer (some ⟨g4, 0, none⟩)), pl 6 (.slice A2 (Int.toNat (g3.length : Int)) c2), pl 7 (.bool one3), pl 8 (.bool two3), pl 9 (.int .i64 y1), pl 10 (.int .i64 x1)] a ∧ Sep w0 B w (blk g4 55 #[.int .i64 g1, .int .i64 g2, .slice A1 g3.length c1] :: own 4 (.slice A2 (Int.toNat (g3.length : Int)) c2) (vB in3) :: fs) ∧ ((gameroomref_WonOf_J4 g1 g2 g3 k1 y1 in3 one3 two3 x1)).bind φ2 = some r) ?_ ?_
        · rintro a w ⟨hF, hS, hm⟩
          unfold gameroomref_WonOf_J4 at hm
          refine seq_cut (fun a w => ∃ (in6 : List Bool) (one6 : Bool) (two6 : Bool), Fr 109 [pl 1 (.int .i64 k1), pl 2 (.pointer (some ⟨g4, 0, none⟩)), pl 6 (.slice A2 (Int.toNat (g3.length : Int)) c2), pl 7 (.bool one6), pl 8 (.bool two6), pl 9 (.int .i64 y1), pl 10 (.int .i64 x1)] a ∧ Sep w0 B w (blk g4 55 #[.int .i64 g1, .int .i64 g2, .slice A1 g3.length c1] :: own 4 (.slice A2 (Int.toNat (g3.length : Int)) c2) (vB in6) :: fs) ∧ ((gameroomref_WonOf_J5 x1) in6 one6 two6).bind φ2 = some r) ?_ ?_
          · rintro a w ⟨in6, one6, two6, hF, hS, hm⟩
            unfold gameroomref_WonOf_J5 at hm
            refine reg1 [] [] [1, 2, 6, 7, 8, 9, 10] [pl 1 (.int .i64 k1), pl 2 (.pointer (some ⟨g4, 0, none⟩)), pl 6 (.slice A2 (Int.toNat (g3.length : Int)) c2), pl 7 (.bool one6), pl 8 (.bool two6), pl 9 (.int .i64 y1), pl 10 (.int .i64 (w64 (x1 + 1)))] hF hS Fol (by kernel_rfl) (by kernel_rfl) (by kernel_rfl) ?_ (fun a w hF hS => ?_)
            · exact obs_nil
            refine then_n ?_
            rw [← hφ2] at hm
            exact ⟨(in6, one6, two6, (w64 (x1 + 1))), ⟨hF.weak [1, 2, 6, 7, 8, 9, 10] (by kernel_rfl), hS⟩, hm⟩
          · refine wp_block ?_
            refine reg [] [] [1, 2, 6, 7, 8, 9, 10, 11] [pl 1 (.int .i64 k1), pl 2 (.pointer (some ⟨g4, 0, none⟩)), pl 6 (.slice A2 (Int.toNat (g3.length : Int)) c2), pl 7 (.bool one3), pl 8 (.bool two3), pl 9 (.int .i64 y1), pl 10 (.int .i64 x1), pl 11 (.int .i64 0)] hF hS Fol (by kernel_rfl) (by kernel_rfl) (by kernel_rfl) ?_ (fun a w hF hS => ?_)
            · exact obs_nil
            refine wp_block ?_
            refine wp_loop_model (S := (List Bool × Bool × Bool × Int)) (R := (List Bool × Bool × Bool)) (gameroomref_WonOf_L3 g1 g2 g3 k1 y1 x1) (fun x => ((gameroomref_WonOf_K3 x1) x).bind φ2) r (fun (x : (List Bool × Bool × Bool × Int)) a w => Fr 109 [pl 1 (.int .i64 k1), pl 2 (.pointer (some ⟨g4, 0, none⟩)), pl 6 (.slice A2 (Int.toNat (g3.length : Int)) c2), pl 7 (.bool x.2.1), pl 8 (.bool x.2.2.1), pl 9 (.int .i64 y1), pl 10 (.int .i64 x1), pl 11 (.int .i64 x.2.2.2)] a ∧ Sep w0 B w (blk g4 55 #[.int .i64 g1, .int .i64 g2, .slice A1 g3.length c1] :: own 4 (.slice A2 (Int.toNat (g3.length : Int)) c2) (vB x.1) :: fs)) (assoc_b hm) ⟨hF.weak [1, 2, 6, 7, 8, 9, 10, 11] (by kernel_rfl), hS⟩ ?_
            clear hF hS hm
            rintro nn3 ⟨in5, one5, two5, d1⟩ a w ⟨hF, hS⟩ hm
            generalize hφ3 : stK (gameroomref_WonOf_L3 g1 g2 g3 k1 y1 x1) nn3 (fun x => ((gameroomref_WonOf_K3 x1) x).bind φ2) = φ3 at hm
            unfold gameroomref_WonOf_L3 at hm
            dsimp only at hF hS hm
            refine seq_cut (fun a w => Fr 109 [pl 1 (.int .i64 k1), pl 2 (.pointer (some ⟨g4, 0, none⟩)), pl 6 (.slice A2 (Int.toNat (g3.length : Int)) c2), pl 7 (.bool one5), pl 8 (.bool two5), pl 9 (.int .i64 y1), pl 10 (.int .i64 x1), pl 11 (.int .i64 d1)] a ∧ Sep w0 B w (blk g4 55 #[.int .i64 g1, .int .i64 g2, .slice A1 g3.length c1] :: own 4 (.slice A2 (Int.toNat (g3.length : Int)) c2) (vB in5) :: fs) ∧ ((gameroomref_WonOf_J6 g1 g2 g3 k1 y1 x1 in5 one5 two5 d1)).bind φ3 = some r) ?_ ?_
            · rintro a w ⟨hF, hS, hm⟩
              unfold gameroomref_WonOf_J6 at hm
              refine seq_cut (fun a w => ∃ (in8 : List Bool) (one7 : Bool) (two7 : Bool), Fr 109 [pl 1 (.int .i64 k1), pl 2 (.pointer (some ⟨g4, 0, none⟩)), pl 6 (.slice A2 (Int.toNat (g3.length : Int)) c2), pl 7 (.bool one7), pl 8 (.bool two7), pl 9 (.int .i64 y1), pl 10 (.int .i64 x1), pl 11 (.int .i64 d1)] a ∧ Sep w0 B w (blk g4 55 #[.int .i64 g1, .int .i64 g2, .slice A1 g3.length c1] :: own 4 (.slice A2 (Int.toNat (g3.length : Int)) c2) (vB in8) :: fs) ∧ ((gameroomref_WonOf_J7 d1) in8 one7 two7).bind φ3 = some r) ?_ ?_
              · rintro a w ⟨in8, one7, two7, hF, hS, hm⟩
                unfold gameroomref_WonOf_J7 at hm
                refine reg1 [] [] [1, 2, 6, 7, 8, 9, 10, 11] [pl 1 (.int .i64 k1), pl 2 (.pointer (some ⟨g4, 0, none⟩)), pl 6 (.slice A2 (Int.toNat (g3.length : Int)) c2), pl 7 (.bool one7), pl 8 (.bool two7), pl 9 (.int .i64 y1), pl 10 (.int .i64 x1), pl 11 (.int .i64 (w64 (d1 + 1)))] hF hS Fol (by kernel_rfl) (by kernel_rfl) (by kernel_rfl) ?_ (fun a w hF hS => ?_)
                · exact obs_nil
                refine then_n ?_
                rw [← hφ3] at hm
                exact ⟨(in8, one7, two7, (w64 (d1 + 1))), ⟨hF.weak [1, 2, 6, 7, 8, 9, 10, 11] (by kernel_rfl), hS⟩, hm⟩
              · refine wp_block ?_
                refine seq_cut (fun a w => Fr 109 [pl 1 (.int .i64 k1), pl 2 (.pointer (some ⟨g4, 0, none⟩)), pl 6 (.slice A2 (Int.toNat (g3.length : Int)) c2), pl 7 (.bool one5), pl 8 (.bool two5), pl 9 (.int .i64 y1), pl 10 (.int .i64 x1), pl 11 (.int .i64 d1), pl 12 (.int .i64 (geti ([1, 0, 1, 1] : List Int) d1)), pl 13 (.int .i64 (geti ([0, 1, 1, (-1)] : List Int) d1))] a ∧ Sep w0 B w (blk g4 55 #[.int .i64 g1, .int .i64 g2, .slice A1 g3.length c1] :: own 4 (.slice A2 (Int.toNat (g3.length : Int)) c2) (vB in5) :: fs) ∧ ((gameroomref_WonOf_J8 g1 g2 g3 k1 y1 x1 in5 one5 two5 d1)).bind φ3 = some r) ?_ ?_
                · rintro a w ⟨hF, hS, hm⟩
                  unfold gameroomref_WonOf_J8 at hm
                  obtain ⟨r1, hr1, hm⟩ := call_b hm
                  refine reg [⟨false, [], vS (Instr.loadAt 55 (.pointer (some ⟨g4, 0, none⟩))), .agg #[.int .i64 g1, .int .i64 g2, .slice A1 g3.length c1]⟩, ⟨false, [], callFunc 92 #[.agg #[.int .i64 g1, .int .i64 g2, .slice A1 g3.length c1], .int .i64 x1, .int .i64 y1, .int .i64 (geti ([1, 0, 1, 1] : List Int) d1), .int .i64 (geti ([0, 1, 1, (-1)] : List Int) d1), .int .i64 k1], .int .i64 r1⟩] [some (.agg #[.int .i64 g1, .int .i64 g2, .slice A1 g3.length c1]), none, none, none, none, none, some (.int .i64 r1), none] [1, 2, 6, 7, 8, 9, 10, 11, 12, 13, 14] [pl 1 (.int .i64 k1), pl 2 (.pointer (some ⟨g4, 0, none⟩)), pl 6 (.slice A2 (Int.toNat (g3.length : Int)) c2), pl 7 (.bool one5), pl 8 (.bool two5), pl 9 (.int .i64 y1), pl 10 (.int .i64 x1), pl 11 (.int .i64 d1), pl 12 (.int .i64 (geti ([1, 0, 1, 1] : List Int) d1)), pl 13 (.int .i64 (geti ([0, 1, 1, (-1)] : List Int) d1)), pl 14 (.int .i64 r1)] hF hS Fol (by kernel_rfl) (by kernel_rfl) (by kernel_rfl) ?_ (fun a w hF hS => ?_)
                  · exact obs_cons (ob_loadA (cs := #[.int .i64 g1, .int .i64 g2, .slice A1 g3.length c1]) (by kernel_rfl) (by kernel_rfl) (fun _ _ hS => (hS.at_ 0 rfl).cellsAt 0 (by rfl))) <| obs_cons (ob_call Try.func92 (by kernel_rfl) rfl (fun _ _ hS => gameroomref_rowFrom_w hr1 hS (fun _ hS => (hr_g3 _ (hS.dropN 2))) _hc_g3 rfl)) <| obs_nil
                  refine reg [] [] [1, 2, 6, 7, 8, 9, 10, 11, 12, 13, 14] [pl 1 (.int .i64 k1), pl 2 (.pointer (some ⟨g4, 0, none⟩)), pl 6 (.slice A2 (Int.toNat (g3.length : Int)) c2), pl 7 (.bool (one5 || (r1 == 1))), pl 8 (.bool two5), pl 9 (.int .i64 y1), pl 10 (.int .i64 x1), pl 11 (.int .i64 d1), pl 12 (.int .i64 (geti ([1, 0, 1, 1] : List Int) d1)), pl 13 (.int .i64 (geti ([0, 1, 1, (-1)] : List Int) d1)), pl 14 (.int .i64 r1)] hF hS Fol (by kernel_rfl) (by kernel_rfl) (by kernel_rfl) ?_ (fun a w hF hS => ?_)
                  · exact obs_nil
                  refine reg [] [] [1, 2, 6, 7, 8, 9, 10, 11, 12, 13, 14] [pl 1 (.int .i64 k1), pl 2 (.pointer (some ⟨g4, 0, none⟩)), pl 6 (.slice A2 (Int.toNat (g3.length : Int)) c2), pl 7 (.bool (one5 || (r1 == 1))), pl 8 (.bool (two5 || (r1 == 2))), pl 9 (.int .i64 y1), pl 10 (.int .i64 x1), pl 11 (.int .i64 d1), pl 12 (.int .i64 (geti ([1, 0, 1, 1] : List Int) d1)), pl 13 (.int .i64 (geti ([0, 1, 1, (-1)] : List Int) d1)), pl 14 (.int .i64 r1)] hF hS Fol (by kernel_rfl) (by kernel_rfl) (by kernel_rfl) ?_ (fun a w hF hS => ?_)
                  · exact obs_nil
                  refine reg [] [] [1, 2, 6, 7, 8, 9, 10, 11, 12, 13, 14, 15] [pl 1 (.int .i64 k1), pl 2 (.pointer (some ⟨g4, 0, none⟩)), pl 6 (.slice A2 (Int.toNat (g3.length : Int)) c2), pl 7 (.bool (one5 || (r1 == 1))), pl 8 (.bool (two5 || (r1 == 2))), pl 9 (.int .i64 y1), pl 10 (.int .i64 x1), pl 11 (.int .i64 d1), pl 12 (.int .i64 (geti ([1, 0, 1, 1] : List Int) d1)), pl 13 (.int .i64 (geti ([0, 1, 1, (-1)] : List Int) d1)), pl 14 (.int .i64 r1), pl 15 (.int .i64 0)] hF hS Fol (by kernel_rfl) (by kernel_rfl) (by kernel_rfl) ?_ (fun a w hF hS => ?_)
                  · exact obs_nil
                  refine wp_block ?_
                  refine wp_loop_model (S := (List Bool × Int)) (R := (List Bool × Bool × Bool)) (gameroomref_WonOf_L4 g1 g3 k1 y1 x1 one5 two5 d1 r1) (fun x => ((gameroomref_WonOf_K4 d1) x).bind φ3) r (fun (x : (List Bool × Int)) a w => Fr 109 [pl 1 (.int .i64 k1), pl 2 (.pointer (some ⟨g4, 0, none⟩)), pl 6 (.slice A2 (Int.toNat (g3.length : Int)) c2), pl 7 (.bool (one5 || (r1 == 1))), pl 8 (.bool (two5 || (r1 == 2))), pl 9 (.int .i64 y1), pl 10 (.int .i64 x1), pl 11 (.int .i64 d1), pl 12 (.int .i64 (geti ([1, 0, 1, 1] : List Int) d1)), pl 13 (.int .i64 (geti ([0, 1, 1, (-1)] : List Int) d1)), pl 14 (.int .i64 r1), pl 15 (.int .i64 x.2)] a ∧ Sep w0 B w (blk g4 55 #[.int .i64 g1, .int .i64 g2, .slice A1 g3.length c1] :: own 4 (.slice A2 (Int.toNat (g3.length : Int)) c2) (vB x.1) :: fs)) (assoc_b hm) ⟨hF.weak [1, 2, 6, 7, 8, 9, 10, 11, 12, 13, 14, 15] (by kernel_rfl), hS⟩ ?_
                  clear hF hS hm
                  rintro nn4 ⟨in7, i1⟩ a w ⟨hF, hS⟩ hm
                  generalize hφ4 : stK (gameroomref_WonOf_L4 g1 g3 k1 y1 x1 one5 two5 d1 r1) nn4 (fun x => ((gameroomref_WonOf_K4 d1) x).bind φ3) = φ4 at hm
                  unfold gameroomref_WonOf_L4 at hm
                  dsimp only at hF hS hm
                  refine seq_cut (fun a w => Fr 109 [pl 1 (.int .i64 k1), pl 2 (.pointer (some ⟨g4, 0, none⟩)), pl 6 (.slice A2 (Int.toNat (g3.length : Int)) c2), pl 7 (.bool (one5 || (r1 == 1))), pl 8 (.bool (two5 || (r1 == 2))), pl 9 (.int .i64 y1), pl 10 (.int .i64 x1), pl 11 (.int .i64 d1), pl 12 (.int .i64 (geti ([1, 0, 1, 1] : List Int) d1)), pl 13 (.int .i64 (geti ([0, 1, 1, (-1)] : List Int) d1)), pl 14 (.int .i64 r1), pl 15 (.int .i64 i1)] a ∧ Sep w0 B w (blk g4 55 #[.int .i64 g1, .int .i64 g2, .slice A1 g3.length c1] :: own 4 (.slice A2 (Int.toNat (g3.length : Int)) c2) (vB in7) :: fs) ∧ ((gameroomref_WonOf_J9 g1 g3 y1 x1 d1 in7 i1)).bind φ4 = some r) ?_ ?_
                  · rintro a w ⟨hF, hS, hm⟩
                    unfold gameroomref_WonOf_J9 at hm
                    refine seq_cut (fun a w => Fr 109 [pl 1 (.int .i64 k1), pl 2 (.pointer (some ⟨g4, 0, none⟩)), pl 6 (.slice A2 (Int.toNat (g3.length : Int)) c2), pl 7 (.bool (one5 || (r1 == 1))), pl 8 (.bool (two5 || (r1 == 2))), pl 9 (.int .i64 y1), pl 10 (.int .i64 x1), pl 11 (.int .i64 d1), pl 12 (.int .i64 (geti ([1, 0, 1, 1] : List Int) d1)), pl 13 (.int .i64 (geti ([0, 1, 1, (-1)] : List Int) d1)), pl 14 (.int .i64 r1), pl 15 (.int .i64 i1)] a ∧ Sep w0 B w (blk g4 55 #[.int .i64 g1, .int .i64 g2, .slice A1 g3.length c1] :: own 4 (.slice A2 (Int.toNat (g3.length : Int)) c2) (vB (in7.set (Int.toNat (w64 ((w64 ((w64 ((w64 (y1 + (w64 ((geti ([0, 1, 1, (-1)] : List Int) d1) * i1)))) * g1)) + x1)) + (w64 ((geti ([1, 0, 1, 1] : List Int) d1) * i1))))) true)) :: fs) ∧ ((gameroomref_WonOf_J10 g1 y1 x1 d1 in7 i1)).bind φ4 = some r) ?_ ?_
                    · rintro a w ⟨hF, hS, hm⟩
                      unfold gameroomref_WonOf_J10 at hm
                      refine reg1 [] [] [1, 2, 6, 7, 8, 9, 10, 11, 12, 13, 14, 15] [pl 1 (.int .i64 k1), pl 2 (.pointer (some ⟨g4, 0, none⟩)), pl 6 (.slice A2 (Int.toNat (g3.length : Int)) c2), pl 7 (.bool (one5 || (r1 == 1))), pl 8 (.bool (two5 || (r1 == 2))), pl 9 (.int .i64 y1), pl 10 (.int .i64 x1), pl 11 (.int .i64 d1), pl 12 (.int .i64 (geti ([1, 0, 1, 1] : List Int) d1)), pl 13 (.int .i64 (geti ([0, 1, 1, (-1)] : List Int) d1)), pl 14 (.int .i64 r1), pl 15 (.int .i64 (w64 (i1 + 1)))] hF hS Fol (by kernel_rfl) (by kernel_rfl) (by kernel_rfl) ?_ (fun a w hF hS => ?_)
                      · exact obs_nil
                      refine then_n ?_
                      rw [← hφ4] at hm
                      exact ⟨((in7.set (Int.toNat (w64 ((w64 ((w64 ((w64 (y1 + (w64 ((geti ([0, 1, 1, (-1)] : List Int) d1) * i1)))) * g1)) + x1)) + (w64 ((geti ([1, 0, 1, 1] : List Int) d1) * i1))))) true), (w64 (i1 + 1))), ⟨hF.weak [1, 2, 6, 7, 8, 9, 10, 11, 12, 13, 14, 15] (by kernel_rfl), hS⟩, hm⟩
                    · refine wp_block ?_
                      refine oneR ?_
                      obtain ⟨hp4, hm⟩ := asrt_b hm
                      refine at_run 16 [⟨false, [], vS (Instr.loadAt 3 (.pointer (some ⟨g4, 0, none⟩))), .int .i64 g1⟩, ⟨true, [], vS (Instr.indexAt 120 (.slice A2 (Int.toNat (g3.length : Int)) c2) (.int .i64 (w64 ((w64 ((w64 ((w64 (y1 + (w64 ((geti ([0, 1, 1, (-1)] : List Int) d1) * i1)))) * g1)) + x1)) + (w64 ((geti ([1, 0, 1, 1] : List Int) d1) * i1)))))), .pointer (some (sAddr A2 (w64 ((w64 ((w64 ((w64 (y1 + (w64 ((geti ([0, 1, 1, (-1)] : List Int) d1) * i1)))) * g1)) + x1)) + (w64 ((geti ([1, 0, 1, 1] : List Int) d1) * i1))))))⟩] [none, none, none, none, none, none, none, some (.int .i64 g1), none, none, none, none, none, none, none, some (.pointer (some (sAddr A2 (w64 ((w64 ((w64 ((w64 (y1 + (w64 ((geti ([0, 1, 1, (-1)] : List Int) d1) * i1)))) * g1)) + x1)) + (w64 ((geti ([1, 0, 1, 1] : List Int) d1) * i1)))))))] [1, 2, 6, 7, 8, 9, 10, 11, 12, 13, 14, 15, 88] [pl 1 (.int .i64 k1), pl 2 (.pointer (some ⟨g4, 0, none⟩)), pl 6 (.slice A2 (Int.toNat (g3.length : Int)) c2), pl 7 (.bool (one5 || (r1 == 1))), pl 8 (.bool (two5 || (r1 == 2))), pl 9 (.int .i64 y1), pl 10 (.int .i64 x1), pl 11 (.int .i64 d1), pl 12 (.int .i64 (geti ([1, 0, 1, 1] : List Int) d1)), pl 13 (.int .i64 (geti ([0, 1, 1, (-1)] : List Int) d1)), pl 14 (.int .i64 r1), pl 15 (.int .i64 i1), pl 88 (.pointer (some (sAddr A2 (w64 ((w64 ((w64 ((w64 (y1 + (w64 ((geti ([0, 1, 1, (-1)] : List Int) d1) * i1)))) * g1)) + x1)) + (w64 ((geti ([1, 0, 1, 1] : List Int) d1) * i1)))))))] hF hS (by kernel_rfl) (by kernel_rfl) ?_ (fun a w hF hS => ?_)
                      · exact obs_cons (ob_load Agg3 (fun _ _ hS => (hS.at_ 0 rfl).cell rfl)) <| obs_cons (ob_ix1 (f := Value.bool) (m := in7) Und120 hi4 hs4 (hS.at_ 1 rfl).rd ((hS.at_ 1 rfl).len1) (fun _ => hp4)) <| obs_nil
                      obtain ⟨w, hrun, hS⟩ := run_set1 (P := Try.prog) (t := 4) (x := true) Value.bool (hS.at_ 1 rfl) hi4 hs4 rfl rfl hp4
                      refine at_skip hF (by kernel_rfl) hrun ?_
                      have hS : Sep w0 B w (blk g4 55 #[.int .i64 g1, .int .i64 g2, .slice A1 g3.length c1] :: own 4 (.slice A2 (Int.toNat (g3.length : Int)) c2) (vB (in7.set (Int.toNat (w64 ((w64 ((w64 ((w64 (y1 + (w64 ((geti ([0, 1, 1, (-1)] : List Int) d1) * i1)))) * g1)) + x1)) + (w64 ((geti ([1, 0, 1, 1] : List Int) d1) * i1))))) true)) :: fs) := hS
                      refine at_end [1, 2, 6, 7, 8, 9, 10, 11, 12, 13, 14, 15] [pl 1 (.int .i64 k1), pl 2 (.pointer (some ⟨g4, 0, none⟩)), pl 6 (.slice A2 (Int.toNat (g3.length : Int)) c2), pl 7 (.bool (one5 || (r1 == 1))), pl 8 (.bool (two5 || (r1 == 2))), pl 9 (.int .i64 y1), pl 10 (.int .i64 x1), pl 11 (.int .i64 d1), pl 12 (.int .i64 (geti ([1, 0, 1, 1] : List Int) d1)), pl 13 (.int .i64 (geti ([0, 1, 1, (-1)] : List Int) d1)), pl 14 (.int .i64 r1), pl 15 (.int .i64 i1)] hF rfl (by kernel_rfl) (fun hF => ?_)
                      refine block_n ?_
                      refine then_n ?_
                      exact ⟨hF.weak [1, 2, 6, 7, 8, 9, 10, 11, 12, 13, 14, 15] (by kernel_rfl), hS, hm⟩
                  · refine reg [] [] [1, 2, 6, 7, 8, 9, 10, 11, 12, 13, 14, 15, 70] [pl 1 (.int .i64 k1), pl 2 (.pointer (some ⟨g4, 0, none⟩)), pl 6 (.slice A2 (Int.toNat (g3.length : Int)) c2), pl 7 (.bool (one5 || (r1 == 1))), pl 8 (.bool (two5 || (r1 == 2))), pl 9 (.int .i64 y1), pl 10 (.int .i64 x1), pl 11 (.int .i64 d1), pl 12 (.int .i64 (geti ([1, 0, 1, 1] : List Int) d1)), pl 13 (.int .i64 (geti ([0, 1, 1, (-1)] : List Int) d1)), pl 14 (.int .i64 r1), pl 15 (.int .i64 i1), pl 70 (.bool ((decide (i1 < k1)) && (decide ((0 : Int) < r1))))] hF hS Fol (by kernel_rfl) (by kernel_rfl) (by kernel_rfl) ?_ (fun a w hF hS => ?_)
                    · exact obs_nil
                    refine cond_ev (t := 70) (b := (decide (i1 < k1)) && (decide ((0 : Int) < r1))) hF (by kernel_rfl) (fun hb => ?_) (fun hb => ?_)
                    · replace hm := if_t hm hb
                      refine wp_skip ?_
                      refine then_n ?_
                      exact ⟨hF.weak [1, 2, 6, 7, 8, 9, 10, 11, 12, 13, 14, 15] (by kernel_rfl), hS, hm⟩
                    · replace hm := if_f hm hb
                      refine wp_exit ?_
                      refine then_e (then_e (block_e (block_n (then_n ?_))))
                      rw [← hφ4] at hm
                      replace hm := done_b hm
                      unfold gameroomref_WonOf_K4 at hm
                      try dsimp only at hm
                      have hm : ((gameroomref_WonOf_J7 d1) in7 (one5 || (r1 == 1)) (two5 || (r1 == 2))).bind φ3 = some r := hm
                      exact ⟨in7, (one5 || (r1 == 1)), (two5 || (r1 == 2)), hF.weak [1, 2, 6, 7, 8, 9, 10, 11] (by kernel_rfl), hS, hm⟩
                · obtain ⟨hp2, hm⟩ := asrt_b hm
                  obtain ⟨hp3, hm⟩ := asrt_b hm
                  refine regMix5 [1, 5] [] 8 #[false, true, false, false, false, true, false, false, false, false] [] [] [1, 2, 6, 7, 8, 9, 10, 11, 40, 44] [pl 1 (.int .i64 k1), pl 2 (.pointer (some ⟨g4, 0, none⟩)), pl 6 (.slice A2 (Int.toNat (g3.length : Int)) c2), pl 7 (.bool one5), pl 8 (.bool two5), pl 9 (.int .i64 y1), pl 10 (.int .i64 x1), pl 11 (.int .i64 d1), pl 40 (.int .i64 d1), pl 44 (.int .i64 d1)] hF hS Fol (by kernel_rfl) (by kernel_rfl) (by kernel_rfl) (by kernel_rfl) ?_ (fun a w hF hS => ?_)
                  · exact obs_nil
                  refine any_step [0, 4] (by kernel_rfl) rfl ?_
                  refine (all_cons ?_ (all_cons ?_ all_nil))
                  · refine any_op (listed' := #[true, true, false, false, false, true, false, false, false, false]) (by kernel_rfl) (by kernel_rfl) ?_
                    refine at_do (d := 39) (s := vS (Instr.buildSlice 22 4 #[(0, .int .i64 1), (1, .int .i64 0), (2, .int .i64 1), (3, .int .i64 1)])) (v := .slice (some ⟨w.heap.size, 0, none⟩) 4 4) (w' := w.alloc (.cells #[.int .i64 1, .int .i64 0, .int .i64 1, .int .i64 1] 3)) hF (by kernel_rfl) (by kernel_rfl) (by kernel_rfl) (fun a hF => ?_)
                    have hS : Sep w0 B (w.alloc (.cells #[.int .i64 1, .int .i64 0, .int .i64 1, .int .i64 1] 3)) (own 3 (.slice (some (⟨w.heap.size, 0, none⟩ : Addr)) 4 4) (vI ([1, 0, 1, 1] : List Int)) :: (blk g4 55 #[.int .i64 g1, .int .i64 g2, .slice A1 g3.length c1] :: own 4 (.slice A2 (Int.toNat (g3.length : Int)) c2) (vB in5) :: fs)) := hS.lit 3 #[.int .i64 1, .int .i64 0, .int .i64 1, .int .i64 1] 4 rfl (by omega)
                    generalize (some (⟨w.heap.size, 0, none⟩ : Addr)) = g5 at hF hS
                    generalize w.alloc (.cells #[.int .i64 1, .int .i64 0, .int .i64 1, .int .i64 1] 3) = w at hS ⊢
                    refine any_fin rfl (hS.pickN 3 [1, 2] (by decide)) ?_
                    refine any_step [2, 4] (by kernel_rfl) rfl ?_
                    refine (all_cons ?_ (all_cons ?_ all_nil))
                    · refine any_op (listed' := #[true, true, true, false, false, true, false, false, false, false]) (by kernel_rfl) (by kernel_rfl) ?_
                      refine at_runW 1 [⟨true, [], vS (Instr.indexAt 22 (.slice g5 4 4) (.int .i64 d1)), .pointer (some (sAddr g5 d1))⟩] [some (.pointer (some (sAddr g5 d1)))] [1, 2, 6, 7, 8, 9, 10, 11, 41, 44] [pl 1 (.int .i64 k1), pl 2 (.pointer (some ⟨g4, 0, none⟩)), pl 6 (.slice A2 (Int.toNat (g3.length : Int)) c2), pl 7 (.bool one5), pl 8 (.bool two5), pl 9 (.int .i64 y1), pl 10 (.int .i64 x1), pl 11 (.int .i64 d1), pl 41 (.pointer (some (sAddr g5 d1))), pl 44 (.int .i64 d1)] hF hS (by kernel_rfl) (by kernel_rfl) ?_ (fun a hF => ?_)
                      · exact obs_cons (ob_ix1 (f := (Value.int .i64)) (m := ([1, 0, 1, 1] : List Int)) Und22 hi3 hs3 (hS.at_ 0 rfl).rd ((hS.at_ 0 rfl).len1) (fun _ => hp2)) <| obs_nil
                      refine any_finI rfl (fun h => h) ?_
                      refine any_step [3, 4] (by kernel_rfl) rfl ?_
                      refine (all_cons ?_ (all_cons ?_ all_nil))
                      · refine any_op (listed' := #[true, true, true, true, false, true, false, false, false, false]) (by kernel_rfl) (by kernel_rfl) ?_
                        refine at_runW 1 [⟨false, [], vS (Instr.loadAt 3 (.pointer (some (sAddr g5 d1)))), .int .i64 (geti ([1, 0, 1, 1] : List Int) d1)⟩] [some (.int .i64 (geti ([1, 0, 1, 1] : List Int) d1))] [1, 2, 6, 7, 8, 9, 10, 11, 42, 44] [pl 1 (.int .i64 k1), pl 2 (.pointer (some ⟨g4, 0, none⟩)), pl 6 (.slice A2 (Int.toNat (g3.length : Int)) c2), pl 7 (.bool one5), pl 8 (.bool two5), pl 9 (.int .i64 y1), pl 10 (.int .i64 x1), pl 11 (.int .i64 d1), pl 42 (.int .i64 (geti ([1, 0, 1, 1] : List Int) d1)), pl 44 (.int .i64 d1)] hF hS (by kernel_rfl) (by kernel_rfl) ?_ (fun a hF => ?_)
                        · exact obs_cons (ob_get1 (n := 4) (m := ([1, 0, 1, 1] : List Int)) (Value.int .i64) (0 : Int) Agg3 (fun _ hS => ⟨_, (hS.at_ 0 rfl).rd⟩) (fun _ hS => ((hS.at_ 0 rfl).len1)) (fun _ => hp2)) <| obs_nil
                        refine any_finI rfl (fun h => h) ?_
                        refine any_step [4, 8] (by kernel_rfl) rfl ?_
                        refine (all_cons ?_ (all_cons ?_ all_nil))
                        · refine any_op (listed' := #[true, true, true, true, true, true, false, false, false, false]) (by kernel_rfl) (by kernel_rfl) ?_
                          refine at_do (d := 43) (s := vS (Instr.buildSlice 22 4 #[(0, .int .i64 0), (1, .int .i64 1), (2, .int .i64 1), (3, .int .i64 (-1))])) (v := .slice (some ⟨w.heap.size, 0, none⟩) 4 4) (w' := w.alloc (.cells #[.int .i64 0, .int .i64 1, .int .i64 1, .int .i64 (-1)] 3)) hF (by kernel_rfl) (by kernel_rfl) (by kernel_rfl) (fun a hF => ?_)
                          have hS : Sep w0 B (w.alloc (.cells #[.int .i64 0, .int .i64 1, .int .i64 1, .int .i64 (-1)] 3)) (own 3 (.slice (some (⟨w.heap.size, 0, none⟩ : Addr)) 4 4) (vI ([0, 1, 1, (-1)] : List Int)) :: (own 3 (.slice g5 4 4) (vI ([1, 0, 1, 1] : List Int)) :: blk g4 55 #[.int .i64 g1, .int .i64 g2, .slice A1 g3.length c1] :: own 4 (.slice A2 (Int.toNat (g3.length : Int)) c2) (vB in5) :: fs)) := hS.lit 3 #[.int .i64 0, .int .i64 1, .int .i64 1, .int .i64 (-1)] 4 rfl (by omega)
                          generalize (some (⟨w.heap.size, 0, none⟩ : Addr)) = g6 at hF hS
                          generalize w.alloc (.cells #[.int .i64 0, .int .i64 1, .int .i64 1, .int .i64 (-1)] 3) = w at hS ⊢
                          refine any_fin rfl (hS.pickN 4 [2, 3] (by decide)) ?_
                          refine any_step [6, 8] (by kernel_rfl) rfl ?_
                          refine (all_cons ?_ (all_cons ?_ all_nil))
                          · refine any_op (listed' := #[true, true, true, true, true, true, true, false, false, false]) (by kernel_rfl) (by kernel_rfl) ?_
                            refine at_runW 1 [⟨true, [], vS (Instr.indexAt 22 (.slice g6 4 4) (.int .i64 d1)), .pointer (some (sAddr g6 d1))⟩] [some (.pointer (some (sAddr g6 d1)))] [1, 2, 6, 7, 8, 9, 10, 11, 42, 45] [pl 1 (.int .i64 k1), pl 2 (.pointer (some ⟨g4, 0, none⟩)), pl 6 (.slice A2 (Int.toNat (g3.length : Int)) c2), pl 7 (.bool one5), pl 8 (.bool two5), pl 9 (.int .i64 y1), pl 10 (.int .i64 x1), pl 11 (.int .i64 d1), pl 42 (.int .i64 (geti ([1, 0, 1, 1] : List Int) d1)), pl 45 (.pointer (some (sAddr g6 d1)))] hF hS (by kernel_rfl) (by kernel_rfl) ?_ (fun a hF => ?_)
                            · exact obs_cons (ob_ix1 (f := (Value.int .i64)) (m := ([0, 1, 1, (-1)] : List Int)) Und22 hi3 hs3 (hS.at_ 0 rfl).rd ((hS.at_ 0 rfl).len1) (fun _ => hp3)) <| obs_nil
                            refine any_finI rfl (fun h => h) ?_
                            refine any_step [7, 8] (by kernel_rfl) rfl ?_
                            refine (all_cons ?_ (all_cons ?_ all_nil))
                            · refine any_op (listed' := #[true, true, true, true, true, true, true, true, false, false]) (by kernel_rfl) (by kernel_rfl) ?_
                              refine at_runW 1 [⟨false, [], vS (Instr.loadAt 3 (.pointer (some (sAddr g6 d1)))), .int .i64 (geti ([0, 1, 1, (-1)] : List Int) d1)⟩] [some (.int .i64 (geti ([0, 1, 1, (-1)] : List Int) d1))] [1, 2, 6, 7, 8, 9, 10, 11, 42, 46] [pl 1 (.int .i64 k1), pl 2 (.pointer (some ⟨g4, 0, none⟩)), pl 6 (.slice A2 (Int.toNat (g3.length : Int)) c2), pl 7 (.bool one5), pl 8 (.bool two5), pl 9 (.int .i64 y1), pl 10 (.int .i64 x1), pl 11 (.int .i64 d1), pl 42 (.int .i64 (geti ([1, 0, 1, 1] : List Int) d1)), pl 46 (.int .i64 (geti ([0, 1, 1, (-1)] : List Int) d1))] hF hS (by kernel_rfl) (by kernel_rfl) ?_ (fun a hF => ?_)
                              · exact obs_cons (ob_get1 (n := 4) (m := ([0, 1, 1, (-1)] : List Int)) (Value.int .i64) (0 : Int) Agg3 (fun _ hS => ⟨_, (hS.at_ 0 rfl).rd⟩) (fun _ hS => ((hS.at_ 0 rfl).len1)) (fun _ => hp3)) <| obs_nil
                              refine any_finI rfl (fun h => h) ?_
                              refine any_step [8] (by kernel_rfl) rfl ?_
                              refine (all_cons ?_ all_nil)
                              · refine any_op (listed' := #[true, true, true, true, true, true, true, true, true, false]) (by kernel_rfl) (by kernel_rfl) ?_
                                refine at_runW 1 [] [] [1, 2, 6, 7, 8, 9, 10, 11, 12, 46] [pl 1 (.int .i64 k1), pl 2 (.pointer (some ⟨g4, 0, none⟩)), pl 6 (.slice A2 (Int.toNat (g3.length : Int)) c2), pl 7 (.bool one5), pl 8 (.bool two5), pl 9 (.int .i64 y1), pl 10 (.int .i64 x1), pl 11 (.int .i64 d1), pl 12 (.int .i64 (geti ([1, 0, 1, 1] : List Int) d1)), pl 46 (.int .i64 (geti ([0, 1, 1, (-1)] : List Int) d1))] hF hS (by kernel_rfl) (by kernel_rfl) ?_ (fun a hF => ?_)
                                · exact obs_nil
                                refine any_finI rfl (fun h => h) ?_
                                refine any_step [9] (by kernel_rfl) rfl ?_
                                refine (all_cons ?_ all_nil)
                                · refine any_op (listed' := #[true, true, true, true, true, true, true, true, true, true]) (by kernel_rfl) (by kernel_rfl) ?_
                                  refine at_runW 1 [] [] [1, 2, 6, 7, 8, 9, 10, 11, 12, 13] [pl 1 (.int .i64 k1), pl 2 (.pointer (some ⟨g4, 0, none⟩)), pl 6 (.slice A2 (Int.toNat (g3.length : Int)) c2), pl 7 (.bool one5), pl 8 (.bool two5), pl 9 (.int .i64 y1), pl 10 (.int .i64 x1), pl 11 (.int .i64 d1), pl 12 (.int .i64 (geti ([1, 0, 1, 1] : List Int) d1)), pl 13 (.int .i64 (geti ([0, 1, 1, (-1)] : List Int) d1))] hF hS (by kernel_rfl) (by kernel_rfl) ?_ (fun a hF => ?_)
                                  · exact obs_nil
                                  refine any_finI rfl (fun h => h) ?_
                                  refine any_end (by kernel_rfl) ?_
                                  refine np_n ?_
                                  refine then_n ?_
                                  have hS := hS.pickN 4 [2, 3] (by decide)
                                  exact ⟨hF.weak [1, 2, 6, 7, 8, 9, 10, 11, 12, 13] (by kernel_rfl), hS, hm⟩
                            · refine any_op (listed' := #[true, true, true, true, true, true, true, false, true, false]) (by kernel_rfl) (by kernel_rfl) ?_
                              refine at_runW 1 [] [] [1, 2, 6, 7, 8, 9, 10, 11, 12, 45] [pl 1 (.int .i64 k1), pl 2 (.pointer (some ⟨g4, 0, none⟩)), pl 6 (.slice A2 (Int.toNat (g3.length : Int)) c2), pl 7 (.bool one5), pl 8 (.bool two5), pl 9 (.int .i64 y1), pl 10 (.int .i64 x1), pl 11 (.int .i64 d1), pl 12 (.int .i64 (geti ([1, 0, 1, 1] : List Int) d1)), pl 45 (.pointer (some (sAddr g6 d1)))] hF hS (by kernel_rfl) (by kernel_rfl) ?_ (fun a hF => ?_)
                              · exact obs_nil
                              refine any_finI rfl (fun h => h) ?_
                              refine any_step [7] (by kernel_rfl) rfl ?_
                              refine (all_cons ?_ all_nil)
                              · refine any_op (listed' := #[true, true, true, true, true, true, true, true, true, false]) (by kernel_rfl) (by kernel_rfl) ?_
                                refine at_runW 1 [⟨false, [], vS (Instr.loadAt 3 (.pointer (some (sAddr g6 d1)))), .int .i64 (geti ([0, 1, 1, (-1)] : List Int) d1)⟩] [some (.int .i64 (geti ([0, 1, 1, (-1)] : List Int) d1))] [1, 2, 6, 7, 8, 9, 10, 11, 12, 46] [pl 1 (.int .i64 k1), pl 2 (.pointer (some ⟨g4, 0, none⟩)), pl 6 (.slice A2 (Int.toNat (g3.length : Int)) c2), pl 7 (.bool one5), pl 8 (.bool two5), pl 9 (.int .i64 y1), pl 10 (.int .i64 x1), pl 11 (.int .i64 d1), pl 12 (.int .i64 (geti ([1, 0, 1, 1] : List Int) d1)), pl 46 (.int .i64 (geti ([0, 1, 1, (-1)] : List Int) d1))] hF hS (by kernel_rfl) (by kernel_rfl) ?_ (fun a hF => ?_)
                                · exact obs_cons (ob_get1 (n := 4) (m := ([0, 1, 1, (-1)] : List Int)) (Value.int .i64) (0 : Int) Agg3 (fun _ hS => ⟨_, (hS.at_ 0 rfl).rd⟩) (fun _ hS => ((hS.at_ 0 rfl).len1)) (fun _ => hp3)) <| obs_nil
                                refine any_finI rfl (fun h => h) ?_
                                refine any_step [9] (by kernel_rfl) rfl ?_
                                refine (all_cons ?_ all_nil)
                                · refine any_op (listed' := #[true, true, true, true, true, true, true, true, true, true]) (by kernel_rfl) (by kernel_rfl) ?_
                                  refine at_runW 1 [] [] [1, 2, 6, 7, 8, 9, 10, 11, 12, 13] [pl 1 (.int .i64 k1), pl 2 (.pointer (some ⟨g4, 0, none⟩)), pl 6 (.slice A2 (Int.toNat (g3.length : Int)) c2), pl 7 (.bool one5), pl 8 (.bool two5), pl 9 (.int .i64 y1), pl 10 (.int .i64 x1), pl 11 (.int .i64 d1), pl 12 (.int .i64 (geti ([1, 0, 1, 1] : List Int) d1)), pl 13 (.int .i64 (geti ([0, 1, 1, (-1)] : List Int) d1))] hF hS (by kernel_rfl) (by kernel_rfl) ?_ (fun a hF => ?_)
                                  · exact obs_nil
                                  refine any_finI rfl (fun h => h) ?_
                                  refine any_end (by kernel_rfl) ?_
                                  refine np_n ?_
                                  refine then_n ?_
                                  have hS := hS.pickN 4 [2, 3] (by decide)
                                  exact ⟨hF.weak [1, 2, 6, 7, 8, 9, 10, 11, 12, 13] (by kernel_rfl), hS, hm⟩
                          · refine any_op (listed' := #[true, true, true, true, true, true, false, false, true, false]) (by kernel_rfl) (by kernel_rfl) ?_
                            refine at_runW 1 [] [] [1, 2, 6, 7, 8, 9, 10, 11, 12, 43, 44] [pl 1 (.int .i64 k1), pl 2 (.pointer (some ⟨g4, 0, none⟩)), pl 6 (.slice A2 (Int.toNat (g3.length : Int)) c2), pl 7 (.bool one5), pl 8 (.bool two5), pl 9 (.int .i64 y1), pl 10 (.int .i64 x1), pl 11 (.int .i64 d1), pl 12 (.int .i64 (geti ([1, 0, 1, 1] : List Int) d1)), pl 43 (.slice g6 4 4), pl 44 (.int .i64 d1)] hF hS (by kernel_rfl) (by kernel_rfl) ?_ (fun a hF => ?_)
                            · exact obs_nil
                            refine any_finI rfl (fun h => h) ?_
                            refine any_step [6] (by kernel_rfl) rfl ?_
                            refine (all_cons ?_ all_nil)
                            · refine any_op (listed' := #[true, true, true, true, true, true, true, false, true, false]) (by kernel_rfl) (by kernel_rfl) ?_
                              refine at_runW 1 [⟨true, [], vS (Instr.indexAt 22 (.slice g6 4 4) (.int .i64 d1)), .pointer (some (sAddr g6 d1))⟩] [some (.pointer (some (sAddr g6 d1)))] [1, 2, 6, 7, 8, 9, 10, 11, 12, 45] [pl 1 (.int .i64 k1), pl 2 (.pointer (some ⟨g4, 0, none⟩)), pl 6 (.slice A2 (Int.toNat (g3.length : Int)) c2), pl 7 (.bool one5), pl 8 (.bool two5), pl 9 (.int .i64 y1), pl 10 (.int .i64 x1), pl 11 (.int .i64 d1), pl 12 (.int .i64 (geti ([1, 0, 1, 1] : List Int) d1)), pl 45 (.pointer (some (sAddr g6 d1)))] hF hS (by kernel_rfl) (by kernel_rfl) ?_ (fun a hF => ?_)
                              · exact obs_cons (ob_ix1 (f := (Value.int .i64)) (m := ([0, 1, 1, (-1)] : List Int)) Und22 hi3 hs3 (hS.at_ 0 rfl).rd ((hS.at_ 0 rfl).len1) (fun _ => hp3)) <| obs_nil
                              refine any_finI rfl (fun h => h) ?_
                              refine any_step [7] (by kernel_rfl) rfl ?_
                              refine (all_cons ?_ all_nil)
                              · refine any_op (listed' := #[true, true, true, true, true, true, true, true, true, false]) (by kernel_rfl) (by kernel_rfl) ?_
                                refine at_runW 1 [⟨false, [], vS (Instr.loadAt 3 (.pointer (some (sAddr g6 d1)))), .int .i64 (geti ([0, 1, 1, (-1)] : List Int) d1)⟩] [some (.int .i64 (geti ([0, 1, 1, (-1)] : List Int) d1))] [1, 2, 6, 7, 8, 9, 10, 11, 12, 46] [pl 1 (.int .i64 k1), pl 2 (.pointer (some ⟨g4, 0, none⟩)), pl 6 (.slice A2 (Int.toNat (g3.length : Int)) c2), pl 7 (.bool one5), pl 8 (.bool two5), pl 9 (.int .i64 y1), pl 10 (.int .i64 x1), pl 11 (.int .i64 d1), pl 12 (.int .i64 (geti ([1, 0, 1, 1] : List Int) d1)), pl 46 (.int .i64 (geti ([0, 1, 1, (-1)] : List Int) d1))] hF hS (by kernel_rfl) (by kernel_rfl) ?_ (fun a hF => ?_)
                                · exact obs_cons (ob_get1 (n := 4) (m := ([0, 1, 1, (-1)] : List Int)) (Value.int .i64) (0 : Int) Agg3 (fun _ hS => ⟨_, (hS.at_ 0 rfl).rd⟩) (fun _ hS => ((hS.at_ 0 rfl).len1)) (fun _ => hp3)) <| obs_nil
                                refine any_finI rfl (fun h => h) ?_
                                refine any_step [9] (by kernel_rfl) rfl ?_
                                refine (all_cons ?_ all_nil)
                                · refine any_op (listed' := #[true, true, true, true, true, true, true, true, true, true]) (by kernel_rfl) (by kernel_rfl) ?_
                                  refine at_runW 1 [] [] [1, 2, 6, 7, 8, 9, 10, 11, 12, 13] [pl 1 (.int .i64 k1), pl 2 (.pointer (some ⟨g4, 0, none⟩)), pl 6 (.slice A2 (Int.toNat (g3.length : Int)) c2), pl 7 (.bool one5), pl 8 (.bool two5), pl 9 (.int .i64 y1), pl 10 (.int .i64 x1), pl 11 (.int .i64 d1), pl 12 (.int .i64 (geti ([1, 0, 1, 1] : List Int) d1)), pl 13 (.int .i64 (geti ([0, 1, 1, (-1)] : List Int) d1))] hF hS (by kernel_rfl) (by kernel_rfl) ?_ (fun a hF => ?_)
                                  · exact obs_nil
                                  refine any_finI rfl (fun h => h) ?_
                                  refine any_end (by kernel_rfl) ?_
                                  refine np_n ?_
                                  refine then_n ?_
                                  have hS := hS.pickN 4 [2, 3] (by decide)
                                  exact ⟨hF.weak [1, 2, 6, 7, 8, 9, 10, 11, 12, 13] (by kernel_rfl), hS, hm⟩
                        · refine any_op (listed' := #[true, true, true, true, false, true, false, false, true, false]) (by kernel_rfl) (by kernel_rfl) ?_
                          refine at_runW 1 [] [] [1, 2, 6, 7, 8, 9, 10, 11, 12, 44] [pl 1 (.int .i64 k1), pl 2 (.pointer (some ⟨g4, 0, none⟩)), pl 6 (.slice A2 (Int.toNat (g3.length : Int)) c2), pl 7 (.bool one5), pl 8 (.bool two5), pl 9 (.int .i64 y1), pl 10 (.int .i64 x1), pl 11 (.int .i64 d1), pl 12 (.int .i64 (geti ([1, 0, 1, 1] : List Int) d1)), pl 44 (.int .i64 d1)] hF hS (by kernel_rfl) (by kernel_rfl) ?_ (fun a hF => ?_)
                          · exact obs_nil
                          refine any_finI rfl (fun h => h) ?_
                          refine any_step [4] (by kernel_rfl) rfl ?_
                          refine (all_cons ?_ all_nil)
                          · refine any_op (listed' := #[true, true, true, true, true, true, false, false, true, false]) (by kernel_rfl) (by kernel_rfl) ?_
                            refine at_do (d := 43) (s := vS (Instr.buildSlice 22 4 #[(0, .int .i64 0), (1, .int .i64 1), (2, .int .i64 1), (3, .int .i64 (-1))])) (v := .slice (some ⟨w.heap.size, 0, none⟩) 4 4) (w' := w.alloc (.cells #[.int .i64 0, .int .i64 1, .int .i64 1, .int .i64 (-1)] 3)) hF (by kernel_rfl) (by kernel_rfl) (by kernel_rfl) (fun a hF => ?_)
                            have hS : Sep w0 B (w.alloc (.cells #[.int .i64 0, .int .i64 1, .int .i64 1, .int .i64 (-1)] 3)) (own 3 (.slice (some (⟨w.heap.size, 0, none⟩ : Addr)) 4 4) (vI ([0, 1, 1, (-1)] : List Int)) :: (own 3 (.slice g5 4 4) (vI ([1, 0, 1, 1] : List Int)) :: blk g4 55 #[.int .i64 g1, .int .i64 g2, .slice A1 g3.length c1] :: own 4 (.slice A2 (Int.toNat (g3.length : Int)) c2) (vB in5) :: fs)) := hS.lit 3 #[.int .i64 0, .int .i64 1, .int .i64 1, .int .i64 (-1)] 4 rfl (by omega)
                            generalize (some (⟨w.heap.size, 0, none⟩ : Addr)) = g6 at hF hS
                            generalize w.alloc (.cells #[.int .i64 0, .int .i64 1, .int .i64 1, .int .i64 (-1)] 3) = w at hS ⊢
                            refine any_fin rfl (hS.pickN 4 [2, 3] (by decide)) ?_
                            refine any_step [6] (by kernel_rfl) rfl ?_
                            refine (all_cons ?_ all_nil)
                            · refine any_op (listed' := #[true, true, true, true, true, true, true, false, true, false]) (by kernel_rfl) (by kernel_rfl) ?_
                              refine at_runW 1 [⟨true, [], vS (Instr.indexAt 22 (.slice g6 4 4) (.int .i64 d1)), .pointer (some (sAddr g6 d1))⟩] [some (.pointer (some (sAddr g6 d1)))] [1, 2, 6, 7, 8, 9, 10, 11, 12, 45] [pl 1 (.int .i64 k1), pl 2 (.pointer (some ⟨g4, 0, none⟩)), pl 6 (.slice A2 (Int.toNat (g3.length : Int)) c2), pl 7 (.bool one5), pl 8 (.bool two5), pl 9 (.int .i64 y1), pl 10 (.int .i64 x1), pl 11 (.int .i64 d1), pl 12 (.int .i64 (geti ([1, 0, 1, 1] : List Int) d1)), pl 45 (.pointer (some (sAddr g6 d1)))] hF hS (by kernel_rfl) (by kernel_rfl) ?_ (fun a hF => ?_)
                              · exact obs_cons (ob_ix1 (f := (Value.int .i64)) (m := ([0, 1, 1, (-1)] : List Int)) Und22 hi3 hs3 (hS.at_ 0 rfl).rd ((hS.at_ 0 rfl).len1) (fun _ => hp3)) <| obs_nil
                              refine any_finI rfl (fun h => h) ?_
                              refine any_step [7] (by kernel_rfl) rfl ?_
                              refine (all_cons ?_ all_nil)
                              · refine any_op (listed' := #[true, true, true, true, true, true, true, true, true, false]) (by kernel_rfl) (by kernel_rfl) ?_
                                refine at_runW 1 [⟨false, [], vS (Instr.loadAt 3 (.pointer (some (sAddr g6 d1)))), .int .i64 (geti ([0, 1, 1, (-1)] : List Int) d1)⟩] [some (.int .i64 (geti ([0, 1, 1, (-1)] : List Int) d1))] [1, 2, 6, 7, 8, 9, 10, 11, 12, 46] [pl 1 (.int .i64 k1), pl 2 (.pointer (some ⟨g4, 0, none⟩)), pl 6 (.slice A2 (Int.toNat (g3.length : Int)) c2), pl 7 (.bool one5), pl 8 (.bool two5), pl 9 (.int .i64 y1), pl 10 (.int .i64 x1), pl 11 (.int .i64 d1), pl 12 (.int .i64 (geti ([1, 0, 1, 1] : List Int) d1)), pl 46 (.int .i64 (geti ([0, 1, 1, (-1)] : List Int) d1))] hF hS (by kernel_rfl) (by kernel_rfl) ?_ (fun a hF => ?_)
                                · exact obs_cons (ob_get1 (n := 4) (m := ([0, 1, 1, (-1)] : List Int)) (Value.int .i64) (0 : Int) Agg3 (fun _ hS => ⟨_, (hS.at_ 0 rfl).rd⟩) (fun _ hS => ((hS.at_ 0 rfl).len1)) (fun _ => hp3)) <| obs_nil
                                refine any_finI rfl (fun h => h) ?_
                                refine any_step [9] (by kernel_rfl) rfl ?_
                                refine (all_cons ?_ all_nil)
                                · refine any_op (listed' := #[true, true, true, true, true, true, true, true, true, true]) (by kernel_rfl) (by kernel_rfl) ?_
                                  refine at_runW 1 [] [] [1, 2, 6, 7, 8, 9, 10, 11, 12, 13] [pl 1 (.int .i64 k1), pl 2 (.pointer (some ⟨g4, 0, none⟩)), pl 6 (.slice A2 (Int.toNat (g3.length : Int)) c2), pl 7 (.bool one5), pl 8 (.bool two5), pl 9 (.int .i64 y1), pl 10 (.int .i64 x1), pl 11 (.int .i64 d1), pl 12 (.int .i64 (geti ([1, 0, 1, 1] : List Int) d1)), pl 13 (.int .i64 (geti ([0, 1, 1, (-1)] : List Int) d1))] hF hS (by kernel_rfl) (by kernel_rfl) ?_ (fun a hF => ?_)
                                  · exact obs_nil
                                  refine any_finI rfl (fun h => h) ?_
                                  refine any_end (by kernel_rfl) ?_
                                  refine np_n ?_
                                  refine then_n ?_
                                  have hS := hS.pickN 4 [2, 3] (by decide)
                                  exact ⟨hF.weak [1, 2, 6, 7, 8, 9, 10, 11, 12, 13] (by kernel_rfl), hS, hm⟩
                      · refine any_op (listed' := #[true, true, true, false, true, true, false, false, false, false]) (by kernel_rfl) (by kernel_rfl) ?_
                        refine at_do (d := 43) (s := vS (Instr.buildSlice 22 4 #[(0, .int .i64 0), (1, .int .i64 1), (2, .int .i64 1), (3, .int .i64 (-1))])) (v := .slice (some ⟨w.heap.size, 0, none⟩) 4 4) (w' := w.alloc (.cells #[.int .i64 0, .int .i64 1, .int .i64 1, .int .i64 (-1)] 3)) hF (by kernel_rfl) (by kernel_rfl) (by kernel_rfl) (fun a hF => ?_)
                        have hS : Sep w0 B (w.alloc (.cells #[.int .i64 0, .int .i64 1, .int .i64 1, .int .i64 (-1)] 3)) (own 3 (.slice (some (⟨w.heap.size, 0, none⟩ : Addr)) 4 4) (vI ([0, 1, 1, (-1)] : List Int)) :: (own 3 (.slice g5 4 4) (vI ([1, 0, 1, 1] : List Int)) :: blk g4 55 #[.int .i64 g1, .int .i64 g2, .slice A1 g3.length c1] :: own 4 (.slice A2 (Int.toNat (g3.length : Int)) c2) (vB in5) :: fs)) := hS.lit 3 #[.int .i64 0, .int .i64 1, .int .i64 1, .int .i64 (-1)] 4 rfl (by omega)
                        generalize (some (⟨w.heap.size, 0, none⟩ : Addr)) = g6 at hF hS
                        generalize w.alloc (.cells #[.int .i64 0, .int .i64 1, .int .i64 1, .int .i64 (-1)] 3) = w at hS ⊢
                        refine any_fin rfl (hS.pickN 4 [2, 3] (by decide)) ?_
                        refine any_step [3, 6] (by kernel_rfl) rfl ?_
                        refine (all_cons ?_ (all_cons ?_ all_nil))
                        · refine any_op (listed' := #[true, true, true, true, true, true, false, false, false, false]) (by kernel_rfl) (by kernel_rfl) ?_
                          refine at_runW 1 [⟨false, [], vS (Instr.loadAt 3 (.pointer (some (sAddr g5 d1)))), .int .i64 (geti ([1, 0, 1, 1] : List Int) d1)⟩] [some (.int .i64 (geti ([1, 0, 1, 1] : List Int) d1))] [1, 2, 6, 7, 8, 9, 10, 11, 42, 43, 44] [pl 1 (.int .i64 k1), pl 2 (.pointer (some ⟨g4, 0, none⟩)), pl 6 (.slice A2 (Int.toNat (g3.length : Int)) c2), pl 7 (.bool one5), pl 8 (.bool two5), pl 9 (.int .i64 y1), pl 10 (.int .i64 x1), pl 11 (.int .i64 d1), pl 42 (.int .i64 (geti ([1, 0, 1, 1] : List Int) d1)), pl 43 (.slice g6 4 4), pl 44 (.int .i64 d1)] hF hS (by kernel_rfl) (by kernel_rfl) ?_ (fun a hF => ?_)
                          · exact obs_cons (ob_get1 (n := 4) (m := ([1, 0, 1, 1] : List Int)) (Value.int .i64) (0 : Int) Agg3 (fun _ hS => ⟨_, (hS.at_ 1 rfl).rd⟩) (fun _ hS => ((hS.at_ 1 rfl).len1)) (fun _ => hp2)) <| obs_nil
                          refine any_finI rfl (fun h => h) ?_
                          refine any_step [6, 8] (by kernel_rfl) rfl ?_
                          refine (all_cons ?_ (all_cons ?_ all_nil))
                          · refine any_op (listed' := #[true, true, true, true, true, true, true, false, false, false]) (by kernel_rfl) (by kernel_rfl) ?_
                            refine at_runW 1 [⟨true, [], vS (Instr.indexAt 22 (.slice g6 4 4) (.int .i64 d1)), .pointer (some (sAddr g6 d1))⟩] [some (.pointer (some (sAddr g6 d1)))] [1, 2, 6, 7, 8, 9, 10, 11, 42, 45] [pl 1 (.int .i64 k1), pl 2 (.pointer (some ⟨g4, 0, none⟩)), pl 6 (.slice A2 (Int.toNat (g3.length : Int)) c2), pl 7 (.bool one5), pl 8 (.bool two5), pl 9 (.int .i64 y1), pl 10 (.int .i64 x1), pl 11 (.int .i64 d1), pl 42 (.int .i64 (geti ([1, 0, 1, 1] : List Int) d1)), pl 45 (.pointer (some (sAddr g6 d1)))] hF hS (by kernel_rfl) (by kernel_rfl) ?_ (fun a hF => ?_)
                            · exact obs_cons (ob_ix1 (f := (Value.int .i64)) (m := ([0, 1, 1, (-1)] : List Int)) Und22 hi3 hs3 (hS.at_ 0 rfl).rd ((hS.at_ 0 rfl).len1) (fun _ => hp3)) <| obs_nil
                            refine any_finI rfl (fun h => h) ?_
                            refine any_step [7, 8] (by kernel_rfl) rfl ?_
                            refine (all_cons ?_ (all_cons ?_ all_nil))
                            · refine any_op (listed' := #[true, true, true, true, true, true, true, true, false, false]) (by kernel_rfl) (by kernel_rfl) ?_
                              refine at_runW 1 [⟨false, [], vS (Instr.loadAt 3 (.pointer (some (sAddr g6 d1)))), .int .i64 (geti ([0, 1, 1, (-1)] : List Int) d1)⟩] [some (.int .i64 (geti ([0, 1, 1, (-1)] : List Int) d1))] [1, 2, 6, 7, 8, 9, 10, 11, 42, 46] [pl 1 (.int .i64 k1), pl 2 (.pointer (some ⟨g4, 0, none⟩)), pl 6 (.slice A2 (Int.toNat (g3.length : Int)) c2), pl 7 (.bool one5), pl 8 (.bool two5), pl 9 (.int .i64 y1), pl 10 (.int .i64 x1), pl 11 (.int .i64 d1), pl 42 (.int .i64 (geti ([1, 0, 1, 1] : List Int) d1)), pl 46 (.int .i64 (geti ([0, 1, 1, (-1)] : List Int) d1))] hF hS (by kernel_rfl) (by kernel_rfl) ?_ (fun a hF => ?_)
                              · exact obs_cons (ob_get1 (n := 4) (m := ([0, 1, 1, (-1)] : List Int)) (Value.int .i64) (0 : Int) Agg3 (fun _ hS => ⟨_, (hS.at_ 0 rfl).rd⟩) (fun _ hS => ((hS.at_ 0 rfl).len1)) (fun _ => hp3)) <| obs_nil
                              refine any_finI rfl (fun h => h) ?_
                              refine any_step [8] (by kernel_rfl) rfl ?_
                              refine (all_cons ?_ all_nil)
                              · refine any_op (listed' := #[true, true, true, true, true, true, true, true, true, false]) (by kernel_rfl) (by kernel_rfl) ?_
                                refine at_runW 1 [] [] [1, 2, 6, 7, 8, 9, 10, 11, 12, 46] [pl 1 (.int .i64 k1), pl 2 (.pointer (some ⟨g4, 0, none⟩)), pl 6 (.slice A2 (Int.toNat (g3.length : Int)) c2), pl 7 (.bool one5), pl 8 (.bool two5), pl 9 (.int .i64 y1), pl 10 (.int .i64 x1), pl 11 (.int .i64 d1), pl 12 (.int .i64 (geti ([1, 0, 1, 1] : List Int) d1)), pl 46 (.int .i64 (geti ([0, 1, 1, (-1)] : List Int) d1))] hF hS (by kernel_rfl) (by kernel_rfl) ?_ (fun a hF => ?_)
                                · exact obs_nil
                                refine any_finI rfl (fun h => h) ?_
                                refine any_step [9] (by kernel_rfl) rfl ?_
                                refine (all_cons ?_ all_nil)
                                · refine any_op (listed' := #[true, true, true, true, true, true, true, true, true, true]) (by kernel_rfl) (by kernel_rfl) ?_
                                  refine at_runW 1 [] [] [1, 2, 6, 7, 8, 9, 10, 11, 12, 13] [pl 1 (.int .i64 k1), pl 2 (.pointer (some ⟨g4, 0, none⟩)), pl 6 (.slice A2 (Int.toNat (g3.length : Int)) c2), pl 7 (.bool one5), pl 8 (.bool two5), pl 9 (.int .i64 y1), pl 10 (.int .i64 x1), pl 11 (.int .i64 d1), pl 12 (.int .i64 (geti ([1, 0, 1, 1] : List Int) d1)), pl 13 (.int .i64 (geti ([0, 1, 1, (-1)] : List Int) d1))] hF hS (by kernel_rfl) (by kernel_rfl) ?_ (fun a hF => ?_)
                                  · exact obs_nil
                                  refine any_finI rfl (fun h => h) ?_
                                  refine any_end (by kernel_rfl) ?_
                                  refine np_n ?_
                                  refine then_n ?_
                                  have hS := hS.pickN 4 [2, 3] (by decide)
                                  exact ⟨hF.weak [1, 2, 6, 7, 8, 9, 10, 11, 12, 13] (by kernel_rfl), hS, hm⟩
                            · refine any_op (listed' := #[true, true, true, true, true, true, true, false, true, false]) (by kernel_rfl) (by kernel_rfl) ?_
                              refine at_runW 1 [] [] [1, 2, 6, 7, 8, 9, 10, 11, 12, 45] [pl 1 (.int .i64 k1), pl 2 (.pointer (some ⟨g4, 0, none⟩)), pl 6 (.slice A2 (Int.toNat (g3.length : Int)) c2), pl 7 (.bool one5), pl 8 (.bool two5), pl 9 (.int .i64 y1), pl 10 (.int .i64 x1), pl 11 (.int .i64 d1), pl 12 (.int .i64 (geti ([1, 0, 1, 1] : List Int) d1)), pl 45 (.pointer (some (sAddr g6 d1)))] hF hS (by kernel_rfl) (by kernel_rfl) ?_ (fun a hF => ?_)
                              · exact obs_nil
                              refine any_finI rfl (fun h => h) ?_
                              refine any_step [7] (by kernel_rfl) rfl ?_
                              refine (all_cons ?_ all_nil)
                              · refine any_op (listed' := #[true, true, true, true, true, true, true, true, true, false]) (by kernel_rfl) (by kernel_rfl) ?_
                                refine at_runW 1 [⟨false, [], vS (Instr.loadAt 3 (.pointer (some (sAddr g6 d1)))), .int .i64 (geti ([0, 1, 1, (-1)] : List Int) d1)⟩] [some (.int .i64 (geti ([0, 1, 1, (-1)] : List Int) d1))] [1, 2, 6, 7, 8, 9, 10, 11, 12, 46] [pl 1 (.int .i64 k1), pl 2 (.pointer (some ⟨g4, 0, none⟩)), pl 6 (.slice A2 (Int.toNat (g3.length : Int)) c2), pl 7 (.bool one5), pl 8 (.bool two5), pl 9 (.int .i64 y1), pl 10 (.int .i64 x1), pl 11 (.int .i64 d1), pl 12 (.int .i64 (geti ([1, 0, 1, 1] : List Int) d1)), pl 46 (.int .i64 (geti ([0, 1, 1, (-1)] : List Int) d1))] hF hS (by kernel_rfl) (by kernel_rfl) ?_ (fun a hF => ?_)
                                · exact obs_cons (ob_get1 (n := 4) (m := ([0, 1, 1, (-1)] : List Int)) (Value.int .i64) (0 : Int) Agg3 (fun _ hS => ⟨_, (hS.at_ 0 rfl).rd⟩) (fun _ hS => ((hS.at_ 0 rfl).len1)) (fun _ => hp3)) <| obs_nil
                                refine any_finI rfl (fun h => h) ?_
                                refine any_step [9] (by kernel_rfl) rfl ?_
                                refine (all_cons ?_ all_nil)
                                · refine any_op (listed' := #[true, true, true, true, true, true, true, true, true, true]) (by kernel_rfl) (by kernel_rfl) ?_
                                  refine at_runW 1 [] [] [1, 2, 6, 7, 8, 9, 10, 11, 12, 13] [pl 1 (.int .i64 k1), pl 2 (.pointer (some ⟨g4, 0, none⟩)), pl 6 (.slice A2 (Int.toNat (g3.length : Int)) c2), pl 7 (.bool one5), pl 8 (.bool two5), pl 9 (.int .i64 y1), pl 10 (.int .i64 x1), pl 11 (.int .i64 d1), pl 12 (.int .i64 (geti ([1, 0, 1, 1] : List Int) d1)), pl 13 (.int .i64 (geti ([0, 1, 1, (-1)] : List Int) d1))] hF hS (by kernel_rfl) (by kernel_rfl) ?_ (fun a hF => ?_)
                                  · exact obs_nil
                                  refine any_finI rfl (fun h => h) ?_
                                  refine any_end (by kernel_rfl) ?_
                                  refine np_n ?_
                                  refine then_n ?_
                                  have hS := hS.pickN 4 [2, 3] (by decide)
                                  exact ⟨hF.weak [1, 2, 6, 7, 8, 9, 10, 11, 12, 13] (by kernel_rfl), hS, hm⟩
                          · refine any_op (listed' := #[true, true, true, true, true, true, false, false, true, false]) (by kernel_rfl) (by kernel_rfl) ?_
                            refine at_runW 1 [] [] [1, 2, 6, 7, 8, 9, 10, 11, 12, 43, 44] [pl 1 (.int .i64 k1), pl 2 (.pointer (some ⟨g4, 0, none⟩)), pl 6 (.slice A2 (Int.toNat (g3.length : Int)) c2), pl 7 (.bool one5), pl 8 (.bool two5), pl 9 (.int .i64 y1), pl 10 (.int .i64 x1), pl 11 (.int .i64 d1), pl 12 (.int .i64 (geti ([1, 0, 1, 1] : List Int) d1)), pl 43 (.slice g6 4 4), pl 44 (.int .i64 d1)] hF hS (by kernel_rfl) (by kernel_rfl) ?_ (fun a hF => ?_)
                            · exact obs_nil
                            refine any_finI rfl (fun h => h) ?_
                            refine any_step [6] (by kernel_rfl) rfl ?_
                            refine (all_cons ?_ all_nil)
                            · refine any_op (listed' := #[true, true, true, true, true, true, true, false, true, false]) (by kernel_rfl) (by kernel_rfl) ?_
                              refine at_runW 1 [⟨true, [], vS (Instr.indexAt 22 (.slice g6 4 4) (.int .i64 d1)), .pointer (some (sAddr g6 d1))⟩] [some (.pointer (some (sAddr g6 d1)))] [1, 2, 6, 7, 8, 9, 10, 11, 12, 45] [pl 1 (.int .i64 k1), pl 2 (.pointer (some ⟨g4, 0, none⟩)), pl 6 (.slice A2 (Int.toNat (g3.length : Int)) c2), pl 7 (.bool one5), pl 8 (.bool two5), pl 9 (.int .i64 y1), pl 10 (.int .i64 x1), pl 11 (.int .i64 d1), pl 12 (.int .i64 (geti ([1, 0, 1, 1] : List Int) d1)), pl 45 (.pointer (some (sAddr g6 d1)))] hF hS (by kernel_rfl) (by kernel_rfl) ?_ (fun a hF => ?_)
                              · exact obs_cons (ob_ix1 (f := (Value.int .i64)) (m := ([0, 1, 1, (-1)] : List Int)) Und22 hi3 hs3 (hS.at_ 0 rfl).rd ((hS.at_ 0 rfl).len1) (fun _ => hp3)) <| obs_nil
                              refine any_finI rfl (fun h => h) ?_
                              refine any_step [7] (by kernel_rfl) rfl ?_
                              refine (all_cons ?_ all_nil)
                              · refine any_op (listed' := #[true, true, true, true, true, true, true, true, true, false]) (by kernel_rfl) (by kernel_rfl) ?_
                                refine at_runW 1 [⟨false, [], vS (Instr.loadAt 3 (.pointer (some (sAddr g6 d1)))), .int .i64 (geti ([0, 1, 1, (-1)] : List Int) d1)⟩] [some (.int .i64 (geti ([0, 1, 1, (-1)] : List Int) d1))] [1, 2, 6, 7, 8, 9, 10, 11, 12, 46] [pl 1 (.int .i64 k1), pl 2 (.pointer (some ⟨g4, 0, none⟩)), pl 6 (.slice A2 (Int.toNat (g3.length : Int)) c2), pl 7 (.bool one5), pl 8 (.bool two5), pl 9 (.int .i64 y1), pl 10 (.int .i64 x1), pl 11 (.int .i64 d1), pl 12 (.int .i64 (geti ([1, 0, 1, 1] : List Int) d1)), pl 46 (.int .i64 (geti ([0, 1, 1, (-1)] : List Int) d1))] hF hS (by kernel_rfl) (by kernel_rfl) ?_ (fun a hF => ?_)
                                · exact obs_cons (ob_get1 (n := 4) (m := ([0, 1, 1, (-1)] : List Int)) (Value.int .i64) (0 : Int) Agg3 (fun _ hS => ⟨_, (hS.at_ 0 rfl).rd⟩) (fun _ hS => ((hS.at_ 0 rfl).len1)) (fun _ => hp3)) <| obs_nil
                                refine any_finI rfl (fun h => h) ?_
                                refine any_step [9] (by kernel_rfl) rfl ?_
                                refine (all_cons ?_ all_nil)
                                · refine any_op (listed' := #[true, true, true, true, true, true, true, true, true, true]) (by kernel_rfl) (by kernel_rfl) ?_
                                  refine at_runW 1 [] [] [1, 2, 6, 7, 8, 9, 10, 11, 12, 13] [pl 1 (.int .i64 k1), pl 2 (.pointer (some ⟨g4, 0, none⟩)), pl 6 (.slice A2 (Int.toNat (g3.length : Int)) c2), pl 7 (.bool one5), pl 8 (.bool two5), pl 9 (.int .i64 y1), pl 10 (.int .i64 x1), pl 11 (.int .i64 d1), pl 12 (.int .i64 (geti ([1, 0, 1, 1] : List Int) d1)), pl 13 (.int .i64 (geti ([0, 1, 1, (-1)] : List Int) d1))] hF hS (by kernel_rfl) (by kernel_rfl) ?_ (fun a hF => ?_)
                                  · exact obs_nil
                                  refine any_finI rfl (fun h => h) ?_
                                  refine any_end (by kernel_rfl) ?_
                                  refine np_n ?_
                                  refine then_n ?_
                                  have hS := hS.pickN 4 [2, 3] (by decide)
                                  exact ⟨hF.weak [1, 2, 6, 7, 8, 9, 10, 11, 12, 13] (by kernel_rfl), hS, hm⟩
                        · refine any_op (listed' := #[true, true, true, false, true, true, true, false, false, false]) (by kernel_rfl) (by kernel_rfl) ?_
                          refine at_runW 1 [⟨true, [], vS (Instr.indexAt 22 (.slice g6 4 4) (.int .i64 d1)), .pointer (some (sAddr g6 d1))⟩] [some (.pointer (some (sAddr g6 d1)))] [1, 2, 6, 7, 8, 9, 10, 11, 41, 45] [pl 1 (.int .i64 k1), pl 2 (.pointer (some ⟨g4, 0, none⟩)), pl 6 (.slice A2 (Int.toNat (g3.length : Int)) c2), pl 7 (.bool one5), pl 8 (.bool two5), pl 9 (.int .i64 y1), pl 10 (.int .i64 x1), pl 11 (.int .i64 d1), pl 41 (.pointer (some (sAddr g5 d1))), pl 45 (.pointer (some (sAddr g6 d1)))] hF hS (by kernel_rfl) (by kernel_rfl) ?_ (fun a hF => ?_)
                          · exact obs_cons (ob_ix1 (f := (Value.int .i64)) (m := ([0, 1, 1, (-1)] : List Int)) Und22 hi3 hs3 (hS.at_ 0 rfl).rd ((hS.at_ 0 rfl).len1) (fun _ => hp3)) <| obs_nil
                          refine any_finI rfl (fun h => h) ?_
                          refine any_step [3, 7] (by kernel_rfl) rfl ?_
                          refine (all_cons ?_ (all_cons ?_ all_nil))
                          · refine any_op (listed' := #[true, true, true, true, true, true, true, false, false, false]) (by kernel_rfl) (by kernel_rfl) ?_
                            refine at_runW 1 [⟨false, [], vS (Instr.loadAt 3 (.pointer (some (sAddr g5 d1)))), .int .i64 (geti ([1, 0, 1, 1] : List Int) d1)⟩] [some (.int .i64 (geti ([1, 0, 1, 1] : List Int) d1))] [1, 2, 6, 7, 8, 9, 10, 11, 42, 45] [pl 1 (.int .i64 k1), pl 2 (.pointer (some ⟨g4, 0, none⟩)), pl 6 (.slice A2 (Int.toNat (g3.length : Int)) c2), pl 7 (.bool one5), pl 8 (.bool two5), pl 9 (.int .i64 y1), pl 10 (.int .i64 x1), pl 11 (.int .i64 d1), pl 42 (.int .i64 (geti ([1, 0, 1, 1] : List Int) d1)), pl 45 (.pointer (some (sAddr g6 d1)))] hF hS (by kernel_rfl) (by kernel_rfl) ?_ (fun a hF => ?_)
                            · exact obs_cons (ob_get1 (n := 4) (m := ([1, 0, 1, 1] : List Int)) (Value.int .i64) (0 : Int) Agg3 (fun _ hS => ⟨_, (hS.at_ 1 rfl).rd⟩) (fun _ hS => ((hS.at_ 1 rfl).len1)) (fun _ => hp2)) <| obs_nil
                            refine any_finI rfl (fun h => h) ?_
                            refine any_step [7, 8] (by kernel_rfl) rfl ?_
                            refine (all_cons ?_ (all_cons ?_ all_nil))
                            · refine any_op (listed' := #[true, true, true, true, true, true, true, true, false, false]) (by kernel_rfl) (by kernel_rfl) ?_
                              refine at_runW 1 [⟨false, [], vS (Instr.loadAt 3 (.pointer (some (sAddr g6 d1)))), .int .i64 (geti ([0, 1, 1, (-1)] : List Int) d1)⟩] [some (.int .i64 (geti ([0, 1, 1, (-1)] : List Int) d1))] [1, 2, 6, 7, 8, 9, 10, 11, 42, 46] [pl 1 (.int .i64 k1), pl 2 (.pointer (some ⟨g4, 0, none⟩)), pl 6 (.slice A2 (Int.toNat (g3.length : Int)) c2), pl 7 (.bool one5), pl 8 (.bool two5), pl 9 (.int .i64 y1), pl 10 (.int .i64 x1), pl 11 (.int .i64 d1), pl 42 (.int .i64 (geti ([1, 0, 1, 1] : List Int) d1)), pl 46 (.int .i64 (geti ([0, 1, 1, (-1)] : List Int) d1))] hF hS (by kernel_rfl) (by kernel_rfl) ?_ (fun a hF => ?_)
                              · exact obs_cons (ob_get1 (n := 4) (m := ([0, 1, 1, (-1)] : List Int)) (Value.int .i64) (0 : Int) Agg3 (fun _ hS => ⟨_, (hS.at_ 0 rfl).rd⟩) (fun _ hS => ((hS.at_ 0 rfl).len1)) (fun _ => hp3)) <| obs_nil
                              refine any_finI rfl (fun h => h) ?_
                              refine any_step [8] (by kernel_rfl) rfl ?_
                              refine (all_cons ?_ all_nil)
                              · refine any_op (listed' := #[true, true, true, true, true, true, true, true, true, false]) (by kernel_rfl) (by kernel_rfl) ?_
                                refine at_runW 1 [] [] [1, 2, 6, 7, 8, 9, 10, 11, 12, 46] [pl 1 (.int .i64 k1), pl 2 (.pointer (some ⟨g4, 0, none⟩)), pl 6 (.slice A2 (Int.toNat (g3.length : Int)) c2), pl 7 (.bool one5), pl 8 (.bool two5), pl 9 (.int .i64 y1), pl 10 (.int .i64 x1), pl 11 (.int .i64 d1), pl 12 (.int .i64 (geti ([1, 0, 1, 1] : List Int) d1)), pl 46 (.int .i64 (geti ([0, 1, 1, (-1)] : List Int) d1))] hF hS (by kernel_rfl) (by kernel_rfl) ?_ (fun a hF => ?_)
                                · exact obs_nil
                                refine any_finI rfl (fun h => h) ?_
                                refine any_step [9] (by kernel_rfl) rfl ?_
                                refine (all_cons ?_ all_nil)
                                · refine any_op (listed' := #[true, true, true, true, true, true, true, true, true, true]) (by kernel_rfl) (by kernel_rfl) ?_
                                  refine at_runW 1 [] [] [1, 2, 6, 7, 8, 9, 10, 11, 12, 13] [pl 1 (.int .i64 k1), pl 2 (.pointer (some ⟨g4, 0, none⟩)), pl 6 (.slice A2 (Int.toNat (g3.length : Int)) c2), pl 7 (.bool one5), pl 8 (.bool two5), pl 9 (.int .i64 y1), pl 10 (.int .i64 x1), pl 11 (.int .i64 d1), pl 12 (.int .i64 (geti ([1, 0, 1, 1] : List Int) d1)), pl 13 (.int .i64 (geti ([0, 1, 1, (-1)] : List Int) d1))] hF hS (by kernel_rfl) (by kernel_rfl) ?_ (fun a hF => ?_)
                                  · exact obs_nil
                                  refine any_finI rfl (fun h => h) ?_
                                  refine any_end (by kernel_rfl) ?_
                                  refine np_n ?_
                                  refine then_n ?_
                                  have hS := hS.pickN 4 [2, 3] (by decide)
                                  exact ⟨hF.weak [1, 2, 6, 7, 8, 9, 10, 11, 12, 13] (by kernel_rfl), hS, hm⟩
                            · refine any_op (listed' := #[true, true, true, true, true, true, true, false, true, false]) (by kernel_rfl) (by kernel_rfl) ?_
                              refine at_runW 1 [] [] [1, 2, 6, 7, 8, 9, 10, 11, 12, 45] [pl 1 (.int .i64 k1), pl 2 (.pointer (some ⟨g4, 0, none⟩)), pl 6 (.slice A2 (Int.toNat (g3.length : Int)) c2), pl 7 (.bool one5), pl 8 (.bool two5), pl 9 (.int .i64 y1), pl 10 (.int .i64 x1), pl 11 (.int .i64 d1), pl 12 (.int .i64 (geti ([1, 0, 1, 1] : List Int) d1)), pl 45 (.pointer (some (sAddr g6 d1)))] hF hS (by kernel_rfl) (by kernel_rfl) ?_ (fun a hF => ?_)
                              · exact obs_nil
                              refine any_finI rfl (fun h => h) ?_
                              refine any_step [7] (by kernel_rfl) rfl ?_
                              refine (all_cons ?_ all_nil)
                              · refine any_op (listed' := #[true, true, true, true, true, true, true, true, true, false]) (by kernel_rfl) (by kernel_rfl) ?_
                                refine at_runW 1 [⟨false, [], vS (Instr.loadAt 3 (.pointer (some (sAddr g6 d1)))), .int .i64 (geti ([0, 1, 1, (-1)] : List Int) d1)⟩] [some (.int .i64 (geti ([0, 1, 1, (-1)] : List Int) d1))] [1, 2, 6, 7, 8, 9, 10, 11, 12, 46] [pl 1 (.int .i64 k1), pl 2 (.pointer (some ⟨g4, 0, none⟩)), pl 6 (.slice A2 (Int.toNat (g3.length : Int)) c2), pl 7 (.bool one5), pl 8 (.bool two5), pl 9 (.int .i64 y1), pl 10 (.int .i64 x1), pl 11 (.int .i64 d1), pl 12 (.int .i64 (geti ([1, 0, 1, 1] : List Int) d1)), pl 46 (.int .i64 (geti ([0, 1, 1, (-1)] : List Int) d1))] hF hS (by kernel_rfl) (by kernel_rfl) ?_ (fun a hF => ?_)
                                · exact obs_cons (ob_get1 (n := 4) (m := ([0, 1, 1, (-1)] : List Int)) (Value.int .i64) (0 : Int) Agg3 (fun _ hS => ⟨_, (hS.at_ 0 rfl).rd⟩) (fun _ hS => ((hS.at_ 0 rfl).len1)) (fun _ => hp3)) <| obs_nil
                                refine any_finI rfl (fun h => h) ?_
                                refine any_step [9] (by kernel_rfl) rfl ?_
                                refine (all_cons ?_ all_nil)
                                · refine any_op (listed' := #[true, true, true, true, true, true, true, true, true, true]) (by kernel_rfl) (by kernel_rfl) ?_
                                  refine at_runW 1 [] [] [1, 2, 6, 7, 8, 9, 10, 11, 12, 13] [pl 1 (.int .i64 k1), pl 2 (.pointer (some ⟨g4, 0, none⟩)), pl 6 (.slice A2 (Int.toNat (g3.length : Int)) c2), pl 7 (.bool one5), pl 8 (.bool two5), pl 9 (.int .i64 y1), pl 10 (.int .i64 x1), pl 11 (.int .i64 d1), pl 12 (.int .i64 (geti ([1, 0, 1, 1] : List Int) d1)), pl 13 (.int .i64 (geti ([0, 1, 1, (-1)] : List Int) d1))] hF hS (by kernel_rfl) (by kernel_rfl) ?_ (fun a hF => ?_)
                                  · exact obs_nil
                                  refine any_finI rfl (fun h => h) ?_
                                  refine any_end (by kernel_rfl) ?_
                                  refine np_n ?_
                                  refine then_n ?_
                                  have hS := hS.pickN 4 [2, 3] (by decide)
                                  exact ⟨hF.weak [1, 2, 6, 7, 8, 9, 10, 11, 12, 13] (by kernel_rfl), hS, hm⟩
                          · refine any_op (listed' := #[true, true, true, false, true, true, true, true, false, false]) (by kernel_rfl) (by kernel_rfl) ?_
                            refine at_runW 1 [⟨false, [], vS (Instr.loadAt 3 (.pointer (some (sAddr g6 d1)))), .int .i64 (geti ([0, 1, 1, (-1)] : List Int) d1)⟩] [some (.int .i64 (geti ([0, 1, 1, (-1)] : List Int) d1))] [1, 2, 6, 7, 8, 9, 10, 11, 41, 46] [pl 1 (.int .i64 k1), pl 2 (.pointer (some ⟨g4, 0, none⟩)), pl 6 (.slice A2 (Int.toNat (g3.length : Int)) c2), pl 7 (.bool one5), pl 8 (.bool two5), pl 9 (.int .i64 y1), pl 10 (.int .i64 x1), pl 11 (.int .i64 d1), pl 41 (.pointer (some (sAddr g5 d1))), pl 46 (.int .i64 (geti ([0, 1, 1, (-1)] : List Int) d1))] hF hS (by kernel_rfl) (by kernel_rfl) ?_ (fun a hF => ?_)
                            · exact obs_cons (ob_get1 (n := 4) (m := ([0, 1, 1, (-1)] : List Int)) (Value.int .i64) (0 : Int) Agg3 (fun _ hS => ⟨_, (hS.at_ 0 rfl).rd⟩) (fun _ hS => ((hS.at_ 0 rfl).len1)) (fun _ => hp3)) <| obs_nil
                            refine any_finI rfl (fun h => h) ?_
                            refine any_step [3] (by kernel_rfl) rfl ?_
                            refine (all_cons ?_ all_nil)
                            · refine any_op (listed' := #[true, true, true, true, true, true, true, true, false, false]) (by kernel_rfl) (by kernel_rfl) ?_
                              refine at_runW 1 [⟨false, [], vS (Instr.loadAt 3 (.pointer (some (sAddr g5 d1)))), .int .i64 (geti ([1, 0, 1, 1] : List Int) d1)⟩] [some (.int .i64 (geti ([1, 0, 1, 1] : List Int) d1))] [1, 2, 6, 7, 8, 9, 10, 11, 42, 46] [pl 1 (.int .i64 k1), pl 2 (.pointer (some ⟨g4, 0, none⟩)), pl 6 (.slice A2 (Int.toNat (g3.length : Int)) c2), pl 7 (.bool one5), pl 8 (.bool two5), pl 9 (.int .i64 y1), pl 10 (.int .i64 x1), pl 11 (.int .i64 d1), pl 42 (.int .i64 (geti ([1, 0, 1, 1] : List Int) d1)), pl 46 (.int .i64 (geti ([0, 1, 1, (-1)] : List Int) d1))] hF hS (by kernel_rfl) (by kernel_rfl) ?_ (fun a hF => ?_)
                              · exact obs_cons (ob_get1 (n := 4) (m := ([1, 0, 1, 1] : List Int)) (Value.int .i64) (0 : Int) Agg3 (fun _ hS => ⟨_, (hS.at_ 1 rfl).rd⟩) (fun _ hS => ((hS.at_ 1 rfl).len1)) (fun _ => hp2)) <| obs_nil
                              refine any_finI rfl (fun h => h) ?_
                              refine any_step [8] (by kernel_rfl) rfl ?_
                              refine (all_cons ?_ all_nil)
                              · refine any_op (listed' := #[true, true, true, true, true, true, true, true, true, false]) (by kernel_rfl) (by kernel_rfl) ?_
                                refine at_runW 1 [] [] [1, 2, 6, 7, 8, 9, 10, 11, 12, 46] [pl 1 (.int .i64 k1), pl 2 (.pointer (some ⟨g4, 0, none⟩)), pl 6 (.slice A2 (Int.toNat (g3.length : Int)) c2), pl 7 (.bool one5), pl 8 (.bool two5), pl 9 (.int .i64 y1), pl 10 (.int .i64 x1), pl 11 (.int .i64 d1), pl 12 (.int .i64 (geti ([1, 0, 1, 1] : List Int) d1)), pl 46 (.int .i64 (geti ([0, 1, 1, (-1)] : List Int) d1))] hF hS (by kernel_rfl) (by kernel_rfl) ?_ (fun a hF => ?_)
                                · exact obs_nil
                                refine any_finI rfl (fun h => h) ?_
                                refine any_step [9] (by kernel_rfl) rfl ?_
                                refine (all_cons ?_ all_nil)
                                · refine any_op (listed' := #[true, true, true, true, true, true, true, true, true, true]) (by kernel_rfl) (by kernel_rfl) ?_
                                  refine at_runW 1 [] [] [1, 2, 6, 7, 8, 9, 10, 11, 12, 13] [pl 1 (.int .i64 k1), pl 2 (.pointer (some ⟨g4, 0, none⟩)), pl 6 (.slice A2 (Int.toNat (g3.length : Int)) c2), pl 7 (.bool one5), pl 8 (.bool two5), pl 9 (.int .i64 y1), pl 10 (.int .i64 x1), pl 11 (.int .i64 d1), pl 12 (.int .i64 (geti ([1, 0, 1, 1] : List Int) d1)), pl 13 (.int .i64 (geti ([0, 1, 1, (-1)] : List Int) d1))] hF hS (by kernel_rfl) (by kernel_rfl) ?_ (fun a hF => ?_)
                                  · exact obs_nil
                                  refine any_finI rfl (fun h => h) ?_
                                  refine any_end (by kernel_rfl) ?_
                                  refine np_n ?_
                                  refine then_n ?_
                                  have hS := hS.pickN 4 [2, 3] (by decide)
                                  exact ⟨hF.weak [1, 2, 6, 7, 8, 9, 10, 11, 12, 13] (by kernel_rfl), hS, hm⟩
                    · refine any_op (listed' := #[true, true, false, false, true, true, false, false, false, false]) (by kernel_rfl) (by kernel_rfl) ?_
                      refine at_do (d := 43) (s := vS (Instr.buildSlice 22 4 #[(0, .int .i64 0), (1, .int .i64 1), (2, .int .i64 1), (3, .int .i64 (-1))])) (v := .slice (some ⟨w.heap.size, 0, none⟩) 4 4) (w' := w.alloc (.cells #[.int .i64 0, .int .i64 1, .int .i64 1, .int .i64 (-1)] 3)) hF (by kernel_rfl) (by kernel_rfl) (by kernel_rfl) (fun a hF => ?_)
                      have hS : Sep w0 B (w.alloc (.cells #[.int .i64 0, .int .i64 1, .int .i64 1, .int .i64 (-1)] 3)) (own 3 (.slice (some (⟨w.heap.size, 0, none⟩ : Addr)) 4 4) (vI ([0, 1, 1, (-1)] : List Int)) :: (own 3 (.slice g5 4 4) (vI ([1, 0, 1, 1] : List Int)) :: blk g4 55 #[.int .i64 g1, .int .i64 g2, .slice A1 g3.length c1] :: own 4 (.slice A2 (Int.toNat (g3.length : Int)) c2) (vB in5) :: fs)) := hS.lit 3 #[.int .i64 0, .int .i64 1, .int .i64 1, .int .i64 (-1)] 4 rfl (by omega)
                      generalize (some (⟨w.heap.size, 0, none⟩ : Addr)) = g6 at hF hS
                      generalize w.alloc (.cells #[.int .i64 0, .int .i64 1, .int .i64 1, .int .i64 (-1)] 3) = w at hS ⊢
                      refine any_fin rfl (hS.pickN 4 [2, 3] (by decide)) ?_
                      refine any_step [2, 6] (by kernel_rfl) rfl ?_
                      refine (all_cons ?_ (all_cons ?_ all_nil))
                      · refine any_op (listed' := #[true, true, true, false, true, true, false, false, false, false]) (by kernel_rfl) (by kernel_rfl) ?_
                        refine at_runW 1 [⟨true, [], vS (Instr.indexAt 22 (.slice g5 4 4) (.int .i64 d1)), .pointer (some (sAddr g5 d1))⟩] [some (.pointer (some (sAddr g5 d1)))] [1, 2, 6, 7, 8, 9, 10, 11, 41, 43, 44] [pl 1 (.int .i64 k1), pl 2 (.pointer (some ⟨g4, 0, none⟩)), pl 6 (.slice A2 (Int.toNat (g3.length : Int)) c2), pl 7 (.bool one5), pl 8 (.bool two5), pl 9 (.int .i64 y1), pl 10 (.int .i64 x1), pl 11 (.int .i64 d1), pl 41 (.pointer (some (sAddr g5 d1))), pl 43 (.slice g6 4 4), pl 44 (.int .i64 d1)] hF hS (by kernel_rfl) (by kernel_rfl) ?_ (fun a hF => ?_)
                        · exact obs_cons (ob_ix1 (f := (Value.int .i64)) (m := ([1, 0, 1, 1] : List Int)) Und22 hi3 hs3 (hS.at_ 1 rfl).rd ((hS.at_ 1 rfl).len1) (fun _ => hp2)) <| obs_nil
                        refine any_finI rfl (fun h => h) ?_
                        refine any_step [3, 6] (by kernel_rfl) rfl ?_
                        refine (all_cons ?_ (all_cons ?_ all_nil))
                        · refine any_op (listed' := #[true, true, true, true, true, true, false, false, false, false]) (by kernel_rfl) (by kernel_rfl) ?_
                          refine at_runW 1 [⟨false, [], vS (Instr.loadAt 3 (.pointer (some (sAddr g5 d1)))), .int .i64 (geti ([1, 0, 1, 1] : List Int) d1)⟩] [some (.int .i64 (geti ([1, 0, 1, 1] : List Int) d1))] [1, 2, 6, 7, 8, 9, 10, 11, 42, 43, 44] [pl 1 (.int .i64 k1), pl 2 (.pointer (some ⟨g4, 0, none⟩)), pl 6 (.slice A2 (Int.toNat (g3.length : Int)) c2), pl 7 (.bool one5), pl 8 (.bool two5), pl 9 (.int .i64 y1), pl 10 (.int .i64 x1), pl 11 (.int .i64 d1), pl 42 (.int .i64 (geti ([1, 0, 1, 1] : List Int) d1)), pl 43 (.slice g6 4 4), pl 44 (.int .i64 d1)] hF hS (by kernel_rfl) (by kernel_rfl) ?_ (fun a hF => ?_)
                          · exact obs_cons (ob_get1 (n := 4) (m := ([1, 0, 1, 1] : List Int)) (Value.int .i64) (0 : Int) Agg3 (fun _ hS => ⟨_, (hS.at_ 1 rfl).rd⟩) (fun _ hS => ((hS.at_ 1 rfl).len1)) (fun _ => hp2)) <| obs_nil
                          refine any_finI rfl (fun h => h) ?_
                          refine any_step [6, 8] (by kernel_rfl) rfl ?_
                          refine (all_cons ?_ (all_cons ?_ all_nil))
                          · refine any_op (listed' := #[true, true, true, true, true, true, true, false, false, false]) (by kernel_rfl) (by kernel_rfl) ?_
                            refine at_runW 1 [⟨true, [], vS (Instr.indexAt 22 (.slice g6 4 4) (.int .i64 d1)), .pointer (some (sAddr g6 d1))⟩] [some (.pointer (some (sAddr g6 d1)))] [1, 2, 6, 7, 8, 9, 10, 11, 42, 45] [pl 1 (.int .i64 k1), pl 2 (.pointer (some ⟨g4, 0, none⟩)), pl 6 (.slice A2 (Int.toNat (g3.length : Int)) c2), pl 7 (.bool one5), pl 8 (.bool two5), pl 9 (.int .i64 y1), pl 10 (.int .i64 x1), pl 11 (.int .i64 d1), pl 42 (.int .i64 (geti ([1, 0, 1, 1] : List Int) d1)), pl 45 (.pointer (some (sAddr g6 d1)))] hF hS (by kernel_rfl) (by kernel_rfl) ?_ (fun a hF => ?_)
                            · exact obs_cons (ob_ix1 (f := (Value.int .i64)) (m := ([0, 1, 1, (-1)] : List Int)) Und22 hi3 hs3 (hS.at_ 0 rfl).rd ((hS.at_ 0 rfl).len1) (fun _ => hp3)) <| obs_nil
                            refine any_finI rfl (fun h => h) ?_
                            refine any_step [7, 8] (by kernel_rfl) rfl ?_
                            refine (all_cons ?_ (all_cons ?_ all_nil))
                            · refine any_op (listed' := #[true, true, true, true, true, true, true, true, false, false]) (by kernel_rfl) (by kernel_rfl) ?_
                              refine at_runW 1 [⟨false, [], vS (Instr.loadAt 3 (.pointer (some (sAddr g6 d1)))), .int .i64 (geti ([0, 1, 1, (-1)] : List Int) d1)⟩] [some (.int .i64 (geti ([0, 1, 1, (-1)] : List Int) d1))] [1, 2, 6, 7, 8, 9, 10, 11, 42, 46] [pl 1 (.int .i64 k1), pl 2 (.pointer (some ⟨g4, 0, none⟩)), pl 6 (.slice A2 (Int.toNat (g3.length : Int)) c2), pl 7 (.bool one5), pl 8 (.bool two5), pl 9 (.int .i64 y1), pl 10 (.int .i64 x1), pl 11 (.int .i64 d1), pl 42 (.int .i64 (geti ([1, 0, 1, 1] : List Int) d1)), pl 46 (.int .i64 (geti ([0, 1, 1, (-1)] : List Int) d1))] hF hS (by kernel_rfl) (by kernel_rfl) ?_ (fun a hF => ?_)
                              · exact obs_cons (ob_get1 (n := 4) (m := ([0, 1, 1, (-1)] : List Int)) (Value.int .i64) (0 : Int) Agg3 (fun _ hS => ⟨_, (hS.at_ 0 rfl).rd⟩) (fun _ hS => ((hS.at_ 0 rfl).len1)) (fun _ => hp3)) <| obs_nil
                              refine any_finI rfl (fun h => h) ?_
                              refine any_step [8] (by kernel_rfl) rfl ?_
                              refine (all_cons ?_ all_nil)
                              · refine any_op (listed' := #[true, true, true, true, true, true, true, true, true, false]) (by kernel_rfl) (by kernel_rfl) ?_
                                refine at_runW 1 [] [] [1, 2, 6, 7, 8, 9, 10, 11, 12, 46] [pl 1 (.int .i64 k1), pl 2 (.pointer (some ⟨g4, 0, none⟩)), pl 6 (.slice A2 (Int.toNat (g3.length : Int)) c2), pl 7 (.bool one5), pl 8 (.bool two5), pl 9 (.int .i64 y1), pl 10 (.int .i64 x1), pl 11 (.int .i64 d1), pl 12 (.int .i64 (geti ([1, 0, 1, 1] : List Int) d1)), pl 46 (.int .i64 (geti ([0, 1, 1, (-1)] : List Int) d1))] hF hS (by kernel_rfl) (by kernel_rfl) ?_ (fun a hF => ?_)
                                · exact obs_nil
                                refine any_finI rfl (fun h => h) ?_
                                refine any_step [9] (by kernel_rfl) rfl ?_
                                refine (all_cons ?_ all_nil)
                                · refine any_op (listed' := #[true, true, true, true, true, true, true, true, true, true]) (by kernel_rfl) (by kernel_rfl) ?_
                                  refine at_runW 1 [] [] [1, 2, 6, 7, 8, 9, 10, 11, 12, 13] [pl 1 (.int .i64 k1), pl 2 (.pointer (some ⟨g4, 0, none⟩)), pl 6 (.slice A2 (Int.toNat (g3.length : Int)) c2), pl 7 (.bool one5), pl 8 (.bool two5), pl 9 (.int .i64 y1), pl 10 (.int .i64 x1), pl 11 (.int .i64 d1), pl 12 (.int .i64 (geti ([1, 0, 1, 1] : List Int) d1)), pl 13 (.int .i64 (geti ([0, 1, 1, (-1)] : List Int) d1))] hF hS (by kernel_rfl) (by kernel_rfl) ?_ (fun a hF => ?_)
                                  · exact obs_nil
                                  refine any_finI rfl (fun h => h) ?_
                                  refine any_end (by kernel_rfl) ?_
                                  refine np_n ?_
                                  refine then_n ?_
                                  have hS := hS.pickN 4 [2, 3] (by decide)
                                  exact ⟨hF.weak [1, 2, 6, 7, 8, 9, 10, 11, 12, 13] (by kernel_rfl), hS, hm⟩
                            · refine any_op (listed' := #[true, true, true, true, true, true, true, false, true, false]) (by kernel_rfl) (by kernel_rfl) ?_
                              refine at_runW 1 [] [] [1, 2, 6, 7, 8, 9, 10, 11, 12, 45] [pl 1 (.int .i64 k1), pl 2 (.pointer (some ⟨g4, 0, none⟩)), pl 6 (.slice A2 (Int.toNat (g3.length : Int)) c2), pl 7 (.bool one5), pl 8 (.bool two5), pl 9 (.int .i64 y1), pl 10 (.int .i64 x1), pl 11 (.int .i64 d1), pl 12 (.int .i64 (geti ([1, 0, 1, 1] : List Int) d1)), pl 45 (.pointer (some (sAddr g6 d1)))] hF hS (by kernel_rfl) (by kernel_rfl) ?_ (fun a hF => ?_)
                              · exact obs_nil
                              refine any_finI rfl (fun h => h) ?_
                              refine any_step [7] (by kernel_rfl) rfl ?_
                              refine (all_cons ?_ all_nil)
                              · refine any_op (listed' := #[true, true, true, true, true, true, true, true, true, false]) (by kernel_rfl) (by kernel_rfl) ?_
                                refine at_runW 1 [⟨false, [], vS (Instr.loadAt 3 (.pointer (some (sAddr g6 d1)))), .int .i64 (geti ([0, 1, 1, (-1)] : List Int) d1)⟩] [some (.int .i64 (geti ([0, 1, 1, (-1)] : List Int) d1))] [1, 2, 6, 7, 8, 9, 10, 11, 12, 46] [pl 1 (.int .i64 k1), pl 2 (.pointer (some ⟨g4, 0, none⟩)), pl 6 (.slice A2 (Int.toNat (g3.length : Int)) c2), pl 7 (.bool one5), pl 8 (.bool two5), pl 9 (.int .i64 y1), pl 10 (.int .i64 x1), pl 11 (.int .i64 d1), pl 12 (.int .i64 (geti ([1, 0, 1, 1] : List Int) d1)), pl 46 (.int .i64 (geti ([0, 1, 1, (-1)] : List Int) d1))] hF hS (by kernel_rfl) (by kernel_rfl) ?_ (fun a hF => ?_)
                                · exact obs_cons (ob_get1 (n := 4) (m := ([0, 1, 1, (-1)] : List Int)) (Value.int .i64) (0 : Int) Agg3 (fun _ hS => ⟨_, (hS.at_ 0 rfl).rd⟩) (fun _ hS => ((hS.at_ 0 rfl).len1)) (fun _ => hp3)) <| obs_nil
                                refine any_finI rfl (fun h => h) ?_
                                refine any_step [9] (by kernel_rfl) rfl ?_
                                refine (all_cons ?_ all_nil)
                                · refine any_op (listed' := #[true, true, true, true, true, true, true, true, true, true]) (by kernel_rfl) (by kernel_rfl) ?_
                                  refine at_runW 1 [] [] [1, 2, 6, 7, 8, 9, 10, 11, 12, 13] [pl 1 (.int .i64 k1), pl 2 (.pointer (some ⟨g4, 0, none⟩)), pl 6 (.slice A2 (Int.toNat (g3.length : Int)) c2), pl 7 (.bool one5), pl 8 (.bool two5), pl 9 (.int .i64 y1), pl 10 (.int .i64 x1), pl 11 (.int .i64 d1), pl 12 (.int .i64 (geti ([1, 0, 1, 1] : List Int) d1)), pl 13 (.int .i64 (geti ([0, 1, 1, (-1)] : List Int) d1))] hF hS (by kernel_rfl) (by kernel_rfl) ?_ (fun a hF => ?_)
                                  · exact obs_nil
                                  refine any_finI rfl (fun h => h) ?_
                                  refine any_end (by kernel_rfl) ?_
                                  refine np_n ?_
                                  refine then_n ?_
                                  have hS := hS.pickN 4 [2, 3] (by decide)
                                  exact ⟨hF.weak [1, 2, 6, 7, 8, 9, 10, 11, 12, 13] (by kernel_rfl), hS, hm⟩
                          · refine any_op (listed' := #[true, true, true, true, true, true, false, false, true, false]) (by kernel_rfl) (by kernel_rfl) ?_
                            refine at_runW 1 [] [] [1, 2, 6, 7, 8, 9, 10, 11, 12, 43, 44] [pl 1 (.int .i64 k1), pl 2 (.pointer (some ⟨g4, 0, none⟩)), pl 6 (.slice A2 (Int.toNat (g3.length : Int)) c2), pl 7 (.bool one5), pl 8 (.bool two5), pl 9 (.int .i64 y1), pl 10 (.int .i64 x1), pl 11 (.int .i64 d1), pl 12 (.int .i64 (geti ([1, 0, 1, 1] : List Int) d1)), pl 43 (.slice g6 4 4), pl 44 (.int .i64 d1)] hF hS (by kernel_rfl) (by kernel_rfl) ?_ (fun a hF => ?_)
                            · exact obs_nil
                            refine any_finI rfl (fun h => h) ?_
                            refine any_step [6] (by kernel_rfl) rfl ?_
                            refine (all_cons ?_ all_nil)
                            · refine any_op (listed' := #[true, true, true, true, true, true, true, false, true, false]) (by kernel_rfl) (by kernel_rfl) ?_
                              refine at_runW 1 [⟨true, [], vS (Instr.indexAt 22 (.slice g6 4 4) (.int .i64 d1)), .pointer (some (sAddr g6 d1))⟩] [some (.pointer (some (sAddr g6 d1)))] [1, 2, 6, 7, 8, 9, 10, 11, 12, 45] [pl 1 (.int .i64 k1), pl 2 (.pointer (some ⟨g4, 0, none⟩)), pl 6 (.slice A2 (Int.toNat (g3.length : Int)) c2), pl 7 (.bool one5), pl 8 (.bool two5), pl 9 (.int .i64 y1), pl 10 (.int .i64 x1), pl 11 (.int .i64 d1), pl 12 (.int .i64 (geti ([1, 0, 1, 1] : List Int) d1)), pl 45 (.pointer (some (sAddr g6 d1)))] hF hS (by kernel_rfl) (by kernel_rfl) ?_ (fun a hF => ?_)
                              · exact obs_cons (ob_ix1 (f := (Value.int .i64)) (m := ([0, 1, 1, (-1)] : List Int)) Und22 hi3 hs3 (hS.at_ 0 rfl).rd ((hS.at_ 0 rfl).len1) (fun _ => hp3)) <| obs_nil
                              refine any_finI rfl (fun h => h) ?_
                              refine any_step [7] (by kernel_rfl) rfl ?_
                              refine (all_cons ?_ all_nil)
                              · refine any_op (listed' := #[true, true, true, true, true, true, true, true, true, false]) (by kernel_rfl) (by kernel_rfl) ?_
                                refine at_runW 1 [⟨false, [], vS (Instr.loadAt 3 (.pointer (some (sAddr g6 d1)))), .int .i64 (geti ([0, 1, 1, (-1)] : List Int) d1)⟩] [some (.int .i64 (geti ([0, 1, 1, (-1)] : List Int) d1))] [1, 2, 6, 7, 8, 9, 10, 11, 12, 46] [pl 1 (.int .i64 k1), pl 2 (.pointer (some ⟨g4, 0, none⟩)), pl 6 (.slice A2 (Int.toNat (g3.length : Int)) c2), pl 7 (.bool one5), pl 8 (.bool two5), pl 9 (.int .i64 y1), pl 10 (.int .i64 x1), pl 11 (.int .i64 d1), pl 12 (.int .i64 (geti ([1, 0, 1, 1] : List Int) d1)), pl 46 (.int .i64 (geti ([0, 1, 1, (-1)] : List Int) d1))] hF hS (by kernel_rfl) (by kernel_rfl) ?_ (fun a hF => ?_)
                                · exact obs_cons (ob_get1 (n := 4) (m := ([0, 1, 1, (-1)] : List Int)) (Value.int .i64) (0 : Int) Agg3 (fun _ hS => ⟨_, (hS.at_ 0 rfl).rd⟩) (fun _ hS => ((hS.at_ 0 rfl).len1)) (fun _ => hp3)) <| obs_nil
                                refine any_finI rfl (fun h => h) ?_
                                refine any_step [9] (by kernel_rfl) rfl ?_
                                refine (all_cons ?_ all_nil)
                                · refine any_op (listed' := #[true, true, true, true, true, true, true, true, true, true]) (by kernel_rfl) (by kernel_rfl) ?_
                                  refine at_runW 1 [] [] [1, 2, 6, 7, 8, 9, 10, 11, 12, 13] [pl 1 (.int .i64 k1), pl 2 (.pointer (some ⟨g4, 0, none⟩)), pl 6 (.slice A2 (Int.toNat (g3.length : Int)) c2), pl 7 (.bool one5), pl 8 (.bool two5), pl 9 (.int .i64 y1), pl 10 (.int .i64 x1), pl 11 (.int .i64 d1), pl 12 (.int .i64 (geti ([1, 0, 1, 1] : List Int) d1)), pl 13 (.int .i64 (geti ([0, 1, 1, (-1)] : List Int) d1))] hF hS (by kernel_rfl) (by kernel_rfl) ?_ (fun a hF => ?_)
                                  · exact obs_nil
                                  refine any_finI rfl (fun h => h) ?_
                                  refine any_end (by kernel_rfl) ?_
                                  refine np_n ?_
                                  refine then_n ?_
                                  have hS := hS.pickN 4 [2, 3] (by decide)
                                  exact ⟨hF.weak [1, 2, 6, 7, 8, 9, 10, 11, 12, 13] (by kernel_rfl), hS, hm⟩
                        · refine any_op (listed' := #[true, true, true, false, true, true, true, false, false, false]) (by kernel_rfl) (by kernel_rfl) ?_
                          refine at_runW 1 [⟨true, [], vS (Instr.indexAt 22 (.slice g6 4 4) (.int .i64 d1)), .pointer (some (sAddr g6 d1))⟩] [some (.pointer (some (sAddr g6 d1)))] [1, 2, 6, 7, 8, 9, 10, 11, 41, 45] [pl 1 (.int .i64 k1), pl 2 (.pointer (some ⟨g4, 0, none⟩)), pl 6 (.slice A2 (Int.toNat (g3.length : Int)) c2), pl 7 (.bool one5), pl 8 (.bool two5), pl 9 (.int .i64 y1), pl 10 (.int .i64 x1), pl 11 (.int .i64 d1), pl 41 (.pointer (some (sAddr g5 d1))), pl 45 (.pointer (some (sAddr g6 d1)))] hF hS (by kernel_rfl) (by kernel_rfl) ?_ (fun a hF => ?_)
                          · exact obs_cons (ob_ix1 (f := (Value.int .i64)) (m := ([0, 1, 1, (-1)] : List Int)) Und22 hi3 hs3 (hS.at_ 0 rfl).rd ((hS.at_ 0 rfl).len1) (fun _ => hp3)) <| obs_nil
                          refine any_finI rfl (fun h => h) ?_
                          refine any_step [3, 7] (by kernel_rfl) rfl ?_
                          refine (all_cons ?_ (all_cons ?_ all_nil))
                          · refine any_op (listed' := #[true, true, true, true, true, true, true, false, false, false]) (by kernel_rfl) (by kernel_rfl) ?_
                            refine at_runW 1 [⟨false, [], vS (Instr.loadAt 3 (.pointer (some (sAddr g5 d1)))), .int .i64 (geti ([1, 0, 1, 1] : List Int) d1)⟩] [some (.int .i64 (geti ([1, 0, 1, 1] : List Int) d1))] [1, 2, 6, 7, 8, 9, 10, 11, 42, 45] [pl 1 (.int .i64 k1), pl 2 (.pointer (some ⟨g4, 0, none⟩)), pl 6 (.slice A2 (Int.toNat (g3.length : Int)) c2), pl 7 (.bool one5), pl 8 (.bool two5), pl 9 (.int .i64 y1), pl 10 (.int .i64 x1), pl 11 (.int .i64 d1), pl 42 (.int .i64 (geti ([1, 0, 1, 1] : List Int) d1)), pl 45 (.pointer (some (sAddr g6 d1)))] hF hS (by kernel_rfl) (by kernel_rfl) ?_ (fun a hF => ?_)
                            · exact obs_cons (ob_get1 (n := 4) (m := ([1, 0, 1, 1] : List Int)) (Value.int .i64) (0 : Int) Agg3 (fun _ hS => ⟨_, (hS.at_ 1 rfl).rd⟩) (fun _ hS => ((hS.at_ 1 rfl).len1)) (fun _ => hp2)) <| obs_nil
                            refine any_finI rfl (fun h => h) ?_
                            refine any_step [7, 8] (by kernel_rfl) rfl ?_
                            refine (all_cons ?_ (all_cons ?_ all_nil))
                            · refine any_op (listed' := #[true, true, true, true, true, true, true, true, false, false]) (by kernel_rfl) (by kernel_rfl) ?_
                              refine at_runW 1 [⟨false, [], vS (Instr.loadAt 3 (.pointer (some (sAddr g6 d1)))), .int .i64 (geti ([0, 1, 1, (-1)] : List Int) d1)⟩] [some (.int .i64 (geti ([0, 1, 1, (-1)] : List Int) d1))] [1, 2, 6, 7, 8, 9, 10, 11, 42, 46] [pl 1 (.int .i64 k1), pl 2 (.pointer (some ⟨g4, 0, none⟩)), pl 6 (.slice A2 (Int.toNat (g3.length : Int)) c2), pl 7 (.bool one5), pl 8 (.bool two5), pl 9 (.int .i64 y1), pl 10 (.int .i64 x1), pl 11 (.int .i64 d1), pl 42 (.int .i64 (geti ([1, 0, 1, 1] : List Int) d1)), pl 46 (.int .i64 (geti ([0, 1, 1, (-1)] : List Int) d1))] hF hS (by kernel_rfl) (by kernel_rfl) ?_ (fun a hF => ?_)
                              · exact obs_cons (ob_get1 (n := 4) (m := ([0, 1, 1, (-1)] : List Int)) (Value.int .i64) (0 : Int) Agg3 (fun _ hS => ⟨_, (hS.at_ 0 rfl).rd⟩) (fun _ hS => ((hS.at_ 0 rfl).len1)) (fun _ => hp3)) <| obs_nil
                              refine any_finI rfl (fun h => h) ?_
                              refine any_step [8] (by kernel_rfl) rfl ?_
                              refine (all_cons ?_ all_nil)
                              · refine any_op (listed' := #[true, true, true, true, true, true, true, true, true, false]) (by kernel_rfl) (by kernel_rfl) ?_
                                refine at_runW 1 [] [] [1, 2, 6, 7, 8, 9, 10, 11, 12, 46] [pl 1 (.int .i64 k1), pl 2 (.pointer (some ⟨g4, 0, none⟩)), pl 6 (.slice A2 (Int.toNat (g3.length : Int)) c2), pl 7 (.bool one5), pl 8 (.bool two5), pl 9 (.int .i64 y1), pl 10 (.int .i64 x1), pl 11 (.int .i64 d1), pl 12 (.int .i64 (geti ([1, 0, 1, 1] : List Int) d1)), pl 46 (.int .i64 (geti ([0, 1, 1, (-1)] : List Int) d1))] hF hS (by kernel_rfl) (by kernel_rfl) ?_ (fun a hF => ?_)
                                · exact obs_nil
                                refine any_finI rfl (fun h => h) ?_
                                refine any_step [9] (by kernel_rfl) rfl ?_
                                refine (all_cons ?_ all_nil)
                                · refine any_op (listed' := #[true, true, true, true, true, true, true, true, true, true]) (by kernel_rfl) (by kernel_rfl) ?_
                                  refine at_runW 1 [] [] [1, 2, 6, 7, 8, 9, 10, 11, 12, 13] [pl 1 (.int .i64 k1), pl 2 (.pointer (some ⟨g4, 0, none⟩)), pl 6 (.slice A2 (Int.toNat (g3.length : Int)) c2), pl 7 (.bool one5), pl 8 (.bool two5), pl 9 (.int .i64 y1), pl 10 (.int .i64 x1), pl 11 (.int .i64 d1), pl 12 (.int .i64 (geti ([1, 0, 1, 1] : List Int) d1)), pl 13 (.int .i64 (geti ([0, 1, 1, (-1)] : List Int) d1))] hF hS (by kernel_rfl) (by kernel_rfl) ?_ (fun a hF => ?_)
                                  · exact obs_nil
                                  refine any_finI rfl (fun h => h) ?_
                                  refine any_end (by kernel_rfl) ?_
                                  refine np_n ?_
                                  refine then_n ?_
                                  have hS := hS.pickN 4 [2, 3] (by decide)
                                  exact ⟨hF.weak [1, 2, 6, 7, 8, 9, 10, 11, 12, 13] (by kernel_rfl), hS, hm⟩
                            · refine any_op (listed' := #[true, true, true, true, true, true, true, false, true, false]) (by kernel_rfl) (by kernel_rfl) ?_
                              refine at_runW 1 [] [] [1, 2, 6, 7, 8, 9, 10, 11, 12, 45] [pl 1 (.int .i64 k1), pl 2 (.pointer (some ⟨g4, 0, none⟩)), pl 6 (.slice A2 (Int.toNat (g3.length : Int)) c2), pl 7 (.bool one5), pl 8 (.bool two5), pl 9 (.int .i64 y1), pl 10 (.int .i64 x1), pl 11 (.int .i64 d1), pl 12 (.int .i64 (geti ([1, 0, 1, 1] : List Int) d1)), pl 45 (.pointer (some (sAddr g6 d1)))] hF hS (by kernel_rfl) (by kernel_rfl) ?_ (fun a hF => ?_)
                              · exact obs_nil
                              refine any_finI rfl (fun h => h) ?_
                              refine any_step [7] (by kernel_rfl) rfl ?_
                              refine (all_cons ?_ all_nil)
                              · refine any_op (listed' := #[true, true, true, true, true, true, true, true, true, false]) (by kernel_rfl) (by kernel_rfl) ?_
                                refine at_runW 1 [⟨false, [], vS (Instr.loadAt 3 (.pointer (some (sAddr g6 d1)))), .int .i64 (geti ([0, 1, 1, (-1)] : List Int) d1)⟩] [some (.int .i64 (geti ([0, 1, 1, (-1)] : List Int) d1))] [1, 2, 6, 7, 8, 9, 10, 11, 12, 46] [pl 1 (.int .i64 k1), pl 2 (.pointer (some ⟨g4, 0, none⟩)), pl 6 (.slice A2 (Int.toNat (g3.length : Int)) c2), pl 7 (.bool one5), pl 8 (.bool two5), pl 9 (.int .i64 y1), pl 10 (.int .i64 x1), pl 11 (.int .i64 d1), pl 12 (.int .i64 (geti ([1, 0, 1, 1] : List Int) d1)), pl 46 (.int .i64 (geti ([0, 1, 1, (-1)] : List Int) d1))] hF hS (by kernel_rfl) (by kernel_rfl) ?_ (fun a hF => ?_)
                                · exact obs_cons (ob_get1 (n := 4) (m := ([0, 1, 1, (-1)] : List Int)) (Value.int .i64) (0 : Int) Agg3 (fun _ hS => ⟨_, (hS.at_ 0 rfl).rd⟩) (fun _ hS => ((hS.at_ 0 rfl).len1)) (fun _ => hp3)) <| obs_nil
                                refine any_finI rfl (fun h => h) ?_
                                refine any_step [9] (by kernel_rfl) rfl ?_
                                refine (all_cons ?_ all_nil)
                                · refine any_op (listed' := #[true, true, true, true, true, true, true, true, true, true]) (by kernel_rfl) (by kernel_rfl) ?_
                                  refine at_runW 1 [] [] [1, 2, 6, 7, 8, 9, 10, 11, 12, 13] [pl 1 (.int .i64 k1), pl 2 (.pointer (some ⟨g4, 0, none⟩)), pl 6 (.slice A2 (Int.toNat (g3.length : Int)) c2), pl 7 (.bool one5), pl 8 (.bool two5), pl 9 (.int .i64 y1), pl 10 (.int .i64 x1), pl 11 (.int .i64 d1), pl 12 (.int .i64 (geti ([1, 0, 1, 1] : List Int) d1)), pl 13 (.int .i64 (geti ([0, 1, 1, (-1)] : List Int) d1))] hF hS (by kernel_rfl) (by kernel_rfl) ?_ (fun a hF => ?_)
                                  · exact obs_nil
                                  refine any_finI rfl (fun h => h) ?_
                                  refine any_end (by kernel_rfl) ?_
                                  refine np_n ?_
                                  refine then_n ?_
                                  have hS := hS.pickN 4 [2, 3] (by decide)
                                  exact ⟨hF.weak [1, 2, 6, 7, 8, 9, 10, 11, 12, 13] (by kernel_rfl), hS, hm⟩
                          · refine any_op (listed' := #[true, true, true, false, true, true, true, true, false, false]) (by kernel_rfl) (by kernel_rfl) ?_
                            refine at_runW 1 [⟨false, [], vS (Instr.loadAt 3 (.pointer (some (sAddr g6 d1)))), .int .i64 (geti ([0, 1, 1, (-1)] : List Int) d1)⟩] [some (.int .i64 (geti ([0, 1, 1, (-1)] : List Int) d1))] [1, 2, 6, 7, 8, 9, 10, 11, 41, 46] [pl 1 (.int .i64 k1), pl 2 (.pointer (some ⟨g4, 0, none⟩)), pl 6 (.slice A2 (Int.toNat (g3.length : Int)) c2), pl 7 (.bool one5), pl 8 (.bool two5), pl 9 (.int .i64 y1), pl 10 (.int .i64 x1), pl 11 (.int .i64 d1), pl 41 (.pointer (some (sAddr g5 d1))), pl 46 (.int .i64 (geti ([0, 1, 1, (-1)] : List Int) d1))] hF hS (by kernel_rfl) (by kernel_rfl) ?_ (fun a hF => ?_)
                            · exact obs_cons (ob_get1 (n := 4) (m := ([0, 1, 1, (-1)] : List Int)) (Value.int .i64) (0 : Int) Agg3 (fun _ hS => ⟨_, (hS.at_ 0 rfl).rd⟩) (fun _ hS => ((hS.at_ 0 rfl).len1)) (fun _ => hp3)) <| obs_nil
                            refine any_finI rfl (fun h => h) ?_
                            refine any_step [3] (by kernel_rfl) rfl ?_
                            refine (all_cons ?_ all_nil)
                            · refine any_op (listed' := #[true, true, true, true, true, true, true, true, false, false]) (by kernel_rfl) (by kernel_rfl) ?_
                              refine at_runW 1 [⟨false, [], vS (Instr.loadAt 3 (.pointer (some (sAddr g5 d1)))), .int .i64 (geti ([1, 0, 1, 1] : List Int) d1)⟩] [some (.int .i64 (geti ([1, 0, 1, 1] : List Int) d1))] [1, 2, 6, 7, 8, 9, 10, 11, 42, 46] [pl 1 (.int .i64 k1), pl 2 (.pointer (some ⟨g4, 0, none⟩)), pl 6 (.slice A2 (Int.toNat (g3.length : Int)) c2), pl 7 (.bool one5), pl 8 (.bool two5), pl 9 (.int .i64 y1), pl 10 (.int .i64 x1), pl 11 (.int .i64 d1), pl 42 (.int .i64 (geti ([1, 0, 1, 1] : List Int) d1)), pl 46 (.int .i64 (geti ([0, 1, 1, (-1)] : List Int) d1))] hF hS (by kernel_rfl) (by kernel_rfl) ?_ (fun a hF => ?_)
                              · exact obs_cons (ob_get1 (n := 4) (m := ([1, 0, 1, 1] : List Int)) (Value.int .i64) (0 : Int) Agg3 (fun _ hS => ⟨_, (hS.at_ 1 rfl).rd⟩) (fun _ hS => ((hS.at_ 1 rfl).len1)) (fun _ => hp2)) <| obs_nil
                              refine any_finI rfl (fun h => h) ?_
                              refine any_step [8] (by kernel_rfl) rfl ?_
                              refine (all_cons ?_ all_nil)
                              · refine any_op (listed' := #[true, true, true, true, true, true, true, true, true, false]) (by kernel_rfl) (by kernel_rfl) ?_
                                refine at_runW 1 [] [] [1, 2, 6, 7, 8, 9, 10, 11, 12, 46] [pl 1 (.int .i64 k1), pl 2 (.pointer (some ⟨g4, 0, none⟩)), pl 6 (.slice A2 (Int.toNat (g3.length : Int)) c2), pl 7 (.bool one5), pl 8 (.bool two5), pl 9 (.int .i64 y1), pl 10 (.int .i64 x1), pl 11 (.int .i64 d1), pl 12 (.int .i64 (geti ([1, 0, 1, 1] : List Int) d1)), pl 46 (.int .i64 (geti ([0, 1, 1, (-1)] : List Int) d1))] hF hS (by kernel_rfl) (by kernel_rfl) ?_ (fun a hF => ?_)
                                · exact obs_nil
                                refine any_finI rfl (fun h => h) ?_
                                refine any_step [9] (by kernel_rfl) rfl ?_
                                refine (all_cons ?_ all_nil)
                                · refine any_op (listed' := #[true, true, true, true, true, true, true, true, true, true]) (by kernel_rfl) (by kernel_rfl) ?_
                                  refine at_runW 1 [] [] [1, 2, 6, 7, 8, 9, 10, 11, 12, 13] [pl 1 (.int .i64 k1), pl 2 (.pointer (some ⟨g4, 0, none⟩)), pl 6 (.slice A2 (Int.toNat (g3.length : Int)) c2), pl 7 (.bool one5), pl 8 (.bool two5), pl 9 (.int .i64 y1), pl 10 (.int .i64 x1), pl 11 (.int .i64 d1), pl 12 (.int .i64 (geti ([1, 0, 1, 1] : List Int) d1)), pl 13 (.int .i64 (geti ([0, 1, 1, (-1)] : List Int) d1))] hF hS (by kernel_rfl) (by kernel_rfl) ?_ (fun a hF => ?_)
                                  · exact obs_nil
                                  refine any_finI rfl (fun h => h) ?_
                                  refine any_end (by kernel_rfl) ?_
                                  refine np_n ?_
                                  refine then_n ?_
                                  have hS := hS.pickN 4 [2, 3] (by decide)
                                  exact ⟨hF.weak [1, 2, 6, 7, 8, 9, 10, 11, 12, 13] (by kernel_rfl), hS, hm⟩
                      · refine any_op (listed' := #[true, true, false, false, true, true, true, false, false, false]) (by kernel_rfl) (by kernel_rfl) ?_
                        refine at_runW 1 [⟨true, [], vS (Instr.indexAt 22 (.slice g6 4 4) (.int .i64 d1)), .pointer (some (sAddr g6 d1))⟩] [some (.pointer (some (sAddr g6 d1)))] [1, 2, 6, 7, 8, 9, 10, 11, 39, 40, 45] [pl 1 (.int .i64 k1), pl 2 (.pointer (some ⟨g4, 0, none⟩)), pl 6 (.slice A2 (Int.toNat (g3.length : Int)) c2), pl 7 (.bool one5), pl 8 (.bool two5), pl 9 (.int .i64 y1), pl 10 (.int .i64 x1), pl 11 (.int .i64 d1), pl 39 (.slice g5 4 4), pl 40 (.int .i64 d1), pl 45 (.pointer (some (sAddr g6 d1)))] hF hS (by kernel_rfl) (by kernel_rfl) ?_ (fun a hF => ?_)
                        · exact obs_cons (ob_ix1 (f := (Value.int .i64)) (m := ([0, 1, 1, (-1)] : List Int)) Und22 hi3 hs3 (hS.at_ 0 rfl).rd ((hS.at_ 0 rfl).len1) (fun _ => hp3)) <| obs_nil
                        refine any_finI rfl (fun h => h) ?_
                        refine any_step [2, 7] (by kernel_rfl) rfl ?_
                        refine (all_cons ?_ (all_cons ?_ all_nil))
                        · refine any_op (listed' := #[true, true, true, false, true, true, true, false, false, false]) (by kernel_rfl) (by kernel_rfl) ?_
                          refine at_runW 1 [⟨true, [], vS (Instr.indexAt 22 (.slice g5 4 4) (.int .i64 d1)), .pointer (some (sAddr g5 d1))⟩] [some (.pointer (some (sAddr g5 d1)))] [1, 2, 6, 7, 8, 9, 10, 11, 41, 45] [pl 1 (.int .i64 k1), pl 2 (.pointer (some ⟨g4, 0, none⟩)), pl 6 (.slice A2 (Int.toNat (g3.length : Int)) c2), pl 7 (.bool one5), pl 8 (.bool two5), pl 9 (.int .i64 y1), pl 10 (.int .i64 x1), pl 11 (.int .i64 d1), pl 41 (.pointer (some (sAddr g5 d1))), pl 45 (.pointer (some (sAddr g6 d1)))] hF hS (by kernel_rfl) (by kernel_rfl) ?_ (fun a hF => ?_)
                          · exact obs_cons (ob_ix1 (f := (Value.int .i64)) (m := ([1, 0, 1, 1] : List Int)) Und22 hi3 hs3 (hS.at_ 1 rfl).rd ((hS.at_ 1 rfl).len1) (fun _ => hp2)) <| obs_nil
                          refine any_finI rfl (fun h => h) ?_
                          refine any_step [3, 7] (by kernel_rfl) rfl ?_
                          refine (all_cons ?_ (all_cons ?_ all_nil))
                          · refine any_op (listed' := #[true, true, true, true, true, true, true, false, false, false]) (by kernel_rfl) (by kernel_rfl) ?_
                            refine at_runW 1 [⟨false, [], vS (Instr.loadAt 3 (.pointer (some (sAddr g5 d1)))), .int .i64 (geti ([1, 0, 1, 1] : List Int) d1)⟩] [some (.int .i64 (geti ([1, 0, 1, 1] : List Int) d1))] [1, 2, 6, 7, 8, 9, 10, 11, 42, 45] [pl 1 (.int .i64 k1), pl 2 (.pointer (some ⟨g4, 0, none⟩)), pl 6 (.slice A2 (Int.toNat (g3.length : Int)) c2), pl 7 (.bool one5), pl 8 (.bool two5), pl 9 (.int .i64 y1), pl 10 (.int .i64 x1), pl 11 (.int .i64 d1), pl 42 (.int .i64 (geti ([1, 0, 1, 1] : List Int) d1)), pl 45 (.pointer (some (sAddr g6 d1)))] hF hS (by kernel_rfl) (by kernel_rfl) ?_ (fun a hF => ?_)
                            · exact obs_cons (ob_get1 (n := 4) (m := ([1, 0, 1, 1] : List Int)) (Value.int .i64) (0 : Int) Agg3 (fun _ hS => ⟨_, (hS.at_ 1 rfl).rd⟩) (fun _ hS => ((hS.at_ 1 rfl).len1)) (fun _ => hp2)) <| obs_nil
                            refine any_finI rfl (fun h => h) ?_
                            refine any_step [7, 8] (by kernel_rfl) rfl ?_
                            refine (all_cons ?_ (all_cons ?_ all_nil))
                            · refine any_op (listed' := #[true, true, true, true, true, true, true, true, false, false]) (by kernel_rfl) (by kernel_rfl) ?_
                              refine at_runW 1 [⟨false, [], vS (Instr.loadAt 3 (.pointer (some (sAddr g6 d1)))), .int .i64 (geti ([0, 1, 1, (-1)] : List Int) d1)⟩] [some (.int .i64 (geti ([0, 1, 1, (-1)] : List Int) d1))] [1, 2, 6, 7, 8, 9, 10, 11, 42, 46] [pl 1 (.int .i64 k1), pl 2 (.pointer (some ⟨g4, 0, none⟩)), pl 6 (.slice A2 (Int.toNat (g3.length : Int)) c2), pl 7 (.bool one5), pl 8 (.bool two5), pl 9 (.int .i64 y1), pl 10 (.int .i64 x1), pl 11 (.int .i64 d1), pl 42 (.int .i64 (geti ([1, 0, 1, 1] : List Int) d1)), pl 46 (.int .i64 (geti ([0, 1, 1, (-1)] : List Int) d1))] hF hS (by kernel_rfl) (by kernel_rfl) ?_ (fun a hF => ?_)
                              · exact obs_cons (ob_get1 (n := 4) (m := ([0, 1, 1, (-1)] : List Int)) (Value.int .i64) (0 : Int) Agg3 (fun _ hS => ⟨_, (hS.at_ 0 rfl).rd⟩) (fun _ hS => ((hS.at_ 0 rfl).len1)) (fun _ => hp3)) <| obs_nil
                              refine any_finI rfl (fun h => h) ?_
                              refine any_step [8] (by kernel_rfl) rfl ?_
                              refine (all_cons ?_ all_nil)
                              · refine any_op (listed' := #[true, true, true, true, true, true, true, true, true, false]) (by kernel_rfl) (by kernel_rfl) ?_
                                refine at_runW 1 [] [] [1, 2, 6, 7, 8, 9, 10, 11, 12, 46] [pl 1 (.int .i64 k1), pl 2 (.pointer (some ⟨g4, 0, none⟩)), pl 6 (.slice A2 (Int.toNat (g3.length : Int)) c2), pl 7 (.bool one5), pl 8 (.bool two5), pl 9 (.int .i64 y1), pl 10 (.int .i64 x1), pl 11 (.int .i64 d1), pl 12 (.int .i64 (geti ([1, 0, 1, 1] : List Int) d1)), pl 46 (.int .i64 (geti ([0, 1, 1, (-1)] : List Int) d1))] hF hS (by kernel_rfl) (by kernel_rfl) ?_ (fun a hF => ?_)
                                · exact obs_nil
                                refine any_finI rfl (fun h => h) ?_
                                refine any_step [9] (by kernel_rfl) rfl ?_
                                refine (all_cons ?_ all_nil)
                                · refine any_op (listed' := #[true, true, true, true, true, true, true, true, true, true]) (by kernel_rfl) (by kernel_rfl) ?_
                                  refine at_runW 1 [] [] [1, 2, 6, 7, 8, 9, 10, 11, 12, 13] [pl 1 (.int .i64 k1), pl 2 (.pointer (some ⟨g4, 0, none⟩)), pl 6 (.slice A2 (Int.toNat (g3.length : Int)) c2), pl 7 (.bool one5), pl 8 (.bool two5), pl 9 (.int .i64 y1), pl 10 (.int .i64 x1), pl 11 (.int .i64 d1), pl 12 (.int .i64 (geti ([1, 0, 1, 1] : List Int) d1)), pl 13 (.int .i64 (geti ([0, 1, 1, (-1)] : List Int) d1))] hF hS (by kernel_rfl) (by kernel_rfl) ?_ (fun a hF => ?_)
                                  · exact obs_nil
                                  refine any_finI rfl (fun h => h) ?_
                                  refine any_end (by kernel_rfl) ?_
                                  refine np_n ?_
                                  refine then_n ?_
                                  have hS := hS.pickN 4 [2, 3] (by decide)
                                  exact ⟨hF.weak [1, 2, 6, 7, 8, 9, 10, 11, 12, 13] (by kernel_rfl), hS, hm⟩
                            · refine any_op (listed' := #[true, true, true, true, true, true, true, false, true, false]) (by kernel_rfl) (by kernel_rfl) ?_
                              refine at_runW 1 [] [] [1, 2, 6, 7, 8, 9, 10, 11, 12, 45] [pl 1 (.int .i64 k1), pl 2 (.pointer (some ⟨g4, 0, none⟩)), pl 6 (.slice A2 (Int.toNat (g3.length : Int)) c2), pl 7 (.bool one5), pl 8 (.bool two5), pl 9 (.int .i64 y1), pl 10 (.int .i64 x1), pl 11 (.int .i64 d1), pl 12 (.int .i64 (geti ([1, 0, 1, 1] : List Int) d1)), pl 45 (.pointer (some (sAddr g6 d1)))] hF hS (by kernel_rfl) (by kernel_rfl) ?_ (fun a hF => ?_)
                              · exact obs_nil
                              refine any_finI rfl (fun h => h) ?_
                              refine any_step [7] (by kernel_rfl) rfl ?_
                              refine (all_cons ?_ all_nil)
                              · refine any_op (listed' := #[true, true, true, true, true, true, true, true, true, false]) (by kernel_rfl) (by kernel_rfl) ?_
                                refine at_runW 1 [⟨false, [], vS (Instr.loadAt 3 (.pointer (some (sAddr g6 d1)))), .int .i64 (geti ([0, 1, 1, (-1)] : List Int) d1)⟩] [some (.int .i64 (geti ([0, 1, 1, (-1)] : List Int) d1))] [1, 2, 6, 7, 8, 9, 10, 11, 12, 46] [pl 1 (.int .i64 k1), pl 2 (.pointer (some ⟨g4, 0, none⟩)), pl 6 (.slice A2 (Int.toNat (g3.length : Int)) c2), pl 7 (.bool one5), pl 8 (.bool two5), pl 9 (.int .i64 y1), pl 10 (.int .i64 x1), pl 11 (.int .i64 d1), pl 12 (.int .i64 (geti ([1, 0, 1, 1] : List Int) d1)), pl 46 (.int .i64 (geti ([0, 1, 1, (-1)] : List Int) d1))] hF hS (by kernel_rfl) (by kernel_rfl) ?_ (fun a hF => ?_)
                                · exact obs_cons (ob_get1 (n := 4) (m := ([0, 1, 1, (-1)] : List Int)) (Value.int .i64) (0 : Int) Agg3 (fun _ hS => ⟨_, (hS.at_ 0 rfl).rd⟩) (fun _ hS => ((hS.at_ 0 rfl).len1)) (fun _ => hp3)) <| obs_nil
                                refine any_finI rfl (fun h => h) ?_
                                refine any_step [9] (by kernel_rfl) rfl ?_
                                refine (all_cons ?_ all_nil)
                                · refine any_op (listed' := #[true, true, true, true, true, true, true, true, true, true]) (by kernel_rfl) (by kernel_rfl) ?_
                                  refine at_runW 1 [] [] [1, 2, 6, 7, 8, 9, 10, 11, 12, 13] [pl 1 (.int .i64 k1), pl 2 (.pointer (some ⟨g4, 0, none⟩)), pl 6 (.slice A2 (Int.toNat (g3.length : Int)) c2), pl 7 (.bool one5), pl 8 (.bool two5), pl 9 (.int .i64 y1), pl 10 (.int .i64 x1), pl 11 (.int .i64 d1), pl 12 (.int .i64 (geti ([1, 0, 1, 1] : List Int) d1)), pl 13 (.int .i64 (geti ([0, 1, 1, (-1)] : List Int) d1))] hF hS (by kernel_rfl) (by kernel_rfl) ?_ (fun a hF => ?_)
                                  · exact obs_nil
                                  refine any_finI rfl (fun h => h) ?_
                                  refine any_end (by kernel_rfl) ?_
                                  refine np_n ?_
                                  refine then_n ?_
                                  have hS := hS.pickN 4 [2, 3] (by decide)
                                  exact ⟨hF.weak [1, 2, 6, 7, 8, 9, 10, 11, 12, 13] (by kernel_rfl), hS, hm⟩
                          · refine any_op (listed' := #[true, true, true, false, true, true, true, true, false, false]) (by kernel_rfl) (by kernel_rfl) ?_
                            refine at_runW 1 [⟨false, [], vS (Instr.loadAt 3 (.pointer (some (sAddr g6 d1)))), .int .i64 (geti ([0, 1, 1, (-1)] : List Int) d1)⟩] [some (.int .i64 (geti ([0, 1, 1, (-1)] : List Int) d1))] [1, 2, 6, 7, 8, 9, 10, 11, 41, 46] [pl 1 (.int .i64 k1), pl 2 (.pointer (some ⟨g4, 0, none⟩)), pl 6 (.slice A2 (Int.toNat (g3.length : Int)) c2), pl 7 (.bool one5), pl 8 (.bool two5), pl 9 (.int .i64 y1), pl 10 (.int .i64 x1), pl 11 (.int .i64 d1), pl 41 (.pointer (some (sAddr g5 d1))), pl 46 (.int .i64 (geti ([0, 1, 1, (-1)] : List Int) d1))] hF hS (by kernel_rfl) (by kernel_rfl) ?_ (fun a hF => ?_)
                            · exact obs_cons (ob_get1 (n := 4) (m := ([0, 1, 1, (-1)] : List Int)) (Value.int .i64) (0 : Int) Agg3 (fun _ hS => ⟨_, (hS.at_ 0 rfl).rd⟩) (fun _ hS => ((hS.at_ 0 rfl).len1)) (fun _ => hp3)) <| obs_nil
                            refine any_finI rfl (fun h => h) ?_
                            refine any_step [3] (by kernel_rfl) rfl ?_
                            refine (all_cons ?_ all_nil)
                            · refine any_op (listed' := #[true, true, true, true, true, true, true, true, false, false]) (by kernel_rfl) (by kernel_rfl) ?_
                              refine at_runW 1 [⟨false, [], vS (Instr.loadAt 3 (.pointer (some (sAddr g5 d1)))), .int .i64 (geti ([1, 0, 1, 1] : List Int) d1)⟩] [some (.int .i64 (geti ([1, 0, 1, 1] : List Int) d1))] [1, 2, 6, 7, 8, 9, 10, 11, 42, 46] [pl 1 (.int .i64 k1), pl 2 (.pointer (some ⟨g4, 0, none⟩)), pl 6 (.slice A2 (Int.toNat (g3.length : Int)) c2), pl 7 (.bool one5), pl 8 (.bool two5), pl 9 (.int .i64 y1), pl 10 (.int .i64 x1), pl 11 (.int .i64 d1), pl 42 (.int .i64 (geti ([1, 0, 1, 1] : List Int) d1)), pl 46 (.int .i64 (geti ([0, 1, 1, (-1)] : List Int) d1))] hF hS (by kernel_rfl) (by kernel_rfl) ?_ (fun a hF => ?_)
                              · exact obs_cons (ob_get1 (n := 4) (m := ([1, 0, 1, 1] : List Int)) (Value.int .i64) (0 : Int) Agg3 (fun _ hS => ⟨_, (hS.at_ 1 rfl).rd⟩) (fun _ hS => ((hS.at_ 1 rfl).len1)) (fun _ => hp2)) <| obs_nil
                              refine any_finI rfl (fun h => h) ?_
                              refine any_step [8] (by kernel_rfl) rfl ?_
                              refine (all_cons ?_ all_nil)
                              · refine any_op (listed' := #[true, true, true, true, true, true, true, true, true, false]) (by kernel_rfl) (by kernel_rfl) ?_
                                refine at_runW 1 [] [] [1, 2, 6, 7, 8, 9, 10, 11, 12, 46] [pl 1 (.int .i64 k1), pl 2 (.pointer (some ⟨g4, 0, none⟩)), pl 6 (.slice A2 (Int.toNat (g3.length : Int)) c2), pl 7 (.bool one5), pl 8 (.bool two5), pl 9 (.int .i64 y1), pl 10 (.int .i64 x1), pl 11 (.int .i64 d1), pl 12 (.int .i64 (geti ([1, 0, 1, 1] : List Int) d1)), pl 46 (.int .i64 (geti ([0, 1, 1, (-1)] : List Int) d1))] hF hS (by kernel_rfl) (by kernel_rfl) ?_ (fun a hF => ?_)
                                · exact obs_nil
                                refine any_finI rfl (fun h => h) ?_
                                refine any_step [9] (by kernel_rfl) rfl ?_
                                refine (all_cons ?_ all_nil)
                                · refine any_op (listed' := #[true, true, true, true, true, true, true, true, true, true]) (by kernel_rfl) (by kernel_rfl) ?_
                                  refine at_runW 1 [] [] [1, 2, 6, 7, 8, 9, 10, 11, 12, 13] [pl 1 (.int .i64 k1), pl 2 (.pointer (some ⟨g4, 0, none⟩)), pl 6 (.slice A2 (Int.toNat (g3.length : Int)) c2), pl 7 (.bool one5), pl 8 (.bool two5), pl 9 (.int .i64 y1), pl 10 (.int .i64 x1), pl 11 (.int .i64 d1), pl 12 (.int .i64 (geti ([1, 0, 1, 1] : List Int) d1)), pl 13 (.int .i64 (geti ([0, 1, 1, (-1)] : List Int) d1))] hF hS (by kernel_rfl) (by kernel_rfl) ?_ (fun a hF => ?_)
                                  · exact obs_nil
                                  refine any_finI rfl (fun h => h) ?_
                                  refine any_end (by kernel_rfl) ?_
                                  refine np_n ?_
                                  refine then_n ?_
                                  have hS := hS.pickN 4 [2, 3] (by decide)
                                  exact ⟨hF.weak [1, 2, 6, 7, 8, 9, 10, 11, 12, 13] (by kernel_rfl), hS, hm⟩
                        · refine any_op (listed' := #[true, true, false, false, true, true, true, true, false, false]) (by kernel_rfl) (by kernel_rfl) ?_
                          refine at_runW 1 [⟨false, [], vS (Instr.loadAt 3 (.pointer (some (sAddr g6 d1)))), .int .i64 (geti ([0, 1, 1, (-1)] : List Int) d1)⟩] [some (.int .i64 (geti ([0, 1, 1, (-1)] : List Int) d1))] [1, 2, 6, 7, 8, 9, 10, 11, 39, 40, 46] [pl 1 (.int .i64 k1), pl 2 (.pointer (some ⟨g4, 0, none⟩)), pl 6 (.slice A2 (Int.toNat (g3.length : Int)) c2), pl 7 (.bool one5), pl 8 (.bool two5), pl 9 (.int .i64 y1), pl 10 (.int .i64 x1), pl 11 (.int .i64 d1), pl 39 (.slice g5 4 4), pl 40 (.int .i64 d1), pl 46 (.int .i64 (geti ([0, 1, 1, (-1)] : List Int) d1))] hF hS (by kernel_rfl) (by kernel_rfl) ?_ (fun a hF => ?_)
                          · exact obs_cons (ob_get1 (n := 4) (m := ([0, 1, 1, (-1)] : List Int)) (Value.int .i64) (0 : Int) Agg3 (fun _ hS => ⟨_, (hS.at_ 0 rfl).rd⟩) (fun _ hS => ((hS.at_ 0 rfl).len1)) (fun _ => hp3)) <| obs_nil
                          refine any_finI rfl (fun h => h) ?_
                          refine any_step [2] (by kernel_rfl) rfl ?_
                          refine (all_cons ?_ all_nil)
                          · refine any_op (listed' := #[true, true, true, false, true, true, true, true, false, false]) (by kernel_rfl) (by kernel_rfl) ?_
                            refine at_runW 1 [⟨true, [], vS (Instr.indexAt 22 (.slice g5 4 4) (.int .i64 d1)), .pointer (some (sAddr g5 d1))⟩] [some (.pointer (some (sAddr g5 d1)))] [1, 2, 6, 7, 8, 9, 10, 11, 41, 46] [pl 1 (.int .i64 k1), pl 2 (.pointer (some ⟨g4, 0, none⟩)), pl 6 (.slice A2 (Int.toNat (g3.length : Int)) c2), pl 7 (.bool one5), pl 8 (.bool two5), pl 9 (.int .i64 y1), pl 10 (.int .i64 x1), pl 11 (.int .i64 d1), pl 41 (.pointer (some (sAddr g5 d1))), pl 46 (.int .i64 (geti ([0, 1, 1, (-1)] : List Int) d1))] hF hS (by kernel_rfl) (by kernel_rfl) ?_ (fun a hF => ?_)
                            · exact obs_cons (ob_ix1 (f := (Value.int .i64)) (m := ([1, 0, 1, 1] : List Int)) Und22 hi3 hs3 (hS.at_ 1 rfl).rd ((hS.at_ 1 rfl).len1) (fun _ => hp2)) <| obs_nil
                            refine any_finI rfl (fun h => h) ?_
                            refine any_step [3] (by kernel_rfl) rfl ?_
                            refine (all_cons ?_ all_nil)
                            · refine any_op (listed' := #[true, true, true, true, true, true, true, true, false, false]) (by kernel_rfl) (by kernel_rfl) ?_
                              refine at_runW 1 [⟨false, [], vS (Instr.loadAt 3 (.pointer (some (sAddr g5 d1)))), .int .i64 (geti ([1, 0, 1, 1] : List Int) d1)⟩] [some (.int .i64 (geti ([1, 0, 1, 1] : List Int) d1))] [1, 2, 6, 7, 8, 9, 10, 11, 42, 46] [pl 1 (.int .i64 k1), pl 2 (.pointer (some ⟨g4, 0, none⟩)), pl 6 (.slice A2 (Int.toNat (g3.length : Int)) c2), pl 7 (.bool one5), pl 8 (.bool two5), pl 9 (.int .i64 y1), pl 10 (.int .i64 x1), pl 11 (.int .i64 d1), pl 42 (.int .i64 (geti ([1, 0, 1, 1] : List Int) d1)), pl 46 (.int .i64 (geti ([0, 1, 1, (-1)] : List Int) d1))] hF hS (by kernel_rfl) (by kernel_rfl) ?_ (fun a hF => ?_)
                              · exact obs_cons (ob_get1 (n := 4) (m := ([1, 0, 1, 1] : List Int)) (Value.int .i64) (0 : Int) Agg3 (fun _ hS => ⟨_, (hS.at_ 1 rfl).rd⟩) (fun _ hS => ((hS.at_ 1 rfl).len1)) (fun _ => hp2)) <| obs_nil
                              refine any_finI rfl (fun h => h) ?_
                              refine any_step [8] (by kernel_rfl) rfl ?_
                              refine (all_cons ?_ all_nil)
                              · refine any_op (listed' := #[true, true, true, true, true, true, true, true, true, false]) (by kernel_rfl) (by kernel_rfl) ?_
                                refine at_runW 1 [] [] [1, 2, 6, 7, 8, 9, 10, 11, 12, 46] [pl 1 (.int .i64 k1), pl 2 (.pointer (some ⟨g4, 0, none⟩)), pl 6 (.slice A2 (Int.toNat (g3.length : Int)) c2), pl 7 (.bool one5), pl 8 (.bool two5), pl 9 (.int .i64 y1), pl 10 (.int .i64 x1), pl 11 (.int .i64 d1), pl 12 (.int .i64 (geti ([1, 0, 1, 1] : List Int) d1)), pl 46 (.int .i64 (geti ([0, 1, 1, (-1)] : List Int) d1))] hF hS (by kernel_rfl) (by kernel_rfl) ?_ (fun a hF => ?_)
                                · exact obs_nil
                                refine any_finI rfl (fun h => h) ?_
                                refine any_step [9] (by kernel_rfl) rfl ?_
                                refine (all_cons ?_ all_nil)
                                · refine any_op (listed' := #[true, true, true, true, true, true, true, true, true, true]) (by kernel_rfl) (by kernel_rfl) ?_
                                  refine at_runW 1 [] [] [1, 2, 6, 7, 8, 9, 10, 11, 12, 13] [pl 1 (.int .i64 k1), pl 2 (.pointer (some ⟨g4, 0, none⟩)), pl 6 (.slice A2 (Int.toNat (g3.length : Int)) c2), pl 7 (.bool one5), pl 8 (.bool two5), pl 9 (.int .i64 y1), pl 10 (.int .i64 x1), pl 11 (.int .i64 d1), pl 12 (.int .i64 (geti ([1, 0, 1, 1] : List Int) d1)), pl 13 (.int .i64 (geti ([0, 1, 1, (-1)] : List Int) d1))] hF hS (by kernel_rfl) (by kernel_rfl) ?_ (fun a hF => ?_)
                                  · exact obs_nil
                                  refine any_finI rfl (fun h => h) ?_
                                  refine any_end (by kernel_rfl) ?_
                                  refine np_n ?_
                                  refine then_n ?_
                                  have hS := hS.pickN 4 [2, 3] (by decide)
                                  exact ⟨hF.weak [1, 2, 6, 7, 8, 9, 10, 11, 12, 13] (by kernel_rfl), hS, hm⟩
                  · refine any_op (listed' := #[false, true, false, false, true, true, false, false, false, false]) (by kernel_rfl) (by kernel_rfl) ?_
                    refine at_do (d := 43) (s := vS (Instr.buildSlice 22 4 #[(0, .int .i64 0), (1, .int .i64 1), (2, .int .i64 1), (3, .int .i64 (-1))])) (v := .slice (some ⟨w.heap.size, 0, none⟩) 4 4) (w' := w.alloc (.cells #[.int .i64 0, .int .i64 1, .int .i64 1, .int .i64 (-1)] 3)) hF (by kernel_rfl) (by kernel_rfl) (by kernel_rfl) (fun a hF => ?_)
                    have hS : Sep w0 B (w.alloc (.cells #[.int .i64 0, .int .i64 1, .int .i64 1, .int .i64 (-1)] 3)) (own 3 (.slice (some (⟨w.heap.size, 0, none⟩ : Addr)) 4 4) (vI ([0, 1, 1, (-1)] : List Int)) :: (blk g4 55 #[.int .i64 g1, .int .i64 g2, .slice A1 g3.length c1] :: own 4 (.slice A2 (Int.toNat (g3.length : Int)) c2) (vB in5) :: fs)) := hS.lit 3 #[.int .i64 0, .int .i64 1, .int .i64 1, .int .i64 (-1)] 4 rfl (by omega)
                    generalize (some (⟨w.heap.size, 0, none⟩ : Addr)) = g6 at hF hS
                    generalize w.alloc (.cells #[.int .i64 0, .int .i64 1, .int .i64 1, .int .i64 (-1)] 3) = w at hS ⊢
                    refine any_fin rfl (hS.pickN 3 [1, 2] (by decide)) ?_
                    refine any_step [0, 6] (by kernel_rfl) rfl ?_
                    refine (all_cons ?_ (all_cons ?_ all_nil))
                    · refine any_op (listed' := #[true, true, false, false, true, true, false, false, false, false]) (by kernel_rfl) (by kernel_rfl) ?_
                      refine at_do (d := 39) (s := vS (Instr.buildSlice 22 4 #[(0, .int .i64 1), (1, .int .i64 0), (2, .int .i64 1), (3, .int .i64 1)])) (v := .slice (some ⟨w.heap.size, 0, none⟩) 4 4) (w' := w.alloc (.cells #[.int .i64 1, .int .i64 0, .int .i64 1, .int .i64 1] 3)) hF (by kernel_rfl) (by kernel_rfl) (by kernel_rfl) (fun a hF => ?_)
                      have hS : Sep w0 B (w.alloc (.cells #[.int .i64 1, .int .i64 0, .int .i64 1, .int .i64 1] 3)) (own 3 (.slice (some (⟨w.heap.size, 0, none⟩ : Addr)) 4 4) (vI ([1, 0, 1, 1] : List Int)) :: (own 3 (.slice g6 4 4) (vI ([0, 1, 1, (-1)] : List Int)) :: blk g4 55 #[.int .i64 g1, .int .i64 g2, .slice A1 g3.length c1] :: own 4 (.slice A2 (Int.toNat (g3.length : Int)) c2) (vB in5) :: fs)) := hS.lit 3 #[.int .i64 1, .int .i64 0, .int .i64 1, .int .i64 1] 4 rfl (by omega)
                      generalize (some (⟨w.heap.size, 0, none⟩ : Addr)) = g5 at hF hS
                      generalize w.alloc (.cells #[.int .i64 1, .int .i64 0, .int .i64 1, .int .i64 1] 3) = w at hS ⊢
                      refine any_fin rfl (hS.pickN 4 [2, 3] (by decide)) ?_
                      refine any_step [2, 6] (by kernel_rfl) rfl ?_
                      refine (all_cons ?_ (all_cons ?_ all_nil))
                      · refine any_op (listed' := #[true, true, true, false, true, true, false, false, false, false]) (by kernel_rfl) (by kernel_rfl) ?_
                        refine at_runW 1 [⟨true, [], vS (Instr.indexAt 22 (.slice g5 4 4) (.int .i64 d1)), .pointer (some (sAddr g5 d1))⟩] [some (.pointer (some (sAddr g5 d1)))] [1, 2, 6, 7, 8, 9, 10, 11, 41, 43, 44] [pl 1 (.int .i64 k1), pl 2 (.pointer (some ⟨g4, 0, none⟩)), pl 6 (.slice A2 (Int.toNat (g3.length : Int)) c2), pl 7 (.bool one5), pl 8 (.bool two5), pl 9 (.int .i64 y1), pl 10 (.int .i64 x1), pl 11 (.int .i64 d1), pl 41 (.pointer (some (sAddr g5 d1))), pl 43 (.slice g6 4 4), pl 44 (.int .i64 d1)] hF hS (by kernel_rfl) (by kernel_rfl) ?_ (fun a hF => ?_)
                        · exact obs_cons (ob_ix1 (f := (Value.int .i64)) (m := ([1, 0, 1, 1] : List Int)) Und22 hi3 hs3 (hS.at_ 0 rfl).rd ((hS.at_ 0 rfl).len1) (fun _ => hp2)) <| obs_nil
                        refine any_finI rfl (fun h => h) ?_
                        refine any_step [3, 6] (by kernel_rfl) rfl ?_
                        refine (all_cons ?_ (all_cons ?_ all_nil))
                        · refine any_op (listed' := #[true, true, true, true, true, true, false, false, false, false]) (by kernel_rfl) (by kernel_rfl) ?_
                          refine at_runW 1 [⟨false, [], vS (Instr.loadAt 3 (.pointer (some (sAddr g5 d1)))), .int .i64 (geti ([1, 0, 1, 1] : List Int) d1)⟩] [some (.int .i64 (geti ([1, 0, 1, 1] : List Int) d1))] [1, 2, 6, 7, 8, 9, 10, 11, 42, 43, 44] [pl 1 (.int .i64 k1), pl 2 (.pointer (some ⟨g4, 0, none⟩)), pl 6 (.slice A2 (Int.toNat (g3.length : Int)) c2), pl 7 (.bool one5), pl 8 (.bool two5), pl 9 (.int .i64 y1), pl 10 (.int .i64 x1), pl 11 (.int .i64 d1), pl 42 (.int .i64 (geti ([1, 0, 1, 1] : List Int) d1)), pl 43 (.slice g6 4 4), pl 44 (.int .i64 d1)] hF hS (by kernel_rfl) (by kernel_rfl) ?_ (fun a hF => ?_)
                          · exact obs_cons (ob_get1 (n := 4) (m := ([1, 0, 1, 1] : List Int)) (Value.int .i64) (0 : Int) Agg3 (fun _ hS => ⟨_, (hS.at_ 0 rfl).rd⟩) (fun _ hS => ((hS.at_ 0 rfl).len1)) (fun _ => hp2)) <| obs_nil
                          refine any_finI rfl (fun h => h) ?_
                          refine any_step [6, 8] (by kernel_rfl) rfl ?_
                          refine (all_cons ?_ (all_cons ?_ all_nil))
                          · refine any_op (listed' := #[true, true, true, true, true, true, true, false, false, false]) (by kernel_rfl) (by kernel_rfl) ?_
                            refine at_runW 1 [⟨true, [], vS (Instr.indexAt 22 (.slice g6 4 4) (.int .i64 d1)), .pointer (some (sAddr g6 d1))⟩] [some (.pointer (some (sAddr g6 d1)))] [1, 2, 6, 7, 8, 9, 10, 11, 42, 45] [pl 1 (.int .i64 k1), pl 2 (.pointer (some ⟨g4, 0, none⟩)), pl 6 (.slice A2 (Int.toNat (g3.length : Int)) c2), pl 7 (.bool one5), pl 8 (.bool two5), pl 9 (.int .i64 y1), pl 10 (.int .i64 x1), pl 11 (.int .i64 d1), pl 42 (.int .i64 (geti ([1, 0, 1, 1] : List Int) d1)), pl 45 (.pointer (some (sAddr g6 d1)))] hF hS (by kernel_rfl) (by kernel_rfl) ?_ (fun a hF => ?_)
                            · exact obs_cons (ob_ix1 (f := (Value.int .i64)) (m := ([0, 1, 1, (-1)] : List Int)) Und22 hi3 hs3 (hS.at_ 1 rfl).rd ((hS.at_ 1 rfl).len1) (fun _ => hp3)) <| obs_nil
                            refine any_finI rfl (fun h => h) ?_
                            refine any_step [7, 8] (by kernel_rfl) rfl ?_
                            refine (all_cons ?_ (all_cons ?_ all_nil))
                            · refine any_op (listed' := #[true, true, true, true, true, true, true, true, false, false]) (by kernel_rfl) (by kernel_rfl) ?_
                              refine at_runW 1 [⟨false, [], vS (Instr.loadAt 3 (.pointer (some (sAddr g6 d1)))), .int .i64 (geti ([0, 1, 1, (-1)] : List Int) d1)⟩] [some (.int .i64 (geti ([0, 1, 1, (-1)] : List Int) d1))] [1, 2, 6, 7, 8, 9, 10, 11, 42, 46] [pl 1 (.int .i64 k1), pl 2 (.pointer (some ⟨g4, 0, none⟩)), pl 6 (.slice A2 (Int.toNat (g3.length : Int)) c2), pl 7 (.bool one5), pl 8 (.bool two5), pl 9 (.int .i64 y1), pl 10 (.int .i64 x1), pl 11 (.int .i64 d1), pl 42 (.int .i64 (geti ([1, 0, 1, 1] : List Int) d1)), pl 46 (.int .i64 (geti ([0, 1, 1, (-1)] : List Int) d1))] hF hS (by kernel_rfl) (by kernel_rfl) ?_ (fun a hF => ?_)
                              · exact obs_cons (ob_get1 (n := 4) (m := ([0, 1, 1, (-1)] : List Int)) (Value.int .i64) (0 : Int) Agg3 (fun _ hS => ⟨_, (hS.at_ 1 rfl).rd⟩) (fun _ hS => ((hS.at_ 1 rfl).len1)) (fun _ => hp3)) <| obs_nil
                              refine any_finI rfl (fun h => h) ?_
                              refine any_step [8] (by kernel_rfl) rfl ?_
                              refine (all_cons ?_ all_nil)
                              · refine any_op (listed' := #[true, true, true, true, true, true, true, true, true, false]) (by kernel_rfl) (by kernel_rfl) ?_
                                refine at_runW 1 [] [] [1, 2, 6, 7, 8, 9, 10, 11, 12, 46] [pl 1 (.int .i64 k1), pl 2 (.pointer (some ⟨g4, 0, none⟩)), pl 6 (.slice A2 (Int.toNat (g3.length : Int)) c2), pl 7 (.bool one5), pl 8 (.bool two5), pl 9 (.int .i64 y1), pl 10 (.int .i64 x1), pl 11 (.int .i64 d1), pl 12 (.int .i64 (geti ([1, 0, 1, 1] : List Int) d1)), pl 46 (.int .i64 (geti ([0, 1, 1, (-1)] : List Int) d1))] hF hS (by kernel_rfl) (by kernel_rfl) ?_ (fun a hF => ?_)
                                · exact obs_nil
                                refine any_finI rfl (fun h => h) ?_
                                refine any_step [9] (by kernel_rfl) rfl ?_
                                refine (all_cons ?_ all_nil)
                                · refine any_op (listed' := #[true, true, true, true, true, true, true, true, true, true]) (by kernel_rfl) (by kernel_rfl) ?_
                                  refine at_runW 1 [] [] [1, 2, 6, 7, 8, 9, 10, 11, 12, 13] [pl 1 (.int .i64 k1), pl 2 (.pointer (some ⟨g4, 0, none⟩)), pl 6 (.slice A2 (Int.toNat (g3.length : Int)) c2), pl 7 (.bool one5), pl 8 (.bool two5), pl 9 (.int .i64 y1), pl 10 (.int .i64 x1), pl 11 (.int .i64 d1), pl 12 (.int .i64 (geti ([1, 0, 1, 1] : List Int) d1)), pl 13 (.int .i64 (geti ([0, 1, 1, (-1)] : List Int) d1))] hF hS (by kernel_rfl) (by kernel_rfl) ?_ (fun a hF => ?_)
                                  · exact obs_nil
                                  refine any_finI rfl (fun h => h) ?_
                                  refine any_end (by kernel_rfl) ?_
                                  refine np_n ?_
                                  refine then_n ?_
                                  have hS := hS.pickN 4 [2, 3] (by decide)
                                  exact ⟨hF.weak [1, 2, 6, 7, 8, 9, 10, 11, 12, 13] (by kernel_rfl), hS, hm⟩
                            · refine any_op (listed' := #[true, true, true, true, true, true, true, false, true, false]) (by kernel_rfl) (by kernel_rfl) ?_
                              refine at_runW 1 [] [] [1, 2, 6, 7, 8, 9, 10, 11, 12, 45] [pl 1 (.int .i64 k1), pl 2 (.pointer (some ⟨g4, 0, none⟩)), pl 6 (.slice A2 (Int.toNat (g3.length : Int)) c2), pl 7 (.bool one5), pl 8 (.bool two5), pl 9 (.int .i64 y1), pl 10 (.int .i64 x1), pl 11 (.int .i64 d1), pl 12 (.int .i64 (geti ([1, 0, 1, 1] : List Int) d1)), pl 45 (.pointer (some (sAddr g6 d1)))] hF hS (by kernel_rfl) (by kernel_rfl) ?_ (fun a hF => ?_)
                              · exact obs_nil
                              refine any_finI rfl (fun h => h) ?_
                              refine any_step [7] (by kernel_rfl) rfl ?_
                              refine (all_cons ?_ all_nil)
                              · refine any_op (listed' := #[true, true, true, true, true, true, true, true, true, false]) (by kernel_rfl) (by kernel_rfl) ?_
                                refine at_runW 1 [⟨false, [], vS (Instr.loadAt 3 (.pointer (some (sAddr g6 d1)))), .int .i64 (geti ([0, 1, 1, (-1)] : List Int) d1)⟩] [some (.int .i64 (geti ([0, 1, 1, (-1)] : List Int) d1))] [1, 2, 6, 7, 8, 9, 10, 11, 12, 46] [pl 1 (.int .i64 k1), pl 2 (.pointer (some ⟨g4, 0, none⟩)), pl 6 (.slice A2 (Int.toNat (g3.length : Int)) c2), pl 7 (.bool one5), pl 8 (.bool two5), pl 9 (.int .i64 y1), pl 10 (.int .i64 x1), pl 11 (.int .i64 d1), pl 12 (.int .i64 (geti ([1, 0, 1, 1] : List Int) d1)), pl 46 (.int .i64 (geti ([0, 1, 1, (-1)] : List Int) d1))] hF hS (by kernel_rfl) (by kernel_rfl) ?_ (fun a hF => ?_)
                                · exact obs_cons (ob_get1 (n := 4) (m := ([0, 1, 1, (-1)] : List Int)) (Value.int .i64) (0 : Int) Agg3 (fun _ hS => ⟨_, (hS.at_ 1 rfl).rd⟩) (fun _ hS => ((hS.at_ 1 rfl).len1)) (fun _ => hp3)) <| obs_nil
                                refine any_finI rfl (fun h => h) ?_
                                refine any_step [9] (by kernel_rfl) rfl ?_
                                refine (all_cons ?_ all_nil)
                                · refine any_op (listed' := #[true, true, true, true, true, true, true, true, true, true]) (by kernel_rfl) (by kernel_rfl) ?_
                                  refine at_runW 1 [] [] [1, 2, 6, 7, 8, 9, 10, 11, 12, 13] [pl 1 (.int .i64 k1), pl 2 (.pointer (some ⟨g4, 0, none⟩)), pl 6 (.slice A2 (Int.toNat (g3.length : Int)) c2), pl 7 (.bool one5), pl 8 (.bool two5), pl 9 (.int .i64 y1), pl 10 (.int .i64 x1), pl 11 (.int .i64 d1), pl 12 (.int .i64 (geti ([1, 0, 1, 1] : List Int) d1)), pl 13 (.int .i64 (geti ([0, 1, 1, (-1)] : List Int) d1))] hF hS (by kernel_rfl) (by kernel_rfl) ?_ (fun a hF => ?_)
                                  · exact obs_nil
                                  refine any_finI rfl (fun h => h) ?_
                                  refine any_end (by kernel_rfl) ?_
                                  refine np_n ?_
                                  refine then_n ?_
                                  have hS := hS.pickN 4 [2, 3] (by decide)
                                  exact ⟨hF.weak [1, 2, 6, 7, 8, 9, 10, 11, 12, 13] (by kernel_rfl), hS, hm⟩
                          · refine any_op (listed' := #[true, true, true, true, true, true, false, false, true, false]) (by kernel_rfl) (by kernel_rfl) ?_
                            refine at_runW 1 [] [] [1, 2, 6, 7, 8, 9, 10, 11, 12, 43, 44] [pl 1 (.int .i64 k1), pl 2 (.pointer (some ⟨g4, 0, none⟩)), pl 6 (.slice A2 (Int.toNat (g3.length : Int)) c2), pl 7 (.bool one5), pl 8 (.bool two5), pl 9 (.int .i64 y1), pl 10 (.int .i64 x1), pl 11 (.int .i64 d1), pl 12 (.int .i64 (geti ([1, 0, 1, 1] : List Int) d1)), pl 43 (.slice g6 4 4), pl 44 (.int .i64 d1)] hF hS (by kernel_rfl) (by kernel_rfl) ?_ (fun a hF => ?_)
                            · exact obs_nil
                            refine any_finI rfl (fun h => h) ?_
                            refine any_step [6] (by kernel_rfl) rfl ?_
                            refine (all_cons ?_ all_nil)
                            · refine any_op (listed' := #[true, true, true, true, true, true, true, false, true, false]) (by kernel_rfl) (by kernel_rfl) ?_
                              refine at_runW 1 [⟨true, [], vS (Instr.indexAt 22 (.slice g6 4 4) (.int .i64 d1)), .pointer (some (sAddr g6 d1))⟩] [some (.pointer (some (sAddr g6 d1)))] [1, 2, 6, 7, 8, 9, 10, 11, 12, 45] [pl 1 (.int .i64 k1), pl 2 (.pointer (some ⟨g4, 0, none⟩)), pl 6 (.slice A2 (Int.toNat (g3.length : Int)) c2), pl 7 (.bool one5), pl 8 (.bool two5), pl 9 (.int .i64 y1), pl 10 (.int .i64 x1), pl 11 (.int .i64 d1), pl 12 (.int .i64 (geti ([1, 0, 1, 1] : List Int) d1)), pl 45 (.pointer (some (sAddr g6 d1)))] hF hS (by kernel_rfl) (by kernel_rfl) ?_ (fun a hF => ?_)
                              · exact obs_cons (ob_ix1 (f := (Value.int .i64)) (m := ([0, 1, 1, (-1)] : List Int)) Und22 hi3 hs3 (hS.at_ 1 rfl).rd ((hS.at_ 1 rfl).len1) (fun _ => hp3)) <| obs_nil
                              refine any_finI rfl (fun h => h) ?_
                              refine any_step [7] (by kernel_rfl) rfl ?_
                              refine (all_cons ?_ all_nil)
                              · refine any_op (listed' := #[true, true, true, true, true, true, true, true, true, false]) (by kernel_rfl) (by kernel_rfl) ?_
                                refine at_runW 1 [⟨false, [], vS (Instr.loadAt 3 (.pointer (some (sAddr g6 d1)))), .int .i64 (geti ([0, 1, 1, (-1)] : List Int) d1)⟩] [some (.int .i64 (geti ([0, 1, 1, (-1)] : List Int) d1))] [1, 2, 6, 7, 8, 9, 10, 11, 12, 46] [pl 1 (.int .i64 k1), pl 2 (.pointer (some ⟨g4, 0, none⟩)), pl 6 (.slice A2 (Int.toNat (g3.length : Int)) c2), pl 7 (.bool one5), pl 8 (.bool two5), pl 9 (.int .i64 y1), pl 10 (.int .i64 x1), pl 11 (.int .i64 d1), pl 12 (.int .i64 (geti ([1, 0, 1, 1] : List Int) d1)), pl 46 (.int .i64 (geti ([0, 1, 1, (-1)] : List Int) d1))] hF hS (by kernel_rfl) (by kernel_rfl) ?_ (fun a hF => ?_)
                                · exact obs_cons (ob_get1 (n := 4) (m := ([0, 1, 1, (-1)] : List Int)) (Value.int .i64) (0 : Int) Agg3 (fun _ hS => ⟨_, (hS.at_ 1 rfl).rd⟩) (fun _ hS => ((hS.at_ 1 rfl).len1)) (fun _ => hp3)) <| obs_nil
                                refine any_finI rfl (fun h => h) ?_
                                refine any_step [9] (by kernel_rfl) rfl ?_
                                refine (all_cons ?_ all_nil)
                                · refine any_op (listed' := #[true, true, true, true, true, true, true, true, true, true]) (by kernel_rfl) (by kernel_rfl) ?_
                                  refine at_runW 1 [] [] [1, 2, 6, 7, 8, 9, 10, 11, 12, 13] [pl 1 (.int .i64 k1), pl 2 (.pointer (some ⟨g4, 0, none⟩)), pl 6 (.slice A2 (Int.toNat (g3.length : Int)) c2), pl 7 (.bool one5), pl 8 (.bool two5), pl 9 (.int .i64 y1), pl 10 (.int .i64 x1), pl 11 (.int .i64 d1), pl 12 (.int .i64 (geti ([1, 0, 1, 1] : List Int) d1)), pl 13 (.int .i64 (geti ([0, 1, 1, (-1)] : List Int) d1))] hF hS (by kernel_rfl) (by kernel_rfl) ?_ (fun a hF => ?_)
                                  · exact obs_nil
                                  refine any_finI rfl (fun h => h) ?_
                                  refine any_end (by kernel_rfl) ?_
                                  refine np_n ?_
                                  refine then_n ?_
                                  have hS := hS.pickN 4 [2, 3] (by decide)
                                  exact ⟨hF.weak [1, 2, 6, 7, 8, 9, 10, 11, 12, 13] (by kernel_rfl), hS, hm⟩
                        · refine any_op (listed' := #[true, true, true, false, true, true, true, false, false, false]) (by kernel_rfl) (by kernel_rfl) ?_
                          refine at_runW 1 [⟨true, [], vS (Instr.indexAt 22 (.slice g6 4 4) (.int .i64 d1)), .pointer (some (sAddr g6 d1))⟩] [some (.pointer (some (sAddr g6 d1)))] [1, 2, 6, 7, 8, 9, 10, 11, 41, 45] [pl 1 (.int .i64 k1), pl 2 (.pointer (some ⟨g4, 0, none⟩)), pl 6 (.slice A2 (Int.toNat (g3.length : Int)) c2), pl 7 (.bool one5), pl 8 (.bool two5), pl 9 (.int .i64 y1), pl 10 (.int .i64 x1), pl 11 (.int .i64 d1), pl 41 (.pointer (some (sAddr g5 d1))), pl 45 (.pointer (some (sAddr g6 d1)))] hF hS (by kernel_rfl) (by kernel_rfl) ?_ (fun a hF => ?_)
                          · exact obs_cons (ob_ix1 (f := (Value.int .i64)) (m := ([0, 1, 1, (-1)] : List Int)) Und22 hi3 hs3 (hS.at_ 1 rfl).rd ((hS.at_ 1 rfl).len1) (fun _ => hp3)) <| obs_nil
                          refine any_finI rfl (fun h => h) ?_
                          refine any_step [3, 7] (by kernel_rfl) rfl ?_
                          refine (all_cons ?_ (all_cons ?_ all_nil))
                          · refine any_op (listed' := #[true, true, true, true, true, true, true, false, false, false]) (by kernel_rfl) (by kernel_rfl) ?_
                            refine at_runW 1 [⟨false, [], vS (Instr.loadAt 3 (.pointer (some (sAddr g5 d1)))), .int .i64 (geti ([1, 0, 1, 1] : List Int) d1)⟩] [some (.int .i64 (geti ([1, 0, 1, 1] : List Int) d1))] [1, 2, 6, 7, 8, 9, 10, 11, 42, 45] [pl 1 (.int .i64 k1), pl 2 (.pointer (some ⟨g4, 0, none⟩)), pl 6 (.slice A2 (Int.toNat (g3.length : Int)) c2), pl 7 (.bool one5), pl 8 (.bool two5), pl 9 (.int .i64 y1), pl 10 (.int .i64 x1), pl 11 (.int .i64 d1), pl 42 (.int .i64 (geti ([1, 0, 1, 1] : List Int) d1)), pl 45 (.pointer (some (sAddr g6 d1)))] hF hS (by kernel_rfl) (by kernel_rfl) ?_ (fun a hF => ?_)
                            · exact obs_cons (ob_get1 (n := 4) (m := ([1, 0, 1, 1] : List Int)) (Value.int .i64) (0 : Int) Agg3 (fun _ hS => ⟨_, (hS.at_ 0 rfl).rd⟩) (fun _ hS => ((hS.at_ 0 rfl).len1)) (fun _ => hp2)) <| obs_nil
                            refine any_finI rfl (fun h => h) ?_
                            refine any_step [7, 8] (by kernel_rfl) rfl ?_
                            refine (all_cons ?_ (all_cons ?_ all_nil))
                            · refine any_op (listed' := #[true, true, true, true, true, true, true, true, false, false]) (by kernel_rfl) (by kernel_rfl) ?_
                              refine at_runW 1 [⟨false, [], vS (Instr.loadAt 3 (.pointer (some (sAddr g6 d1)))), .int .i64 (geti ([0, 1, 1, (-1)] : List Int) d1)⟩] [some (.int .i64 (geti ([0, 1, 1, (-1)] : List Int) d1))] [1, 2, 6, 7, 8, 9, 10, 11, 42, 46] [pl 1 (.int .i64 k1), pl 2 (.pointer (some ⟨g4, 0, none⟩)), pl 6 (.slice A2 (Int.toNat (g3.length : Int)) c2), pl 7 (.bool one5), pl 8 (.bool two5), pl 9 (.int .i64 y1), pl 10 (.int .i64 x1), pl 11 (.int .i64 d1), pl 42 (.int .i64 (geti ([1, 0, 1, 1] : List Int) d1)), pl 46 (.int .i64 (geti ([0, 1, 1, (-1)] : List Int) d1))] hF hS (by kernel_rfl) (by kernel_rfl) ?_ (fun a hF => ?_)
                              · exact obs_cons (ob_get1 (n := 4) (m := ([0, 1, 1, (-1)] : List Int)) (Value.int .i64) (0 : Int) Agg3 (fun _ hS => ⟨_, (hS.at_ 1 rfl).rd⟩) (fun _ hS => ((hS.at_ 1 rfl).len1)) (fun _ => hp3)) <| obs_nil
                              refine any_finI rfl (fun h => h) ?_
                              refine any_step [8] (by kernel_rfl) rfl ?_
                              refine (all_cons ?_ all_nil)
                              · refine any_op (listed' := #[true, true, true, true, true, true, true, true, true, false]) (by kernel_rfl) (by kernel_rfl) ?_
                                refine at_runW 1 [] [] [1, 2, 6, 7, 8, 9, 10, 11, 12, 46] [pl 1 (.int .i64 k1), pl 2 (.pointer (some ⟨g4, 0, none⟩)), pl 6 (.slice A2 (Int.toNat (g3.length : Int)) c2), pl 7 (.bool one5), pl 8 (.bool two5), pl 9 (.int .i64 y1), pl 10 (.int .i64 x1), pl 11 (.int .i64 d1), pl 12 (.int .i64 (geti ([1, 0, 1, 1] : List Int) d1)), pl 46 (.int .i64 (geti ([0, 1, 1, (-1)] : List Int) d1))] hF hS (by kernel_rfl) (by kernel_rfl) ?_ (fun a hF => ?_)
                                · exact obs_nil
                                refine any_finI rfl (fun h => h) ?_
                                refine any_step [9] (by kernel_rfl) rfl ?_
                                refine (all_cons ?_ all_nil)
                                · refine any_op (listed' := #[true, true, true, true, true, true, true, true, true, true]) (by kernel_rfl) (by kernel_rfl) ?_
                                  refine at_runW 1 [] [] [1, 2, 6, 7, 8, 9, 10, 11, 12, 13] [pl 1 (.int .i64 k1), pl 2 (.pointer (some ⟨g4, 0, none⟩)), pl 6 (.slice A2 (Int.toNat (g3.length : Int)) c2), pl 7 (.bool one5), pl 8 (.bool two5), pl 9 (.int .i64 y1), pl 10 (.int .i64 x1), pl 11 (.int .i64 d1), pl 12 (.int .i64 (geti ([1, 0, 1, 1] : List Int) d1)), pl 13 (.int .i64 (geti ([0, 1, 1, (-1)] : List Int) d1))] hF hS (by kernel_rfl) (by kernel_rfl) ?_ (fun a hF => ?_)
                                  · exact obs_nil
                                  refine any_finI rfl (fun h => h) ?_
                                  refine any_end (by kernel_rfl) ?_
                                  refine np_n ?_
                                  refine then_n ?_
                                  have hS := hS.pickN 4 [2, 3] (by decide)
                                  exact ⟨hF.weak [1, 2, 6, 7, 8, 9, 10, 11, 12, 13] (by kernel_rfl), hS, hm⟩
                            · refine any_op (listed' := #[true, true, true, true, true, true, true, false, true, false]) (by kernel_rfl) (by kernel_rfl) ?_
                              refine at_runW 1 [] [] [1, 2, 6, 7, 8, 9, 10, 11, 12, 45] [pl 1 (.int .i64 k1), pl 2 (.pointer (some ⟨g4, 0, none⟩)), pl 6 (.slice A2 (Int.toNat (g3.length : Int)) c2), pl 7 (.bool one5), pl 8 (.bool two5), pl 9 (.int .i64 y1), pl 10 (.int .i64 x1), pl 11 (.int .i64 d1), pl 12 (.int .i64 (geti ([1, 0, 1, 1] : List Int) d1)), pl 45 (.pointer (some (sAddr g6 d1)))] hF hS (by kernel_rfl) (by kernel_rfl) ?_ (fun a hF => ?_)
                              · exact obs_nil
                              refine any_finI rfl (fun h => h) ?_
                              refine any_step [7] (by kernel_rfl) rfl ?_
                              refine (all_cons ?_ all_nil)
                              · refine any_op (listed' := #[true, true, true, true, true, true, true, true, true, false]) (by kernel_rfl) (by kernel_rfl) ?_
                                refine at_runW 1 [⟨false, [], vS (Instr.loadAt 3 (.pointer (some (sAddr g6 d1)))), .int .i64 (geti ([0, 1, 1, (-1)] : List Int) d1)⟩] [some (.int .i64 (geti ([0, 1, 1, (-1)] : List Int) d1))] [1, 2, 6, 7, 8, 9, 10, 11, 12, 46] [pl 1 (.int .i64 k1), pl 2 (.pointer (some ⟨g4, 0, none⟩)), pl 6 (.slice A2 (Int.toNat (g3.length : Int)) c2), pl 7 (.bool one5), pl 8 (.bool two5), pl 9 (.int .i64 y1), pl 10 (.int .i64 x1), pl 11 (.int .i64 d1), pl 12 (.int .i64 (geti ([1, 0, 1, 1] : List Int) d1)), pl 46 (.int .i64 (geti ([0, 1, 1, (-1)] : List Int) d1))] hF hS (by kernel_rfl) (by kernel_rfl) ?_ (fun a hF => ?_)
                                · exact obs_cons (ob_get1 (n := 4) (m := ([0, 1, 1, (-1)] : List Int)) (Value.int .i64) (0 : Int) Agg3 (fun _ hS => ⟨_, (hS.at_ 1 rfl).rd⟩) (fun _ hS => ((hS.at_ 1 rfl).len1)) (fun _ => hp3)) <| obs_nil
                                refine any_finI rfl (fun h => h) ?_
                                refine any_step [9] (by kernel_rfl) rfl ?_
                                refine (all_cons ?_ all_nil)
                                · refine any_op (listed' := #[true, true, true, true, true, true, true, true, true, true]) (by kernel_rfl) (by kernel_rfl) ?_
                                  refine at_runW 1 [] [] [1, 2, 6, 7, 8, 9, 10, 11, 12, 13] [pl 1 (.int .i64 k1), pl 2 (.pointer (some ⟨g4, 0, none⟩)), pl 6 (.slice A2 (Int.toNat (g3.length : Int)) c2), pl 7 (.bool one5), pl 8 (.bool two5), pl 9 (.int .i64 y1), pl 10 (.int .i64 x1), pl 11 (.int .i64 d1), pl 12 (.int .i64 (geti ([1, 0, 1, 1] : List Int) d1)), pl 13 (.int .i64 (geti ([0, 1, 1, (-1)] : List Int) d1))] hF hS (by kernel_rfl) (by kernel_rfl) ?_ (fun a hF => ?_)
                                  · exact obs_nil
                                  refine any_finI rfl (fun h => h) ?_
                                  refine any_end (by kernel_rfl) ?_
                                  refine np_n ?_
                                  refine then_n ?_
                                  have hS := hS.pickN 4 [2, 3] (by decide)
                                  exact ⟨hF.weak [1, 2, 6, 7, 8, 9, 10, 11, 12, 13] (by kernel_rfl), hS, hm⟩
                          · refine any_op (listed' := #[true, true, true, false, true, true, true, true, false, false]) (by kernel_rfl) (by kernel_rfl) ?_
                            refine at_runW 1 [⟨false, [], vS (Instr.loadAt 3 (.pointer (some (sAddr g6 d1)))), .int .i64 (geti ([0, 1, 1, (-1)] : List Int) d1)⟩] [some (.int .i64 (geti ([0, 1, 1, (-1)] : List Int) d1))] [1, 2, 6, 7, 8, 9, 10, 11, 41, 46] [pl 1 (.int .i64 k1), pl 2 (.pointer (some ⟨g4, 0, none⟩)), pl 6 (.slice A2 (Int.toNat (g3.length : Int)) c2), pl 7 (.bool one5), pl 8 (.bool two5), pl 9 (.int .i64 y1), pl 10 (.int .i64 x1), pl 11 (.int .i64 d1), pl 41 (.pointer (some (sAddr g5 d1))), pl 46 (.int .i64 (geti ([0, 1, 1, (-1)] : List Int) d1))] hF hS (by kernel_rfl) (by kernel_rfl) ?_ (fun a hF => ?_)
                            · exact obs_cons (ob_get1 (n := 4) (m := ([0, 1, 1, (-1)] : List Int)) (Value.int .i64) (0 : Int) Agg3 (fun _ hS => ⟨_, (hS.at_ 1 rfl).rd⟩) (fun _ hS => ((hS.at_ 1 rfl).len1)) (fun _ => hp3)) <| obs_nil
                            refine any_finI rfl (fun h => h) ?_
                            refine any_step [3] (by kernel_rfl) rfl ?_
                            refine (all_cons ?_ all_nil)
                            · refine any_op (listed' := #[true, true, true, true, true, true, true, true, false, false]) (by kernel_rfl) (by kernel_rfl) ?_
                              refine at_runW 1 [⟨false, [], vS (Instr.loadAt 3 (.pointer (some (sAddr g5 d1)))), .int .i64 (geti ([1, 0, 1, 1] : List Int) d1)⟩] [some (.int .i64 (geti ([1, 0, 1, 1] : List Int) d1))] [1, 2, 6, 7, 8, 9, 10, 11, 42, 46] [pl 1 (.int .i64 k1), pl 2 (.pointer (some ⟨g4, 0, none⟩)), pl 6 (.slice A2 (Int.toNat (g3.length : Int)) c2), pl 7 (.bool one5), pl 8 (.bool two5), pl 9 (.int .i64 y1), pl 10 (.int .i64 x1), pl 11 (.int .i64 d1), pl 42 (.int .i64 (geti ([1, 0, 1, 1] : List Int) d1)), pl 46 (.int .i64 (geti ([0, 1, 1, (-1)] : List Int) d1))] hF hS (by kernel_rfl) (by kernel_rfl) ?_ (fun a hF => ?_)
                              · exact obs_cons (ob_get1 (n := 4) (m := ([1, 0, 1, 1] : List Int)) (Value.int .i64) (0 : Int) Agg3 (fun _ hS => ⟨_, (hS.at_ 0 rfl).rd⟩) (fun _ hS => ((hS.at_ 0 rfl).len1)) (fun _ => hp2)) <| obs_nil
                              refine any_finI rfl (fun h => h) ?_
                              refine any_step [8] (by kernel_rfl) rfl ?_
                              refine (all_cons ?_ all_nil)
                              · refine any_op (listed' := #[true, true, true, true, true, true, true, true, true, false]) (by kernel_rfl) (by kernel_rfl) ?_
                                refine at_runW 1 [] [] [1, 2, 6, 7, 8, 9, 10, 11, 12, 46] [pl 1 (.int .i64 k1), pl 2 (.pointer (some ⟨g4, 0, none⟩)), pl 6 (.slice A2 (Int.toNat (g3.length : Int)) c2), pl 7 (.bool one5), pl 8 (.bool two5), pl 9 (.int .i64 y1), pl 10 (.int .i64 x1), pl 11 (.int .i64 d1), pl 12 (.int .i64 (geti ([1, 0, 1, 1] : List Int) d1)), pl 46 (.int .i64 (geti ([0, 1, 1, (-1)] : List Int) d1))] hF hS (by kernel_rfl) (by kernel_rfl) ?_ (fun a hF => ?_)
                                · exact obs_nil
                                refine any_finI rfl (fun h => h) ?_
                                refine any_step [9] (by kernel_rfl) rfl ?_
                                refine (all_cons ?_ all_nil)
                                · refine any_op (listed' := #[true, true, true, true, true, true, true, true, true, true]) (by kernel_rfl) (by kernel_rfl) ?_
                                  refine at_runW 1 [] [] [1, 2, 6, 7, 8, 9, 10, 11, 12, 13] [pl 1 (.int .i64 k1), pl 2 (.pointer (some ⟨g4, 0, none⟩)), pl 6 (.slice A2 (Int.toNat (g3.length : Int)) c2), pl 7 (.bool one5), pl 8 (.bool two5), pl 9 (.int .i64 y1), pl 10 (.int .i64 x1), pl 11 (.int .i64 d1), pl 12 (.int .i64 (geti ([1, 0, 1, 1] : List Int) d1)), pl 13 (.int .i64 (geti ([0, 1, 1, (-1)] : List Int) d1))] hF hS (by kernel_rfl) (by kernel_rfl) ?_ (fun a hF => ?_)
                                  · exact obs_nil
                                  refine any_finI rfl (fun h => h) ?_
                                  refine any_end (by kernel_rfl) ?_
                                  refine np_n ?_
                                  refine then_n ?_
                                  have hS := hS.pickN 4 [2, 3] (by decide)
                                  exact ⟨hF.weak [1, 2, 6, 7, 8, 9, 10, 11, 12, 13] (by kernel_rfl), hS, hm⟩
                      · refine any_op (listed' := #[true, true, false, false, true, true, true, false, false, false]) (by kernel_rfl) (by kernel_rfl) ?_
                        refine at_runW 1 [⟨true, [], vS (Instr.indexAt 22 (.slice g6 4 4) (.int .i64 d1)), .pointer (some (sAddr g6 d1))⟩] [some (.pointer (some (sAddr g6 d1)))] [1, 2, 6, 7, 8, 9, 10, 11, 39, 40, 45] [pl 1 (.int .i64 k1), pl 2 (.pointer (some ⟨g4, 0, none⟩)), pl 6 (.slice A2 (Int.toNat (g3.length : Int)) c2), pl 7 (.bool one5), pl 8 (.bool two5), pl 9 (.int .i64 y1), pl 10 (.int .i64 x1), pl 11 (.int .i64 d1), pl 39 (.slice g5 4 4), pl 40 (.int .i64 d1), pl 45 (.pointer (some (sAddr g6 d1)))] hF hS (by kernel_rfl) (by kernel_rfl) ?_ (fun a hF => ?_)
                        · exact obs_cons (ob_ix1 (f := (Value.int .i64)) (m := ([0, 1, 1, (-1)] : List Int)) Und22 hi3 hs3 (hS.at_ 1 rfl).rd ((hS.at_ 1 rfl).len1) (fun _ => hp3)) <| obs_nil
                        refine any_finI rfl (fun h => h) ?_
                        refine any_step [2, 7] (by kernel_rfl) rfl ?_
                        refine (all_cons ?_ (all_cons ?_ all_nil))
                        · refine any_op (listed' := #[true, true, true, false, true, true, true, false, false, false]) (by kernel_rfl) (by kernel_rfl) ?_
                          refine at_runW 1 [⟨true, [], vS (Instr.indexAt 22 (.slice g5 4 4) (.int .i64 d1)), .pointer (some (sAddr g5 d1))⟩] [some (.pointer (some (sAddr g5 d1)))] [1, 2, 6, 7, 8, 9, 10, 11, 41, 45] [pl 1 (.int .i64 k1), pl 2 (.pointer (some ⟨g4, 0, none⟩)), pl 6 (.slice A2 (Int.toNat (g3.length : Int)) c2), pl 7 (.bool one5), pl 8 (.bool two5), pl 9 (.int .i64 y1), pl 10 (.int .i64 x1), pl 11 (.int .i64 d1), pl 41 (.pointer (some (sAddr g5 d1))), pl 45 (.pointer (some (sAddr g6 d1)))] hF hS (by kernel_rfl) (by kernel_rfl) ?_ (fun a hF => ?_)
                          · exact obs_cons (ob_ix1 (f := (Value.int .i64)) (m := ([1, 0, 1, 1] : List Int)) Und22 hi3 hs3 (hS.at_ 0 rfl).rd ((hS.at_ 0 rfl).len1) (fun _ => hp2)) <| obs_nil
                          refine any_finI rfl (fun h => h) ?_
                          refine any_step [3, 7] (by kernel_rfl) rfl ?_
                          refine (all_cons ?_ (all_cons ?_ all_nil))
                          · refine any_op (listed' := #[true, true, true, true, true, true, true, false, false, false]) (by kernel_rfl) (by kernel_rfl) ?_
                            refine at_runW 1 [⟨false, [], vS (Instr.loadAt 3 (.pointer (some (sAddr g5 d1)))), .int .i64 (geti ([1, 0, 1, 1] : List Int) d1)⟩] [some (.int .i64 (geti ([1, 0, 1, 1] : List Int) d1))] [1, 2, 6, 7, 8, 9, 10, 11, 42, 45] [pl 1 (.int .i64 k1), pl 2 (.pointer (some ⟨g4, 0, none⟩)), pl 6 (.slice A2 (Int.toNat (g3.length : Int)) c2), pl 7 (.bool one5), pl 8 (.bool two5), pl 9 (.int .i64 y1), pl 10 (.int .i64 x1), pl 11 (.int .i64 d1), pl 42 (.int .i64 (geti ([1, 0, 1, 1] : List Int) d1)), pl 45 (.pointer (some (sAddr g6 d1)))] hF hS (by kernel_rfl) (by kernel_rfl) ?_ (fun a hF => ?_)
                            · exact obs_cons (ob_get1 (n := 4) (m := ([1, 0, 1, 1] : List Int)) (Value.int .i64) (0 : Int) Agg3 (fun _ hS => ⟨_, (hS.at_ 0 rfl).rd⟩) (fun _ hS => ((hS.at_ 0 rfl).len1)) (fun _ => hp2)) <| obs_nil
                            refine any_finI rfl (fun h => h) ?_
                            refine any_step [7, 8] (by kernel_rfl) rfl ?_
                            refine (all_cons ?_ (all_cons ?_ all_nil))
                            · refine any_op (listed' := #[true, true, true, true, true, true, true, true, false, false]) (by kernel_rfl) (by kernel_rfl) ?_
                              refine at_runW 1 [⟨false, [], vS (Instr.loadAt 3 (.pointer (some (sAddr g6 d1)))), .int .i64 (geti ([0, 1, 1, (-1)] : List Int) d1)⟩] [some (.int .i64 (geti ([0, 1, 1, (-1)] : List Int) d1))] [1, 2, 6, 7, 8, 9, 10, 11, 42, 46] [pl 1 (.int .i64 k1), pl 2 (.pointer (some ⟨g4, 0, none⟩)), pl 6 (.slice A2 (Int.toNat (g3.length : Int)) c2), pl 7 (.bool one5), pl 8 (.bool two5), pl 9 (.int .i64 y1), pl 10 (.int .i64 x1), pl 11 (.int .i64 d1), pl 42 (.int .i64 (geti ([1, 0, 1, 1] : List Int) d1)), pl 46 (.int .i64 (geti ([0, 1, 1, (-1)] : List Int) d1))] hF hS (by kernel_rfl) (by kernel_rfl) ?_ (fun a hF => ?_)
                              · exact obs_cons (ob_get1 (n := 4) (m := ([0, 1, 1, (-1)] : List Int)) (Value.int .i64) (0 : Int) Agg3 (fun _ hS => ⟨_, (hS.at_ 1 rfl).rd⟩) (fun _ hS => ((hS.at_ 1 rfl).len1)) (fun _ => hp3)) <| obs_nil
                              refine any_finI rfl (fun h => h) ?_
                              refine any_step [8] (by kernel_rfl) rfl ?_
                              refine (all_cons ?_ all_nil)
                              · refine any_op (listed' := #[true, true, true, true, true, true, true, true, true, false]) (by kernel_rfl) (by kernel_rfl) ?_
                                refine at_runW 1 [] [] [1, 2, 6, 7, 8, 9, 10, 11, 12, 46] [pl 1 (.int .i64 k1), pl 2 (.pointer (some ⟨g4, 0, none⟩)), pl 6 (.slice A2 (Int.toNat (g3.length : Int)) c2), pl 7 (.bool one5), pl 8 (.bool two5), pl 9 (.int .i64 y1), pl 10 (.int .i64 x1), pl 11 (.int .i64 d1), pl 12 (.int .i64 (geti ([1, 0, 1, 1] : List Int) d1)), pl 46 (.int .i64 (geti ([0, 1, 1, (-1)] : List Int) d1))] hF hS (by kernel_rfl) (by kernel_rfl) ?_ (fun a hF => ?_)
                                · exact obs_nil
                                refine any_finI rfl (fun h => h) ?_
                                refine any_step [9] (by kernel_rfl) rfl ?_
                                refine (all_cons ?_ all_nil)
                                · refine any_op (listed' := #[true, true, true, true, true, true, true, true, true, true]) (by kernel_rfl) (by kernel_rfl) ?_
                                  refine at_runW 1 [] [] [1, 2, 6, 7, 8, 9, 10, 11, 12, 13] [pl 1 (.int .i64 k1), pl 2 (.pointer (some ⟨g4, 0, none⟩)), pl 6 (.slice A2 (Int.toNat (g3.length : Int)) c2), pl 7 (.bool one5), pl 8 (.bool two5), pl 9 (.int .i64 y1), pl 10 (.int .i64 x1), pl 11 (.int .i64 d1), pl 12 (.int .i64 (geti ([1, 0, 1, 1] : List Int) d1)), pl 13 (.int .i64 (geti ([0, 1, 1, (-1)] : List Int) d1))] hF hS (by kernel_rfl) (by kernel_rfl) ?_ (fun a hF => ?_)
                                  · exact obs_nil
                                  refine any_finI rfl (fun h => h) ?_
                                  refine any_end (by kernel_rfl) ?_
                                  refine np_n ?_
                                  refine then_n ?_
                                  have hS := hS.pickN 4 [2, 3] (by decide)
                                  exact ⟨hF.weak [1, 2, 6, 7, 8, 9, 10, 11, 12, 13] (by kernel_rfl), hS, hm⟩
                            · refine any_op (listed' := #[true, true, true, true, true, true, true, false, true, false]) (by kernel_rfl) (by kernel_rfl) ?_
                              refine at_runW 1 [] [] [1, 2, 6, 7, 8, 9, 10, 11, 12, 45] [pl 1 (.int .i64 k1), pl 2 (.pointer (some ⟨g4, 0, none⟩)), pl 6 (.slice A2 (Int.toNat (g3.length : Int)) c2), pl 7 (.bool one5), pl 8 (.bool two5), pl 9 (.int .i64 y1), pl 10 (.int .i64 x1), pl 11 (.int .i64 d1), pl 12 (.int .i64 (geti ([1, 0, 1, 1] : List Int) d1)), pl 45 (.pointer (some (sAddr g6 d1)))] hF hS (by kernel_rfl) (by kernel_rfl) ?_ (fun a hF => ?_)
                              · exact obs_nil
                              refine any_finI rfl (fun h => h) ?_
                              refine any_step [7] (by kernel_rfl) rfl ?_
                              refine (all_cons ?_ all_nil)
                              · refine any_op (listed' := #[true, true, true, true, true, true, true, true, true, false]) (by kernel_rfl) (by kernel_rfl) ?_
                                refine at_runW 1 [⟨false, [], vS (Instr.loadAt 3 (.pointer (some (sAddr g6 d1)))), .int .i64 (geti ([0, 1, 1, (-1)] : List Int) d1)⟩] [some (.int .i64 (geti ([0, 1, 1, (-1)] : List Int) d1))] [1, 2, 6, 7, 8, 9, 10, 11, 12, 46] [pl 1 (.int .i64 k1), pl 2 (.pointer (some ⟨g4, 0, none⟩)), pl 6 (.slice A2 (Int.toNat (g3.length : Int)) c2), pl 7 (.bool one5), pl 8 (.bool two5), pl 9 (.int .i64 y1), pl 10 (.int .i64 x1), pl 11 (.int .i64 d1), pl 12 (.int .i64 (geti ([1, 0, 1, 1] : List Int) d1)), pl 46 (.int .i64 (geti ([0, 1, 1, (-1)] : List Int) d1))] hF hS (by kernel_rfl) (by kernel_rfl) ?_ (fun a hF => ?_)
                                · exact obs_cons (ob_get1 (n := 4) (m := ([0, 1, 1, (-1)] : List Int)) (Value.int .i64) (0 : Int) Agg3 (fun _ hS => ⟨_, (hS.at_ 1 rfl).rd⟩) (fun _ hS => ((hS.at_ 1 rfl).len1)) (fun _ => hp3)) <| obs_nil
                                refine any_finI rfl (fun h => h) ?_
                                refine any_step [9] (by kernel_rfl) rfl ?_
                                refine (all_cons ?_ all_nil)
                                · refine any_op (listed' := #[true, true, true, true, true, true, true, true, true, true]) (by kernel_rfl) (by kernel_rfl) ?_
                                  refine at_runW 1 [] [] [1, 2, 6, 7, 8, 9, 10, 11, 12, 13] [pl 1 (.int .i64 k1), pl 2 (.pointer (some ⟨g4, 0, none⟩)), pl 6 (.slice A2 (Int.toNat (g3.length : Int)) c2), pl 7 (.bool one5), pl 8 (.bool two5), pl 9 (.int .i64 y1), pl 10 (.int .i64 x1), pl 11 (.int .i64 d1), pl 12 (.int .i64 (geti ([1, 0, 1, 1] : List Int) d1)), pl 13 (.int .i64 (geti ([0, 1, 1, (-1)] : List Int) d1))] hF hS (by kernel_rfl) (by kernel_rfl) ?_ (fun a hF => ?_)
                                  · exact obs_nil
                                  refine any_finI rfl (fun h => h) ?_
                                  refine any_end (by kernel_rfl) ?_
                                  refine np_n ?_
                                  refine then_n ?_
                                  have hS := hS.pickN 4 [2, 3] (by decide)
                                  exact ⟨hF.weak [1, 2, 6, 7, 8, 9, 10, 11, 12, 13] (by kernel_rfl), hS, hm⟩
                          · refine any_op (listed' := #[true, true, true, false, true, true, true, true, false, false]) (by kernel_rfl) (by kernel_rfl) ?_
                            refine at_runW 1 [⟨false, [], vS (Instr.loadAt 3 (.pointer (some (sAddr g6 d1)))), .int .i64 (geti ([0, 1, 1, (-1)] : List Int) d1)⟩] [some (.int .i64 (geti ([0, 1, 1, (-1)] : List Int) d1))] [1, 2, 6, 7, 8, 9, 10, 11, 41, 46] [pl 1 (.int .i64 k1), pl 2 (.pointer (some ⟨g4, 0, none⟩)), pl 6 (.slice A2 (Int.toNat (g3.length : Int)) c2), pl 7 (.bool one5), pl 8 (.bool two5), pl 9 (.int .i64 y1), pl 10 (.int .i64 x1), pl 11 (.int .i64 d1), pl 41 (.pointer (some (sAddr g5 d1))), pl 46 (.int .i64 (geti ([0, 1, 1, (-1)] : List Int) d1))] hF hS (by kernel_rfl) (by kernel_rfl) ?_ (fun a hF => ?_)
                            · exact obs_cons (ob_get1 (n := 4) (m := ([0, 1, 1, (-1)] : List Int)) (Value.int .i64) (0 : Int) Agg3 (fun _ hS => ⟨_, (hS.at_ 1 rfl).rd⟩) (fun _ hS => ((hS.at_ 1 rfl).len1)) (fun _ => hp3)) <| obs_nil
                            refine any_finI rfl (fun h => h) ?_
                            refine any_step [3] (by kernel_rfl) rfl ?_
                            refine (all_cons ?_ all_nil)
                            · refine any_op (listed' := #[true, true, true, true, true, true, true, true, false, false]) (by kernel_rfl) (by kernel_rfl) ?_
                              refine at_runW 1 [⟨false, [], vS (Instr.loadAt 3 (.pointer (some (sAddr g5 d1)))), .int .i64 (geti ([1, 0, 1, 1] : List Int) d1)⟩] [some (.int .i64 (geti ([1, 0, 1, 1] : List Int) d1))] [1, 2, 6, 7, 8, 9, 10, 11, 42, 46] [pl 1 (.int .i64 k1), pl 2 (.pointer (some ⟨g4, 0, none⟩)), pl 6 (.slice A2 (Int.toNat (g3.length : Int)) c2), pl 7 (.bool one5), pl 8 (.bool two5), pl 9 (.int .i64 y1), pl 10 (.int .i64 x1), pl 11 (.int .i64 d1), pl 42 (.int .i64 (geti ([1, 0, 1, 1] : List Int) d1)), pl 46 (.int .i64 (geti ([0, 1, 1, (-1)] : List Int) d1))] hF hS (by kernel_rfl) (by kernel_rfl) ?_ (fun a hF => ?_)
                              · exact obs_cons (ob_get1 (n := 4) (m := ([1, 0, 1, 1] : List Int)) (Value.int .i64) (0 : Int) Agg3 (fun _ hS => ⟨_, (hS.at_ 0 rfl).rd⟩) (fun _ hS => ((hS.at_ 0 rfl).len1)) (fun _ => hp2)) <| obs_nil
                              refine any_finI rfl (fun h => h) ?_
                              refine any_step [8] (by kernel_rfl) rfl ?_
                              refine (all_cons ?_ all_nil)
                              · refine any_op (listed' := #[true, true, true, true, true, true, true, true, true, false]) (by kernel_rfl) (by kernel_rfl) ?_
                                refine at_runW 1 [] [] [1, 2, 6, 7, 8, 9, 10, 11, 12, 46] [pl 1 (.int .i64 k1), pl 2 (.pointer (some ⟨g4, 0, none⟩)), pl 6 (.slice A2 (Int.toNat (g3.length : Int)) c2), pl 7 (.bool one5), pl 8 (.bool two5), pl 9 (.int .i64 y1), pl 10 (.int .i64 x1), pl 11 (.int .i64 d1), pl 12 (.int .i64 (geti ([1, 0, 1, 1] : List Int) d1)), pl 46 (.int .i64 (geti ([0, 1, 1, (-1)] : List Int) d1))] hF hS (by kernel_rfl) (by kernel_rfl) ?_ (fun a hF => ?_)
                                · exact obs_nil
                                refine any_finI rfl (fun h => h) ?_
                                refine any_step [9] (by kernel_rfl) rfl ?_
                                refine (all_cons ?_ all_nil)
                                · refine any_op (listed' := #[true, true, true, true, true, true, true, true, true, true]) (by kernel_rfl) (by kernel_rfl) ?_
                                  refine at_runW 1 [] [] [1, 2, 6, 7, 8, 9, 10, 11, 12, 13] [pl 1 (.int .i64 k1), pl 2 (.pointer (some ⟨g4, 0, none⟩)), pl 6 (.slice A2 (Int.toNat (g3.length : Int)) c2), pl 7 (.bool one5), pl 8 (.bool two5), pl 9 (.int .i64 y1), pl 10 (.int .i64 x1), pl 11 (.int .i64 d1), pl 12 (.int .i64 (geti ([1, 0, 1, 1] : List Int) d1)), pl 13 (.int .i64 (geti ([0, 1, 1, (-1)] : List Int) d1))] hF hS (by kernel_rfl) (by kernel_rfl) ?_ (fun a hF => ?_)
                                  · exact obs_nil
                                  refine any_finI rfl (fun h => h) ?_
                                  refine any_end (by kernel_rfl) ?_
                                  refine np_n ?_
                                  refine then_n ?_
                                  have hS := hS.pickN 4 [2, 3] (by decide)
                                  exact ⟨hF.weak [1, 2, 6, 7, 8, 9, 10, 11, 12, 13] (by kernel_rfl), hS, hm⟩
                        · refine any_op (listed' := #[true, true, false, false, true, true, true, true, false, false]) (by kernel_rfl) (by kernel_rfl) ?_
                          refine at_runW 1 [⟨false, [], vS (Instr.loadAt 3 (.pointer (some (sAddr g6 d1)))), .int .i64 (geti ([0, 1, 1, (-1)] : List Int) d1)⟩] [some (.int .i64 (geti ([0, 1, 1, (-1)] : List Int) d1))] [1, 2, 6, 7, 8, 9, 10, 11, 39, 40, 46] [pl 1 (.int .i64 k1), pl 2 (.pointer (some ⟨g4, 0, none⟩)), pl 6 (.slice A2 (Int.toNat (g3.length : Int)) c2), pl 7 (.bool one5), pl 8 (.bool two5), pl 9 (.int .i64 y1), pl 10 (.int .i64 x1), pl 11 (.int .i64 d1), pl 39 (.slice g5 4 4), pl 40 (.int .i64 d1), pl 46 (.int .i64 (geti ([0, 1, 1, (-1)] : List Int) d1))] hF hS (by kernel_rfl) (by kernel_rfl) ?_ (fun a hF => ?_)
                          · exact obs_cons (ob_get1 (n := 4) (m := ([0, 1, 1, (-1)] : List Int)) (Value.int .i64) (0 : Int) Agg3 (fun _ hS => ⟨_, (hS.at_ 1 rfl).rd⟩) (fun _ hS => ((hS.at_ 1 rfl).len1)) (fun _ => hp3)) <| obs_nil
                          refine any_finI rfl (fun h => h) ?_
                          refine any_step [2] (by kernel_rfl) rfl ?_
                          refine (all_cons ?_ all_nil)
                          · refine any_op (listed' := #[true, true, true, false, true, true, true, true, false, false]) (by kernel_rfl) (by kernel_rfl) ?_
                            refine at_runW 1 [⟨true, [], vS (Instr.indexAt 22 (.slice g5 4 4) (.int .i64 d1)), .pointer (some (sAddr g5 d1))⟩] [some (.pointer (some (sAddr g5 d1)))] [1, 2, 6, 7, 8, 9, 10, 11, 41, 46] [pl 1 (.int .i64 k1), pl 2 (.pointer (some ⟨g4, 0, none⟩)), pl 6 (.slice A2 (Int.toNat (g3.length : Int)) c2), pl 7 (.bool one5), pl 8 (.bool two5), pl 9 (.int .i64 y1), pl 10 (.int .i64 x1), pl 11 (.int .i64 d1), pl 41 (.pointer (some (sAddr g5 d1))), pl 46 (.int .i64 (geti ([0, 1, 1, (-1)] : List Int) d1))] hF hS (by kernel_rfl) (by kernel_rfl) ?_ (fun a hF => ?_)
                            · exact obs_cons (ob_ix1 (f := (Value.int .i64)) (m := ([1, 0, 1, 1] : List Int)) Und22 hi3 hs3 (hS.at_ 0 rfl).rd ((hS.at_ 0 rfl).len1) (fun _ => hp2)) <| obs_nil
                            refine any_finI rfl (fun h => h) ?_
                            refine any_step [3] (by kernel_rfl) rfl ?_
                            refine (all_cons ?_ all_nil)
                            · refine any_op (listed' := #[true, true, true, true, true, true, true, true, false, false]) (by kernel_rfl) (by kernel_rfl) ?_
                              refine at_runW 1 [⟨false, [], vS (Instr.loadAt 3 (.pointer (some (sAddr g5 d1)))), .int .i64 (geti ([1, 0, 1, 1] : List Int) d1)⟩] [some (.int .i64 (geti ([1, 0, 1, 1] : List Int) d1))] [1, 2, 6, 7, 8, 9, 10, 11, 42, 46] [pl 1 (.int .i64 k1), pl 2 (.pointer (some ⟨g4, 0, none⟩)), pl 6 (.slice A2 (Int.toNat (g3.length : Int)) c2), pl 7 (.bool one5), pl 8 (.bool two5), pl 9 (.int .i64 y1), pl 10 (.int .i64 x1), pl 11 (.int .i64 d1), pl 42 (.int .i64 (geti ([1, 0, 1, 1] : List Int) d1)), pl 46 (.int .i64 (geti ([0, 1, 1, (-1)] : List Int) d1))] hF hS (by kernel_rfl) (by kernel_rfl) ?_ (fun a hF => ?_)
                              · exact obs_cons (ob_get1 (n := 4) (m := ([1, 0, 1, 1] : List Int)) (Value.int .i64) (0 : Int) Agg3 (fun _ hS => ⟨_, (hS.at_ 0 rfl).rd⟩) (fun _ hS => ((hS.at_ 0 rfl).len1)) (fun _ => hp2)) <| obs_nil
                              refine any_finI rfl (fun h => h) ?_
                              refine any_step [8] (by kernel_rfl) rfl ?_
                              refine (all_cons ?_ all_nil)
                              · refine any_op (listed' := #[true, true, true, true, true, true, true, true, true, false]) (by kernel_rfl) (by kernel_rfl) ?_
                                refine at_runW 1 [] [] [1, 2, 6, 7, 8, 9, 10, 11, 12, 46] [pl 1 (.int .i64 k1), pl 2 (.pointer (some ⟨g4, 0, none⟩)), pl 6 (.slice A2 (Int.toNat (g3.length : Int)) c2), pl 7 (.bool one5), pl 8 (.bool two5), pl 9 (.int .i64 y1), pl 10 (.int .i64 x1), pl 11 (.int .i64 d1), pl 12 (.int .i64 (geti ([1, 0, 1, 1] : List Int) d1)), pl 46 (.int .i64 (geti ([0, 1, 1, (-1)] : List Int) d1))] hF hS (by kernel_rfl) (by kernel_rfl) ?_ (fun a hF => ?_)
                                · exact obs_nil
                                refine any_finI rfl (fun h => h) ?_
                                refine any_step [9] (by kernel_rfl) rfl ?_
                                refine (all_cons ?_ all_nil)
                                · refine any_op (listed' := #[true, true, true, true, true, true, true, true, true, true]) (by kernel_rfl) (by kernel_rfl) ?_
                                  refine at_runW 1 [] [] [1, 2, 6, 7, 8, 9, 10, 11, 12, 13] [pl 1 (.int .i64 k1), pl 2 (.pointer (some ⟨g4, 0, none⟩)), pl 6 (.slice A2 (Int.toNat (g3.length : Int)) c2), pl 7 (.bool one5), pl 8 (.bool two5), pl 9 (.int .i64 y1), pl 10 (.int .i64 x1), pl 11 (.int .i64 d1), pl 12 (.int .i64 (geti ([1, 0, 1, 1] : List Int) d1)), pl 13 (.int .i64 (geti ([0, 1, 1, (-1)] : List Int) d1))] hF hS (by kernel_rfl) (by kernel_rfl) ?_ (fun a hF => ?_)
                                  · exact obs_nil
                                  refine any_finI rfl (fun h => h) ?_
                                  refine any_end (by kernel_rfl) ?_
                                  refine np_n ?_
                                  refine then_n ?_
                                  have hS := hS.pickN 4 [2, 3] (by decide)
                                  exact ⟨hF.weak [1, 2, 6, 7, 8, 9, 10, 11, 12, 13] (by kernel_rfl), hS, hm⟩
                    · refine any_op (listed' := #[false, true, false, false, true, true, true, false, false, false]) (by kernel_rfl) (by kernel_rfl) ?_
                      refine at_runW 1 [⟨true, [], vS (Instr.indexAt 22 (.slice g6 4 4) (.int .i64 d1)), .pointer (some (sAddr g6 d1))⟩] [some (.pointer (some (sAddr g6 d1)))] [1, 2, 6, 7, 8, 9, 10, 11, 40, 45] [pl 1 (.int .i64 k1), pl 2 (.pointer (some ⟨g4, 0, none⟩)), pl 6 (.slice A2 (Int.toNat (g3.length : Int)) c2), pl 7 (.bool one5), pl 8 (.bool two5), pl 9 (.int .i64 y1), pl 10 (.int .i64 x1), pl 11 (.int .i64 d1), pl 40 (.int .i64 d1), pl 45 (.pointer (some (sAddr g6 d1)))] hF hS (by kernel_rfl) (by kernel_rfl) ?_ (fun a hF => ?_)
                      · exact obs_cons (ob_ix1 (f := (Value.int .i64)) (m := ([0, 1, 1, (-1)] : List Int)) Und22 hi3 hs3 (hS.at_ 0 rfl).rd ((hS.at_ 0 rfl).len1) (fun _ => hp3)) <| obs_nil
                      refine any_finI rfl (fun h => h) ?_
                      refine any_step [0, 7] (by kernel_rfl) rfl ?_
                      refine (all_cons ?_ (all_cons ?_ all_nil))
                      · refine any_op (listed' := #[true, true, false, false, true, true, true, false, false, false]) (by kernel_rfl) (by kernel_rfl) ?_
                        refine at_do (d := 39) (s := vS (Instr.buildSlice 22 4 #[(0, .int .i64 1), (1, .int .i64 0), (2, .int .i64 1), (3, .int .i64 1)])) (v := .slice (some ⟨w.heap.size, 0, none⟩) 4 4) (w' := w.alloc (.cells #[.int .i64 1, .int .i64 0, .int .i64 1, .int .i64 1] 3)) hF (by kernel_rfl) (by kernel_rfl) (by kernel_rfl) (fun a hF => ?_)
                        have hS : Sep w0 B (w.alloc (.cells #[.int .i64 1, .int .i64 0, .int .i64 1, .int .i64 1] 3)) (own 3 (.slice (some (⟨w.heap.size, 0, none⟩ : Addr)) 4 4) (vI ([1, 0, 1, 1] : List Int)) :: (own 3 (.slice g6 4 4) (vI ([0, 1, 1, (-1)] : List Int)) :: blk g4 55 #[.int .i64 g1, .int .i64 g2, .slice A1 g3.length c1] :: own 4 (.slice A2 (Int.toNat (g3.length : Int)) c2) (vB in5) :: fs)) := hS.lit 3 #[.int .i64 1, .int .i64 0, .int .i64 1, .int .i64 1] 4 rfl (by omega)
                        generalize (some (⟨w.heap.size, 0, none⟩ : Addr)) = g5 at hF hS
                        generalize w.alloc (.cells #[.int .i64 1, .int .i64 0, .int .i64 1, .int .i64 1] 3) = w at hS ⊢
                        refine any_fin rfl (hS.pickN 4 [2, 3] (by decide)) ?_
                        refine any_step [2, 7] (by kernel_rfl) rfl ?_
                        refine (all_cons ?_ (all_cons ?_ all_nil))
                        · refine any_op (listed' := #[true, true, true, false, true, true, true, false, false, false]) (by kernel_rfl) (by kernel_rfl) ?_
                          refine at_runW 1 [⟨true, [], vS (Instr.indexAt 22 (.slice g5 4 4) (.int .i64 d1)), .pointer (some (sAddr g5 d1))⟩] [some (.pointer (some (sAddr g5 d1)))] [1, 2, 6, 7, 8, 9, 10, 11, 41, 45] [pl 1 (.int .i64 k1), pl 2 (.pointer (some ⟨g4, 0, none⟩)), pl 6 (.slice A2 (Int.toNat (g3.length : Int)) c2), pl 7 (.bool one5), pl 8 (.bool two5), pl 9 (.int .i64 y1), pl 10 (.int .i64 x1), pl 11 (.int .i64 d1), pl 41 (.pointer (some (sAddr g5 d1))), pl 45 (.pointer (some (sAddr g6 d1)))] hF hS (by kernel_rfl) (by kernel_rfl) ?_ (fun a hF => ?_)
                          · exact obs_cons (ob_ix1 (f := (Value.int .i64)) (m := ([1, 0, 1, 1] : List Int)) Und22 hi3 hs3 (hS.at_ 0 rfl).rd ((hS.at_ 0 rfl).len1) (fun _ => hp2)) <| obs_nil
                          refine any_finI rfl (fun h => h) ?_
                          refine any_step [3, 7] (by kernel_rfl) rfl ?_
                          refine (all_cons ?_ (all_cons ?_ all_nil))
                          · refine any_op (listed' := #[true, true, true, true, true, true, true, false, false, false]) (by kernel_rfl) (by kernel_rfl) ?_
                            refine at_runW 1 [⟨false, [], vS (Instr.loadAt 3 (.pointer (some (sAddr g5 d1)))), .int .i64 (geti ([1, 0, 1, 1] : List Int) d1)⟩] [some (.int .i64 (geti ([1, 0, 1, 1] : List Int) d1))] [1, 2, 6, 7, 8, 9, 10, 11, 42, 45] [pl 1 (.int .i64 k1), pl 2 (.pointer (some ⟨g4, 0, none⟩)), pl 6 (.slice A2 (Int.toNat (g3.length : Int)) c2), pl 7 (.bool one5), pl 8 (.bool two5), pl 9 (.int .i64 y1), pl 10 (.int .i64 x1), pl 11 (.int .i64 d1), pl 42 (.int .i64 (geti ([1, 0, 1, 1] : List Int) d1)), pl 45 (.pointer (some (sAddr g6 d1)))] hF hS (by kernel_rfl) (by kernel_rfl) ?_ (fun a hF => ?_)
                            · exact obs_cons (ob_get1 (n := 4) (m := ([1, 0, 1, 1] : List Int)) (Value.int .i64) (0 : Int) Agg3 (fun _ hS => ⟨_, (hS.at_ 0 rfl).rd⟩) (fun _ hS => ((hS.at_ 0 rfl).len1)) (fun _ => hp2)) <| obs_nil
                            refine any_finI rfl (fun h => h) ?_
                            refine any_step [7, 8] (by kernel_rfl) rfl ?_
                            refine (all_cons ?_ (all_cons ?_ all_nil))
                            · refine any_op (listed' := #[true, true, true, true, true, true, true, true, false, false]) (by kernel_rfl) (by kernel_rfl) ?_
                              refine at_runW 1 [⟨false, [], vS (Instr.loadAt 3 (.pointer (some (sAddr g6 d1)))), .int .i64 (geti ([0, 1, 1, (-1)] : List Int) d1)⟩] [some (.int .i64 (geti ([0, 1, 1, (-1)] : List Int) d1))] [1, 2, 6, 7, 8, 9, 10, 11, 42, 46] [pl 1 (.int .i64 k1), pl 2 (.pointer (some ⟨g4, 0, none⟩)), pl 6 (.slice A2 (Int.toNat (g3.length : Int)) c2), pl 7 (.bool one5), pl 8 (.bool two5), pl 9 (.int .i64 y1), pl 10 (.int .i64 x1), pl 11 (.int .i64 d1), pl 42 (.int .i64 (geti ([1, 0, 1, 1] : List Int) d1)), pl 46 (.int .i64 (geti ([0, 1, 1, (-1)] : List Int) d1))] hF hS (by kernel_rfl) (by kernel_rfl) ?_ (fun a hF => ?_)
                              · exact obs_cons (ob_get1 (n := 4) (m := ([0, 1, 1, (-1)] : List Int)) (Value.int .i64) (0 : Int) Agg3 (fun _ hS => ⟨_, (hS.at_ 1 rfl).rd⟩) (fun _ hS => ((hS.at_ 1 rfl).len1)) (fun _ => hp3)) <| obs_nil
                              refine any_finI rfl (fun h => h) ?_
                              refine any_step [8] (by kernel_rfl) rfl ?_
                              refine (all_cons ?_ all_nil)
                              · refine any_op (listed' := #[true, true, true, true, true, true, true, true, true, false]) (by kernel_rfl) (by kernel_rfl) ?_
                                refine at_runW 1 [] [] [1, 2, 6, 7, 8, 9, 10, 11, 12, 46] [pl 1 (.int .i64 k1), pl 2 (.pointer (some ⟨g4, 0, none⟩)), pl 6 (.slice A2 (Int.toNat (g3.length : Int)) c2), pl 7 (.bool one5), pl 8 (.bool two5), pl 9 (.int .i64 y1), pl 10 (.int .i64 x1), pl 11 (.int .i64 d1), pl 12 (.int .i64 (geti ([1, 0, 1, 1] : List Int) d1)), pl 46 (.int .i64 (geti ([0, 1, 1, (-1)] : List Int) d1))] hF hS (by kernel_rfl) (by kernel_rfl) ?_ (fun a hF => ?_)
                                · exact obs_nil
                                refine any_finI rfl (fun h => h) ?_
                                refine any_step [9] (by kernel_rfl) rfl ?_
                                refine (all_cons ?_ all_nil)
                                · refine any_op (listed' := #[true, true, true, true, true, true, true, true, true, true]) (by kernel_rfl) (by kernel_rfl) ?_
                                  refine at_runW 1 [] [] [1, 2, 6, 7, 8, 9, 10, 11, 12, 13] [pl 1 (.int .i64 k1), pl 2 (.pointer (some ⟨g4, 0, none⟩)), pl 6 (.slice A2 (Int.toNat (g3.length : Int)) c2), pl 7 (.bool one5), pl 8 (.bool two5), pl 9 (.int .i64 y1), pl 10 (.int .i64 x1), pl 11 (.int .i64 d1), pl 12 (.int .i64 (geti ([1, 0, 1, 1] : List Int) d1)), pl 13 (.int .i64 (geti ([0, 1, 1, (-1)] : List Int) d1))] hF hS (by kernel_rfl) (by kernel_rfl) ?_ (fun a hF => ?_)
                                  · exact obs_nil
                                  refine any_finI rfl (fun h => h) ?_
                                  refine any_end (by kernel_rfl) ?_
                                  refine np_n ?_
                                  refine then_n ?_
                                  have hS := hS.pickN 4 [2, 3] (by decide)
                                  exact ⟨hF.weak [1, 2, 6, 7, 8, 9, 10, 11, 12, 13] (by kernel_rfl), hS, hm⟩
                            · refine any_op (listed' := #[true, true, true, true, true, true, true, false, true, false]) (by kernel_rfl) (by kernel_rfl) ?_
                              refine at_runW 1 [] [] [1, 2, 6, 7, 8, 9, 10, 11, 12, 45] [pl 1 (.int .i64 k1), pl 2 (.pointer (some ⟨g4, 0, none⟩)), pl 6 (.slice A2 (Int.toNat (g3.length : Int)) c2), pl 7 (.bool one5), pl 8 (.bool two5), pl 9 (.int .i64 y1), pl 10 (.int .i64 x1), pl 11 (.int .i64 d1), pl 12 (.int .i64 (geti ([1, 0, 1, 1] : List Int) d1)), pl 45 (.pointer (some (sAddr g6 d1)))] hF hS (by kernel_rfl) (by kernel_rfl) ?_ (fun a hF => ?_)
                              · exact obs_nil
                              refine any_finI rfl (fun h => h) ?_
                              refine any_step [7] (by kernel_rfl) rfl ?_
                              refine (all_cons ?_ all_nil)
                              · refine any_op (listed' := #[true, true, true, true, true, true, true, true, true, false]) (by kernel_rfl) (by kernel_rfl) ?_
                                refine at_runW 1 [⟨false, [], vS (Instr.loadAt 3 (.pointer (some (sAddr g6 d1)))), .int .i64 (geti ([0, 1, 1, (-1)] : List Int) d1)⟩] [some (.int .i64 (geti ([0, 1, 1, (-1)] : List Int) d1))] [1, 2, 6, 7, 8, 9, 10, 11, 12, 46] [pl 1 (.int .i64 k1), pl 2 (.pointer (some ⟨g4, 0, none⟩)), pl 6 (.slice A2 (Int.toNat (g3.length : Int)) c2), pl 7 (.bool one5), pl 8 (.bool two5), pl 9 (.int .i64 y1), pl 10 (.int .i64 x1), pl 11 (.int .i64 d1), pl 12 (.int .i64 (geti ([1, 0, 1, 1] : List Int) d1)), pl 46 (.int .i64 (geti ([0, 1, 1, (-1)] : List Int) d1))] hF hS (by kernel_rfl) (by kernel_rfl) ?_ (fun a hF => ?_)
                                · exact obs_cons (ob_get1 (n := 4) (m := ([0, 1, 1, (-1)] : List Int)) (Value.int .i64) (0 : Int) Agg3 (fun _ hS => ⟨_, (hS.at_ 1 rfl).rd⟩) (fun _ hS => ((hS.at_ 1 rfl).len1)) (fun _ => hp3)) <| obs_nil
                                refine any_finI rfl (fun h => h) ?_
                                refine any_step [9] (by kernel_rfl) rfl ?_
                                refine (all_cons ?_ all_nil)
                                · refine any_op (listed' := #[true, true, true, true, true, true, true, true, true, true]) (by kernel_rfl) (by kernel_rfl) ?_
                                  refine at_runW 1 [] [] [1, 2, 6, 7, 8, 9, 10, 11, 12, 13] [pl 1 (.int .i64 k1), pl 2 (.pointer (some ⟨g4, 0, none⟩)), pl 6 (.slice A2 (Int.toNat (g3.length : Int)) c2), pl 7 (.bool one5), pl 8 (.bool two5), pl 9 (.int .i64 y1), pl 10 (.int .i64 x1), pl 11 (.int .i64 d1), pl 12 (.int .i64 (geti ([1, 0, 1, 1] : List Int) d1)), pl 13 (.int .i64 (geti ([0, 1, 1, (-1)] : List Int) d1))] hF hS (by kernel_rfl) (by kernel_rfl) ?_ (fun a hF => ?_)
                                  · exact obs_nil
                                  refine any_finI rfl (fun h => h) ?_
                                  refine any_end (by kernel_rfl) ?_
                                  refine np_n ?_
                                  refine then_n ?_
                                  have hS := hS.pickN 4 [2, 3] (by decide)
                                  exact ⟨hF.weak [1, 2, 6, 7, 8, 9, 10, 11, 12, 13] (by kernel_rfl), hS, hm⟩
                          · refine any_op (listed' := #[true, true, true, false, true, true, true, true, false, false]) (by kernel_rfl) (by kernel_rfl) ?_
                            refine at_runW 1 [⟨false, [], vS (Instr.loadAt 3 (.pointer (some (sAddr g6 d1)))), .int .i64 (geti ([0, 1, 1, (-1)] : List Int) d1)⟩] [some (.int .i64 (geti ([0, 1, 1, (-1)] : List Int) d1))] [1, 2, 6, 7, 8, 9, 10, 11, 41, 46] [pl 1 (.int .i64 k1), pl 2 (.pointer (some ⟨g4, 0, none⟩)), pl 6 (.slice A2 (Int.toNat (g3.length : Int)) c2), pl 7 (.bool one5), pl 8 (.bool two5), pl 9 (.int .i64 y1), pl 10 (.int .i64 x1), pl 11 (.int .i64 d1), pl 41 (.pointer (some (sAddr g5 d1))), pl 46 (.int .i64 (geti ([0, 1, 1, (-1)] : List Int) d1))] hF hS (by kernel_rfl) (by kernel_rfl) ?_ (fun a hF => ?_)
                            · exact obs_cons (ob_get1 (n := 4) (m := ([0, 1, 1, (-1)] : List Int)) (Value.int .i64) (0 : Int) Agg3 (fun _ hS => ⟨_, (hS.at_ 1 rfl).rd⟩) (fun _ hS => ((hS.at_ 1 rfl).len1)) (fun _ => hp3)) <| obs_nil
                            refine any_finI rfl (fun h => h) ?_
                            refine any_step [3] (by kernel_rfl) rfl ?_
                            refine (all_cons ?_ all_nil)
                            · refine any_op (listed' := #[true, true, true, true, true, true, true, true, false, false]) (by kernel_rfl) (by kernel_rfl) ?_
                              refine at_runW 1 [⟨false, [], vS (Instr.loadAt 3 (.pointer (some (sAddr g5 d1)))), .int .i64 (geti ([1, 0, 1, 1] : List Int) d1)⟩] [some (.int .i64 (geti ([1, 0, 1, 1] : List Int) d1))] [1, 2, 6, 7, 8, 9, 10, 11, 42, 46] [pl 1 (.int .i64 k1), pl 2 (.pointer (some ⟨g4, 0, none⟩)), pl 6 (.slice A2 (Int.toNat (g3.length : Int)) c2), pl 7 (.bool one5), pl 8 (.bool two5), pl 9 (.int .i64 y1), pl 10 (.int .i64 x1), pl 11 (.int .i64 d1), pl 42 (.int .i64 (geti ([1, 0, 1, 1] : List Int) d1)), pl 46 (.int .i64 (geti ([0, 1, 1, (-1)] : List Int) d1))] hF hS (by kernel_rfl) (by kernel_rfl) ?_ (fun a hF => ?_)
                              · exact obs_cons (ob_get1 (n := 4) (m := ([1, 0, 1, 1] : List Int)) (Value.int .i64) (0 : Int) Agg3 (fun _ hS => ⟨_, (hS.at_ 0 rfl).rd⟩) (fun _ hS => ((hS.at_ 0 rfl).len1)) (fun _ => hp2)) <| obs_nil
                              refine any_finI rfl (fun h => h) ?_
                              refine any_step [8] (by kernel_rfl) rfl ?_
                              refine (all_cons ?_ all_nil)
                              · refine any_op (listed' := #[true, true, true, true, true, true, true, true, true, false]) (by kernel_rfl) (by kernel_rfl) ?_
                                refine at_runW 1 [] [] [1, 2, 6, 7, 8, 9, 10, 11, 12, 46] [pl 1 (.int .i64 k1), pl 2 (.pointer (some ⟨g4, 0, none⟩)), pl 6 (.slice A2 (Int.toNat (g3.length : Int)) c2), pl 7 (.bool one5), pl 8 (.bool two5), pl 9 (.int .i64 y1), pl 10 (.int .i64 x1), pl 11 (.int .i64 d1), pl 12 (.int .i64 (geti ([1, 0, 1, 1] : List Int) d1)), pl 46 (.int .i64 (geti ([0, 1, 1, (-1)] : List Int) d1))] hF hS (by kernel_rfl) (by kernel_rfl) ?_ (fun a hF => ?_)
                                · exact obs_nil
                                refine any_finI rfl (fun h => h) ?_
                                refine any_step [9] (by kernel_rfl) rfl ?_
                                refine (all_cons ?_ all_nil)
                                · refine any_op (listed' := #[true, true, true, true, true, true, true, true, true, true]) (by kernel_rfl) (by kernel_rfl) ?_
                                  refine at_runW 1 [] [] [1, 2, 6, 7, 8, 9, 10, 11, 12, 13] [pl 1 (.int .i64 k1), pl 2 (.pointer (some ⟨g4, 0, none⟩)), pl 6 (.slice A2 (Int.toNat (g3.length : Int)) c2), pl 7 (.bool one5), pl 8 (.bool two5), pl 9 (.int .i64 y1), pl 10 (.int .i64 x1), pl 11 (.int .i64 d1), pl 12 (.int .i64 (geti ([1, 0, 1, 1] : List Int) d1)), pl 13 (.int .i64 (geti ([0, 1, 1, (-1)] : List Int) d1))] hF hS (by kernel_rfl) (by kernel_rfl) ?_ (fun a hF => ?_)
                                  · exact obs_nil
                                  refine any_finI rfl (fun h => h) ?_
                                  refine any_end (by kernel_rfl) ?_
                                  refine np_n ?_
                                  refine then_n ?_
                                  have hS := hS.pickN 4 [2, 3] (by decide)
                                  exact ⟨hF.weak [1, 2, 6, 7, 8, 9, 10, 11, 12, 13] (by kernel_rfl), hS, hm⟩
                        · refine any_op (listed' := #[true, true, false, false, true, true, true, true, false, false]) (by kernel_rfl) (by kernel_rfl) ?_
                          refine at_runW 1 [⟨false, [], vS (Instr.loadAt 3 (.pointer (some (sAddr g6 d1)))), .int .i64 (geti ([0, 1, 1, (-1)] : List Int) d1)⟩] [some (.int .i64 (geti ([0, 1, 1, (-1)] : List Int) d1))] [1, 2, 6, 7, 8, 9, 10, 11, 39, 40, 46] [pl 1 (.int .i64 k1), pl 2 (.pointer (some ⟨g4, 0, none⟩)), pl 6 (.slice A2 (Int.toNat (g3.length : Int)) c2), pl 7 (.bool one5), pl 8 (.bool two5), pl 9 (.int .i64 y1), pl 10 (.int .i64 x1), pl 11 (.int .i64 d1), pl 39 (.slice g5 4 4), pl 40 (.int .i64 d1), pl 46 (.int .i64 (geti ([0, 1, 1, (-1)] : List Int) d1))] hF hS (by kernel_rfl) (by kernel_rfl) ?_ (fun a hF => ?_)
                          · exact obs_cons (ob_get1 (n := 4) (m := ([0, 1, 1, (-1)] : List Int)) (Value.int .i64) (0 : Int) Agg3 (fun _ hS => ⟨_, (hS.at_ 1 rfl).rd⟩) (fun _ hS => ((hS.at_ 1 rfl).len1)) (fun _ => hp3)) <| obs_nil
                          refine any_finI rfl (fun h => h) ?_
                          refine any_step [2] (by kernel_rfl) rfl ?_
                          refine (all_cons ?_ all_nil)
                          · refine any_op (listed' := #[true, true, true, false, true, true, true, true, false, false]) (by kernel_rfl) (by kernel_rfl) ?_
                            refine at_runW 1 [⟨true, [], vS (Instr.indexAt 22 (.slice g5 4 4) (.int .i64 d1)), .pointer (some (sAddr g5 d1))⟩] [some (.pointer (some (sAddr g5 d1)))] [1, 2, 6, 7, 8, 9, 10, 11, 41, 46] [pl 1 (.int .i64 k1), pl 2 (.pointer (some ⟨g4, 0, none⟩)), pl 6 (.slice A2 (Int.toNat (g3.length : Int)) c2), pl 7 (.bool one5), pl 8 (.bool two5), pl 9 (.int .i64 y1), pl 10 (.int .i64 x1), pl 11 (.int .i64 d1), pl 41 (.pointer (some (sAddr g5 d1))), pl 46 (.int .i64 (geti ([0, 1, 1, (-1)] : List Int) d1))] hF hS (by kernel_rfl) (by kernel_rfl) ?_ (fun a hF => ?_)
                            · exact obs_cons (ob_ix1 (f := (Value.int .i64)) (m := ([1, 0, 1, 1] : List Int)) Und22 hi3 hs3 (hS.at_ 0 rfl).rd ((hS.at_ 0 rfl).len1) (fun _ => hp2)) <| obs_nil
                            refine any_finI rfl (fun h => h) ?_
                            refine any_step [3] (by kernel_rfl) rfl ?_
                            refine (all_cons ?_ all_nil)
                            · refine any_op (listed' := #[true, true, true, true, true, true, true, true, false, false]) (by kernel_rfl) (by kernel_rfl) ?_
                              refine at_runW 1 [⟨false, [], vS (Instr.loadAt 3 (.pointer (some (sAddr g5 d1)))), .int .i64 (geti ([1, 0, 1, 1] : List Int) d1)⟩] [some (.int .i64 (geti ([1, 0, 1, 1] : List Int) d1))] [1, 2, 6, 7, 8, 9, 10, 11, 42, 46] [pl 1 (.int .i64 k1), pl 2 (.pointer (some ⟨g4, 0, none⟩)), pl 6 (.slice A2 (Int.toNat (g3.length : Int)) c2), pl 7 (.bool one5), pl 8 (.bool two5), pl 9 (.int .i64 y1), pl 10 (.int .i64 x1), pl 11 (.int .i64 d1), pl 42 (.int .i64 (geti ([1, 0, 1, 1] : List Int) d1)), pl 46 (.int .i64 (geti ([0, 1, 1, (-1)] : List Int) d1))] hF hS (by kernel_rfl) (by kernel_rfl) ?_ (fun a hF => ?_)
                              · exact obs_cons (ob_get1 (n := 4) (m := ([1, 0, 1, 1] : List Int)) (Value.int .i64) (0 : Int) Agg3 (fun _ hS => ⟨_, (hS.at_ 0 rfl).rd⟩) (fun _ hS => ((hS.at_ 0 rfl).len1)) (fun _ => hp2)) <| obs_nil
                              refine any_finI rfl (fun h => h) ?_
                              refine any_step [8] (by kernel_rfl) rfl ?_
                              refine (all_cons ?_ all_nil)
                              · refine any_op (listed' := #[true, true, true, true, true, true, true, true, true, false]) (by kernel_rfl) (by kernel_rfl) ?_
                                refine at_runW 1 [] [] [1, 2, 6, 7, 8, 9, 10, 11, 12, 46] [pl 1 (.int .i64 k1), pl 2 (.pointer (some ⟨g4, 0, none⟩)), pl 6 (.slice A2 (Int.toNat (g3.length : Int)) c2), pl 7 (.bool one5), pl 8 (.bool two5), pl 9 (.int .i64 y1), pl 10 (.int .i64 x1), pl 11 (.int .i64 d1), pl 12 (.int .i64 (geti ([1, 0, 1, 1] : List Int) d1)), pl 46 (.int .i64 (geti ([0, 1, 1, (-1)] : List Int) d1))] hF hS (by kernel_rfl) (by kernel_rfl) ?_ (fun a hF => ?_)
                                · exact obs_nil
                                refine any_finI rfl (fun h => h) ?_
                                refine any_step [9] (by kernel_rfl) rfl ?_
                                refine (all_cons ?_ all_nil)
                                · refine any_op (listed' := #[true, true, true, true, true, true, true, true, true, true]) (by kernel_rfl) (by kernel_rfl) ?_
                                  refine at_runW 1 [] [] [1, 2, 6, 7, 8, 9, 10, 11, 12, 13] [pl 1 (.int .i64 k1), pl 2 (.pointer (some ⟨g4, 0, none⟩)), pl 6 (.slice A2 (Int.toNat (g3.length : Int)) c2), pl 7 (.bool one5), pl 8 (.bool two5), pl 9 (.int .i64 y1), pl 10 (.int .i64 x1), pl 11 (.int .i64 d1), pl 12 (.int .i64 (geti ([1, 0, 1, 1] : List Int) d1)), pl 13 (.int .i64 (geti ([0, 1, 1, (-1)] : List Int) d1))] hF hS (by kernel_rfl) (by kernel_rfl) ?_ (fun a hF => ?_)
                                  · exact obs_nil
                                  refine any_finI rfl (fun h => h) ?_
                                  refine any_end (by kernel_rfl) ?_
                                  refine np_n ?_
                                  refine then_n ?_
                                  have hS := hS.pickN 4 [2, 3] (by decide)
                                  exact ⟨hF.weak [1, 2, 6, 7, 8, 9, 10, 11, 12, 13] (by kernel_rfl), hS, hm⟩
                      · refine any_op (listed' := #[false, true, false, false, true, true, true, true, false, false]) (by kernel_rfl) (by kernel_rfl) ?_
                        refine at_runW 1 [⟨false, [], vS (Instr.loadAt 3 (.pointer (some (sAddr g6 d1)))), .int .i64 (geti ([0, 1, 1, (-1)] : List Int) d1)⟩] [some (.int .i64 (geti ([0, 1, 1, (-1)] : List Int) d1))] [1, 2, 6, 7, 8, 9, 10, 11, 40, 46] [pl 1 (.int .i64 k1), pl 2 (.pointer (some ⟨g4, 0, none⟩)), pl 6 (.slice A2 (Int.toNat (g3.length : Int)) c2), pl 7 (.bool one5), pl 8 (.bool two5), pl 9 (.int .i64 y1), pl 10 (.int .i64 x1), pl 11 (.int .i64 d1), pl 40 (.int .i64 d1), pl 46 (.int .i64 (geti ([0, 1, 1, (-1)] : List Int) d1))] hF hS (by kernel_rfl) (by kernel_rfl) ?_ (fun a hF => ?_)
                        · exact obs_cons (ob_get1 (n := 4) (m := ([0, 1, 1, (-1)] : List Int)) (Value.int .i64) (0 : Int) Agg3 (fun _ hS => ⟨_, (hS.at_ 0 rfl).rd⟩) (fun _ hS => ((hS.at_ 0 rfl).len1)) (fun _ => hp3)) <| obs_nil
                        refine any_finI rfl (fun h => h) ?_
                        refine any_step [0] (by kernel_rfl) rfl ?_
                        refine (all_cons ?_ all_nil)
                        · refine any_op (listed' := #[true, true, false, false, true, true, true, true, false, false]) (by kernel_rfl) (by kernel_rfl) ?_
                          refine at_do (d := 39) (s := vS (Instr.buildSlice 22 4 #[(0, .int .i64 1), (1, .int .i64 0), (2, .int .i64 1), (3, .int .i64 1)])) (v := .slice (some ⟨w.heap.size, 0, none⟩) 4 4) (w' := w.alloc (.cells #[.int .i64 1, .int .i64 0, .int .i64 1, .int .i64 1] 3)) hF (by kernel_rfl) (by kernel_rfl) (by kernel_rfl) (fun a hF => ?_)
                          have hS : Sep w0 B (w.alloc (.cells #[.int .i64 1, .int .i64 0, .int .i64 1, .int .i64 1] 3)) (own 3 (.slice (some (⟨w.heap.size, 0, none⟩ : Addr)) 4 4) (vI ([1, 0, 1, 1] : List Int)) :: (own 3 (.slice g6 4 4) (vI ([0, 1, 1, (-1)] : List Int)) :: blk g4 55 #[.int .i64 g1, .int .i64 g2, .slice A1 g3.length c1] :: own 4 (.slice A2 (Int.toNat (g3.length : Int)) c2) (vB in5) :: fs)) := hS.lit 3 #[.int .i64 1, .int .i64 0, .int .i64 1, .int .i64 1] 4 rfl (by omega)
                          generalize (some (⟨w.heap.size, 0, none⟩ : Addr)) = g5 at hF hS
                          generalize w.alloc (.cells #[.int .i64 1, .int .i64 0, .int .i64 1, .int .i64 1] 3) = w at hS ⊢
                          refine any_fin rfl (hS.pickN 4 [2, 3] (by decide)) ?_
                          refine any_step [2] (by kernel_rfl) rfl ?_
                          refine (all_cons ?_ all_nil)
                          · refine any_op (listed' := #[true, true, true, false, true, true, true, true, false, false]) (by kernel_rfl) (by kernel_rfl) ?_
                            refine at_runW 1 [⟨true, [], vS (Instr.indexAt 22 (.slice g5 4 4) (.int .i64 d1)), .pointer (some (sAddr g5 d1))⟩] [some (.pointer (some (sAddr g5 d1)))] [1, 2, 6, 7, 8, 9, 10, 11, 41, 46] [pl 1 (.int .i64 k1), pl 2 (.pointer (some ⟨g4, 0, none⟩)), pl 6 (.slice A2 (Int.toNat (g3.length : Int)) c2), pl 7 (.bool one5), pl 8 (.bool two5), pl 9 (.int .i64 y1), pl 10 (.int .i64 x1), pl 11 (.int .i64 d1), pl 41 (.pointer (some (sAddr g5 d1))), pl 46 (.int .i64 (geti ([0, 1, 1, (-1)] : List Int) d1))] hF hS (by kernel_rfl) (by kernel_rfl) ?_ (fun a hF => ?_)
                            · exact obs_cons (ob_ix1 (f := (Value.int .i64)) (m := ([1, 0, 1, 1] : List Int)) Und22 hi3 hs3 (hS.at_ 0 rfl).rd ((hS.at_ 0 rfl).len1) (fun _ => hp2)) <| obs_nil
                            refine any_finI rfl (fun h => h) ?_
                            refine any_step [3] (by kernel_rfl) rfl ?_
                            refine (all_cons ?_ all_nil)
                            · refine any_op (listed' := #[true, true, true, true, true, true, true, true, false, false]) (by kernel_rfl) (by kernel_rfl) ?_
                              refine at_runW 1 [⟨false, [], vS (Instr.loadAt 3 (.pointer (some (sAddr g5 d1)))), .int .i64 (geti ([1, 0, 1, 1] : List Int) d1)⟩] [some (.int .i64 (geti ([1, 0, 1, 1] : List Int) d1))] [1, 2, 6, 7, 8, 9, 10, 11, 42, 46] [pl 1 (.int .i64 k1), pl 2 (.pointer (some ⟨g4, 0, none⟩)), pl 6 (.slice A2 (Int.toNat (g3.length : Int)) c2), pl 7 (.bool one5), pl 8 (.bool two5), pl 9 (.int .i64 y1), pl 10 (.int .i64 x1), pl 11 (.int .i64 d1), pl 42 (.int .i64 (geti ([1, 0, 1, 1] : List Int) d1)), pl 46 (.int .i64 (geti ([0, 1, 1, (-1)] : List Int) d1))] hF hS (by kernel_rfl) (by kernel_rfl) ?_ (fun a hF => ?_)
                              · exact obs_cons (ob_get1 (n := 4) (m := ([1, 0, 1, 1] : List Int)) (Value.int .i64) (0 : Int) Agg3 (fun _ hS => ⟨_, (hS.at_ 0 rfl).rd⟩) (fun _ hS => ((hS.at_ 0 rfl).len1)) (fun _ => hp2)) <| obs_nil
                              refine any_finI rfl (fun h => h) ?_
                              refine any_step [8] (by kernel_rfl) rfl ?_
                              refine (all_cons ?_ all_nil)
                              · refine any_op (listed' := #[true, true, true, true, true, true, true, true, true, false]) (by kernel_rfl) (by kernel_rfl) ?_
                                refine at_runW 1 [] [] [1, 2, 6, 7, 8, 9, 10, 11, 12, 46] [pl 1 (.int .i64 k1), pl 2 (.pointer (some ⟨g4, 0, none⟩)), pl 6 (.slice A2 (Int.toNat (g3.length : Int)) c2), pl 7 (.bool one5), pl 8 (.bool two5), pl 9 (.int .i64 y1), pl 10 (.int .i64 x1), pl 11 (.int .i64 d1), pl 12 (.int .i64 (geti ([1, 0, 1, 1] : List Int) d1)), pl 46 (.int .i64 (geti ([0, 1, 1, (-1)] : List Int) d1))] hF hS (by kernel_rfl) (by kernel_rfl) ?_ (fun a hF => ?_)
                                · exact obs_nil
                                refine any_finI rfl (fun h => h) ?_
                                refine any_step [9] (by kernel_rfl) rfl ?_
                                refine (all_cons ?_ all_nil)
                                · refine any_op (listed' := #[true, true, true, true, true, true, true, true, true, true]) (by kernel_rfl) (by kernel_rfl) ?_
                                  refine at_runW 1 [] [] [1, 2, 6, 7, 8, 9, 10, 11, 12, 13] [pl 1 (.int .i64 k1), pl 2 (.pointer (some ⟨g4, 0, none⟩)), pl 6 (.slice A2 (Int.toNat (g3.length : Int)) c2), pl 7 (.bool one5), pl 8 (.bool two5), pl 9 (.int .i64 y1), pl 10 (.int .i64 x1), pl 11 (.int .i64 d1), pl 12 (.int .i64 (geti ([1, 0, 1, 1] : List Int) d1)), pl 13 (.int .i64 (geti ([0, 1, 1, (-1)] : List Int) d1))] hF hS (by kernel_rfl) (by kernel_rfl) ?_ (fun a hF => ?_)
                                  · exact obs_nil
                                  refine any_finI rfl (fun h => h) ?_
                                  refine any_end (by kernel_rfl) ?_
                                  refine np_n ?_
                                  refine then_n ?_
                                  have hS := hS.pickN 4 [2, 3] (by decide)
                                  exact ⟨hF.weak [1, 2, 6, 7, 8, 9, 10, 11, 12, 13] (by kernel_rfl), hS, hm⟩
            · refine reg [] [] [1, 2, 6, 7, 8, 9, 10, 11, 36] [pl 1 (.int .i64 k1), pl 2 (.pointer (some ⟨g4, 0, none⟩)), pl 6 (.slice A2 (Int.toNat (g3.length : Int)) c2), pl 7 (.bool one5), pl 8 (.bool two5), pl 9 (.int .i64 y1), pl 10 (.int .i64 x1), pl 11 (.int .i64 d1), pl 36 (.bool (decide (d1 < 4)))] hF hS Fol (by kernel_rfl) (by kernel_rfl) (by kernel_rfl) ?_ (fun a w hF hS => ?_)
              · exact obs_nil
              refine cond_ev (t := 36) (b := decide (d1 < 4)) hF (by kernel_rfl) (fun hb => ?_) (fun hb => ?_)
              · replace hm := if_t hm hb
                refine wp_skip ?_
                refine then_n ?_
                exact ⟨hF.weak [1, 2, 6, 7, 8, 9, 10, 11] (by kernel_rfl), hS, hm⟩
              · replace hm := if_f hm hb
                refine wp_exit ?_
                refine then_e (then_e (block_e (block_n (then_n ?_))))
                rw [← hφ3] at hm
                replace hm := done_b hm
                unfold gameroomref_WonOf_K3 at hm
                try dsimp only at hm
                have hm : ((gameroomref_WonOf_J5 x1) in5 one5 two5).bind φ2 = some r := hm
                exact ⟨in5, one5, two5, hF.weak [1, 2, 6, 7, 8, 9, 10] (by kernel_rfl), hS, hm⟩
        · refine reg [⟨false, [], vS (Instr.loadAt 3 (.pointer (some ⟨g4, 0, none⟩))), .int .i64 g1⟩] [none, none, some (.int .i64 g1), none] [1, 2, 6, 7, 8, 9, 10, 32] [pl 1 (.int .i64 k1), pl 2 (.pointer (some ⟨g4, 0, none⟩)), pl 6 (.slice A2 (Int.toNat (g3.length : Int)) c2), pl 7 (.bool one3), pl 8 (.bool two3), pl 9 (.int .i64 y1), pl 10 (.int .i64 x1), pl 32 (.bool (decide (x1 < g1)))] hF hS Fol (by kernel_rfl) (by kernel_rfl) (by kernel_rfl) ?_ (fun a w hF hS => ?_)
          · exact obs_cons (ob_load Agg3 (fun _ _ hS => (hS.at_ 0 rfl).cell rfl)) <| obs_nil
          refine cond_ev (t := 32) (b := decide (x1 < g1)) hF (by kernel_rfl) (fun hb => ?_) (fun hb => ?_)
          · replace hm := if_t hm hb
            refine wp_skip ?_
            refine then_n ?_
            exact ⟨hF.weak [1, 2, 6, 7, 8, 9, 10] (by kernel_rfl), hS, hm⟩
          · replace hm := if_f hm hb
            refine wp_exit ?_
            refine then_e (then_e (block_e (block_n (then_n ?_))))
            rw [← hφ2] at hm
            replace hm := done_b hm
            unfold gameroomref_WonOf_K2 at hm
            try dsimp only at hm
            have hm : ((gameroomref_WonOf_J3 y1) in3 one3 two3).bind φ1 = some r := hm
            exact ⟨in3, one3, two3, hF.weak [1, 2, 6, 7, 8, 9] (by kernel_rfl), hS, hm⟩
    · refine reg [⟨false, [], vS (Instr.loadAt 3 (.pointer (some ⟨g4, 1, none⟩))), .int .i64 g2⟩] [none, none, some (.int .i64 g2), none] [1, 2, 6, 7, 8, 9, 26] [pl 1 (.int .i64 k1), pl 2 (.pointer (some ⟨g4, 0, none⟩)), pl 6 (.slice A2 (Int.toNat (g3.length : Int)) c2), pl 7 (.bool one1), pl 8 (.bool two1), pl 9 (.int .i64 y1), pl 26 (.bool (decide (y1 < g2)))] hF hS Fol (by kernel_rfl) (by kernel_rfl) (by kernel_rfl) ?_ (fun a w hF hS => ?_)
      · exact obs_cons (ob_load Agg3 (fun _ _ hS => (hS.at_ 0 rfl).cell rfl)) <| obs_nil
      refine cond_ev (t := 26) (b := decide (y1 < g2)) hF (by kernel_rfl) (fun hb => ?_) (fun hb => ?_)
      · replace hm := if_t hm hb
        refine wp_skip ?_
        refine then_n ?_
        exact ⟨hF.weak [1, 2, 6, 7, 8, 9] (by kernel_rfl), hS, hm⟩
      · replace hm := if_f hm hb
        refine wp_exit ?_
        refine then_e (then_e (block_e (then_n ?_)))
        have hS := hS.pickN 2 [1] (by decide)
        rw [← hφ1] at hm
        replace hm := done_b hm
        unfold gameroomref_WonOf_K1 at hm
        try dsimp only at hm
        have hm : ((gameroomref_WonOf_J1 g3) in1 one1 two1).bind some = some r := hm
        exact ⟨in1, one1, two1, hF.weak [6, 7, 8] (by kernel_rfl), hS, hm⟩

noncomputable def gameroomref_fallTo_J3 (y1 : Int) (place3 : Int) : Option (St (Int × Int) Int) :=
  some (.next (place3, (w64 (y1 + 1))))

noncomputable def gameroomref_fallTo_J2 (g1 : Int) (g3 : List Int) (column1 : Int) (place1 : Int) (y1 : Int) : Option (St (Int × Int) Int) :=
  asrt (0 ≤ (w64 ((w64 (y1 * g1)) + column1)) ∧ (w64 ((w64 (y1 * g1)) + column1)) < (g3.length : Int)) <| if ((geti g3 (w64 ((w64 (y1 * g1)) + column1))) == 0) then ((gameroomref_fallTo_J3 y1) (w64 ((w64 (y1 * g1)) + column1))) else ((gameroomref_fallTo_J3 y1) place1)

noncomputable def gameroomref_fallTo_J1 (place2 : Int) : Option Int :=
  some place2

noncomputable def gameroomref_fallTo_K1 : Int → Option Int :=
  fun (x : Int) => match x with | place2 => gameroomref_fallTo_J1 place2

noncomputable def gameroomref_fallTo_L1 (g1 : Int) (g2 : Int) (g3 : List Int) (column1 : Int) : (Int × Int) → Option (St (Int × Int) Int) :=
  fun (x : (Int × Int)) => match x with | (place1, y1) => if (decide (y1 < g2)) then ((gameroomref_fallTo_J2 g1 g3 column1 place1 y1)) else (some (.done place1))

noncomputable def gameroomref_fallTo_m (g1 : Int) (g2 : Int) (g3 : List Int) (column1 : Int) : Option Int :=
  (loop (gameroomref_fallTo_L1 g1 g2 g3 column1) ((-1), 0)).bind gameroomref_fallTo_K1

set_option maxRecDepth 100000 in
set_option maxHeartbeats 4000000 in
theorem gameroomref_fallTo_w {g1 : Int} {g2 : Int} {A1 : Option Addr} {c1 : Nat} {n1 : Nat} {g3 : List Int} {column1 : Int} {r : Int} {w0 w : World} {B : Nat} {fs : List HP} (hm : gameroomref_fallTo_m g1 g2 g3 column1 = some r) (hS : Sep w0 B w (fs)) (hr_g3 : RdF w0 B fs A1 (vI g3)) (_hc_g3 : g3.length ≤ c1) (_hn_g3 : n1 = g3.length) :
    Calls Try.prog 71 #[.agg #[.int .i64 g1, .int .i64 g2, .slice A1 n1 c1], .int .i64 column1] w fun e w' => e = .returned (.int .i64 r) ∧ Sep w0 B w' (fs) := by
  obtain ⟨i3, hi3, hz3, hs3, hb3⟩ := info_parts Info3
  obtain rfl := _hn_g3
  unfold gameroomref_fallTo_m at hm
  replace hm := start_b hm
  refine enter (l := [.agg #[.int .i64 g1, .int .i64 g2, .slice A1 g3.length c1], .int .i64 column1]) (n := 31) Try.func71 rfl rfl (by simp) (fun a hF => ?_)
  refine seqR ?_
  refine at_do (d := 2) (s := vS (Instr.box 55 (.agg #[.int .i64 g1, .int .i64 g2, .slice A1 g3.length c1]))) (v := .pointer (some ⟨w.heap.size, 0, none⟩)) (w' := w.alloc (.cells #[.int .i64 g1, .int .i64 g2, .slice A1 g3.length c1] 55)) hF (by kernel_rfl) (by kernel_rfl) (by kernel_rfl) (fun a hF => ?_)
  have hS : Sep w0 B (w.alloc (.cells #[.int .i64 g1, .int .i64 g2, .slice A1 g3.length c1] 55)) (blk w.heap.size 55 #[.int .i64 g1, .int .i64 g2, .slice A1 g3.length c1] :: (fs)) := hS.box 55 #[.int .i64 g1, .int .i64 g2, .slice A1 g3.length c1]
  generalize w.heap.size = g4 at hF hS
  generalize w.alloc (.cells #[.int .i64 g1, .int .i64 g2, .slice A1 g3.length c1] 55) = w at hS ⊢
  refine at_run 1 [] [] [1, 2] [pl 1 (.int .i64 column1), pl 2 (.pointer (some ⟨g4, 0, none⟩))] hF hS (by kernel_rfl) (by kernel_rfl) ?_ (fun a w hF hS => ?_)
  · exact obs_nil
  refine at_end [1, 2] [pl 1 (.int .i64 column1), pl 2 (.pointer (some ⟨g4, 0, none⟩))] hF rfl (by kernel_rfl) (fun hF => ?_)
  refine then_n ?_
  refine reg [] [] [1, 2, 5] [pl 1 (.int .i64 column1), pl 2 (.pointer (some ⟨g4, 0, none⟩)), pl 5 (.int .i64 (-1))] hF hS Fol (by kernel_rfl) (by kernel_rfl) (by kernel_rfl) ?_ (fun a w hF hS => ?_)
  · exact obs_nil
  refine seq_cut (fun a w => ∃ (place2 : Int), Fr 31 [pl 5 (.int .i64 place2)] a ∧ Sep w0 B w (fs) ∧ (gameroomref_fallTo_J1 place2).bind some = some r) ?_ ?_
  · rintro a w ⟨place2, hF, hS, hm⟩
    unfold gameroomref_fallTo_J1 at hm
    refine reg [] [] [4] [pl 4 (.int .i64 place2)] hF hS Fol (by kernel_rfl) (by kernel_rfl) (by kernel_rfl) ?_ (fun a w hF hS => ?_)
    · exact obs_nil
    refine wp_ret ?_
    have hm : some place2 = some r := hm
    obtain rfl := Option.some.inj hm
    exact retV (rs := [.tmp 4]) (vs := [.int .i64 place2]) hF rfl (rv_t (by kernel_rfl) <| rv_nil) rfl ⟨rfl, hS⟩
  · refine reg [] [] [1, 2, 5, 6] [pl 1 (.int .i64 column1), pl 2 (.pointer (some ⟨g4, 0, none⟩)), pl 5 (.int .i64 (-1)), pl 6 (.int .i64 0)] hF hS Fol (by kernel_rfl) (by kernel_rfl) (by kernel_rfl) ?_ (fun a w hF hS => ?_)
    · exact obs_nil
    refine wp_block ?_
    refine wp_loop_model (S := (Int × Int)) (R := Int) (gameroomref_fallTo_L1 g1 g2 g3 column1) (fun x => (gameroomref_fallTo_K1 x).bind some) r (fun (x : (Int × Int)) a w => Fr 31 [pl 1 (.int .i64 column1), pl 2 (.pointer (some ⟨g4, 0, none⟩)), pl 5 (.int .i64 x.1), pl 6 (.int .i64 x.2)] a ∧ Sep w0 B w (blk g4 55 #[.int .i64 g1, .int .i64 g2, .slice A1 g3.length c1] :: fs)) (assoc_b hm) ⟨hF.weak [1, 2, 5, 6] (by kernel_rfl), hS⟩ ?_
    clear hF hS hm
    rintro nn1 ⟨place1, y1⟩ a w ⟨hF, hS⟩ hm
    generalize hφ1 : stK (gameroomref_fallTo_L1 g1 g2 g3 column1) nn1 (fun x => (gameroomref_fallTo_K1 x).bind some) = φ1 at hm
    unfold gameroomref_fallTo_L1 at hm
    dsimp only at hF hS hm
    refine seq_cut (fun a w => Fr 31 [pl 1 (.int .i64 column1), pl 2 (.pointer (some ⟨g4, 0, none⟩)), pl 5 (.int .i64 place1), pl 6 (.int .i64 y1)] a ∧ Sep w0 B w (blk g4 55 #[.int .i64 g1, .int .i64 g2, .slice A1 g3.length c1] :: fs) ∧ ((gameroomref_fallTo_J2 g1 g3 column1 place1 y1)).bind φ1 = some r) ?_ ?_
    · rintro a w ⟨hF, hS, hm⟩
      unfold gameroomref_fallTo_J2 at hm
      refine seq_cut (fun a w => ∃ (place3 : Int), Fr 31 [pl 1 (.int .i64 column1), pl 2 (.pointer (some ⟨g4, 0, none⟩)), pl 5 (.int .i64 place3), pl 6 (.int .i64 y1)] a ∧ Sep w0 B w (blk g4 55 #[.int .i64 g1, .int .i64 g2, .slice A1 g3.length c1] :: fs) ∧ ((gameroomref_fallTo_J3 y1) place3).bind φ1 = some r) ?_ ?_
      · rintro a w ⟨place3, hF, hS, hm⟩
        unfold gameroomref_fallTo_J3 at hm
        refine reg1 [] [] [1, 2, 5, 6] [pl 1 (.int .i64 column1), pl 2 (.pointer (some ⟨g4, 0, none⟩)), pl 5 (.int .i64 place3), pl 6 (.int .i64 (w64 (y1 + 1)))] hF hS Fol (by kernel_rfl) (by kernel_rfl) (by kernel_rfl) ?_ (fun a w hF hS => ?_)
        · exact obs_nil
        refine then_n ?_
        rw [← hφ1] at hm
        exact ⟨(place3, (w64 (y1 + 1))), ⟨hF.weak [1, 2, 5, 6] (by kernel_rfl), hS⟩, hm⟩
      · refine wp_block ?_
        obtain ⟨hp1, hm⟩ := asrt_b hm
        refine reg [⟨false, [], vS (Instr.loadAt 22 (.pointer (some ⟨g4, 2, none⟩))), .slice A1 g3.length c1⟩, ⟨false, [], vS (Instr.loadAt 3 (.pointer (some ⟨g4, 0, none⟩))), .int .i64 g1⟩, ⟨true, [], vS (Instr.indexAt 22 (.slice A1 g3.length c1) (.int .i64 (w64 ((w64 (y1 * g1)) + column1)))), .pointer (some (sAddr A1 (w64 ((w64 (y1 * g1)) + column1))))⟩, ⟨false, [], vS (Instr.loadAt 3 (.pointer (some (sAddr A1 (w64 ((w64 (y1 * g1)) + column1)))))), .int .i64 (geti g3 (w64 ((w64 (y1 * g1)) + column1)))⟩] [none, some (.slice A1 g3.length c1), none, none, some (.int .i64 g1), none, none, none, some (.pointer (some (sAddr A1 (w64 ((w64 (y1 * g1)) + column1))))), some (.int .i64 (geti g3 (w64 ((w64 (y1 * g1)) + column1)))), none] [1, 2, 5, 6, 23] [pl 1 (.int .i64 column1), pl 2 (.pointer (some ⟨g4, 0, none⟩)), pl 5 (.int .i64 place1), pl 6 (.int .i64 y1), pl 23 (.bool ((geti g3 (w64 ((w64 (y1 * g1)) + column1))) == 0))] hF hS Fol (by kernel_rfl) (by kernel_rfl) (by kernel_rfl) ?_ (fun a w hF hS => ?_)
        · exact obs_cons (ob_load Agg22 (fun _ _ hS => (hS.at_ 0 rfl).cell rfl)) <| obs_cons (ob_load Agg3 (fun _ _ hS => (hS.at_ 0 rfl).cell rfl)) <| obs_cons (ob_ix1 (f := (Value.int .i64)) (m := g3) Und22 hi3 hs3 (hr_g3 _ (hS.dropN 1)) rfl (fun _ => hp1)) <| obs_cons (ob_get1 (n := g3.length) (m := g3) (Value.int .i64) (0 : Int) Agg3 (fun _ hS => ⟨_, (hr_g3 _ (hS.dropN 1))⟩) (fun _ hS => rfl) (fun _ => hp1)) <| obs_nil
        refine cond_ev (t := 23) (b := ((geti g3 (w64 ((w64 (y1 * g1)) + column1))) == 0)) hF (by kernel_rfl) (fun hb => ?_) (fun hb => ?_)
        · replace hm := if_t hm hb
          refine reg1 [⟨false, [], vS (Instr.loadAt 3 (.pointer (some ⟨g4, 0, none⟩))), .int .i64 g1⟩] [none, none, some (.int .i64 g1), none, none, none, none] [1, 2, 5, 6] [pl 1 (.int .i64 column1), pl 2 (.pointer (some ⟨g4, 0, none⟩)), pl 5 (.int .i64 (w64 ((w64 (y1 * g1)) + column1))), pl 6 (.int .i64 y1)] hF hS Fol (by kernel_rfl) (by kernel_rfl) (by kernel_rfl) ?_ (fun a w hF hS => ?_)
          · exact obs_cons (ob_load Agg3 (fun _ _ hS => (hS.at_ 0 rfl).cell rfl)) <| obs_nil
          refine block_n ?_
          refine then_n ?_
          exact ⟨(w64 ((w64 (y1 * g1)) + column1)), hF.weak [1, 2, 5, 6] (by kernel_rfl), hS, hm⟩
        · replace hm := if_f hm hb
          refine wp_skip ?_
          refine block_n ?_
          refine then_n ?_
          exact ⟨place1, hF.weak [1, 2, 5, 6] (by kernel_rfl), hS, hm⟩
    · refine reg [⟨false, [], vS (Instr.loadAt 3 (.pointer (some ⟨g4, 1, none⟩))), .int .i64 g2⟩] [none, none, some (.int .i64 g2), none] [1, 2, 5, 6, 10] [pl 1 (.int .i64 column1), pl 2 (.pointer (some ⟨g4, 0, none⟩)), pl 5 (.int .i64 place1), pl 6 (.int .i64 y1), pl 10 (.bool (decide (y1 < g2)))] hF hS Fol (by kernel_rfl) (by kernel_rfl) (by kernel_rfl) ?_ (fun a w hF hS => ?_)
      · exact obs_cons (ob_load Agg3 (fun _ _ hS => (hS.at_ 0 rfl).cell rfl)) <| obs_nil
      refine cond_ev (t := 10) (b := decide (y1 < g2)) hF (by kernel_rfl) (fun hb => ?_) (fun hb => ?_)
      · replace hm := if_t hm hb
        refine wp_skip ?_
        refine then_n ?_
        exact ⟨hF.weak [1, 2, 5, 6] (by kernel_rfl), hS, hm⟩
      · replace hm := if_f hm hb
        refine wp_exit ?_
        refine then_e (then_e (block_e (then_n ?_)))
        have hS := hS.pickN 1 [] (by decide)
        rw [← hφ1] at hm
        replace hm := done_b hm
        unfold gameroomref_fallTo_K1 at hm
        try dsimp only at hm
        have hm : (gameroomref_fallTo_J1 place1).bind some = some r := hm
        exact ⟨place1, hF.weak [5] (by kernel_rfl), hS, hm⟩

noncomputable def gameroomref_Ints_m (l1 : List Int) : Option (List Int) :=
  asrt ((0 : Int) + (l1.length : Int) ≤ bigN) <| some ([] ++ l1)

set_option maxRecDepth 100000 in
set_option maxHeartbeats 4000000 in
theorem gameroomref_Ints_w {A1 : Option Addr} {c1 : Nat} {n1 : Nat} {l1 : List Int} {r : (List Int)} {w0 w : World} {B : Nat} {fs : List HP} (hm : gameroomref_Ints_m l1 = some r) (hS : Sep w0 B w (fs)) (hr_l1 : RdF w0 B fs A1 (vI l1)) (_hc_l1 : l1.length ≤ c1) (_hn_l1 : n1 = l1.length) :
    Calls Try.prog 86 #[.slice A1 n1 c1] w fun e w' => ∃ v, e = .returned v ∧ ∃ (A3 : Option Addr) (c3 : Nat), v = .slice A3 r.length c3 ∧ Sep w0 B w' (own 3 (.slice A3 r.length c3) (vI r) :: fs) := by
  obtain ⟨i3, hi3, hz3, hs3, hb3⟩ := info_parts Info3
  obtain rfl := _hn_l1
  unfold gameroomref_Ints_m at hm
  replace hm := start_b hm
  refine enter (l := [.slice A1 l1.length c1]) (n := 5) Try.func86 rfl rfl (by simp) (fun a hF => ?_)
  refine reg [] [] [0] [pl 0 (.slice A1 l1.length c1)] hF hS Fol (by kernel_rfl) (by kernel_rfl) (by kernel_rfl) ?_ (fun a w hF hS => ?_)
  · exact obs_nil
  refine seqR ?_
  obtain ⟨hp1, hm⟩ := asrt_b hm
  refine at_run 1 [] [] [3] [pl 3 (.slice A1 l1.length c1)] hF hS (by kernel_rfl) (by kernel_rfl) ?_ (fun a w hF hS => ?_)
  · exact obs_nil
  have hS : Sep w0 B w (own 3 (.slice none 0 0) (vI ([] : List Int)) :: fs) := hS.nil 3
  obtain ⟨A2, c2, w, hrun, hS⟩ := run_app1 (P := Try.prog) (t := 22) (m := ([] : List Int)) (ys := l1) (A2 := A1) (m2 := l1.length) (c2 := c1) (Value.int .i64) (0 : Int) (hS.at_ 0 rfl) (hr_l1 _ (hS.dropN 1)) rfl 22 Und22 hi3 hz3 hs3 (by omega) rfl (fun _ => rfl) hp1
  have hS : Sep w0 B w (own 3 (.slice A2 (([] ++ l1).length) c2) (vI ([] ++ l1)) :: fs) := hS
  refine at_do (d := 4) hF (by kernel_rfl) (by kernel_rfl) hrun (fun a hF => ?_)
  refine at_run 1 [] [] [2] [pl 2 (.slice A2 (([] ++ l1).length) c2)] hF hS (by kernel_rfl) (by kernel_rfl) ?_ (fun a w hF hS => ?_)
  · exact obs_nil
  refine at_end [2] [pl 2 (.slice A2 (([] ++ l1).length) c2)] hF rfl (by kernel_rfl) (fun hF => ?_)
  refine then_n ?_
  refine wp_ret ?_
  have hm : some ([] ++ l1) = some r := hm
  obtain rfl := Option.some.inj hm
  exact retV (rs := [.tmp 2]) (vs := [.slice A2 (([] ++ l1).length) c2]) hF rfl (rv_t (by kernel_rfl) <| rv_nil) rfl ⟨_, rfl, A2, c2, rfl, hS⟩
end Go.Proofs.Ytnplejebgbdfpaa
