/-
  Models and walks, printed by our own program (wip/gen).
-/
import Derived.Test.YtgafnmnacolgbaaFB
import Derived.Test.YtgafnmnacolgbaaSH
import Derived.Test.YtgafnmnacolgbaaNRa
namespace Go.Proofs.Ytgafnmnacolgbaa
open Go Go.GL Go.RowKit

noncomputable def gameroomref_WonOf_m (g1 : Int) (g2 : Int) (g3 : List Int) (k1 : Int) : Option (Int × List Int) :=
  asrt ((0 : Int) ≤ (g3.length : Int) ∧ (g3.length : Int) ≤ bigN) <| (loop (gameroomref_WonOf_L1 g1 g2 g3 k1) ((List.replicate (Int.toNat (g3.length : Int)) false), false, false, 0)).bind (gameroomref_WonOf_K1 g3)

set_option maxRecDepth 100000 in
set_option maxHeartbeats 4000000 in
theorem gameroomref_WonOf_w {g1 : Int} {g2 : Int} {A1 : Option Addr} {c1 : Nat} {n1 : Nat} {g3 : List Int} {k1 : Int} {r : (Int × List Int)} {w0 w : World} {B : Nat} {fs : List HP} (hm : gameroomref_WonOf_m g1 g2 g3 k1 = some r) (hS : Sep w0 B w (fs)) (hr_g3 : RdF w0 B fs A1 (vI g3)) (_hc_g3 : g3.length ≤ c1) (_hn_g3 : n1 = g3.length) :
    Calls Try.prog 54 #[.agg #[.int .i64 g1, .int .i64 g2, .slice A1 n1 c1], .int .i64 k1] w fun e w' => ∃ v, e = .returned v ∧ ∃ (A7 : Option Addr) (c7 : Nat), v = .tuple #[.int .i64 r.1, .slice A7 r.2.length c7] ∧ Sep w0 B w' (own 3 (.slice A7 r.2.length c7) (vI r.2) :: fs) := by
  obtain ⟨i3, hi3, hz3, hs3, hb3⟩ := info_parts Info3
  obtain ⟨i4, hi4, hz4, hs4, hb4⟩ := info_parts Info4
  obtain rfl := _hn_g3
  unfold gameroomref_WonOf_m at hm
  replace hm := start_b hm
  refine enter (l := [.agg #[.int .i64 g1, .int .i64 g2, .slice A1 g3.length c1], .int .i64 k1]) (n := 109) Try.func54 rfl rfl (by simp) (fun a hF => ?_)
  refine seqR ?_
  refine at_do (d := 2) (s := vS (Instr.box 93 (.agg #[.int .i64 g1, .int .i64 g2, .slice A1 g3.length c1]))) (v := .pointer (some ⟨w.heap.size, 0, none⟩)) (w' := w.alloc (.cells #[.int .i64 g1, .int .i64 g2, .slice A1 g3.length c1] 93)) hF (by kernel_rfl) (by kernel_rfl) (by kernel_rfl) (fun a hF => ?_)
  have hS : Sep w0 B (w.alloc (.cells #[.int .i64 g1, .int .i64 g2, .slice A1 g3.length c1] 93)) (blk w.heap.size 93 #[.int .i64 g1, .int .i64 g2, .slice A1 g3.length c1] :: (fs)) := hS.box 93 #[.int .i64 g1, .int .i64 g2, .slice A1 g3.length c1]
  generalize w.heap.size = g4 at hF hS
  generalize w.alloc (.cells #[.int .i64 g1, .int .i64 g2, .slice A1 g3.length c1] 93) = w at hS ⊢
  refine at_run 2 [] [] [1, 2] [pl 1 (.int .i64 k1), pl 2 (.pointer (some ⟨g4, 0, none⟩))] hF hS (by kernel_rfl) (by kernel_rfl) ?_ (fun a w hF hS => ?_)
  · exact obs_nil
  refine at_end [1, 2] [pl 1 (.int .i64 k1), pl 2 (.pointer (some ⟨g4, 0, none⟩))] hF rfl (by kernel_rfl) (fun hF => ?_)
  refine then_n ?_
  refine seqR ?_
  obtain ⟨hp1, hm⟩ := asrt_b hm
  refine at_run 3 [⟨false, [], vS (Instr.loadAt 34 (.pointer (some ⟨g4, 2, none⟩))), .slice A1 g3.length c1⟩] [none, some (.slice A1 g3.length c1), none] [1, 2, 21] [pl 1 (.int .i64 k1), pl 2 (.pointer (some ⟨g4, 0, none⟩)), pl 21 (.int .i64 (g3.length : Int))] hF hS (by kernel_rfl) (by kernel_rfl) ?_ (fun a w hF hS => ?_)
  · exact obs_cons (ob_load Agg34 (fun _ _ hS => (hS.at_ 0 rfl).cell rfl)) <| obs_nil
  obtain ⟨A2, c2, w, hrun, hS⟩ := run_mk1 (P := Try.prog) (t := 151) Value.bool false hS .i64 .i64 Und151 hi4 hz4 hs4 (by omega) rfl hp1
  have hS : Sep w0 B w (own 4 (.slice A2 (Int.toNat (g3.length : Int)) c2) (vB (List.replicate (Int.toNat (g3.length : Int)) false)) :: blk g4 93 #[.int .i64 g1, .int .i64 g2, .slice A1 g3.length c1] :: fs) := hS
  refine at_do (d := 22) hF (by kernel_rfl) (by kernel_rfl) hrun (fun a hF => ?_)
  refine at_run 1 [] [] [1, 2, 6] [pl 1 (.int .i64 k1), pl 2 (.pointer (some ⟨g4, 0, none⟩)), pl 6 (.slice A2 (Int.toNat (g3.length : Int)) c2)] hF hS (by kernel_rfl) (by kernel_rfl) ?_ (fun a w hF hS => ?_)
  · exact obs_nil
  refine at_end [1, 2, 6] [pl 1 (.int .i64 k1), pl 2 (.pointer (some ⟨g4, 0, none⟩)), pl 6 (.slice A2 (Int.toNat (g3.length : Int)) c2)] hF rfl (by kernel_rfl) (fun hF => ?_)
  refine then_n ?_
  refine reg [] [] [1, 2, 6, 7, 8] [pl 1 (.int .i64 k1), pl 2 (.pointer (some ⟨g4, 0, none⟩)), pl 6 (.slice A2 (Int.toNat (g3.length : Int)) c2), pl 7 (.bool false), pl 8 (.bool false)] hF hS Fol (by kernel_rfl) (by kernel_rfl) (by kernel_rfl) ?_ (fun a w hF hS => ?_)
  · exact obs_nil
  refine seq_cut (fun a w => ∃ (in2 : List Bool) (one2 : Bool) (two2 : Bool), Fr 109 [pl 6 (.slice A2 (Int.toNat (g3.length : Int)) c2), pl 7 (.bool one2), pl 8 (.bool two2)] a ∧ Sep w0 B w (own 4 (.slice A2 (Int.toNat (g3.length : Int)) c2) (vB in2) :: fs) ∧ ((gameroomref_WonOf_J1 g3) in2 one2 two2).bind some = some r) ?_ ?_
  · rintro a w ⟨in2, one2, two2, hF, hS, hm⟩
    unfold gameroomref_WonOf_J1 at hm
    refine reg [] [] [6, 7, 8, 16] [pl 6 (.slice A2 (Int.toNat (g3.length : Int)) c2), pl 7 (.bool one2), pl 8 (.bool two2), pl 16 (.int .i64 0)] hF hS Fol (by kernel_rfl) (by kernel_rfl) (by kernel_rfl) ?_ (fun a w hF hS => ?_)
    · exact obs_nil
    refine seq_cut (fun a w => ∃ (n2 : Int), Fr 109 [pl 6 (.slice A2 (Int.toNat (g3.length : Int)) c2), pl 8 (.bool two2), pl 16 (.int .i64 n2)] a ∧ Sep w0 B w (own 4 (.slice A2 (Int.toNat (g3.length : Int)) c2) (vB in2) :: fs) ∧ ((gameroomref_WonOf_J11 g3 in2 two2) n2).bind some = some r) ?_ ?_
    · rintro a w ⟨n2, hF, hS, hm⟩
      unfold gameroomref_WonOf_J11 at hm
      refine seq_cut (fun a w => ∃ (n3 : Int), Fr 109 [pl 6 (.slice A2 (Int.toNat (g3.length : Int)) c2), pl 16 (.int .i64 n3)] a ∧ Sep w0 B w (own 4 (.slice A2 (Int.toNat (g3.length : Int)) c2) (vB in2) :: fs) ∧ ((gameroomref_WonOf_J12 g3 in2) n3).bind some = some r) ?_ ?_
      · rintro a w ⟨n3, hF, hS, hm⟩
        unfold gameroomref_WonOf_J12 at hm
        refine reg [] [] [6, 16, 17] [pl 6 (.slice A2 (Int.toNat (g3.length : Int)) c2), pl 16 (.int .i64 n3), pl 17 (.slice none 0 0)] hF hS Fol (by kernel_rfl) (by kernel_rfl) (by kernel_rfl) ?_ (fun a w hF hS => ?_)
        · exact obs_nil
        refine seq_cut (fun a w => ∃ (l2 : List Int) (A4 : Option Addr) (c4 : Nat), Fr 109 [pl 16 (.int .i64 n3), pl 17 (.slice A4 l2.length c4)] a ∧ Sep w0 B w (own 3 (.slice A4 l2.length c4) (vI l2) :: fs) ∧ ((gameroomref_WonOf_J13 n3) l2).bind some = some r) ?_ ?_
        · rintro a w ⟨l2, A4, c4, hF, hS, hm⟩
          unfold gameroomref_WonOf_J13 at hm
          refine reg [] [] [4, 5] [pl 4 (.int .i64 n3), pl 5 (.slice A4 l2.length c4)] hF hS Fol (by kernel_rfl) (by kernel_rfl) (by kernel_rfl) ?_ (fun a w hF hS => ?_)
          · exact obs_nil
          refine wp_ret ?_
          have hm : some (n3, l2) = some r := hm
          obtain rfl := Option.some.inj hm
          exact retV (rs := [.tmp 4, .tmp 5]) (vs := [.int .i64 n3, .slice A4 l2.length c4]) hF rfl (rv_t (by kernel_rfl) <| rv_t (by kernel_rfl) <| rv_nil) rfl ⟨_, rfl, A4, c4, rfl, hS⟩
        · refine reg [] [] [6, 16, 17, 18] [pl 6 (.slice A2 (Int.toNat (g3.length : Int)) c2), pl 16 (.int .i64 n3), pl 17 (.slice none 0 0), pl 18 (.int .i64 0)] hF hS Fol (by kernel_rfl) (by kernel_rfl) (by kernel_rfl) ?_ (fun a w hF hS => ?_)
          · exact obs_nil
          refine wp_block ?_
          have hS : Sep w0 B w (own 3 (.slice none 0 0) (vI ([] : List Int)) :: own 4 (.slice A2 (Int.toNat (g3.length : Int)) c2) (vB in2) :: fs) := hS.nil 3
          have hl1 := (hS.at_ 0 rfl).len1
          have hS := (hS.at_ 0 rfl).reN hl1
          have hS : Sep w0 B w (own 3 (.slice none (([] : List Int).length) 0) (vI ([] : List Int)) :: own 4 (.slice A2 (Int.toNat (g3.length : Int)) c2) (vB in2) :: fs) := hS
          have hF := hF.cast (t := 17) (v := .slice none 0 0) (v' := .slice none (([] : List Int).length) 0) rfl rfl (congrArg (fun k => Value.slice none k 0) hl1)
          have hS := hS.pickN 2 [1, 0] (by decide)
          refine wp_loop_model (S := (List Int × Int)) (R := (List Int)) (gameroomref_WonOf_L5 g3 in2) (fun x => ((gameroomref_WonOf_K5 n3) x).bind some) r (fun (x : (List Int × Int)) a w => ∃ (A3 : Option Addr) (c3 : Nat), Fr 109 [pl 6 (.slice A2 (Int.toNat (g3.length : Int)) c2), pl 16 (.int .i64 n3), pl 17 (.slice A3 x.1.length c3), pl 18 (.int .i64 x.2)] a ∧ Sep w0 B w (own 4 (.slice A2 (Int.toNat (g3.length : Int)) c2) (vB in2) :: own 3 (.slice A3 x.1.length c3) (vI x.1) :: fs)) (assoc_b hm) ⟨none, 0, hF.weak [6, 16, 17, 18] (by kernel_rfl), hS⟩ ?_
          clear hF hS hm
          rintro nn5 ⟨l1, i2⟩ a w ⟨A3, c3, hF, hS⟩ hm
          generalize hφ5 : stK (gameroomref_WonOf_L5 g3 in2) nn5 (fun x => ((gameroomref_WonOf_K5 n3) x).bind some) = φ5 at hm
          unfold gameroomref_WonOf_L5 at hm
          dsimp only at hF hS hm
          refine seq_cut (fun a w => Fr 109 [pl 6 (.slice A2 (Int.toNat (g3.length : Int)) c2), pl 16 (.int .i64 n3), pl 17 (.slice A3 l1.length c3), pl 18 (.int .i64 i2)] a ∧ Sep w0 B w (own 4 (.slice A2 (Int.toNat (g3.length : Int)) c2) (vB in2) :: own 3 (.slice A3 l1.length c3) (vI l1) :: fs) ∧ ((gameroomref_WonOf_J14 g3 in2 l1 i2)).bind φ5 = some r) ?_ ?_
          · rintro a w ⟨hF, hS, hm⟩
            unfold gameroomref_WonOf_J14 at hm
            refine seq_cut (fun a w => ∃ (l3 : List Int) (A6 : Option Addr) (c6 : Nat), Fr 109 [pl 6 (.slice A2 (Int.toNat (g3.length : Int)) c2), pl 16 (.int .i64 n3), pl 17 (.slice A6 l3.length c6), pl 18 (.int .i64 i2)] a ∧ Sep w0 B w (own 4 (.slice A2 (Int.toNat (g3.length : Int)) c2) (vB in2) :: own 3 (.slice A6 l3.length c6) (vI l3) :: fs) ∧ ((gameroomref_WonOf_J15 i2) l3).bind φ5 = some r) ?_ ?_
            · rintro a w ⟨l3, A6, c6, hF, hS, hm⟩
              unfold gameroomref_WonOf_J15 at hm
              refine reg1 [] [] [6, 16, 17, 18] [pl 6 (.slice A2 (Int.toNat (g3.length : Int)) c2), pl 16 (.int .i64 n3), pl 17 (.slice A6 l3.length c6), pl 18 (.int .i64 (w64 (i2 + 1)))] hF hS Fol (by kernel_rfl) (by kernel_rfl) (by kernel_rfl) ?_ (fun a w hF hS => ?_)
              · exact obs_nil
              refine then_n ?_
              rw [← hφ5] at hm
              exact ⟨(l3, (w64 (i2 + 1))), ⟨A6, c6, hF.weak [6, 16, 17, 18] (by kernel_rfl), hS⟩, hm⟩
            · refine wp_block ?_
              obtain ⟨hp5, hm⟩ := asrt_b hm
              refine reg [⟨true, [], vS (Instr.indexAt 151 (.slice A2 (Int.toNat (g3.length : Int)) c2) (.int .i64 i2)), .pointer (some (sAddr A2 i2))⟩, ⟨false, [], vS (Instr.loadAt 4 (.pointer (some (sAddr A2 i2)))), .bool (getb in2 i2)⟩] [none, none, some (.pointer (some (sAddr A2 i2))), some (.bool (getb in2 i2))] [6, 16, 17, 18, 102] [pl 6 (.slice A2 (Int.toNat (g3.length : Int)) c2), pl 16 (.int .i64 n3), pl 17 (.slice A3 l1.length c3), pl 18 (.int .i64 i2), pl 102 (.bool (getb in2 i2))] hF hS Fol (by kernel_rfl) (by kernel_rfl) (by kernel_rfl) ?_ (fun a w hF hS => ?_)
              · exact obs_cons (ob_ix1 (f := Value.bool) (m := in2) Und151 hi4 hs4 (hS.at_ 0 rfl).rd ((hS.at_ 0 rfl).len1) (fun _ => hp5)) <| obs_cons (ob_get1 (n := (Int.toNat (g3.length : Int))) (m := in2) Value.bool false Agg4 (fun _ hS => ⟨_, (hS.at_ 0 rfl).rd⟩) (fun _ hS => ((hS.at_ 0 rfl).len1)) (fun _ => hp5)) <| obs_nil
              refine cond_ev (t := 102) (b := getb in2 i2) hF (by kernel_rfl) (fun hb => ?_) (fun hb => ?_)
              · replace hm := if_t hm hb
                refine oneR ?_
                obtain ⟨hp6, hm⟩ := asrt_b hm
                refine at_run 2 [] [] [6, 16, 18, 103, 104] [pl 6 (.slice A2 (Int.toNat (g3.length : Int)) c2), pl 16 (.int .i64 n3), pl 18 (.int .i64 i2), pl 103 (.slice A3 l1.length c3), pl 104 (.int .i64 i2)] hF hS (by kernel_rfl) (by kernel_rfl) ?_ (fun a w hF hS => ?_)
                · exact obs_nil
                refine at_do (d := 105) (s := vS (Instr.buildSlice 34 1 #[(0, .int .i64 i2)])) (v := .slice (some ⟨w.heap.size, 0, none⟩) 1 1) (w' := w.alloc (.cells #[.int .i64 i2] 3)) hF (by kernel_rfl) (by kernel_rfl) (by kernel_rfl) (fun a hF => ?_)
                have hS : Sep w0 B (w.alloc (.cells #[.int .i64 i2] 3)) (own 3 (.slice (some (⟨w.heap.size, 0, none⟩ : Addr)) 1 1) (vI ([i2] : List Int)) :: (own 4 (.slice A2 (Int.toNat (g3.length : Int)) c2) (vB in2) :: own 3 (.slice A3 l1.length c3) (vI l1) :: fs)) := hS.lit 3 #[.int .i64 i2] 1 rfl (by omega)
                generalize (some (⟨w.heap.size, 0, none⟩ : Addr)) = g7 at hF hS
                generalize w.alloc (.cells #[.int .i64 i2] 3) = w at hS ⊢
                obtain ⟨A5, c5, w, hrun, hS⟩ := run_app1 (P := Try.prog) (t := 34) (m := l1) (ys := ([i2] : List Int)) (A2 := g7) (m2 := 1) (c2 := 1) (Value.int .i64) (0 : Int) (hS.at_ 2 rfl) (hS.at_ 0 rfl).rd ((hS.at_ 0 rfl).len1) 34 Und34 hi3 hz3 hs3 (by omega) rfl (fun _ => rfl) hp6
                have hS : Sep w0 B w (own 3 (.slice g7 1 1) (vI ([i2] : List Int)) :: own 4 (.slice A2 (Int.toNat (g3.length : Int)) c2) (vB in2) :: own 3 (.slice A5 ((l1 ++ ([i2] : List Int)).length) c5) (vI (l1 ++ ([i2] : List Int))) :: fs) := hS
                refine at_do (d := 106) hF (by kernel_rfl) (by kernel_rfl) hrun (fun a hF => ?_)
                refine at_run 1 [] [] [6, 16, 17, 18] [pl 6 (.slice A2 (Int.toNat (g3.length : Int)) c2), pl 16 (.int .i64 n3), pl 17 (.slice A5 ((l1 ++ ([i2] : List Int)).length) c5), pl 18 (.int .i64 i2)] hF hS (by kernel_rfl) (by kernel_rfl) ?_ (fun a w hF hS => ?_)
                · exact obs_nil
                refine at_end [6, 16, 17, 18] [pl 6 (.slice A2 (Int.toNat (g3.length : Int)) c2), pl 16 (.int .i64 n3), pl 17 (.slice A5 ((l1 ++ ([i2] : List Int)).length) c5), pl 18 (.int .i64 i2)] hF rfl (by kernel_rfl) (fun hF => ?_)
                refine block_n ?_
                refine then_n ?_
                have hS := hS.pickN 3 [1, 2] (by decide)
                exact ⟨(l1 ++ ([i2] : List Int)), A5, c5, hF.weak [6, 16, 17, 18] (by kernel_rfl), hS, hm⟩
              · replace hm := if_f hm hb
                refine wp_skip ?_
                refine block_n ?_
                refine then_n ?_
                exact ⟨l1, A3, c3, hF.weak [6, 16, 17, 18] (by kernel_rfl), hS, hm⟩
          · refine reg [] [] [6, 16, 17, 18, 96] [pl 6 (.slice A2 (Int.toNat (g3.length : Int)) c2), pl 16 (.int .i64 n3), pl 17 (.slice A3 l1.length c3), pl 18 (.int .i64 i2), pl 96 (.bool (decide (i2 < (((Int.toNat (g3.length : Int)) : Nat) : Int))))] hF hS Fol (by kernel_rfl) (by kernel_rfl) (by kernel_rfl) ?_ (fun a w hF hS => ?_)
            · exact obs_nil
            refine cond_ev (t := 96) (b := decide (i2 < (((Int.toNat (g3.length : Int)) : Nat) : Int))) hF (by kernel_rfl) (fun hb => ?_) (fun hb => ?_)
            · replace hm := if_t hm hb
              refine wp_skip ?_
              refine then_n ?_
              exact ⟨hF.weak [6, 16, 17, 18] (by kernel_rfl), hS, hm⟩
            · replace hm := if_f hm hb
              refine wp_exit ?_
              refine then_e (then_e (block_e (then_n ?_)))
              have hS := hS.pickN 2 [1] (by decide)
              rw [← hφ5] at hm
              replace hm := done_b hm
              unfold gameroomref_WonOf_K5 at hm
              try dsimp only at hm
              have hm : ((gameroomref_WonOf_J13 n3) l1).bind some = some r := hm
              exact ⟨l1, A3, c3, hF.weak [16, 17] (by kernel_rfl), hS, hm⟩
      · refine reg [] [] [6, 16, 90] [pl 6 (.slice A2 (Int.toNat (g3.length : Int)) c2), pl 16 (.int .i64 n2), pl 90 (.bool two2)] hF hS Fol (by kernel_rfl) (by kernel_rfl) (by kernel_rfl) ?_ (fun a w hF hS => ?_)
        · exact obs_nil
        refine cond_ev (t := 90) (b := two2) hF (by kernel_rfl) (fun hb => ?_) (fun hb => ?_)
        · replace hm := if_t hm hb
          refine reg1 [] [] [6, 16] [pl 6 (.slice A2 (Int.toNat (g3.length : Int)) c2), pl 16 (.int .i64 (w64 (n2 + 2)))] hF hS Fol (by kernel_rfl) (by kernel_rfl) (by kernel_rfl) ?_ (fun a w hF hS => ?_)
          · exact obs_nil
          refine then_n ?_
          exact ⟨(w64 (n2 + 2)), hF.weak [6, 16] (by kernel_rfl), hS, hm⟩
        · replace hm := if_f hm hb
          refine wp_skip ?_
          refine then_n ?_
          exact ⟨n2, hF.weak [6, 16] (by kernel_rfl), hS, hm⟩
    · refine reg [] [] [6, 8, 16, 89] [pl 6 (.slice A2 (Int.toNat (g3.length : Int)) c2), pl 8 (.bool two2), pl 16 (.int .i64 0), pl 89 (.bool one2)] hF hS Fol (by kernel_rfl) (by kernel_rfl) (by kernel_rfl) ?_ (fun a w hF hS => ?_)
      · exact obs_nil
      refine cond_ev (t := 89) (b := one2) hF (by kernel_rfl) (fun hb => ?_) (fun hb => ?_)
      · replace hm := if_t hm hb
        refine reg1 [] [] [6, 8, 16] [pl 6 (.slice A2 (Int.toNat (g3.length : Int)) c2), pl 8 (.bool two2), pl 16 (.int .i64 1)] hF hS Fol (by kernel_rfl) (by kernel_rfl) (by kernel_rfl) ?_ (fun a w hF hS => ?_)
        · exact obs_nil
        refine then_n ?_
        exact ⟨1, hF.weak [6, 8, 16] (by kernel_rfl), hS, hm⟩
      · replace hm := if_f hm hb
        refine wp_skip ?_
        refine then_n ?_
        exact ⟨0, hF.weak [6, 8, 16] (by kernel_rfl), hS, hm⟩
  · refine reg [] [] [1, 2, 6, 7, 8, 9] [pl 1 (.int .i64 k1), pl 2 (.pointer (some ⟨g4, 0, none⟩)), pl 6 (.slice A2 (Int.toNat (g3.length : Int)) c2), pl 7 (.bool false), pl 8 (.bool false), pl 9 (.int .i64 0)] hF hS Fol (by kernel_rfl) (by kernel_rfl) (by kernel_rfl) ?_ (fun a w hF hS => ?_)
    · exact obs_nil
    refine wp_block ?_
    have hS := hS.pickN 2 [1, 0] (by decide)
    refine wp_loop_model (S := (List Bool × Bool × Bool × Int)) (R := (List Bool × Bool × Bool)) (gameroomref_WonOf_L1 g1 g2 g3 k1) (fun x => ((gameroomref_WonOf_K1 g3) x).bind some) r (fun (x : (List Bool × Bool × Bool × Int)) a w => Fr 109 [pl 1 (.int .i64 k1), pl 2 (.pointer (some ⟨g4, 0, none⟩)), pl 6 (.slice A2 (Int.toNat (g3.length : Int)) c2), pl 7 (.bool x.2.1), pl 8 (.bool x.2.2.1), pl 9 (.int .i64 x.2.2.2)] a ∧ Sep w0 B w (blk g4 93 #[.int .i64 g1, .int .i64 g2, .slice A1 g3.length c1] :: own 4 (.slice A2 (Int.toNat (g3.length : Int)) c2) (vB x.1) :: fs)) (assoc_b hm) ⟨hF.weak [1, 2, 6, 7, 8, 9] (by kernel_rfl), hS⟩ ?_
    clear hF hS hm
    rintro nn1 ⟨in1, one1, two1, y1⟩ a w ⟨hF, hS⟩ hm
    generalize hφ1 : stK (gameroomref_WonOf_L1 g1 g2 g3 k1) nn1 (fun x => ((gameroomref_WonOf_K1 g3) x).bind some) = φ1 at hm
    unfold gameroomref_WonOf_L1 at hm
    dsimp only at hF hS hm
    refine seq_cut (fun a w => Fr 109 [pl 1 (.int .i64 k1), pl 2 (.pointer (some ⟨g4, 0, none⟩)), pl 6 (.slice A2 (Int.toNat (g3.length : Int)) c2), pl 7 (.bool one1), pl 8 (.bool two1), pl 9 (.int .i64 y1)] a ∧ Sep w0 B w (blk g4 93 #[.int .i64 g1, .int .i64 g2, .slice A1 g3.length c1] :: own 4 (.slice A2 (Int.toNat (g3.length : Int)) c2) (vB in1) :: fs) ∧ ((gameroomref_WonOf_J2 g1 g2 g3 k1 in1 one1 two1 y1)).bind φ1 = some r) ?_ ?_
    · rintro a w ⟨hF, hS, hm⟩
      unfold gameroomref_WonOf_J2 at hm
      refine seq_cut (fun a w => ∃ (in4 : List Bool) (one4 : Bool) (two4 : Bool), Fr 109 [pl 1 (.int .i64 k1), pl 2 (.pointer (some ⟨g4, 0, none⟩)), pl 6 (.slice A2 (Int.toNat (g3.length : Int)) c2), pl 7 (.bool one4), pl 8 (.bool two4), pl 9 (.int .i64 y1)] a ∧ Sep w0 B w (blk g4 93 #[.int .i64 g1, .int .i64 g2, .slice A1 g3.length c1] :: own 4 (.slice A2 (Int.toNat (g3.length : Int)) c2) (vB in4) :: fs) ∧ ((gameroomref_WonOf_J3 y1) in4 one4 two4).bind φ1 = some r) ?_ ?_
      · rintro a w ⟨in4, one4, two4, hF, hS, hm⟩
        unfold gameroomref_WonOf_J3 at hm
        refine reg1 [] [] [1, 2, 6, 7, 8, 9] [pl 1 (.int .i64 k1), pl 2 (.pointer (some ⟨g4, 0, none⟩)), pl 6 (.slice A2 (Int.toNat (g3.length : Int)) c2), pl 7 (.bool one4), pl 8 (.bool two4), pl 9 (.int .i64 (w64 (y1 + 1)))] hF hS Fol (by kernel_rfl) (by kernel_rfl) (by kernel_rfl) ?_ (fun a w hF hS => ?_)
        · exact obs_nil
        refine then_n ?_
        rw [← hφ1] at hm
        exact ⟨(in4, one4, two4, (w64 (y1 + 1))), ⟨hF.weak [1, 2, 6, 7, 8, 9] (by kernel_rfl), hS⟩, hm⟩
      · refine wp_block ?_
        refine reg [] [] [1, 2, 6, 7, 8, 9, 10] [pl 1 (.int .i64 k1), pl 2 (.pointer (some ⟨g4, 0, none⟩)), pl 6 (.slice A2 (Int.toNat (g3.length : Int)) c2), pl 7 (.bool one1), pl 8 (.bool two1), pl 9 (.int .i64 y1), pl 10 (.int .i64 0)] hF hS Fol (by kernel_rfl) (by kernel_rfl) (by kernel_rfl) ?_ (fun a w hF hS => ?_)
        · exact obs_nil
        refine wp_block ?_
        refine wp_loop_model (S := (List Bool × Bool × Bool × Int)) (R := (List Bool × Bool × Bool)) (gameroomref_WonOf_L2 g1 g2 g3 k1 y1) (fun x => ((gameroomref_WonOf_K2 y1) x).bind φ1) r (fun (x : (List Bool × Bool × Bool × Int)) a w => Fr 109 [pl 1 (.int .i64 k1), pl 2 (.pointer (some ⟨g4, 0, none⟩)), pl 6 (.slice A2 (Int.toNat (g3.length : Int)) c2), pl 7 (.bool x.2.1), pl 8 (.bool x.2.2.1), pl 9 (.int .i64 y1), pl 10 (.int .i64 x.2.2.2)] a ∧ Sep w0 B w (blk g4 93 #[.int .i64 g1, .int .i64 g2, .slice A1 g3.length c1] :: own 4 (.slice A2 (Int.toNat (g3.length : Int)) c2) (vB x.1) :: fs)) (assoc_b hm) ⟨hF.weak [1, 2, 6, 7, 8, 9, 10] (by kernel_rfl), hS⟩ ?_
        clear hF hS hm
        rintro nn2 ⟨in3, one3, two3, x1⟩ a w ⟨hF, hS⟩ hm
        generalize hφ2 : stK (gameroomref_WonOf_L2 g1 g2 g3 k1 y1) nn2 (fun x => ((gameroomref_WonOf_K2 y1) x).bind φ1) = φ2 at hm
        unfold gameroomref_WonOf_L2 at hm
        dsimp only at hF hS hm
        refine seq_cut (fun a w => Fr 109 [pl 1 (.int .i64 k1), pl 2 (.pointer (some ⟨g4, 0, none⟩)), pl 6 (.slice A2 (Int.toNat (g3.length : Int)) c2), pl 7 (.bool one3), pl 8 (.bool two3), pl 9 (.int .i64 y1), pl 10 (.int .i64 x1)] a ∧ Sep w0 B w (blk g4 93 #[.int .i64 g1, .int .i64 g2, .slice A1 g3.length c1] :: own 4 (.slice A2 (Int.toNat (g3.length : Int)) c2) (vB in3) :: fs) ∧ ((gameroomref_WonOf_J4 g1 g2 g3 k1 y1 in3 one3 two3 x1)).bind φ2 = some r) ?_ ?_
        · rintro a w ⟨hF, hS, hm⟩
          unfold gameroomref_WonOf_J4 at hm
          refine seq_cut (fun a w => ∃ (in6 : List Bool) (one6 : Bool) (two6 : Bool), Fr 109 [pl 1 (.int .i64 k1), pl 2 (.pointer (some ⟨g4, 0, none⟩)), pl 6 (.slice A2 (Int.toNat (g3.length : Int)) c2), pl 7 (.bool one6), pl 8 (.bool two6), pl 9 (.int .i64 y1), pl 10 (.int .i64 x1)] a ∧ Sep w0 B w (blk g4 93 #[.int .i64 g1, .int .i64 g2, .slice A1 g3.length c1] :: own 4 (.slice A2 (Int.toNat (g3.length : Int)) c2) (vB in6) :: fs) ∧ ((gameroomref_WonOf_J5 x1) in6 one6 two6).bind φ2 = some r) ?_ ?_
          · rintro a w ⟨in6, one6, two6, hF, hS, hm⟩
            unfold gameroomref_WonOf_J5 at hm
            refine reg1 [] [] [1, 2, 6, 7, 8, 9, 10] [pl 1 (.int .i64 k1), pl 2 (.pointer (some ⟨g4, 0, none⟩)), pl 6 (.slice A2 (Int.toNat (g3.length : Int)) c2), pl 7 (.bool one6), pl 8 (.bool two6), pl 9 (.int .i64 y1), pl 10 (.int .i64 (w64 (x1 + 1)))] hF hS Fol (by kernel_rfl) (by kernel_rfl) (by kernel_rfl) ?_ (fun a w hF hS => ?_)
            · exact obs_nil
            refine then_n ?_
            rw [← hφ2] at hm
            exact ⟨(in6, one6, two6, (w64 (x1 + 1))), ⟨hF.weak [1, 2, 6, 7, 8, 9, 10] (by kernel_rfl), hS⟩, hm⟩
          · refine wp_block ?_
            refine reg [] [] [1, 2, 6, 7, 8, 9, 10, 11] [pl 1 (.int .i64 k1), pl 2 (.pointer (some ⟨g4, 0, none⟩)), pl 6 (.slice A2 (Int.toNat (g3.length : Int)) c2), pl 7 (.bool one3), pl 8 (.bool two3), pl 9 (.int .i64 y1), pl 10 (.int .i64 x1), pl 11 (.int .i64 0)] hF hS Fol (by kernel_rfl) (by kernel_rfl) (by kernel_rfl) ?_ (fun a w hF hS => ?_)
            · exact obs_nil
            refine wp_block ?_
            refine wp_loop_model (S := (List Bool × Bool × Bool × Int)) (R := (List Bool × Bool × Bool)) (gameroomref_WonOf_L3 g1 g2 g3 k1 y1 x1) (fun x => ((gameroomref_WonOf_K3 x1) x).bind φ2) r (fun (x : (List Bool × Bool × Bool × Int)) a w => Fr 109 [pl 1 (.int .i64 k1), pl 2 (.pointer (some ⟨g4, 0, none⟩)), pl 6 (.slice A2 (Int.toNat (g3.length : Int)) c2), pl 7 (.bool x.2.1), pl 8 (.bool x.2.2.1), pl 9 (.int .i64 y1), pl 10 (.int .i64 x1), pl 11 (.int .i64 x.2.2.2)] a ∧ Sep w0 B w (blk g4 93 #[.int .i64 g1, .int .i64 g2, .slice A1 g3.length c1] :: own 4 (.slice A2 (Int.toNat (g3.length : Int)) c2) (vB x.1) :: fs)) (assoc_b hm) ⟨hF.weak [1, 2, 6, 7, 8, 9, 10, 11] (by kernel_rfl), hS⟩ ?_
            clear hF hS hm
            rintro nn3 ⟨in5, one5, two5, d1⟩ a w ⟨hF, hS⟩ hm
            generalize hφ3 : stK (gameroomref_WonOf_L3 g1 g2 g3 k1 y1 x1) nn3 (fun x => ((gameroomref_WonOf_K3 x1) x).bind φ2) = φ3 at hm
            unfold gameroomref_WonOf_L3 at hm
            dsimp only at hF hS hm
            refine seq_cut (fun a w => Fr 109 [pl 1 (.int .i64 k1), pl 2 (.pointer (some ⟨g4, 0, none⟩)), pl 6 (.slice A2 (Int.toNat (g3.length : Int)) c2), pl 7 (.bool one5), pl 8 (.bool two5), pl 9 (.int .i64 y1), pl 10 (.int .i64 x1), pl 11 (.int .i64 d1)] a ∧ Sep w0 B w (blk g4 93 #[.int .i64 g1, .int .i64 g2, .slice A1 g3.length c1] :: own 4 (.slice A2 (Int.toNat (g3.length : Int)) c2) (vB in5) :: fs) ∧ ((gameroomref_WonOf_J6 g1 g2 g3 k1 y1 x1 in5 one5 two5 d1)).bind φ3 = some r) ?_ ?_
            · rintro a w ⟨hF, hS, hm⟩
              unfold gameroomref_WonOf_J6 at hm
              refine seq_cut (fun a w => ∃ (in8 : List Bool) (one7 : Bool) (two7 : Bool), Fr 109 [pl 1 (.int .i64 k1), pl 2 (.pointer (some ⟨g4, 0, none⟩)), pl 6 (.slice A2 (Int.toNat (g3.length : Int)) c2), pl 7 (.bool one7), pl 8 (.bool two7), pl 9 (.int .i64 y1), pl 10 (.int .i64 x1), pl 11 (.int .i64 d1)] a ∧ Sep w0 B w (blk g4 93 #[.int .i64 g1, .int .i64 g2, .slice A1 g3.length c1] :: own 4 (.slice A2 (Int.toNat (g3.length : Int)) c2) (vB in8) :: fs) ∧ ((gameroomref_WonOf_J7 d1) in8 one7 two7).bind φ3 = some r) ?_ ?_
              · rintro a w ⟨in8, one7, two7, hF, hS, hm⟩
                unfold gameroomref_WonOf_J7 at hm
                refine reg1 [] [] [1, 2, 6, 7, 8, 9, 10, 11] [pl 1 (.int .i64 k1), pl 2 (.pointer (some ⟨g4, 0, none⟩)), pl 6 (.slice A2 (Int.toNat (g3.length : Int)) c2), pl 7 (.bool one7), pl 8 (.bool two7), pl 9 (.int .i64 y1), pl 10 (.int .i64 x1), pl 11 (.int .i64 (w64 (d1 + 1)))] hF hS Fol (by kernel_rfl) (by kernel_rfl) (by kernel_rfl) ?_ (fun a w hF hS => ?_)
                · exact obs_nil
                refine then_n ?_
                rw [← hφ3] at hm
                exact ⟨(in8, one7, two7, (w64 (d1 + 1))), ⟨hF.weak [1, 2, 6, 7, 8, 9, 10, 11] (by kernel_rfl), hS⟩, hm⟩
              · refine wp_block ?_
                refine seq_cut (fun a w => Fr 109 [pl 1 (.int .i64 k1), pl 2 (.pointer (some ⟨g4, 0, none⟩)), pl 6 (.slice A2 (Int.toNat (g3.length : Int)) c2), pl 7 (.bool one5), pl 8 (.bool two5), pl 9 (.int .i64 y1), pl 10 (.int .i64 x1), pl 11 (.int .i64 d1), pl 12 (.int .i64 (geti ([1, 0, 1, 1] : List Int) d1)), pl 13 (.int .i64 (geti ([0, 1, 1, (-1)] : List Int) d1))] a ∧ Sep w0 B w (blk g4 93 #[.int .i64 g1, .int .i64 g2, .slice A1 g3.length c1] :: own 4 (.slice A2 (Int.toNat (g3.length : Int)) c2) (vB in5) :: fs) ∧ ((gameroomref_WonOf_J8 g1 g2 g3 k1 y1 x1 in5 one5 two5 d1)).bind φ3 = some r) ?_ ?_
                · rintro a w ⟨hF, hS, hm⟩
                  unfold gameroomref_WonOf_J8 at hm
                  obtain ⟨r1, hr1, hm⟩ := call_b hm
                  refine reg [⟨false, [], vS (Instr.loadAt 93 (.pointer (some ⟨g4, 0, none⟩))), .agg #[.int .i64 g1, .int .i64 g2, .slice A1 g3.length c1]⟩, ⟨false, [], callFunc 118 #[.agg #[.int .i64 g1, .int .i64 g2, .slice A1 g3.length c1], .int .i64 x1, .int .i64 y1, .int .i64 (geti ([1, 0, 1, 1] : List Int) d1), .int .i64 (geti ([0, 1, 1, (-1)] : List Int) d1), .int .i64 k1], .int .i64 r1⟩] [some (.agg #[.int .i64 g1, .int .i64 g2, .slice A1 g3.length c1]), none, none, none, none, none, some (.int .i64 r1), none] [1, 2, 6, 7, 8, 9, 10, 11, 12, 13, 14] [pl 1 (.int .i64 k1), pl 2 (.pointer (some ⟨g4, 0, none⟩)), pl 6 (.slice A2 (Int.toNat (g3.length : Int)) c2), pl 7 (.bool one5), pl 8 (.bool two5), pl 9 (.int .i64 y1), pl 10 (.int .i64 x1), pl 11 (.int .i64 d1), pl 12 (.int .i64 (geti ([1, 0, 1, 1] : List Int) d1)), pl 13 (.int .i64 (geti ([0, 1, 1, (-1)] : List Int) d1)), pl 14 (.int .i64 r1)] hF hS Fol (by kernel_rfl) (by kernel_rfl) (by kernel_rfl) ?_ (fun a w hF hS => ?_)
                  · exact obs_cons (ob_loadA (cs := #[.int .i64 g1, .int .i64 g2, .slice A1 g3.length c1]) (by kernel_rfl) (by kernel_rfl) (fun _ _ hS => (hS.at_ 0 rfl).cellsAt 0 (by rfl))) <| obs_cons (ob_call Try.func118 (by kernel_rfl) rfl (fun _ _ hS => gameroomref_rowFrom_w hr1 hS (fun _ hS => (hr_g3 _ (hS.dropN 2))) _hc_g3 rfl)) <| obs_nil
                  refine reg [] [] [1, 2, 6, 7, 8, 9, 10, 11, 12, 13, 14] [pl 1 (.int .i64 k1), pl 2 (.pointer (some ⟨g4, 0, none⟩)), pl 6 (.slice A2 (Int.toNat (g3.length : Int)) c2), pl 7 (.bool (one5 || (r1 == 1))), pl 8 (.bool two5), pl 9 (.int .i64 y1), pl 10 (.int .i64 x1), pl 11 (.int .i64 d1), pl 12 (.int .i64 (geti ([1, 0, 1, 1] : List Int) d1)), pl 13 (.int .i64 (geti ([0, 1, 1, (-1)] : List Int) d1)), pl 14 (.int .i64 r1)] hF hS Fol (by kernel_rfl) (by kernel_rfl) (by kernel_rfl) ?_ (fun a w hF hS => ?_)
                  · exact obs_nil
                  refine reg [] [] [1, 2, 6, 7, 8, 9, 10, 11, 12, 13, 14] [pl 1 (.int .i64 k1), pl 2 (.pointer (some ⟨g4, 0, none⟩)), pl 6 (.slice A2 (Int.toNat (g3.length : Int)) c2), pl 7 (.bool (one5 || (r1 == 1))), pl 8 (.bool (two5 || (r1 == 2))), pl 9 (.int .i64 y1), pl 10 (.int .i64 x1), pl 11 (.int .i64 d1), pl 12 (.int .i64 (geti ([1, 0, 1, 1] : List Int) d1)), pl 13 (.int .i64 (geti ([0, 1, 1, (-1)] : List Int) d1)), pl 14 (.int .i64 r1)] hF hS Fol (by kernel_rfl) (by kernel_rfl) (by kernel_rfl) ?_ (fun a w hF hS => ?_)
                  · exact obs_nil
                  refine reg [] [] [1, 2, 6, 7, 8, 9, 10, 11, 12, 13, 14, 15] [pl 1 (.int .i64 k1), pl 2 (.pointer (some ⟨g4, 0, none⟩)), pl 6 (.slice A2 (Int.toNat (g3.length : Int)) c2), pl 7 (.bool (one5 || (r1 == 1))), pl 8 (.bool (two5 || (r1 == 2))), pl 9 (.int .i64 y1), pl 10 (.int .i64 x1), pl 11 (.int .i64 d1), pl 12 (.int .i64 (geti ([1, 0, 1, 1] : List Int) d1)), pl 13 (.int .i64 (geti ([0, 1, 1, (-1)] : List Int) d1)), pl 14 (.int .i64 r1), pl 15 (.int .i64 0)] hF hS Fol (by kernel_rfl) (by kernel_rfl) (by kernel_rfl) ?_ (fun a w hF hS => ?_)
                  · exact obs_nil
                  refine wp_block ?_
                  refine wp_loop_model (S := (List Bool × Int)) (R := (List Bool × Bool × Bool)) (gameroomref_WonOf_L4 g1 g3 k1 y1 x1 one5 two5 d1 r1) (fun x => ((gameroomref_WonOf_K4 d1) x).bind φ3) r (fun (x : (List Bool × Int)) a w => Fr 109 [pl 1 (.int .i64 k1), pl 2 (.pointer (some ⟨g4, 0, none⟩)), pl 6 (.slice A2 (Int.toNat (g3.length : Int)) c2), pl 7 (.bool (one5 || (r1 == 1))), pl 8 (.bool (two5 || (r1 == 2))), pl 9 (.int .i64 y1), pl 10 (.int .i64 x1), pl 11 (.int .i64 d1), pl 12 (.int .i64 (geti ([1, 0, 1, 1] : List Int) d1)), pl 13 (.int .i64 (geti ([0, 1, 1, (-1)] : List Int) d1)), pl 14 (.int .i64 r1), pl 15 (.int .i64 x.2)] a ∧ Sep w0 B w (blk g4 93 #[.int .i64 g1, .int .i64 g2, .slice A1 g3.length c1] :: own 4 (.slice A2 (Int.toNat (g3.length : Int)) c2) (vB x.1) :: fs)) (assoc_b hm) ⟨hF.weak [1, 2, 6, 7, 8, 9, 10, 11, 12, 13, 14, 15] (by kernel_rfl), hS⟩ ?_
                  clear hF hS hm
                  rintro nn4 ⟨in7, i1⟩ a w ⟨hF, hS⟩ hm
                  generalize hφ4 : stK (gameroomref_WonOf_L4 g1 g3 k1 y1 x1 one5 two5 d1 r1) nn4 (fun x => ((gameroomref_WonOf_K4 d1) x).bind φ3) = φ4 at hm
                  unfold gameroomref_WonOf_L4 at hm
                  dsimp only at hF hS hm
                  refine seq_cut (fun a w => Fr 109 [pl 1 (.int .i64 k1), pl 2 (.pointer (some ⟨g4, 0, none⟩)), pl 6 (.slice A2 (Int.toNat (g3.length : Int)) c2), pl 7 (.bool (one5 || (r1 == 1))), pl 8 (.bool (two5 || (r1 == 2))), pl 9 (.int .i64 y1), pl 10 (.int .i64 x1), pl 11 (.int .i64 d1), pl 12 (.int .i64 (geti ([1, 0, 1, 1] : List Int) d1)), pl 13 (.int .i64 (geti ([0, 1, 1, (-1)] : List Int) d1)), pl 14 (.int .i64 r1), pl 15 (.int .i64 i1)] a ∧ Sep w0 B w (blk g4 93 #[.int .i64 g1, .int .i64 g2, .slice A1 g3.length c1] :: own 4 (.slice A2 (Int.toNat (g3.length : Int)) c2) (vB in7) :: fs) ∧ ((gameroomref_WonOf_J9 g1 g3 y1 x1 d1 in7 i1)).bind φ4 = some r) ?_ ?_
                  · rintro a w ⟨hF, hS, hm⟩
                    unfold gameroomref_WonOf_J9 at hm
                    refine seq_cut (fun a w => Fr 109 [pl 1 (.int .i64 k1), pl 2 (.pointer (some ⟨g4, 0, none⟩)), pl 6 (.slice A2 (Int.toNat (g3.length : Int)) c2), pl 7 (.bool (one5 || (r1 == 1))), pl 8 (.bool (two5 || (r1 == 2))), pl 9 (.int .i64 y1), pl 10 (.int .i64 x1), pl 11 (.int .i64 d1), pl 12 (.int .i64 (geti ([1, 0, 1, 1] : List Int) d1)), pl 13 (.int .i64 (geti ([0, 1, 1, (-1)] : List Int) d1)), pl 14 (.int .i64 r1), pl 15 (.int .i64 i1)] a ∧ Sep w0 B w (blk g4 93 #[.int .i64 g1, .int .i64 g2, .slice A1 g3.length c1] :: own 4 (.slice A2 (Int.toNat (g3.length : Int)) c2) (vB (in7.set (Int.toNat (w64 ((w64 ((w64 ((w64 (y1 + (w64 ((geti ([0, 1, 1, (-1)] : List Int) d1) * i1)))) * g1)) + x1)) + (w64 ((geti ([1, 0, 1, 1] : List Int) d1) * i1))))) true)) :: fs) ∧ ((gameroomref_WonOf_J10 g1 y1 x1 d1 in7 i1)).bind φ4 = some r) ?_ ?_
                    · rintro a w ⟨hF, hS, hm⟩
                      unfold gameroomref_WonOf_J10 at hm
                      refine reg1 [] [] [1, 2, 6, 7, 8, 9, 10, 11, 12, 13, 14, 15] [pl 1 (.int .i64 k1), pl 2 (.pointer (some ⟨g4, 0, none⟩)), pl 6 (.slice A2 (Int.toNat (g3.length : Int)) c2), pl 7 (.bool (one5 || (r1 == 1))), pl 8 (.bool (two5 || (r1 == 2))), pl 9 (.int .i64 y1), pl 10 (.int .i64 x1), pl 11 (.int .i64 d1), pl 12 (.int .i64 (geti ([1, 0, 1, 1] : List Int) d1)), pl 13 (.int .i64 (geti ([0, 1, 1, (-1)] : List Int) d1)), pl 14 (.int .i64 r1), pl 15 (.int .i64 (w64 (i1 + 1)))] hF hS Fol (by kernel_rfl) (by kernel_rfl) (by kernel_rfl) ?_ (fun a w hF hS => ?_)
                      · exact obs_nil
                      refine then_n ?_
                      rw [← hφ4] at hm
                      exact ⟨((in7.set (Int.toNat (w64 ((w64 ((w64 ((w64 (y1 + (w64 ((geti ([0, 1, 1, (-1)] : List Int) d1) * i1)))) * g1)) + x1)) + (w64 ((geti ([1, 0, 1, 1] : List Int) d1) * i1))))) true), (w64 (i1 + 1))), ⟨hF.weak [1, 2, 6, 7, 8, 9, 10, 11, 12, 13, 14, 15] (by kernel_rfl), hS⟩, hm⟩
                    · refine wp_block ?_
                      refine oneR ?_
                      obtain ⟨hp4, hm⟩ := asrt_b hm
                      refine at_run 16 [⟨false, [], vS (Instr.loadAt 3 (.pointer (some ⟨g4, 0, none⟩))), .int .i64 g1⟩, ⟨true, [], vS (Instr.indexAt 151 (.slice A2 (Int.toNat (g3.length : Int)) c2) (.int .i64 (w64 ((w64 ((w64 ((w64 (y1 + (w64 ((geti ([0, 1, 1, (-1)] : List Int) d1) * i1)))) * g1)) + x1)) + (w64 ((geti ([1, 0, 1, 1] : List Int) d1) * i1)))))), .pointer (some (sAddr A2 (w64 ((w64 ((w64 ((w64 (y1 + (w64 ((geti ([0, 1, 1, (-1)] : List Int) d1) * i1)))) * g1)) + x1)) + (w64 ((geti ([1, 0, 1, 1] : List Int) d1) * i1))))))⟩] [none, none, none, none, none, none, none, some (.int .i64 g1), none, none, none, none, none, none, none, some (.pointer (some (sAddr A2 (w64 ((w64 ((w64 ((w64 (y1 + (w64 ((geti ([0, 1, 1, (-1)] : List Int) d1) * i1)))) * g1)) + x1)) + (w64 ((geti ([1, 0, 1, 1] : List Int) d1) * i1)))))))] [1, 2, 6, 7, 8, 9, 10, 11, 12, 13, 14, 15, 88] [pl 1 (.int .i64 k1), pl 2 (.pointer (some ⟨g4, 0, none⟩)), pl 6 (.slice A2 (Int.toNat (g3.length : Int)) c2), pl 7 (.bool (one5 || (r1 == 1))), pl 8 (.bool (two5 || (r1 == 2))), pl 9 (.int .i64 y1), pl 10 (.int .i64 x1), pl 11 (.int .i64 d1), pl 12 (.int .i64 (geti ([1, 0, 1, 1] : List Int) d1)), pl 13 (.int .i64 (geti ([0, 1, 1, (-1)] : List Int) d1)), pl 14 (.int .i64 r1), pl 15 (.int .i64 i1), pl 88 (.pointer (some (sAddr A2 (w64 ((w64 ((w64 ((w64 (y1 + (w64 ((geti ([0, 1, 1, (-1)] : List Int) d1) * i1)))) * g1)) + x1)) + (w64 ((geti ([1, 0, 1, 1] : List Int) d1) * i1)))))))] hF hS (by kernel_rfl) (by kernel_rfl) ?_ (fun a w hF hS => ?_)
                      · exact obs_cons (ob_load Agg3 (fun _ _ hS => (hS.at_ 0 rfl).cell rfl)) <| obs_cons (ob_ix1 (f := Value.bool) (m := in7) Und151 hi4 hs4 (hS.at_ 1 rfl).rd ((hS.at_ 1 rfl).len1) (fun _ => hp4)) <| obs_nil
                      obtain ⟨w, hrun, hS⟩ := run_set1 (P := Try.prog) (t := 4) (x := true) Value.bool (hS.at_ 1 rfl) hi4 hs4 rfl rfl hp4
                      refine at_skip hF (by kernel_rfl) hrun ?_
                      have hS : Sep w0 B w (blk g4 93 #[.int .i64 g1, .int .i64 g2, .slice A1 g3.length c1] :: own 4 (.slice A2 (Int.toNat (g3.length : Int)) c2) (vB (in7.set (Int.toNat (w64 ((w64 ((w64 ((w64 (y1 + (w64 ((geti ([0, 1, 1, (-1)] : List Int) d1) * i1)))) * g1)) + x1)) + (w64 ((geti ([1, 0, 1, 1] : List Int) d1) * i1))))) true)) :: fs) := hS
                      refine at_end [1, 2, 6, 7, 8, 9, 10, 11, 12, 13, 14, 15] [pl 1 (.int .i64 k1), pl 2 (.pointer (some ⟨g4, 0, none⟩)), pl 6 (.slice A2 (Int.toNat (g3.length : Int)) c2), pl 7 (.bool (one5 || (r1 == 1))), pl 8 (.bool (two5 || (r1 == 2))), pl 9 (.int .i64 y1), pl 10 (.int .i64 x1), pl 11 (.int .i64 d1), pl 12 (.int .i64 (geti ([1, 0, 1, 1] : List Int) d1)), pl 13 (.int .i64 (geti ([0, 1, 1, (-1)] : List Int) d1)), pl 14 (.int .i64 r1), pl 15 (.int .i64 i1)] hF rfl (by kernel_rfl) (fun hF => ?_)
                      refine block_n ?_
                      refine then_n ?_
                      exact ⟨hF.weak [1, 2, 6, 7, 8, 9, 10, 11, 12, 13, 14, 15] (by kernel_rfl), hS, hm⟩
                  · refine reg [] [] [1, 2, 6, 7, 8, 9, 10, 11, 12, 13, 14, 15, 70] [pl 1 (.int .i64 k1), pl 2 (.pointer (some ⟨g4, 0, none⟩)), pl 6 (.slice A2 (Int.toNat (g3.length : Int)) c2), pl 7 (.bool (one5 || (r1 == 1))), pl 8 (.bool (two5 || (r1 == 2))), pl 9 (.int .i64 y1), pl 10 (.int .i64 x1), pl 11 (.int .i64 d1), pl 12 (.int .i64 (geti ([1, 0, 1, 1] : List Int) d1)), pl 13 (.int .i64 (geti ([0, 1, 1, (-1)] : List Int) d1)), pl 14 (.int .i64 r1), pl 15 (.int .i64 i1), pl 70 (.bool ((decide (i1 < k1)) && (decide ((0 : Int) < r1))))] hF hS Fol (by kernel_rfl) (by kernel_rfl) (by kernel_rfl) ?_ (fun a w hF hS => ?_)
                    · exact obs_nil
                    refine cond_ev (t := 70) (b := (decide (i1 < k1)) && (decide ((0 : Int) < r1))) hF (by kernel_rfl) (fun hb => ?_) (fun hb => ?_)
                    · replace hm := if_t hm hb
                      refine wp_skip ?_
                      refine then_n ?_
                      exact ⟨hF.weak [1, 2, 6, 7, 8, 9, 10, 11, 12, 13, 14, 15] (by kernel_rfl), hS, hm⟩
                    · replace hm := if_f hm hb
                      refine wp_exit ?_
                      refine then_e (then_e (block_e (block_n (then_n ?_))))
                      rw [← hφ4] at hm
                      replace hm := done_b hm
                      unfold gameroomref_WonOf_K4 at hm
                      try dsimp only at hm
                      have hm : ((gameroomref_WonOf_J7 d1) in7 (one5 || (r1 == 1)) (two5 || (r1 == 2))).bind φ3 = some r := hm
                      exact ⟨in7, (one5 || (r1 == 1)), (two5 || (r1 == 2)), hF.weak [1, 2, 6, 7, 8, 9, 10, 11] (by kernel_rfl), hS, hm⟩
                · obtain ⟨hp2, hm⟩ := asrt_b hm
                  obtain ⟨hp3, hm⟩ := asrt_b hm
                  refine regMix5 [1, 5] [] 8 #[false, true, false, false, false, true, false, false, false, false] [] [] [1, 2, 6, 7, 8, 9, 10, 11, 40, 44] [pl 1 (.int .i64 k1), pl 2 (.pointer (some ⟨g4, 0, none⟩)), pl 6 (.slice A2 (Int.toNat (g3.length : Int)) c2), pl 7 (.bool one5), pl 8 (.bool two5), pl 9 (.int .i64 y1), pl 10 (.int .i64 x1), pl 11 (.int .i64 d1), pl 40 (.int .i64 d1), pl 44 (.int .i64 d1)] hF hS Fol (by kernel_rfl) (by kernel_rfl) (by kernel_rfl) (by kernel_rfl) ?_ (fun a w hF hS => ?_)
                  · exact obs_nil
                  refine any_step [0, 4] (by kernel_rfl) rfl ?_
                  refine (all_cons ?_ (all_cons ?_ all_nil))
                  · refine any_op (listed' := #[true, true, false, false, false, true, false, false, false, false]) (by kernel_rfl) (by kernel_rfl) ?_
                    refine at_do (d := 39) (s := vS (Instr.buildSlice 34 4 #[(0, .int .i64 1), (1, .int .i64 0), (2, .int .i64 1), (3, .int .i64 1)])) (v := .slice (some ⟨w.heap.size, 0, none⟩) 4 4) (w' := w.alloc (.cells #[.int .i64 1, .int .i64 0, .int .i64 1, .int .i64 1] 3)) hF (by kernel_rfl) (by kernel_rfl) (by kernel_rfl) (fun a hF => ?_)
                    have hS : Sep w0 B (w.alloc (.cells #[.int .i64 1, .int .i64 0, .int .i64 1, .int .i64 1] 3)) (own 3 (.slice (some (⟨w.heap.size, 0, none⟩ : Addr)) 4 4) (vI ([1, 0, 1, 1] : List Int)) :: (blk g4 93 #[.int .i64 g1, .int .i64 g2, .slice A1 g3.length c1] :: own 4 (.slice A2 (Int.toNat (g3.length : Int)) c2) (vB in5) :: fs)) := hS.lit 3 #[.int .i64 1, .int .i64 0, .int .i64 1, .int .i64 1] 4 rfl (by omega)
                    generalize (some (⟨w.heap.size, 0, none⟩ : Addr)) = g5 at hF hS
                    generalize w.alloc (.cells #[.int .i64 1, .int .i64 0, .int .i64 1, .int .i64 1] 3) = w at hS ⊢
                    refine any_fin rfl (hS.pickN 3 [1, 2] (by decide)) ?_
                    refine any_step [2, 4] (by kernel_rfl) rfl ?_
                    refine (all_cons ?_ (all_cons ?_ all_nil))
                    · refine any_op (listed' := #[true, true, true, false, false, true, false, false, false, false]) (by kernel_rfl) (by kernel_rfl) ?_
                      refine at_runW 1 [⟨true, [], vS (Instr.indexAt 34 (.slice g5 4 4) (.int .i64 d1)), .pointer (some (sAddr g5 d1))⟩] [some (.pointer (some (sAddr g5 d1)))] [1, 2, 6, 7, 8, 9, 10, 11, 41, 44] [pl 1 (.int .i64 k1), pl 2 (.pointer (some ⟨g4, 0, none⟩)), pl 6 (.slice A2 (Int.toNat (g3.length : Int)) c2), pl 7 (.bool one5), pl 8 (.bool two5), pl 9 (.int .i64 y1), pl 10 (.int .i64 x1), pl 11 (.int .i64 d1), pl 41 (.pointer (some (sAddr g5 d1))), pl 44 (.int .i64 d1)] hF hS (by kernel_rfl) (by kernel_rfl) ?_ (fun a hF => ?_)
                      · exact obs_cons (ob_ix1 (f := (Value.int .i64)) (m := ([1, 0, 1, 1] : List Int)) Und34 hi3 hs3 (hS.at_ 0 rfl).rd ((hS.at_ 0 rfl).len1) (fun _ => hp2)) <| obs_nil
                      refine any_finI rfl (fun h => h) ?_
                      refine any_step [3, 4] (by kernel_rfl) rfl ?_
                      refine (all_cons ?_ (all_cons ?_ all_nil))
                      · refine any_op (listed' := #[true, true, true, true, false, true, false, false, false, false]) (by kernel_rfl) (by kernel_rfl) ?_
                        refine at_runW 1 [⟨false, [], vS (Instr.loadAt 3 (.pointer (some (sAddr g5 d1)))), .int .i64 (geti ([1, 0, 1, 1] : List Int) d1)⟩] [some (.int .i64 (geti ([1, 0, 1, 1] : List Int) d1))] [1, 2, 6, 7, 8, 9, 10, 11, 42, 44] [pl 1 (.int .i64 k1), pl 2 (.pointer (some ⟨g4, 0, none⟩)), pl 6 (.slice A2 (Int.toNat (g3.length : Int)) c2), pl 7 (.bool one5), pl 8 (.bool two5), pl 9 (.int .i64 y1), pl 10 (.int .i64 x1), pl 11 (.int .i64 d1), pl 42 (.int .i64 (geti ([1, 0, 1, 1] : List Int) d1)), pl 44 (.int .i64 d1)] hF hS (by kernel_rfl) (by kernel_rfl) ?_ (fun a hF => ?_)
                        · exact obs_cons (ob_get1 (n := 4) (m := ([1, 0, 1, 1] : List Int)) (Value.int .i64) (0 : Int) Agg3 (fun _ hS => ⟨_, (hS.at_ 0 rfl).rd⟩) (fun _ hS => ((hS.at_ 0 rfl).len1)) (fun _ => hp2)) <| obs_nil
                        refine any_finI rfl (fun h => h) ?_
                        refine any_step [4, 8] (by kernel_rfl) rfl ?_
                        refine (all_cons ?_ (all_cons ?_ all_nil))
                        · refine any_op (listed' := #[true, true, true, true, true, true, false, false, false, false]) (by kernel_rfl) (by kernel_rfl) ?_
                          refine at_do (d := 43) (s := vS (Instr.buildSlice 34 4 #[(0, .int .i64 0), (1, .int .i64 1), (2, .int .i64 1), (3, .int .i64 (-1))])) (v := .slice (some ⟨w.heap.size, 0, none⟩) 4 4) (w' := w.alloc (.cells #[.int .i64 0, .int .i64 1, .int .i64 1, .int .i64 (-1)] 3)) hF (by kernel_rfl) (by kernel_rfl) (by kernel_rfl) (fun a hF => ?_)
                          have hS : Sep w0 B (w.alloc (.cells #[.int .i64 0, .int .i64 1, .int .i64 1, .int .i64 (-1)] 3)) (own 3 (.slice (some (⟨w.heap.size, 0, none⟩ : Addr)) 4 4) (vI ([0, 1, 1, (-1)] : List Int)) :: (own 3 (.slice g5 4 4) (vI ([1, 0, 1, 1] : List Int)) :: blk g4 93 #[.int .i64 g1, .int .i64 g2, .slice A1 g3.length c1] :: own 4 (.slice A2 (Int.toNat (g3.length : Int)) c2) (vB in5) :: fs)) := hS.lit 3 #[.int .i64 0, .int .i64 1, .int .i64 1, .int .i64 (-1)] 4 rfl (by omega)
                          generalize (some (⟨w.heap.size, 0, none⟩ : Addr)) = g6 at hF hS
                          generalize w.alloc (.cells #[.int .i64 0, .int .i64 1, .int .i64 1, .int .i64 (-1)] 3) = w at hS ⊢
                          refine any_fin rfl (hS.pickN 4 [2, 3] (by decide)) ?_
                          refine any_step [6, 8] (by kernel_rfl) rfl ?_
                          refine (all_cons ?_ (all_cons ?_ all_nil))
                          · refine any_op (listed' := #[true, true, true, true, true, true, true, false, false, false]) (by kernel_rfl) (by kernel_rfl) ?_
                            refine at_runW 1 [⟨true, [], vS (Instr.indexAt 34 (.slice g6 4 4) (.int .i64 d1)), .pointer (some (sAddr g6 d1))⟩] [some (.pointer (some (sAddr g6 d1)))] [1, 2, 6, 7, 8, 9, 10, 11, 42, 45] [pl 1 (.int .i64 k1), pl 2 (.pointer (some ⟨g4, 0, none⟩)), pl 6 (.slice A2 (Int.toNat (g3.length : Int)) c2), pl 7 (.bool one5), pl 8 (.bool two5), pl 9 (.int .i64 y1), pl 10 (.int .i64 x1), pl 11 (.int .i64 d1), pl 42 (.int .i64 (geti ([1, 0, 1, 1] : List Int) d1)), pl 45 (.pointer (some (sAddr g6 d1)))] hF hS (by kernel_rfl) (by kernel_rfl) ?_ (fun a hF => ?_)
                            · exact obs_cons (ob_ix1 (f := (Value.int .i64)) (m := ([0, 1, 1, (-1)] : List Int)) Und34 hi3 hs3 (hS.at_ 0 rfl).rd ((hS.at_ 0 rfl).len1) (fun _ => hp3)) <| obs_nil
                            refine any_finI rfl (fun h => h) ?_
                            refine any_step [7, 8] (by kernel_rfl) rfl ?_
                            refine (all_cons ?_ (all_cons ?_ all_nil))
                            · refine any_op (listed' := #[true, true, true, true, true, true, true, true, false, false]) (by kernel_rfl) (by kernel_rfl) ?_
                              refine at_runW 1 [⟨false, [], vS (Instr.loadAt 3 (.pointer (some (sAddr g6 d1)))), .int .i64 (geti ([0, 1, 1, (-1)] : List Int) d1)⟩] [some (.int .i64 (geti ([0, 1, 1, (-1)] : List Int) d1))] [1, 2, 6, 7, 8, 9, 10, 11, 42, 46] [pl 1 (.int .i64 k1), pl 2 (.pointer (some ⟨g4, 0, none⟩)), pl 6 (.slice A2 (Int.toNat (g3.length : Int)) c2), pl 7 (.bool one5), pl 8 (.bool two5), pl 9 (.int .i64 y1), pl 10 (.int .i64 x1), pl 11 (.int .i64 d1), pl 42 (.int .i64 (geti ([1, 0, 1, 1] : List Int) d1)), pl 46 (.int .i64 (geti ([0, 1, 1, (-1)] : List Int) d1))] hF hS (by kernel_rfl) (by kernel_rfl) ?_ (fun a hF => ?_)
                              · exact obs_cons (ob_get1 (n := 4) (m := ([0, 1, 1, (-1)] : List Int)) (Value.int .i64) (0 : Int) Agg3 (fun _ hS => ⟨_, (hS.at_ 0 rfl).rd⟩) (fun _ hS => ((hS.at_ 0 rfl).len1)) (fun _ => hp3)) <| obs_nil
                              refine any_finI rfl (fun h => h) ?_
                              refine any_step [8] (by kernel_rfl) rfl ?_
                              refine (all_cons ?_ all_nil)
                              · refine any_op (listed' := #[true, true, true, true, true, true, true, true, true, false]) (by kernel_rfl) (by kernel_rfl) ?_
                                refine at_runW 1 [] [] [1, 2, 6, 7, 8, 9, 10, 11, 12, 46] [pl 1 (.int .i64 k1), pl 2 (.pointer (some ⟨g4, 0, none⟩)), pl 6 (.slice A2 (Int.toNat (g3.length : Int)) c2), pl 7 (.bool one5), pl 8 (.bool two5), pl 9 (.int .i64 y1), pl 10 (.int .i64 x1), pl 11 (.int .i64 d1), pl 12 (.int .i64 (geti ([1, 0, 1, 1] : List Int) d1)), pl 46 (.int .i64 (geti ([0, 1, 1, (-1)] : List Int) d1))] hF hS (by kernel_rfl) (by kernel_rfl) ?_ (fun a hF => ?_)
                                · exact obs_nil
                                refine any_finI rfl (fun h => h) ?_
                                refine any_step [9] (by kernel_rfl) rfl ?_
                                refine (all_cons ?_ all_nil)
                                · refine any_op (listed' := #[true, true, true, true, true, true, true, true, true, true]) (by kernel_rfl) (by kernel_rfl) ?_
                                  refine at_runW 1 [] [] [1, 2, 6, 7, 8, 9, 10, 11, 12, 13] [pl 1 (.int .i64 k1), pl 2 (.pointer (some ⟨g4, 0, none⟩)), pl 6 (.slice A2 (Int.toNat (g3.length : Int)) c2), pl 7 (.bool one5), pl 8 (.bool two5), pl 9 (.int .i64 y1), pl 10 (.int .i64 x1), pl 11 (.int .i64 d1), pl 12 (.int .i64 (geti ([1, 0, 1, 1] : List Int) d1)), pl 13 (.int .i64 (geti ([0, 1, 1, (-1)] : List Int) d1))] hF hS (by kernel_rfl) (by kernel_rfl) ?_ (fun a hF => ?_)
                                  · exact obs_nil
                                  refine any_finI rfl (fun h => h) ?_
                                  refine any_end (by kernel_rfl) ?_
                                  refine np_n ?_
                                  refine then_n ?_
                                  have hS := hS.pickN 4 [2, 3] (by decide)
                                  exact ⟨hF.weak [1, 2, 6, 7, 8, 9, 10, 11, 12, 13] (by kernel_rfl), hS, hm⟩
                            · refine any_op (listed' := #[true, true, true, true, true, true, true, false, true, false]) (by kernel_rfl) (by kernel_rfl) ?_
                              refine at_runW 1 [] [] [1, 2, 6, 7, 8, 9, 10, 11, 12, 45] [pl 1 (.int .i64 k1), pl 2 (.pointer (some ⟨g4, 0, none⟩)), pl 6 (.slice A2 (Int.toNat (g3.length : Int)) c2), pl 7 (.bool one5), pl 8 (.bool two5), pl 9 (.int .i64 y1), pl 10 (.int .i64 x1), pl 11 (.int .i64 d1), pl 12 (.int .i64 (geti ([1, 0, 1, 1] : List Int) d1)), pl 45 (.pointer (some (sAddr g6 d1)))] hF hS (by kernel_rfl) (by kernel_rfl) ?_ (fun a hF => ?_)
                              · exact obs_nil
                              refine any_finI rfl (fun h => h) ?_
                              refine any_step [7] (by kernel_rfl) rfl ?_
                              refine (all_cons ?_ all_nil)
                              · refine any_op (listed' := #[true, true, true, true, true, true, true, true, true, false]) (by kernel_rfl) (by kernel_rfl) ?_
                                refine at_runW 1 [⟨false, [], vS (Instr.loadAt 3 (.pointer (some (sAddr g6 d1)))), .int .i64 (geti ([0, 1, 1, (-1)] : List Int) d1)⟩] [some (.int .i64 (geti ([0, 1, 1, (-1)] : List Int) d1))] [1, 2, 6, 7, 8, 9, 10, 11, 12, 46] [pl 1 (.int .i64 k1), pl 2 (.pointer (some ⟨g4, 0, none⟩)), pl 6 (.slice A2 (Int.toNat (g3.length : Int)) c2), pl 7 (.bool one5), pl 8 (.bool two5), pl 9 (.int .i64 y1), pl 10 (.int .i64 x1), pl 11 (.int .i64 d1), pl 12 (.int .i64 (geti ([1, 0, 1, 1] : List Int) d1)), pl 46 (.int .i64 (geti ([0, 1, 1, (-1)] : List Int) d1))] hF hS (by kernel_rfl) (by kernel_rfl) ?_ (fun a hF => ?_)
                                · exact obs_cons (ob_get1 (n := 4) (m := ([0, 1, 1, (-1)] : List Int)) (Value.int .i64) (0 : Int) Agg3 (fun _ hS => ⟨_, (hS.at_ 0 rfl).rd⟩) (fun _ hS => ((hS.at_ 0 rfl).len1)) (fun _ => hp3)) <| obs_nil
                                refine any_finI rfl (fun h => h) ?_
                                refine any_step [9] (by kernel_rfl) rfl ?_
                                refine (all_cons ?_ all_nil)
                                · refine any_op (listed' := #[true, true, true, true, true, true, true, true, true, true]) (by kernel_rfl) (by kernel_rfl) ?_
                                  refine at_runW 1 [] [] [1, 2, 6, 7, 8, 9, 10, 11, 12, 13] [pl 1 (.int .i64 k1), pl 2 (.pointer (some ⟨g4, 0, none⟩)), pl 6 (.slice A2 (Int.toNat (g3.length : Int)) c2), pl 7 (.bool one5), pl 8 (.bool two5), pl 9 (.int .i64 y1), pl 10 (.int .i64 x1), pl 11 (.int .i64 d1), pl 12 (.int .i64 (geti ([1, 0, 1, 1] : List Int) d1)), pl 13 (.int .i64 (geti ([0, 1, 1, (-1)] : List Int) d1))] hF hS (by kernel_rfl) (by kernel_rfl) ?_ (fun a hF => ?_)
                                  · exact obs_nil
                                  refine any_finI rfl (fun h => h) ?_
                                  refine any_end (by kernel_rfl) ?_
                                  refine np_n ?_
                                  refine then_n ?_
                                  have hS := hS.pickN 4 [2, 3] (by decide)
                                  exact ⟨hF.weak [1, 2, 6, 7, 8, 9, 10, 11, 12, 13] (by kernel_rfl), hS, hm⟩
                          · refine any_op (listed' := #[true, true, true, true, true, true, false, false, true, false]) (by kernel_rfl) (by kernel_rfl) ?_
                            refine at_runW 1 [] [] [1, 2, 6, 7, 8, 9, 10, 11, 12, 43, 44] [pl 1 (.int .i64 k1), pl 2 (.pointer (some ⟨g4, 0, none⟩)), pl 6 (.slice A2 (Int.toNat (g3.length : Int)) c2), pl 7 (.bool one5), pl 8 (.bool two5), pl 9 (.int .i64 y1), pl 10 (.int .i64 x1), pl 11 (.int .i64 d1), pl 12 (.int .i64 (geti ([1, 0, 1, 1] : List Int) d1)), pl 43 (.slice g6 4 4), pl 44 (.int .i64 d1)] hF hS (by kernel_rfl) (by kernel_rfl) ?_ (fun a hF => ?_)
                            · exact obs_nil
                            refine any_finI rfl (fun h => h) ?_
                            refine any_step [6] (by kernel_rfl) rfl ?_
                            refine (all_cons ?_ all_nil)
                            · refine any_op (listed' := #[true, true, true, true, true, true, true, false, true, false]) (by kernel_rfl) (by kernel_rfl) ?_
                              refine at_runW 1 [⟨true, [], vS (Instr.indexAt 34 (.slice g6 4 4) (.int .i64 d1)), .pointer (some (sAddr g6 d1))⟩] [some (.pointer (some (sAddr g6 d1)))] [1, 2, 6, 7, 8, 9, 10, 11, 12, 45] [pl 1 (.int .i64 k1), pl 2 (.pointer (some ⟨g4, 0, none⟩)), pl 6 (.slice A2 (Int.toNat (g3.length : Int)) c2), pl 7 (.bool one5), pl 8 (.bool two5), pl 9 (.int .i64 y1), pl 10 (.int .i64 x1), pl 11 (.int .i64 d1), pl 12 (.int .i64 (geti ([1, 0, 1, 1] : List Int) d1)), pl 45 (.pointer (some (sAddr g6 d1)))] hF hS (by kernel_rfl) (by kernel_rfl) ?_ (fun a hF => ?_)
                              · exact obs_cons (ob_ix1 (f := (Value.int .i64)) (m := ([0, 1, 1, (-1)] : List Int)) Und34 hi3 hs3 (hS.at_ 0 rfl).rd ((hS.at_ 0 rfl).len1) (fun _ => hp3)) <| obs_nil
                              refine any_finI rfl (fun h => h) ?_
                              refine any_step [7] (by kernel_rfl) rfl ?_
                              refine (all_cons ?_ all_nil)
                              · refine any_op (listed' := #[true, true, true, true, true, true, true, true, true, false]) (by kernel_rfl) (by kernel_rfl) ?_
                                refine at_runW 1 [⟨false, [], vS (Instr.loadAt 3 (.pointer (some (sAddr g6 d1)))), .int .i64 (geti ([0, 1, 1, (-1)] : List Int) d1)⟩] [some (.int .i64 (geti ([0, 1, 1, (-1)] : List Int) d1))] [1, 2, 6, 7, 8, 9, 10, 11, 12, 46] [pl 1 (.int .i64 k1), pl 2 (.pointer (some ⟨g4, 0, none⟩)), pl 6 (.slice A2 (Int.toNat (g3.length : Int)) c2), pl 7 (.bool one5), pl 8 (.bool two5), pl 9 (.int .i64 y1), pl 10 (.int .i64 x1), pl 11 (.int .i64 d1), pl 12 (.int .i64 (geti ([1, 0, 1, 1] : List Int) d1)), pl 46 (.int .i64 (geti ([0, 1, 1, (-1)] : List Int) d1))] hF hS (by kernel_rfl) (by kernel_rfl) ?_ (fun a hF => ?_)
                                · exact obs_cons (ob_get1 (n := 4) (m := ([0, 1, 1, (-1)] : List Int)) (Value.int .i64) (0 : Int) Agg3 (fun _ hS => ⟨_, (hS.at_ 0 rfl).rd⟩) (fun _ hS => ((hS.at_ 0 rfl).len1)) (fun _ => hp3)) <| obs_nil
                                refine any_finI rfl (fun h => h) ?_
                                refine any_step [9] (by kernel_rfl) rfl ?_
                                refine (all_cons ?_ all_nil)
                                · refine any_op (listed' := #[true, true, true, true, true, true, true, true, true, true]) (by kernel_rfl) (by kernel_rfl) ?_
                                  refine at_runW 1 [] [] [1, 2, 6, 7, 8, 9, 10, 11, 12, 13] [pl 1 (.int .i64 k1), pl 2 (.pointer (some ⟨g4, 0, none⟩)), pl 6 (.slice A2 (Int.toNat (g3.length : Int)) c2), pl 7 (.bool one5), pl 8 (.bool two5), pl 9 (.int .i64 y1), pl 10 (.int .i64 x1), pl 11 (.int .i64 d1), pl 12 (.int .i64 (geti ([1, 0, 1, 1] : List Int) d1)), pl 13 (.int .i64 (geti ([0, 1, 1, (-1)] : List Int) d1))] hF hS (by kernel_rfl) (by kernel_rfl) ?_ (fun a hF => ?_)
                                  · exact obs_nil
                                  refine any_finI rfl (fun h => h) ?_
                                  refine any_end (by kernel_rfl) ?_
                                  refine np_n ?_
                                  refine then_n ?_
                                  have hS := hS.pickN 4 [2, 3] (by decide)
                                  exact ⟨hF.weak [1, 2, 6, 7, 8, 9, 10, 11, 12, 13] (by kernel_rfl), hS, hm⟩
                        · refine any_op (listed' := #[true, true, true, true, false, true, false, false, true, false]) (by kernel_rfl) (by kernel_rfl) ?_
                          refine at_runW 1 [] [] [1, 2, 6, 7, 8, 9, 10, 11, 12, 44] [pl 1 (.int .i64 k1), pl 2 (.pointer (some ⟨g4, 0, none⟩)), pl 6 (.slice A2 (Int.toNat (g3.length : Int)) c2), pl 7 (.bool one5), pl 8 (.bool two5), pl 9 (.int .i64 y1), pl 10 (.int .i64 x1), pl 11 (.int .i64 d1), pl 12 (.int .i64 (geti ([1, 0, 1, 1] : List Int) d1)), pl 44 (.int .i64 d1)] hF hS (by kernel_rfl) (by kernel_rfl) ?_ (fun a hF => ?_)
                          · exact obs_nil
                          refine any_finI rfl (fun h => h) ?_
                          refine any_step [4] (by kernel_rfl) rfl ?_
                          refine (all_cons ?_ all_nil)
                          · refine any_op (listed' := #[true, true, true, true, true, true, false, false, true, false]) (by kernel_rfl) (by kernel_rfl) ?_
                            refine at_do (d := 43) (s := vS (Instr.buildSlice 34 4 #[(0, .int .i64 0), (1, .int .i64 1), (2, .int .i64 1), (3, .int .i64 (-1))])) (v := .slice (some ⟨w.heap.size, 0, none⟩) 4 4) (w' := w.alloc (.cells #[.int .i64 0, .int .i64 1, .int .i64 1, .int .i64 (-1)] 3)) hF (by kernel_rfl) (by kernel_rfl) (by kernel_rfl) (fun a hF => ?_)
                            have hS : Sep w0 B (w.alloc (.cells #[.int .i64 0, .int .i64 1, .int .i64 1, .int .i64 (-1)] 3)) (own 3 (.slice (some (⟨w.heap.size, 0, none⟩ : Addr)) 4 4) (vI ([0, 1, 1, (-1)] : List Int)) :: (own 3 (.slice g5 4 4) (vI ([1, 0, 1, 1] : List Int)) :: blk g4 93 #[.int .i64 g1, .int .i64 g2, .slice A1 g3.length c1] :: own 4 (.slice A2 (Int.toNat (g3.length : Int)) c2) (vB in5) :: fs)) := hS.lit 3 #[.int .i64 0, .int .i64 1, .int .i64 1, .int .i64 (-1)] 4 rfl (by omega)
                            generalize (some (⟨w.heap.size, 0, none⟩ : Addr)) = g6 at hF hS
                            generalize w.alloc (.cells #[.int .i64 0, .int .i64 1, .int .i64 1, .int .i64 (-1)] 3) = w at hS ⊢
                            refine any_fin rfl (hS.pickN 4 [2, 3] (by decide)) ?_
                            refine any_step [6] (by kernel_rfl) rfl ?_
                            refine (all_cons ?_ all_nil)
                            · refine any_op (listed' := #[true, true, true, true, true, true, true, false, true, false]) (by kernel_rfl) (by kernel_rfl) ?_
                              refine at_runW 1 [⟨true, [], vS (Instr.indexAt 34 (.slice g6 4 4) (.int .i64 d1)), .pointer (some (sAddr g6 d1))⟩] [some (.pointer (some (sAddr g6 d1)))] [1, 2, 6, 7, 8, 9, 10, 11, 12, 45] [pl 1 (.int .i64 k1), pl 2 (.pointer (some ⟨g4, 0, none⟩)), pl 6 (.slice A2 (Int.toNat (g3.length : Int)) c2), pl 7 (.bool one5), pl 8 (.bool two5), pl 9 (.int .i64 y1), pl 10 (.int .i64 x1), pl 11 (.int .i64 d1), pl 12 (.int .i64 (geti ([1, 0, 1, 1] : List Int) d1)), pl 45 (.pointer (some (sAddr g6 d1)))] hF hS (by kernel_rfl) (by kernel_rfl) ?_ (fun a hF => ?_)
                              · exact obs_cons (ob_ix1 (f := (Value.int .i64)) (m := ([0, 1, 1, (-1)] : List Int)) Und34 hi3 hs3 (hS.at_ 0 rfl).rd ((hS.at_ 0 rfl).len1) (fun _ => hp3)) <| obs_nil
                              refine any_finI rfl (fun h => h) ?_
                              refine any_step [7] (by kernel_rfl) rfl ?_
                              refine (all_cons ?_ all_nil)
                              · refine any_op (listed' := #[true, true, true, true, true, true, true, true, true, false]) (by kernel_rfl) (by kernel_rfl) ?_
                                refine at_runW 1 [⟨false, [], vS (Instr.loadAt 3 (.pointer (some (sAddr g6 d1)))), .int .i64 (geti ([0, 1, 1, (-1)] : List Int) d1)⟩] [some (.int .i64 (geti ([0, 1, 1, (-1)] : List Int) d1))] [1, 2, 6, 7, 8, 9, 10, 11, 12, 46] [pl 1 (.int .i64 k1), pl 2 (.pointer (some ⟨g4, 0, none⟩)), pl 6 (.slice A2 (Int.toNat (g3.length : Int)) c2), pl 7 (.bool one5), pl 8 (.bool two5), pl 9 (.int .i64 y1), pl 10 (.int .i64 x1), pl 11 (.int .i64 d1), pl 12 (.int .i64 (geti ([1, 0, 1, 1] : List Int) d1)), pl 46 (.int .i64 (geti ([0, 1, 1, (-1)] : List Int) d1))] hF hS (by kernel_rfl) (by kernel_rfl) ?_ (fun a hF => ?_)
                                · exact obs_cons (ob_get1 (n := 4) (m := ([0, 1, 1, (-1)] : List Int)) (Value.int .i64) (0 : Int) Agg3 (fun _ hS => ⟨_, (hS.at_ 0 rfl).rd⟩) (fun _ hS => ((hS.at_ 0 rfl).len1)) (fun _ => hp3)) <| obs_nil
                                refine any_finI rfl (fun h => h) ?_
                                refine any_step [9] (by kernel_rfl) rfl ?_
                                refine (all_cons ?_ all_nil)
                                · refine any_op (listed' := #[true, true, true, true, true, true, true, true, true, true]) (by kernel_rfl) (by kernel_rfl) ?_
                                  refine at_runW 1 [] [] [1, 2, 6, 7, 8, 9, 10, 11, 12, 13] [pl 1 (.int .i64 k1), pl 2 (.pointer (some ⟨g4, 0, none⟩)), pl 6 (.slice A2 (Int.toNat (g3.length : Int)) c2), pl 7 (.bool one5), pl 8 (.bool two5), pl 9 (.int .i64 y1), pl 10 (.int .i64 x1), pl 11 (.int .i64 d1), pl 12 (.int .i64 (geti ([1, 0, 1, 1] : List Int) d1)), pl 13 (.int .i64 (geti ([0, 1, 1, (-1)] : List Int) d1))] hF hS (by kernel_rfl) (by kernel_rfl) ?_ (fun a hF => ?_)
                                  · exact obs_nil
                                  refine any_finI rfl (fun h => h) ?_
                                  refine any_end (by kernel_rfl) ?_
                                  refine np_n ?_
                                  refine then_n ?_
                                  have hS := hS.pickN 4 [2, 3] (by decide)
                                  exact ⟨hF.weak [1, 2, 6, 7, 8, 9, 10, 11, 12, 13] (by kernel_rfl), hS, hm⟩
                      · refine any_op (listed' := #[true, true, true, false, true, true, false, false, false, false]) (by kernel_rfl) (by kernel_rfl) ?_
                        refine at_do (d := 43) (s := vS (Instr.buildSlice 34 4 #[(0, .int .i64 0), (1, .int .i64 1), (2, .int .i64 1), (3, .int .i64 (-1))])) (v := .slice (some ⟨w.heap.size, 0, none⟩) 4 4) (w' := w.alloc (.cells #[.int .i64 0, .int .i64 1, .int .i64 1, .int .i64 (-1)] 3)) hF (by kernel_rfl) (by kernel_rfl) (by kernel_rfl) (fun a hF => ?_)
                        have hS : Sep w0 B (w.alloc (.cells #[.int .i64 0, .int .i64 1, .int .i64 1, .int .i64 (-1)] 3)) (own 3 (.slice (some (⟨w.heap.size, 0, none⟩ : Addr)) 4 4) (vI ([0, 1, 1, (-1)] : List Int)) :: (own 3 (.slice g5 4 4) (vI ([1, 0, 1, 1] : List Int)) :: blk g4 93 #[.int .i64 g1, .int .i64 g2, .slice A1 g3.length c1] :: own 4 (.slice A2 (Int.toNat (g3.length : Int)) c2) (vB in5) :: fs)) := hS.lit 3 #[.int .i64 0, .int .i64 1, .int .i64 1, .int .i64 (-1)] 4 rfl (by omega)
                        generalize (some (⟨w.heap.size, 0, none⟩ : Addr)) = g6 at hF hS
                        generalize w.alloc (.cells #[.int .i64 0, .int .i64 1, .int .i64 1, .int .i64 (-1)] 3) = w at hS ⊢
                        refine any_fin rfl (hS.pickN 4 [2, 3] (by decide)) ?_
                        refine any_step [3, 6] (by kernel_rfl) rfl ?_
                        refine (all_cons ?_ (all_cons ?_ all_nil))
                        · refine any_op (listed' := #[true, true, true, true, true, true, false, false, false, false]) (by kernel_rfl) (by kernel_rfl) ?_
                          refine at_runW 1 [⟨false, [], vS (Instr.loadAt 3 (.pointer (some (sAddr g5 d1)))), .int .i64 (geti ([1, 0, 1, 1] : List Int) d1)⟩] [some (.int .i64 (geti ([1, 0, 1, 1] : List Int) d1))] [1, 2, 6, 7, 8, 9, 10, 11, 42, 43, 44] [pl 1 (.int .i64 k1), pl 2 (.pointer (some ⟨g4, 0, none⟩)), pl 6 (.slice A2 (Int.toNat (g3.length : Int)) c2), pl 7 (.bool one5), pl 8 (.bool two5), pl 9 (.int .i64 y1), pl 10 (.int .i64 x1), pl 11 (.int .i64 d1), pl 42 (.int .i64 (geti ([1, 0, 1, 1] : List Int) d1)), pl 43 (.slice g6 4 4), pl 44 (.int .i64 d1)] hF hS (by kernel_rfl) (by kernel_rfl) ?_ (fun a hF => ?_)
                          · exact obs_cons (ob_get1 (n := 4) (m := ([1, 0, 1, 1] : List Int)) (Value.int .i64) (0 : Int) Agg3 (fun _ hS => ⟨_, (hS.at_ 1 rfl).rd⟩) (fun _ hS => ((hS.at_ 1 rfl).len1)) (fun _ => hp2)) <| obs_nil
                          refine any_finI rfl (fun h => h) ?_
                          refine any_step [6, 8] (by kernel_rfl) rfl ?_
                          refine (all_cons ?_ (all_cons ?_ all_nil))
                          · refine any_op (listed' := #[true, true, true, true, true, true, true, false, false, false]) (by kernel_rfl) (by kernel_rfl) ?_
                            refine at_runW 1 [⟨true, [], vS (Instr.indexAt 34 (.slice g6 4 4) (.int .i64 d1)), .pointer (some (sAddr g6 d1))⟩] [some (.pointer (some (sAddr g6 d1)))] [1, 2, 6, 7, 8, 9, 10, 11, 42, 45] [pl 1 (.int .i64 k1), pl 2 (.pointer (some ⟨g4, 0, none⟩)), pl 6 (.slice A2 (Int.toNat (g3.length : Int)) c2), pl 7 (.bool one5), pl 8 (.bool two5), pl 9 (.int .i64 y1), pl 10 (.int .i64 x1), pl 11 (.int .i64 d1), pl 42 (.int .i64 (geti ([1, 0, 1, 1] : List Int) d1)), pl 45 (.pointer (some (sAddr g6 d1)))] hF hS (by kernel_rfl) (by kernel_rfl) ?_ (fun a hF => ?_)
                            · exact obs_cons (ob_ix1 (f := (Value.int .i64)) (m := ([0, 1, 1, (-1)] : List Int)) Und34 hi3 hs3 (hS.at_ 0 rfl).rd ((hS.at_ 0 rfl).len1) (fun _ => hp3)) <| obs_nil
                            refine any_finI rfl (fun h => h) ?_
                            refine any_step [7, 8] (by kernel_rfl) rfl ?_
                            refine (all_cons ?_ (all_cons ?_ all_nil))
                            · refine any_op (listed' := #[true, true, true, true, true, true, true, true, false, false]) (by kernel_rfl) (by kernel_rfl) ?_
                              refine at_runW 1 [⟨false, [], vS (Instr.loadAt 3 (.pointer (some (sAddr g6 d1)))), .int .i64 (geti ([0, 1, 1, (-1)] : List Int) d1)⟩] [some (.int .i64 (geti ([0, 1, 1, (-1)] : List Int) d1))] [1, 2, 6, 7, 8, 9, 10, 11, 42, 46] [pl 1 (.int .i64 k1), pl 2 (.pointer (some ⟨g4, 0, none⟩)), pl 6 (.slice A2 (Int.toNat (g3.length : Int)) c2), pl 7 (.bool one5), pl 8 (.bool two5), pl 9 (.int .i64 y1), pl 10 (.int .i64 x1), pl 11 (.int .i64 d1), pl 42 (.int .i64 (geti ([1, 0, 1, 1] : List Int) d1)), pl 46 (.int .i64 (geti ([0, 1, 1, (-1)] : List Int) d1))] hF hS (by kernel_rfl) (by kernel_rfl) ?_ (fun a hF => ?_)
                              · exact obs_cons (ob_get1 (n := 4) (m := ([0, 1, 1, (-1)] : List Int)) (Value.int .i64) (0 : Int) Agg3 (fun _ hS => ⟨_, (hS.at_ 0 rfl).rd⟩) (fun _ hS => ((hS.at_ 0 rfl).len1)) (fun _ => hp3)) <| obs_nil
                              refine any_finI rfl (fun h => h) ?_
                              refine any_step [8] (by kernel_rfl) rfl ?_
                              refine (all_cons ?_ all_nil)
                              · refine any_op (listed' := #[true, true, true, true, true, true, true, true, true, false]) (by kernel_rfl) (by kernel_rfl) ?_
                                refine at_runW 1 [] [] [1, 2, 6, 7, 8, 9, 10, 11, 12, 46] [pl 1 (.int .i64 k1), pl 2 (.pointer (some ⟨g4, 0, none⟩)), pl 6 (.slice A2 (Int.toNat (g3.length : Int)) c2), pl 7 (.bool one5), pl 8 (.bool two5), pl 9 (.int .i64 y1), pl 10 (.int .i64 x1), pl 11 (.int .i64 d1), pl 12 (.int .i64 (geti ([1, 0, 1, 1] : List Int) d1)), pl 46 (.int .i64 (geti ([0, 1, 1, (-1)] : List Int) d1))] hF hS (by kernel_rfl) (by kernel_rfl) ?_ (fun a hF => ?_)
                                · exact obs_nil
                                refine any_finI rfl (fun h => h) ?_
                                refine any_step [9] (by kernel_rfl) rfl ?_
                                refine (all_cons ?_ all_nil)
                                · refine any_op (listed' := #[true, true, true, true, true, true, true, true, true, true]) (by kernel_rfl) (by kernel_rfl) ?_
                                  refine at_runW 1 [] [] [1, 2, 6, 7, 8, 9, 10, 11, 12, 13] [pl 1 (.int .i64 k1), pl 2 (.pointer (some ⟨g4, 0, none⟩)), pl 6 (.slice A2 (Int.toNat (g3.length : Int)) c2), pl 7 (.bool one5), pl 8 (.bool two5), pl 9 (.int .i64 y1), pl 10 (.int .i64 x1), pl 11 (.int .i64 d1), pl 12 (.int .i64 (geti ([1, 0, 1, 1] : List Int) d1)), pl 13 (.int .i64 (geti ([0, 1, 1, (-1)] : List Int) d1))] hF hS (by kernel_rfl) (by kernel_rfl) ?_ (fun a hF => ?_)
                                  · exact obs_nil
                                  refine any_finI rfl (fun h => h) ?_
                                  refine any_end (by kernel_rfl) ?_
                                  refine np_n ?_
                                  refine then_n ?_
                                  have hS := hS.pickN 4 [2, 3] (by decide)
                                  exact ⟨hF.weak [1, 2, 6, 7, 8, 9, 10, 11, 12, 13] (by kernel_rfl), hS, hm⟩
                            · refine any_op (listed' := #[true, true, true, true, true, true, true, false, true, false]) (by kernel_rfl) (by kernel_rfl) ?_
                              refine at_runW 1 [] [] [1, 2, 6, 7, 8, 9, 10, 11, 12, 45] [pl 1 (.int .i64 k1), pl 2 (.pointer (some ⟨g4, 0, none⟩)), pl 6 (.slice A2 (Int.toNat (g3.length : Int)) c2), pl 7 (.bool one5), pl 8 (.bool two5), pl 9 (.int .i64 y1), pl 10 (.int .i64 x1), pl 11 (.int .i64 d1), pl 12 (.int .i64 (geti ([1, 0, 1, 1] : List Int) d1)), pl 45 (.pointer (some (sAddr g6 d1)))] hF hS (by kernel_rfl) (by kernel_rfl) ?_ (fun a hF => ?_)
                              · exact obs_nil
                              refine any_finI rfl (fun h => h) ?_
                              refine any_step [7] (by kernel_rfl) rfl ?_
                              refine (all_cons ?_ all_nil)
                              · refine any_op (listed' := #[true, true, true, true, true, true, true, true, true, false]) (by kernel_rfl) (by kernel_rfl) ?_
                                refine at_runW 1 [⟨false, [], vS (Instr.loadAt 3 (.pointer (some (sAddr g6 d1)))), .int .i64 (geti ([0, 1, 1, (-1)] : List Int) d1)⟩] [some (.int .i64 (geti ([0, 1, 1, (-1)] : List Int) d1))] [1, 2, 6, 7, 8, 9, 10, 11, 12, 46] [pl 1 (.int .i64 k1), pl 2 (.pointer (some ⟨g4, 0, none⟩)), pl 6 (.slice A2 (Int.toNat (g3.length : Int)) c2), pl 7 (.bool one5), pl 8 (.bool two5), pl 9 (.int .i64 y1), pl 10 (.int .i64 x1), pl 11 (.int .i64 d1), pl 12 (.int .i64 (geti ([1, 0, 1, 1] : List Int) d1)), pl 46 (.int .i64 (geti ([0, 1, 1, (-1)] : List Int) d1))] hF hS (by kernel_rfl) (by kernel_rfl) ?_ (fun a hF => ?_)
                                · exact obs_cons (ob_get1 (n := 4) (m := ([0, 1, 1, (-1)] : List Int)) (Value.int .i64) (0 : Int) Agg3 (fun _ hS => ⟨_, (hS.at_ 0 rfl).rd⟩) (fun _ hS => ((hS.at_ 0 rfl).len1)) (fun _ => hp3)) <| obs_nil
                                refine any_finI rfl (fun h => h) ?_
                                refine any_step [9] (by kernel_rfl) rfl ?_
                                refine (all_cons ?_ all_nil)
                                · refine any_op (listed' := #[true, true, true, true, true, true, true, true, true, true]) (by kernel_rfl) (by kernel_rfl) ?_
                                  refine at_runW 1 [] [] [1, 2, 6, 7, 8, 9, 10, 11, 12, 13] [pl 1 (.int .i64 k1), pl 2 (.pointer (some ⟨g4, 0, none⟩)), pl 6 (.slice A2 (Int.toNat (g3.length : Int)) c2), pl 7 (.bool one5), pl 8 (.bool two5), pl 9 (.int .i64 y1), pl 10 (.int .i64 x1), pl 11 (.int .i64 d1), pl 12 (.int .i64 (geti ([1, 0, 1, 1] : List Int) d1)), pl 13 (.int .i64 (geti ([0, 1, 1, (-1)] : List Int) d1))] hF hS (by kernel_rfl) (by kernel_rfl) ?_ (fun a hF => ?_)
                                  · exact obs_nil
                                  refine any_finI rfl (fun h => h) ?_
                                  refine any_end (by kernel_rfl) ?_
                                  refine np_n ?_
                                  refine then_n ?_
                                  have hS := hS.pickN 4 [2, 3] (by decide)
                                  exact ⟨hF.weak [1, 2, 6, 7, 8, 9, 10, 11, 12, 13] (by kernel_rfl), hS, hm⟩
                          · refine any_op (listed' := #[true, true, true, true, true, true, false, false, true, false]) (by kernel_rfl) (by kernel_rfl) ?_
                            refine at_runW 1 [] [] [1, 2, 6, 7, 8, 9, 10, 11, 12, 43, 44] [pl 1 (.int .i64 k1), pl 2 (.pointer (some ⟨g4, 0, none⟩)), pl 6 (.slice A2 (Int.toNat (g3.length : Int)) c2), pl 7 (.bool one5), pl 8 (.bool two5), pl 9 (.int .i64 y1), pl 10 (.int .i64 x1), pl 11 (.int .i64 d1), pl 12 (.int .i64 (geti ([1, 0, 1, 1] : List Int) d1)), pl 43 (.slice g6 4 4), pl 44 (.int .i64 d1)] hF hS (by kernel_rfl) (by kernel_rfl) ?_ (fun a hF => ?_)
                            · exact obs_nil
                            refine any_finI rfl (fun h => h) ?_
                            refine any_step [6] (by kernel_rfl) rfl ?_
                            refine (all_cons ?_ all_nil)
                            · refine any_op (listed' := #[true, true, true, true, true, true, true, false, true, false]) (by kernel_rfl) (by kernel_rfl) ?_
                              refine at_runW 1 [⟨true, [], vS (Instr.indexAt 34 (.slice g6 4 4) (.int .i64 d1)), .pointer (some (sAddr g6 d1))⟩] [some (.pointer (some (sAddr g6 d1)))] [1, 2, 6, 7, 8, 9, 10, 11, 12, 45] [pl 1 (.int .i64 k1), pl 2 (.pointer (some ⟨g4, 0, none⟩)), pl 6 (.slice A2 (Int.toNat (g3.length : Int)) c2), pl 7 (.bool one5), pl 8 (.bool two5), pl 9 (.int .i64 y1), pl 10 (.int .i64 x1), pl 11 (.int .i64 d1), pl 12 (.int .i64 (geti ([1, 0, 1, 1] : List Int) d1)), pl 45 (.pointer (some (sAddr g6 d1)))] hF hS (by kernel_rfl) (by kernel_rfl) ?_ (fun a hF => ?_)
                              · exact obs_cons (ob_ix1 (f := (Value.int .i64)) (m := ([0, 1, 1, (-1)] : List Int)) Und34 hi3 hs3 (hS.at_ 0 rfl).rd ((hS.at_ 0 rfl).len1) (fun _ => hp3)) <| obs_nil
                              refine any_finI rfl (fun h => h) ?_
                              refine any_step [7] (by kernel_rfl) rfl ?_
                              refine (all_cons ?_ all_nil)
                              · refine any_op (listed' := #[true, true, true, true, true, true, true, true, true, false]) (by kernel_rfl) (by kernel_rfl) ?_
                                refine at_runW 1 [⟨false, [], vS (Instr.loadAt 3 (.pointer (some (sAddr g6 d1)))), .int .i64 (geti ([0, 1, 1, (-1)] : List Int) d1)⟩] [some (.int .i64 (geti ([0, 1, 1, (-1)] : List Int) d1))] [1, 2, 6, 7, 8, 9, 10, 11, 12, 46] [pl 1 (.int .i64 k1), pl 2 (.pointer (some ⟨g4, 0, none⟩)), pl 6 (.slice A2 (Int.toNat (g3.length : Int)) c2), pl 7 (.bool one5), pl 8 (.bool two5), pl 9 (.int .i64 y1), pl 10 (.int .i64 x1), pl 11 (.int .i64 d1), pl 12 (.int .i64 (geti ([1, 0, 1, 1] : List Int) d1)), pl 46 (.int .i64 (geti ([0, 1, 1, (-1)] : List Int) d1))] hF hS (by kernel_rfl) (by kernel_rfl) ?_ (fun a hF => ?_)
                                · exact obs_cons (ob_get1 (n := 4) (m := ([0, 1, 1, (-1)] : List Int)) (Value.int .i64) (0 : Int) Agg3 (fun _ hS => ⟨_, (hS.at_ 0 rfl).rd⟩) (fun _ hS => ((hS.at_ 0 rfl).len1)) (fun _ => hp3)) <| obs_nil
                                refine any_finI rfl (fun h => h) ?_
                                refine any_step [9] (by kernel_rfl) rfl ?_
                                refine (all_cons ?_ all_nil)
                                · refine any_op (listed' := #[true, true, true, true, true, true, true, true, true, true]) (by kernel_rfl) (by kernel_rfl) ?_
                                  refine at_runW 1 [] [] [1, 2, 6, 7, 8, 9, 10, 11, 12, 13] [pl 1 (.int .i64 k1), pl 2 (.pointer (some ⟨g4, 0, none⟩)), pl 6 (.slice A2 (Int.toNat (g3.length : Int)) c2), pl 7 (.bool one5), pl 8 (.bool two5), pl 9 (.int .i64 y1), pl 10 (.int .i64 x1), pl 11 (.int .i64 d1), pl 12 (.int .i64 (geti ([1, 0, 1, 1] : List Int) d1)), pl 13 (.int .i64 (geti ([0, 1, 1, (-1)] : List Int) d1))] hF hS (by kernel_rfl) (by kernel_rfl) ?_ (fun a hF => ?_)
                                  · exact obs_nil
                                  refine any_finI rfl (fun h => h) ?_
                                  refine any_end (by kernel_rfl) ?_
                                  refine np_n ?_
                                  refine then_n ?_
                                  have hS := hS.pickN 4 [2, 3] (by decide)
                                  exact ⟨hF.weak [1, 2, 6, 7, 8, 9, 10, 11, 12, 13] (by kernel_rfl), hS, hm⟩
                        · refine any_op (listed' := #[true, true, true, false, true, true, true, false, false, false]) (by kernel_rfl) (by kernel_rfl) ?_
                          refine at_runW 1 [⟨true, [], vS (Instr.indexAt 34 (.slice g6 4 4) (.int .i64 d1)), .pointer (some (sAddr g6 d1))⟩] [some (.pointer (some (sAddr g6 d1)))] [1, 2, 6, 7, 8, 9, 10, 11, 41, 45] [pl 1 (.int .i64 k1), pl 2 (.pointer (some ⟨g4, 0, none⟩)), pl 6 (.slice A2 (Int.toNat (g3.length : Int)) c2), pl 7 (.bool one5), pl 8 (.bool two5), pl 9 (.int .i64 y1), pl 10 (.int .i64 x1), pl 11 (.int .i64 d1), pl 41 (.pointer (some (sAddr g5 d1))), pl 45 (.pointer (some (sAddr g6 d1)))] hF hS (by kernel_rfl) (by kernel_rfl) ?_ (fun a hF => ?_)
                          · exact obs_cons (ob_ix1 (f := (Value.int .i64)) (m := ([0, 1, 1, (-1)] : List Int)) Und34 hi3 hs3 (hS.at_ 0 rfl).rd ((hS.at_ 0 rfl).len1) (fun _ => hp3)) <| obs_nil
                          refine any_finI rfl (fun h => h) ?_
                          refine any_step [3, 7] (by kernel_rfl) rfl ?_
                          refine (all_cons ?_ (all_cons ?_ all_nil))
                          · refine any_op (listed' := #[true, true, true, true, true, true, true, false, false, false]) (by kernel_rfl) (by kernel_rfl) ?_
                            refine at_runW 1 [⟨false, [], vS (Instr.loadAt 3 (.pointer (some (sAddr g5 d1)))), .int .i64 (geti ([1, 0, 1, 1] : List Int) d1)⟩] [some (.int .i64 (geti ([1, 0, 1, 1] : List Int) d1))] [1, 2, 6, 7, 8, 9, 10, 11, 42, 45] [pl 1 (.int .i64 k1), pl 2 (.pointer (some ⟨g4, 0, none⟩)), pl 6 (.slice A2 (Int.toNat (g3.length : Int)) c2), pl 7 (.bool one5), pl 8 (.bool two5), pl 9 (.int .i64 y1), pl 10 (.int .i64 x1), pl 11 (.int .i64 d1), pl 42 (.int .i64 (geti ([1, 0, 1, 1] : List Int) d1)), pl 45 (.pointer (some (sAddr g6 d1)))] hF hS (by kernel_rfl) (by kernel_rfl) ?_ (fun a hF => ?_)
                            · exact obs_cons (ob_get1 (n := 4) (m := ([1, 0, 1, 1] : List Int)) (Value.int .i64) (0 : Int) Agg3 (fun _ hS => ⟨_, (hS.at_ 1 rfl).rd⟩) (fun _ hS => ((hS.at_ 1 rfl).len1)) (fun _ => hp2)) <| obs_nil
                            refine any_finI rfl (fun h => h) ?_
                            refine any_step [7, 8] (by kernel_rfl) rfl ?_
                            refine (all_cons ?_ (all_cons ?_ all_nil))
                            · refine any_op (listed' := #[true, true, true, true, true, true, true, true, false, false]) (by kernel_rfl) (by kernel_rfl) ?_
                              refine at_runW 1 [⟨false, [], vS (Instr.loadAt 3 (.pointer (some (sAddr g6 d1)))), .int .i64 (geti ([0, 1, 1, (-1)] : List Int) d1)⟩] [some (.int .i64 (geti ([0, 1, 1, (-1)] : List Int) d1))] [1, 2, 6, 7, 8, 9, 10, 11, 42, 46] [pl 1 (.int .i64 k1), pl 2 (.pointer (some ⟨g4, 0, none⟩)), pl 6 (.slice A2 (Int.toNat (g3.length : Int)) c2), pl 7 (.bool one5), pl 8 (.bool two5), pl 9 (.int .i64 y1), pl 10 (.int .i64 x1), pl 11 (.int .i64 d1), pl 42 (.int .i64 (geti ([1, 0, 1, 1] : List Int) d1)), pl 46 (.int .i64 (geti ([0, 1, 1, (-1)] : List Int) d1))] hF hS (by kernel_rfl) (by kernel_rfl) ?_ (fun a hF => ?_)
                              · exact obs_cons (ob_get1 (n := 4) (m := ([0, 1, 1, (-1)] : List Int)) (Value.int .i64) (0 : Int) Agg3 (fun _ hS => ⟨_, (hS.at_ 0 rfl).rd⟩) (fun _ hS => ((hS.at_ 0 rfl).len1)) (fun _ => hp3)) <| obs_nil
                              refine any_finI rfl (fun h => h) ?_
                              refine any_step [8] (by kernel_rfl) rfl ?_
                              refine (all_cons ?_ all_nil)
                              · refine any_op (listed' := #[true, true, true, true, true, true, true, true, true, false]) (by kernel_rfl) (by kernel_rfl) ?_
                                refine at_runW 1 [] [] [1, 2, 6, 7, 8, 9, 10, 11, 12, 46] [pl 1 (.int .i64 k1), pl 2 (.pointer (some ⟨g4, 0, none⟩)), pl 6 (.slice A2 (Int.toNat (g3.length : Int)) c2), pl 7 (.bool one5), pl 8 (.bool two5), pl 9 (.int .i64 y1), pl 10 (.int .i64 x1), pl 11 (.int .i64 d1), pl 12 (.int .i64 (geti ([1, 0, 1, 1] : List Int) d1)), pl 46 (.int .i64 (geti ([0, 1, 1, (-1)] : List Int) d1))] hF hS (by kernel_rfl) (by kernel_rfl) ?_ (fun a hF => ?_)
                                · exact obs_nil
                                refine any_finI rfl (fun h => h) ?_
                                refine any_step [9] (by kernel_rfl) rfl ?_
                                refine (all_cons ?_ all_nil)
                                · refine any_op (listed' := #[true, true, true, true, true, true, true, true, true, true]) (by kernel_rfl) (by kernel_rfl) ?_
                                  refine at_runW 1 [] [] [1, 2, 6, 7, 8, 9, 10, 11, 12, 13] [pl 1 (.int .i64 k1), pl 2 (.pointer (some ⟨g4, 0, none⟩)), pl 6 (.slice A2 (Int.toNat (g3.length : Int)) c2), pl 7 (.bool one5), pl 8 (.bool two5), pl 9 (.int .i64 y1), pl 10 (.int .i64 x1), pl 11 (.int .i64 d1), pl 12 (.int .i64 (geti ([1, 0, 1, 1] : List Int) d1)), pl 13 (.int .i64 (geti ([0, 1, 1, (-1)] : List Int) d1))] hF hS (by kernel_rfl) (by kernel_rfl) ?_ (fun a hF => ?_)
                                  · exact obs_nil
                                  refine any_finI rfl (fun h => h) ?_
                                  refine any_end (by kernel_rfl) ?_
                                  refine np_n ?_
                                  refine then_n ?_
                                  have hS := hS.pickN 4 [2, 3] (by decide)
                                  exact ⟨hF.weak [1, 2, 6, 7, 8, 9, 10, 11, 12, 13] (by kernel_rfl), hS, hm⟩
                            · refine any_op (listed' := #[true, true, true, true, true, true, true, false, true, false]) (by kernel_rfl) (by kernel_rfl) ?_
                              refine at_runW 1 [] [] [1, 2, 6, 7, 8, 9, 10, 11, 12, 45] [pl 1 (.int .i64 k1), pl 2 (.pointer (some ⟨g4, 0, none⟩)), pl 6 (.slice A2 (Int.toNat (g3.length : Int)) c2), pl 7 (.bool one5), pl 8 (.bool two5), pl 9 (.int .i64 y1), pl 10 (.int .i64 x1), pl 11 (.int .i64 d1), pl 12 (.int .i64 (geti ([1, 0, 1, 1] : List Int) d1)), pl 45 (.pointer (some (sAddr g6 d1)))] hF hS (by kernel_rfl) (by kernel_rfl) ?_ (fun a hF => ?_)
                              · exact obs_nil
                              refine any_finI rfl (fun h => h) ?_
                              refine any_step [7] (by kernel_rfl) rfl ?_
                              refine (all_cons ?_ all_nil)
                              · refine any_op (listed' := #[true, true, true, true, true, true, true, true, true, false]) (by kernel_rfl) (by kernel_rfl) ?_
                                refine at_runW 1 [⟨false, [], vS (Instr.loadAt 3 (.pointer (some (sAddr g6 d1)))), .int .i64 (geti ([0, 1, 1, (-1)] : List Int) d1)⟩] [some (.int .i64 (geti ([0, 1, 1, (-1)] : List Int) d1))] [1, 2, 6, 7, 8, 9, 10, 11, 12, 46] [pl 1 (.int .i64 k1), pl 2 (.pointer (some ⟨g4, 0, none⟩)), pl 6 (.slice A2 (Int.toNat (g3.length : Int)) c2), pl 7 (.bool one5), pl 8 (.bool two5), pl 9 (.int .i64 y1), pl 10 (.int .i64 x1), pl 11 (.int .i64 d1), pl 12 (.int .i64 (geti ([1, 0, 1, 1] : List Int) d1)), pl 46 (.int .i64 (geti ([0, 1, 1, (-1)] : List Int) d1))] hF hS (by kernel_rfl) (by kernel_rfl) ?_ (fun a hF => ?_)
                                · exact obs_cons (ob_get1 (n := 4) (m := ([0, 1, 1, (-1)] : List Int)) (Value.int .i64) (0 : Int) Agg3 (fun _ hS => ⟨_, (hS.at_ 0 rfl).rd⟩) (fun _ hS => ((hS.at_ 0 rfl).len1)) (fun _ => hp3)) <| obs_nil
                                refine any_finI rfl (fun h => h) ?_
                                refine any_step [9] (by kernel_rfl) rfl ?_
                                refine (all_cons ?_ all_nil)
                                · refine any_op (listed' := #[true, true, true, true, true, true, true, true, true, true]) (by kernel_rfl) (by kernel_rfl) ?_
                                  refine at_runW 1 [] [] [1, 2, 6, 7, 8, 9, 10, 11, 12, 13] [pl 1 (.int .i64 k1), pl 2 (.pointer (some ⟨g4, 0, none⟩)), pl 6 (.slice A2 (Int.toNat (g3.length : Int)) c2), pl 7 (.bool one5), pl 8 (.bool two5), pl 9 (.int .i64 y1), pl 10 (.int .i64 x1), pl 11 (.int .i64 d1), pl 12 (.int .i64 (geti ([1, 0, 1, 1] : List Int) d1)), pl 13 (.int .i64 (geti ([0, 1, 1, (-1)] : List Int) d1))] hF hS (by kernel_rfl) (by kernel_rfl) ?_ (fun a hF => ?_)
                                  · exact obs_nil
                                  refine any_finI rfl (fun h => h) ?_
                                  refine any_end (by kernel_rfl) ?_
                                  refine np_n ?_
                                  refine then_n ?_
                                  have hS := hS.pickN 4 [2, 3] (by decide)
                                  exact ⟨hF.weak [1, 2, 6, 7, 8, 9, 10, 11, 12, 13] (by kernel_rfl), hS, hm⟩
                          · refine any_op (listed' := #[true, true, true, false, true, true, true, true, false, false]) (by kernel_rfl) (by kernel_rfl) ?_
                            refine at_runW 1 [⟨false, [], vS (Instr.loadAt 3 (.pointer (some (sAddr g6 d1)))), .int .i64 (geti ([0, 1, 1, (-1)] : List Int) d1)⟩] [some (.int .i64 (geti ([0, 1, 1, (-1)] : List Int) d1))] [1, 2, 6, 7, 8, 9, 10, 11, 41, 46] [pl 1 (.int .i64 k1), pl 2 (.pointer (some ⟨g4, 0, none⟩)), pl 6 (.slice A2 (Int.toNat (g3.length : Int)) c2), pl 7 (.bool one5), pl 8 (.bool two5), pl 9 (.int .i64 y1), pl 10 (.int .i64 x1), pl 11 (.int .i64 d1), pl 41 (.pointer (some (sAddr g5 d1))), pl 46 (.int .i64 (geti ([0, 1, 1, (-1)] : List Int) d1))] hF hS (by kernel_rfl) (by kernel_rfl) ?_ (fun a hF => ?_)
                            · exact obs_cons (ob_get1 (n := 4) (m := ([0, 1, 1, (-1)] : List Int)) (Value.int .i64) (0 : Int) Agg3 (fun _ hS => ⟨_, (hS.at_ 0 rfl).rd⟩) (fun _ hS => ((hS.at_ 0 rfl).len1)) (fun _ => hp3)) <| obs_nil
                            refine any_finI rfl (fun h => h) ?_
                            refine any_step [3] (by kernel_rfl) rfl ?_
                            refine (all_cons ?_ all_nil)
                            · refine any_op (listed' := #[true, true, true, true, true, true, true, true, false, false]) (by kernel_rfl) (by kernel_rfl) ?_
                              refine at_runW 1 [⟨false, [], vS (Instr.loadAt 3 (.pointer (some (sAddr g5 d1)))), .int .i64 (geti ([1, 0, 1, 1] : List Int) d1)⟩] [some (.int .i64 (geti ([1, 0, 1, 1] : List Int) d1))] [1, 2, 6, 7, 8, 9, 10, 11, 42, 46] [pl 1 (.int .i64 k1), pl 2 (.pointer (some ⟨g4, 0, none⟩)), pl 6 (.slice A2 (Int.toNat (g3.length : Int)) c2), pl 7 (.bool one5), pl 8 (.bool two5), pl 9 (.int .i64 y1), pl 10 (.int .i64 x1), pl 11 (.int .i64 d1), pl 42 (.int .i64 (geti ([1, 0, 1, 1] : List Int) d1)), pl 46 (.int .i64 (geti ([0, 1, 1, (-1)] : List Int) d1))] hF hS (by kernel_rfl) (by kernel_rfl) ?_ (fun a hF => ?_)
                              · exact obs_cons (ob_get1 (n := 4) (m := ([1, 0, 1, 1] : List Int)) (Value.int .i64) (0 : Int) Agg3 (fun _ hS => ⟨_, (hS.at_ 1 rfl).rd⟩) (fun _ hS => ((hS.at_ 1 rfl).len1)) (fun _ => hp2)) <| obs_nil
                              refine any_finI rfl (fun h => h) ?_
                              refine any_step [8] (by kernel_rfl) rfl ?_
                              refine (all_cons ?_ all_nil)
                              · refine any_op (listed' := #[true, true, true, true, true, true, true, true, true, false]) (by kernel_rfl) (by kernel_rfl) ?_
                                refine at_runW 1 [] [] [1, 2, 6, 7, 8, 9, 10, 11, 12, 46] [pl 1 (.int .i64 k1), pl 2 (.pointer (some ⟨g4, 0, none⟩)), pl 6 (.slice A2 (Int.toNat (g3.length : Int)) c2), pl 7 (.bool one5), pl 8 (.bool two5), pl 9 (.int .i64 y1), pl 10 (.int .i64 x1), pl 11 (.int .i64 d1), pl 12 (.int .i64 (geti ([1, 0, 1, 1] : List Int) d1)), pl 46 (.int .i64 (geti ([0, 1, 1, (-1)] : List Int) d1))] hF hS (by kernel_rfl) (by kernel_rfl) ?_ (fun a hF => ?_)
                                · exact obs_nil
                                refine any_finI rfl (fun h => h) ?_
                                refine any_step [9] (by kernel_rfl) rfl ?_
                                refine (all_cons ?_ all_nil)
                                · refine any_op (listed' := #[true, true, true, true, true, true, true, true, true, true]) (by kernel_rfl) (by kernel_rfl) ?_
                                  refine at_runW 1 [] [] [1, 2, 6, 7, 8, 9, 10, 11, 12, 13] [pl 1 (.int .i64 k1), pl 2 (.pointer (some ⟨g4, 0, none⟩)), pl 6 (.slice A2 (Int.toNat (g3.length : Int)) c2), pl 7 (.bool one5), pl 8 (.bool two5), pl 9 (.int .i64 y1), pl 10 (.int .i64 x1), pl 11 (.int .i64 d1), pl 12 (.int .i64 (geti ([1, 0, 1, 1] : List Int) d1)), pl 13 (.int .i64 (geti ([0, 1, 1, (-1)] : List Int) d1))] hF hS (by kernel_rfl) (by kernel_rfl) ?_ (fun a hF => ?_)
                                  · exact obs_nil
                                  refine any_finI rfl (fun h => h) ?_
                                  refine any_end (by kernel_rfl) ?_
                                  refine np_n ?_
                                  refine then_n ?_
                                  have hS := hS.pickN 4 [2, 3] (by decide)
                                  exact ⟨hF.weak [1, 2, 6, 7, 8, 9, 10, 11, 12, 13] (by kernel_rfl), hS, hm⟩
                    · refine any_op (listed' := #[true, true, false, false, true, true, false, false, false, false]) (by kernel_rfl) (by kernel_rfl) ?_
                      refine at_do (d := 43) (s := vS (Instr.buildSlice 34 4 #[(0, .int .i64 0), (1, .int .i64 1), (2, .int .i64 1), (3, .int .i64 (-1))])) (v := .slice (some ⟨w.heap.size, 0, none⟩) 4 4) (w' := w.alloc (.cells #[.int .i64 0, .int .i64 1, .int .i64 1, .int .i64 (-1)] 3)) hF (by kernel_rfl) (by kernel_rfl) (by kernel_rfl) (fun a hF => ?_)
                      have hS : Sep w0 B (w.alloc (.cells #[.int .i64 0, .int .i64 1, .int .i64 1, .int .i64 (-1)] 3)) (own 3 (.slice (some (⟨w.heap.size, 0, none⟩ : Addr)) 4 4) (vI ([0, 1, 1, (-1)] : List Int)) :: (own 3 (.slice g5 4 4) (vI ([1, 0, 1, 1] : List Int)) :: blk g4 93 #[.int .i64 g1, .int .i64 g2, .slice A1 g3.length c1] :: own 4 (.slice A2 (Int.toNat (g3.length : Int)) c2) (vB in5) :: fs)) := hS.lit 3 #[.int .i64 0, .int .i64 1, .int .i64 1, .int .i64 (-1)] 4 rfl (by omega)
                      generalize (some (⟨w.heap.size, 0, none⟩ : Addr)) = g6 at hF hS
                      generalize w.alloc (.cells #[.int .i64 0, .int .i64 1, .int .i64 1, .int .i64 (-1)] 3) = w at hS ⊢
                      refine any_fin rfl (hS.pickN 4 [2, 3] (by decide)) ?_
                      refine any_step [2, 6] (by kernel_rfl) rfl ?_
                      refine (all_cons ?_ (all_cons ?_ all_nil))
                      · refine any_op (listed' := #[true, true, true, false, true, true, false, false, false, false]) (by kernel_rfl) (by kernel_rfl) ?_
                        refine at_runW 1 [⟨true, [], vS (Instr.indexAt 34 (.slice g5 4 4) (.int .i64 d1)), .pointer (some (sAddr g5 d1))⟩] [some (.pointer (some (sAddr g5 d1)))] [1, 2, 6, 7, 8, 9, 10, 11, 41, 43, 44] [pl 1 (.int .i64 k1), pl 2 (.pointer (some ⟨g4, 0, none⟩)), pl 6 (.slice A2 (Int.toNat (g3.length : Int)) c2), pl 7 (.bool one5), pl 8 (.bool two5), pl 9 (.int .i64 y1), pl 10 (.int .i64 x1), pl 11 (.int .i64 d1), pl 41 (.pointer (some (sAddr g5 d1))), pl 43 (.slice g6 4 4), pl 44 (.int .i64 d1)] hF hS (by kernel_rfl) (by kernel_rfl) ?_ (fun a hF => ?_)
                        · exact obs_cons (ob_ix1 (f := (Value.int .i64)) (m := ([1, 0, 1, 1] : List Int)) Und34 hi3 hs3 (hS.at_ 1 rfl).rd ((hS.at_ 1 rfl).len1) (fun _ => hp2)) <| obs_nil
                        refine any_finI rfl (fun h => h) ?_
                        refine any_step [3, 6] (by kernel_rfl) rfl ?_
                        refine (all_cons ?_ (all_cons ?_ all_nil))
                        · refine any_op (listed' := #[true, true, true, true, true, true, false, false, false, false]) (by kernel_rfl) (by kernel_rfl) ?_
                          refine at_runW 1 [⟨false, [], vS (Instr.loadAt 3 (.pointer (some (sAddr g5 d1)))), .int .i64 (geti ([1, 0, 1, 1] : List Int) d1)⟩] [some (.int .i64 (geti ([1, 0, 1, 1] : List Int) d1))] [1, 2, 6, 7, 8, 9, 10, 11, 42, 43, 44] [pl 1 (.int .i64 k1), pl 2 (.pointer (some ⟨g4, 0, none⟩)), pl 6 (.slice A2 (Int.toNat (g3.length : Int)) c2), pl 7 (.bool one5), pl 8 (.bool two5), pl 9 (.int .i64 y1), pl 10 (.int .i64 x1), pl 11 (.int .i64 d1), pl 42 (.int .i64 (geti ([1, 0, 1, 1] : List Int) d1)), pl 43 (.slice g6 4 4), pl 44 (.int .i64 d1)] hF hS (by kernel_rfl) (by kernel_rfl) ?_ (fun a hF => ?_)
                          · exact obs_cons (ob_get1 (n := 4) (m := ([1, 0, 1, 1] : List Int)) (Value.int .i64) (0 : Int) Agg3 (fun _ hS => ⟨_, (hS.at_ 1 rfl).rd⟩) (fun _ hS => ((hS.at_ 1 rfl).len1)) (fun _ => hp2)) <| obs_nil
                          refine any_finI rfl (fun h => h) ?_
                          refine any_step [6, 8] (by kernel_rfl) rfl ?_
                          refine (all_cons ?_ (all_cons ?_ all_nil))
                          · refine any_op (listed' := #[true, true, true, true, true, true, true, false, false, false]) (by kernel_rfl) (by kernel_rfl) ?_
                            refine at_runW 1 [⟨true, [], vS (Instr.indexAt 34 (.slice g6 4 4) (.int .i64 d1)), .pointer (some (sAddr g6 d1))⟩] [some (.pointer (some (sAddr g6 d1)))] [1, 2, 6, 7, 8, 9, 10, 11, 42, 45] [pl 1 (.int .i64 k1), pl 2 (.pointer (some ⟨g4, 0, none⟩)), pl 6 (.slice A2 (Int.toNat (g3.length : Int)) c2), pl 7 (.bool one5), pl 8 (.bool two5), pl 9 (.int .i64 y1), pl 10 (.int .i64 x1), pl 11 (.int .i64 d1), pl 42 (.int .i64 (geti ([1, 0, 1, 1] : List Int) d1)), pl 45 (.pointer (some (sAddr g6 d1)))] hF hS (by kernel_rfl) (by kernel_rfl) ?_ (fun a hF => ?_)
                            · exact obs_cons (ob_ix1 (f := (Value.int .i64)) (m := ([0, 1, 1, (-1)] : List Int)) Und34 hi3 hs3 (hS.at_ 0 rfl).rd ((hS.at_ 0 rfl).len1) (fun _ => hp3)) <| obs_nil
                            refine any_finI rfl (fun h => h) ?_
                            refine any_step [7, 8] (by kernel_rfl) rfl ?_
                            refine (all_cons ?_ (all_cons ?_ all_nil))
                            · refine any_op (listed' := #[true, true, true, true, true, true, true, true, false, false]) (by kernel_rfl) (by kernel_rfl) ?_
                              refine at_runW 1 [⟨false, [], vS (Instr.loadAt 3 (.pointer (some (sAddr g6 d1)))), .int .i64 (geti ([0, 1, 1, (-1)] : List Int) d1)⟩] [some (.int .i64 (geti ([0, 1, 1, (-1)] : List Int) d1))] [1, 2, 6, 7, 8, 9, 10, 11, 42, 46] [pl 1 (.int .i64 k1), pl 2 (.pointer (some ⟨g4, 0, none⟩)), pl 6 (.slice A2 (Int.toNat (g3.length : Int)) c2), pl 7 (.bool one5), pl 8 (.bool two5), pl 9 (.int .i64 y1), pl 10 (.int .i64 x1), pl 11 (.int .i64 d1), pl 42 (.int .i64 (geti ([1, 0, 1, 1] : List Int) d1)), pl 46 (.int .i64 (geti ([0, 1, 1, (-1)] : List Int) d1))] hF hS (by kernel_rfl) (by kernel_rfl) ?_ (fun a hF => ?_)
                              · exact obs_cons (ob_get1 (n := 4) (m := ([0, 1, 1, (-1)] : List Int)) (Value.int .i64) (0 : Int) Agg3 (fun _ hS => ⟨_, (hS.at_ 0 rfl).rd⟩) (fun _ hS => ((hS.at_ 0 rfl).len1)) (fun _ => hp3)) <| obs_nil
                              refine any_finI rfl (fun h => h) ?_
                              refine any_step [8] (by kernel_rfl) rfl ?_
                              refine (all_cons ?_ all_nil)
                              · refine any_op (listed' := #[true, true, true, true, true, true, true, true, true, false]) (by kernel_rfl) (by kernel_rfl) ?_
                                refine at_runW 1 [] [] [1, 2, 6, 7, 8, 9, 10, 11, 12, 46] [pl 1 (.int .i64 k1), pl 2 (.pointer (some ⟨g4, 0, none⟩)), pl 6 (.slice A2 (Int.toNat (g3.length : Int)) c2), pl 7 (.bool one5), pl 8 (.bool two5), pl 9 (.int .i64 y1), pl 10 (.int .i64 x1), pl 11 (.int .i64 d1), pl 12 (.int .i64 (geti ([1, 0, 1, 1] : List Int) d1)), pl 46 (.int .i64 (geti ([0, 1, 1, (-1)] : List Int) d1))] hF hS (by kernel_rfl) (by kernel_rfl) ?_ (fun a hF => ?_)
                                · exact obs_nil
                                refine any_finI rfl (fun h => h) ?_
                                refine any_step [9] (by kernel_rfl) rfl ?_
                                refine (all_cons ?_ all_nil)
                                · refine any_op (listed' := #[true, true, true, true, true, true, true, true, true, true]) (by kernel_rfl) (by kernel_rfl) ?_
                                  refine at_runW 1 [] [] [1, 2, 6, 7, 8, 9, 10, 11, 12, 13] [pl 1 (.int .i64 k1), pl 2 (.pointer (some ⟨g4, 0, none⟩)), pl 6 (.slice A2 (Int.toNat (g3.length : Int)) c2), pl 7 (.bool one5), pl 8 (.bool two5), pl 9 (.int .i64 y1), pl 10 (.int .i64 x1), pl 11 (.int .i64 d1), pl 12 (.int .i64 (geti ([1, 0, 1, 1] : List Int) d1)), pl 13 (.int .i64 (geti ([0, 1, 1, (-1)] : List Int) d1))] hF hS (by kernel_rfl) (by kernel_rfl) ?_ (fun a hF => ?_)
                                  · exact obs_nil
                                  refine any_finI rfl (fun h => h) ?_
                                  refine any_end (by kernel_rfl) ?_
                                  refine np_n ?_
                                  refine then_n ?_
                                  have hS := hS.pickN 4 [2, 3] (by decide)
                                  exact ⟨hF.weak [1, 2, 6, 7, 8, 9, 10, 11, 12, 13] (by kernel_rfl), hS, hm⟩
                            · refine any_op (listed' := #[true, true, true, true, true, true, true, false, true, false]) (by kernel_rfl) (by kernel_rfl) ?_
                              refine at_runW 1 [] [] [1, 2, 6, 7, 8, 9, 10, 11, 12, 45] [pl 1 (.int .i64 k1), pl 2 (.pointer (some ⟨g4, 0, none⟩)), pl 6 (.slice A2 (Int.toNat (g3.length : Int)) c2), pl 7 (.bool one5), pl 8 (.bool two5), pl 9 (.int .i64 y1), pl 10 (.int .i64 x1), pl 11 (.int .i64 d1), pl 12 (.int .i64 (geti ([1, 0, 1, 1] : List Int) d1)), pl 45 (.pointer (some (sAddr g6 d1)))] hF hS (by kernel_rfl) (by kernel_rfl) ?_ (fun a hF => ?_)
                              · exact obs_nil
                              refine any_finI rfl (fun h => h) ?_
                              refine any_step [7] (by kernel_rfl) rfl ?_
                              refine (all_cons ?_ all_nil)
                              · refine any_op (listed' := #[true, true, true, true, true, true, true, true, true, false]) (by kernel_rfl) (by kernel_rfl) ?_
                                refine at_runW 1 [⟨false, [], vS (Instr.loadAt 3 (.pointer (some (sAddr g6 d1)))), .int .i64 (geti ([0, 1, 1, (-1)] : List Int) d1)⟩] [some (.int .i64 (geti ([0, 1, 1, (-1)] : List Int) d1))] [1, 2, 6, 7, 8, 9, 10, 11, 12, 46] [pl 1 (.int .i64 k1), pl 2 (.pointer (some ⟨g4, 0, none⟩)), pl 6 (.slice A2 (Int.toNat (g3.length : Int)) c2), pl 7 (.bool one5), pl 8 (.bool two5), pl 9 (.int .i64 y1), pl 10 (.int .i64 x1), pl 11 (.int .i64 d1), pl 12 (.int .i64 (geti ([1, 0, 1, 1] : List Int) d1)), pl 46 (.int .i64 (geti ([0, 1, 1, (-1)] : List Int) d1))] hF hS (by kernel_rfl) (by kernel_rfl) ?_ (fun a hF => ?_)
                                · exact obs_cons (ob_get1 (n := 4) (m := ([0, 1, 1, (-1)] : List Int)) (Value.int .i64) (0 : Int) Agg3 (fun _ hS => ⟨_, (hS.at_ 0 rfl).rd⟩) (fun _ hS => ((hS.at_ 0 rfl).len1)) (fun _ => hp3)) <| obs_nil
                                refine any_finI rfl (fun h => h) ?_
                                refine any_step [9] (by kernel_rfl) rfl ?_
                                refine (all_cons ?_ all_nil)
                                · refine any_op (listed' := #[true, true, true, true, true, true, true, true, true, true]) (by kernel_rfl) (by kernel_rfl) ?_
                                  refine at_runW 1 [] [] [1, 2, 6, 7, 8, 9, 10, 11, 12, 13] [pl 1 (.int .i64 k1), pl 2 (.pointer (some ⟨g4, 0, none⟩)), pl 6 (.slice A2 (Int.toNat (g3.length : Int)) c2), pl 7 (.bool one5), pl 8 (.bool two5), pl 9 (.int .i64 y1), pl 10 (.int .i64 x1), pl 11 (.int .i64 d1), pl 12 (.int .i64 (geti ([1, 0, 1, 1] : List Int) d1)), pl 13 (.int .i64 (geti ([0, 1, 1, (-1)] : List Int) d1))] hF hS (by kernel_rfl) (by kernel_rfl) ?_ (fun a hF => ?_)
                                  · exact obs_nil
                                  refine any_finI rfl (fun h => h) ?_
                                  refine any_end (by kernel_rfl) ?_
                                  refine np_n ?_
                                  refine then_n ?_
                                  have hS := hS.pickN 4 [2, 3] (by decide)
                                  exact ⟨hF.weak [1, 2, 6, 7, 8, 9, 10, 11, 12, 13] (by kernel_rfl), hS, hm⟩
                          · refine any_op (listed' := #[true, true, true, true, true, true, false, false, true, false]) (by kernel_rfl) (by kernel_rfl) ?_
                            refine at_runW 1 [] [] [1, 2, 6, 7, 8, 9, 10, 11, 12, 43, 44] [pl 1 (.int .i64 k1), pl 2 (.pointer (some ⟨g4, 0, none⟩)), pl 6 (.slice A2 (Int.toNat (g3.length : Int)) c2), pl 7 (.bool one5), pl 8 (.bool two5), pl 9 (.int .i64 y1), pl 10 (.int .i64 x1), pl 11 (.int .i64 d1), pl 12 (.int .i64 (geti ([1, 0, 1, 1] : List Int) d1)), pl 43 (.slice g6 4 4), pl 44 (.int .i64 d1)] hF hS (by kernel_rfl) (by kernel_rfl) ?_ (fun a hF => ?_)
                            · exact obs_nil
                            refine any_finI rfl (fun h => h) ?_
                            refine any_step [6] (by kernel_rfl) rfl ?_
                            refine (all_cons ?_ all_nil)
                            · refine any_op (listed' := #[true, true, true, true, true, true, true, false, true, false]) (by kernel_rfl) (by kernel_rfl) ?_
                              refine at_runW 1 [⟨true, [], vS (Instr.indexAt 34 (.slice g6 4 4) (.int .i64 d1)), .pointer (some (sAddr g6 d1))⟩] [some (.pointer (some (sAddr g6 d1)))] [1, 2, 6, 7, 8, 9, 10, 11, 12, 45] [pl 1 (.int .i64 k1), pl 2 (.pointer (some ⟨g4, 0, none⟩)), pl 6 (.slice A2 (Int.toNat (g3.length : Int)) c2), pl 7 (.bool one5), pl 8 (.bool two5), pl 9 (.int .i64 y1), pl 10 (.int .i64 x1), pl 11 (.int .i64 d1), pl 12 (.int .i64 (geti ([1, 0, 1, 1] : List Int) d1)), pl 45 (.pointer (some (sAddr g6 d1)))] hF hS (by kernel_rfl) (by kernel_rfl) ?_ (fun a hF => ?_)
                              · exact obs_cons (ob_ix1 (f := (Value.int .i64)) (m := ([0, 1, 1, (-1)] : List Int)) Und34 hi3 hs3 (hS.at_ 0 rfl).rd ((hS.at_ 0 rfl).len1) (fun _ => hp3)) <| obs_nil
                              refine any_finI rfl (fun h => h) ?_
                              refine any_step [7] (by kernel_rfl) rfl ?_
                              refine (all_cons ?_ all_nil)
                              · refine any_op (listed' := #[true, true, true, true, true, true, true, true, true, false]) (by kernel_rfl) (by kernel_rfl) ?_
                                refine at_runW 1 [⟨false, [], vS (Instr.loadAt 3 (.pointer (some (sAddr g6 d1)))), .int .i64 (geti ([0, 1, 1, (-1)] : List Int) d1)⟩] [some (.int .i64 (geti ([0, 1, 1, (-1)] : List Int) d1))] [1, 2, 6, 7, 8, 9, 10, 11, 12, 46] [pl 1 (.int .i64 k1), pl 2 (.pointer (some ⟨g4, 0, none⟩)), pl 6 (.slice A2 (Int.toNat (g3.length : Int)) c2), pl 7 (.bool one5), pl 8 (.bool two5), pl 9 (.int .i64 y1), pl 10 (.int .i64 x1), pl 11 (.int .i64 d1), pl 12 (.int .i64 (geti ([1, 0, 1, 1] : List Int) d1)), pl 46 (.int .i64 (geti ([0, 1, 1, (-1)] : List Int) d1))] hF hS (by kernel_rfl) (by kernel_rfl) ?_ (fun a hF => ?_)
                                · exact obs_cons (ob_get1 (n := 4) (m := ([0, 1, 1, (-1)] : List Int)) (Value.int .i64) (0 : Int) Agg3 (fun _ hS => ⟨_, (hS.at_ 0 rfl).rd⟩) (fun _ hS => ((hS.at_ 0 rfl).len1)) (fun _ => hp3)) <| obs_nil
                                refine any_finI rfl (fun h => h) ?_
                                refine any_step [9] (by kernel_rfl) rfl ?_
                                refine (all_cons ?_ all_nil)
                                · refine any_op (listed' := #[true, true, true, true, true, true, true, true, true, true]) (by kernel_rfl) (by kernel_rfl) ?_
                                  refine at_runW 1 [] [] [1, 2, 6, 7, 8, 9, 10, 11, 12, 13] [pl 1 (.int .i64 k1), pl 2 (.pointer (some ⟨g4, 0, none⟩)), pl 6 (.slice A2 (Int.toNat (g3.length : Int)) c2), pl 7 (.bool one5), pl 8 (.bool two5), pl 9 (.int .i64 y1), pl 10 (.int .i64 x1), pl 11 (.int .i64 d1), pl 12 (.int .i64 (geti ([1, 0, 1, 1] : List Int) d1)), pl 13 (.int .i64 (geti ([0, 1, 1, (-1)] : List Int) d1))] hF hS (by kernel_rfl) (by kernel_rfl) ?_ (fun a hF => ?_)
                                  · exact obs_nil
                                  refine any_finI rfl (fun h => h) ?_
                                  refine any_end (by kernel_rfl) ?_
                                  refine np_n ?_
                                  refine then_n ?_
                                  have hS := hS.pickN 4 [2, 3] (by decide)
                                  exact ⟨hF.weak [1, 2, 6, 7, 8, 9, 10, 11, 12, 13] (by kernel_rfl), hS, hm⟩
                        · refine any_op (listed' := #[true, true, true, false, true, true, true, false, false, false]) (by kernel_rfl) (by kernel_rfl) ?_
                          refine at_runW 1 [⟨true, [], vS (Instr.indexAt 34 (.slice g6 4 4) (.int .i64 d1)), .pointer (some (sAddr g6 d1))⟩] [some (.pointer (some (sAddr g6 d1)))] [1, 2, 6, 7, 8, 9, 10, 11, 41, 45] [pl 1 (.int .i64 k1), pl 2 (.pointer (some ⟨g4, 0, none⟩)), pl 6 (.slice A2 (Int.toNat (g3.length : Int)) c2), pl 7 (.bool one5), pl 8 (.bool two5), pl 9 (.int .i64 y1), pl 10 (.int .i64 x1), pl 11 (.int .i64 d1), pl 41 (.pointer (some (sAddr g5 d1))), pl 45 (.pointer (some (sAddr g6 d1)))] hF hS (by kernel_rfl) (by kernel_rfl) ?_ (fun a hF => ?_)
                          · exact obs_cons (ob_ix1 (f := (Value.int .i64)) (m := ([0, 1, 1, (-1)] : List Int)) Und34 hi3 hs3 (hS.at_ 0 rfl).rd ((hS.at_ 0 rfl).len1) (fun _ => hp3)) <| obs_nil
                          refine any_finI rfl (fun h => h) ?_
                          refine any_step [3, 7] (by kernel_rfl) rfl ?_
                          refine (all_cons ?_ (all_cons ?_ all_nil))
                          · refine any_op (listed' := #[true, true, true, true, true, true, true, false, false, false]) (by kernel_rfl) (by kernel_rfl) ?_
                            refine at_runW 1 [⟨false, [], vS (Instr.loadAt 3 (.pointer (some (sAddr g5 d1)))), .int .i64 (geti ([1, 0, 1, 1] : List Int) d1)⟩] [some (.int .i64 (geti ([1, 0, 1, 1] : List Int) d1))] [1, 2, 6, 7, 8, 9, 10, 11, 42, 45] [pl 1 (.int .i64 k1), pl 2 (.pointer (some ⟨g4, 0, none⟩)), pl 6 (.slice A2 (Int.toNat (g3.length : Int)) c2), pl 7 (.bool one5), pl 8 (.bool two5), pl 9 (.int .i64 y1), pl 10 (.int .i64 x1), pl 11 (.int .i64 d1), pl 42 (.int .i64 (geti ([1, 0, 1, 1] : List Int) d1)), pl 45 (.pointer (some (sAddr g6 d1)))] hF hS (by kernel_rfl) (by kernel_rfl) ?_ (fun a hF => ?_)
                            · exact obs_cons (ob_get1 (n := 4) (m := ([1, 0, 1, 1] : List Int)) (Value.int .i64) (0 : Int) Agg3 (fun _ hS => ⟨_, (hS.at_ 1 rfl).rd⟩) (fun _ hS => ((hS.at_ 1 rfl).len1)) (fun _ => hp2)) <| obs_nil
                            refine any_finI rfl (fun h => h) ?_
                            refine any_step [7, 8] (by kernel_rfl) rfl ?_
                            refine (all_cons ?_ (all_cons ?_ all_nil))
                            · refine any_op (listed' := #[true, true, true, true, true, true, true, true, false, false]) (by kernel_rfl) (by kernel_rfl) ?_
                              refine at_runW 1 [⟨false, [], vS (Instr.loadAt 3 (.pointer (some (sAddr g6 d1)))), .int .i64 (geti ([0, 1, 1, (-1)] : List Int) d1)⟩] [some (.int .i64 (geti ([0, 1, 1, (-1)] : List Int) d1))] [1, 2, 6, 7, 8, 9, 10, 11, 42, 46] [pl 1 (.int .i64 k1), pl 2 (.pointer (some ⟨g4, 0, none⟩)), pl 6 (.slice A2 (Int.toNat (g3.length : Int)) c2), pl 7 (.bool one5), pl 8 (.bool two5), pl 9 (.int .i64 y1), pl 10 (.int .i64 x1), pl 11 (.int .i64 d1), pl 42 (.int .i64 (geti ([1, 0, 1, 1] : List Int) d1)), pl 46 (.int .i64 (geti ([0, 1, 1, (-1)] : List Int) d1))] hF hS (by kernel_rfl) (by kernel_rfl) ?_ (fun a hF => ?_)
                              · exact obs_cons (ob_get1 (n := 4) (m := ([0, 1, 1, (-1)] : List Int)) (Value.int .i64) (0 : Int) Agg3 (fun _ hS => ⟨_, (hS.at_ 0 rfl).rd⟩) (fun _ hS => ((hS.at_ 0 rfl).len1)) (fun _ => hp3)) <| obs_nil
                              refine any_finI rfl (fun h => h) ?_
                              refine any_step [8] (by kernel_rfl) rfl ?_
                              refine (all_cons ?_ all_nil)
                              · refine any_op (listed' := #[true, true, true, true, true, true, true, true, true, false]) (by kernel_rfl) (by kernel_rfl) ?_
                                refine at_runW 1 [] [] [1, 2, 6, 7, 8, 9, 10, 11, 12, 46] [pl 1 (.int .i64 k1), pl 2 (.pointer (some ⟨g4, 0, none⟩)), pl 6 (.slice A2 (Int.toNat (g3.length : Int)) c2), pl 7 (.bool one5), pl 8 (.bool two5), pl 9 (.int .i64 y1), pl 10 (.int .i64 x1), pl 11 (.int .i64 d1), pl 12 (.int .i64 (geti ([1, 0, 1, 1] : List Int) d1)), pl 46 (.int .i64 (geti ([0, 1, 1, (-1)] : List Int) d1))] hF hS (by kernel_rfl) (by kernel_rfl) ?_ (fun a hF => ?_)
                                · exact obs_nil
                                refine any_finI rfl (fun h => h) ?_
                                refine any_step [9] (by kernel_rfl) rfl ?_
                                refine (all_cons ?_ all_nil)
                                · refine any_op (listed' := #[true, true, true, true, true, true, true, true, true, true]) (by kernel_rfl) (by kernel_rfl) ?_
                                  refine at_runW 1 [] [] [1, 2, 6, 7, 8, 9, 10, 11, 12, 13] [pl 1 (.int .i64 k1), pl 2 (.pointer (some ⟨g4, 0, none⟩)), pl 6 (.slice A2 (Int.toNat (g3.length : Int)) c2), pl 7 (.bool one5), pl 8 (.bool two5), pl 9 (.int .i64 y1), pl 10 (.int .i64 x1), pl 11 (.int .i64 d1), pl 12 (.int .i64 (geti ([1, 0, 1, 1] : List Int) d1)), pl 13 (.int .i64 (geti ([0, 1, 1, (-1)] : List Int) d1))] hF hS (by kernel_rfl) (by kernel_rfl) ?_ (fun a hF => ?_)
                                  · exact obs_nil
                                  refine any_finI rfl (fun h => h) ?_
                                  refine any_end (by kernel_rfl) ?_
                                  refine np_n ?_
                                  refine then_n ?_
                                  have hS := hS.pickN 4 [2, 3] (by decide)
                                  exact ⟨hF.weak [1, 2, 6, 7, 8, 9, 10, 11, 12, 13] (by kernel_rfl), hS, hm⟩
                            · refine any_op (listed' := #[true, true, true, true, true, true, true, false, true, false]) (by kernel_rfl) (by kernel_rfl) ?_
                              refine at_runW 1 [] [] [1, 2, 6, 7, 8, 9, 10, 11, 12, 45] [pl 1 (.int .i64 k1), pl 2 (.pointer (some ⟨g4, 0, none⟩)), pl 6 (.slice A2 (Int.toNat (g3.length : Int)) c2), pl 7 (.bool one5), pl 8 (.bool two5), pl 9 (.int .i64 y1), pl 10 (.int .i64 x1), pl 11 (.int .i64 d1), pl 12 (.int .i64 (geti ([1, 0, 1, 1] : List Int) d1)), pl 45 (.pointer (some (sAddr g6 d1)))] hF hS (by kernel_rfl) (by kernel_rfl) ?_ (fun a hF => ?_)
                              · exact obs_nil
                              refine any_finI rfl (fun h => h) ?_
                              refine any_step [7] (by kernel_rfl) rfl ?_
                              refine (all_cons ?_ all_nil)
                              · refine any_op (listed' := #[true, true, true, true, true, true, true, true, true, false]) (by kernel_rfl) (by kernel_rfl) ?_
                                refine at_runW 1 [⟨false, [], vS (Instr.loadAt 3 (.pointer (some (sAddr g6 d1)))), .int .i64 (geti ([0, 1, 1, (-1)] : List Int) d1)⟩] [some (.int .i64 (geti ([0, 1, 1, (-1)] : List Int) d1))] [1, 2, 6, 7, 8, 9, 10, 11, 12, 46] [pl 1 (.int .i64 k1), pl 2 (.pointer (some ⟨g4, 0, none⟩)), pl 6 (.slice A2 (Int.toNat (g3.length : Int)) c2), pl 7 (.bool one5), pl 8 (.bool two5), pl 9 (.int .i64 y1), pl 10 (.int .i64 x1), pl 11 (.int .i64 d1), pl 12 (.int .i64 (geti ([1, 0, 1, 1] : List Int) d1)), pl 46 (.int .i64 (geti ([0, 1, 1, (-1)] : List Int) d1))] hF hS (by kernel_rfl) (by kernel_rfl) ?_ (fun a hF => ?_)
                                · exact obs_cons (ob_get1 (n := 4) (m := ([0, 1, 1, (-1)] : List Int)) (Value.int .i64) (0 : Int) Agg3 (fun _ hS => ⟨_, (hS.at_ 0 rfl).rd⟩) (fun _ hS => ((hS.at_ 0 rfl).len1)) (fun _ => hp3)) <| obs_nil
                                refine any_finI rfl (fun h => h) ?_
                                refine any_step [9] (by kernel_rfl) rfl ?_
                                refine (all_cons ?_ all_nil)
                                · refine any_op (listed' := #[true, true, true, true, true, true, true, true, true, true]) (by kernel_rfl) (by kernel_rfl) ?_
                                  refine at_runW 1 [] [] [1, 2, 6, 7, 8, 9, 10, 11, 12, 13] [pl 1 (.int .i64 k1), pl 2 (.pointer (some ⟨g4, 0, none⟩)), pl 6 (.slice A2 (Int.toNat (g3.length : Int)) c2), pl 7 (.bool one5), pl 8 (.bool two5), pl 9 (.int .i64 y1), pl 10 (.int .i64 x1), pl 11 (.int .i64 d1), pl 12 (.int .i64 (geti ([1, 0, 1, 1] : List Int) d1)), pl 13 (.int .i64 (geti ([0, 1, 1, (-1)] : List Int) d1))] hF hS (by kernel_rfl) (by kernel_rfl) ?_ (fun a hF => ?_)
                                  · exact obs_nil
                                  refine any_finI rfl (fun h => h) ?_
                                  refine any_end (by kernel_rfl) ?_
                                  refine np_n ?_
                                  refine then_n ?_
                                  have hS := hS.pickN 4 [2, 3] (by decide)
                                  exact ⟨hF.weak [1, 2, 6, 7, 8, 9, 10, 11, 12, 13] (by kernel_rfl), hS, hm⟩
                          · refine any_op (listed' := #[true, true, true, false, true, true, true, true, false, false]) (by kernel_rfl) (by kernel_rfl) ?_
                            refine at_runW 1 [⟨false, [], vS (Instr.loadAt 3 (.pointer (some (sAddr g6 d1)))), .int .i64 (geti ([0, 1, 1, (-1)] : List Int) d1)⟩] [some (.int .i64 (geti ([0, 1, 1, (-1)] : List Int) d1))] [1, 2, 6, 7, 8, 9, 10, 11, 41, 46] [pl 1 (.int .i64 k1), pl 2 (.pointer (some ⟨g4, 0, none⟩)), pl 6 (.slice A2 (Int.toNat (g3.length : Int)) c2), pl 7 (.bool one5), pl 8 (.bool two5), pl 9 (.int .i64 y1), pl 10 (.int .i64 x1), pl 11 (.int .i64 d1), pl 41 (.pointer (some (sAddr g5 d1))), pl 46 (.int .i64 (geti ([0, 1, 1, (-1)] : List Int) d1))] hF hS (by kernel_rfl) (by kernel_rfl) ?_ (fun a hF => ?_)
                            · exact obs_cons (ob_get1 (n := 4) (m := ([0, 1, 1, (-1)] : List Int)) (Value.int .i64) (0 : Int) Agg3 (fun _ hS => ⟨_, (hS.at_ 0 rfl).rd⟩) (fun _ hS => ((hS.at_ 0 rfl).len1)) (fun _ => hp3)) <| obs_nil
                            refine any_finI rfl (fun h => h) ?_
                            refine any_step [3] (by kernel_rfl) rfl ?_
                            refine (all_cons ?_ all_nil)
                            · refine any_op (listed' := #[true, true, true, true, true, true, true, true, false, false]) (by kernel_rfl) (by kernel_rfl) ?_
                              refine at_runW 1 [⟨false, [], vS (Instr.loadAt 3 (.pointer (some (sAddr g5 d1)))), .int .i64 (geti ([1, 0, 1, 1] : List Int) d1)⟩] [some (.int .i64 (geti ([1, 0, 1, 1] : List Int) d1))] [1, 2, 6, 7, 8, 9, 10, 11, 42, 46] [pl 1 (.int .i64 k1), pl 2 (.pointer (some ⟨g4, 0, none⟩)), pl 6 (.slice A2 (Int.toNat (g3.length : Int)) c2), pl 7 (.bool one5), pl 8 (.bool two5), pl 9 (.int .i64 y1), pl 10 (.int .i64 x1), pl 11 (.int .i64 d1), pl 42 (.int .i64 (geti ([1, 0, 1, 1] : List Int) d1)), pl 46 (.int .i64 (geti ([0, 1, 1, (-1)] : List Int) d1))] hF hS (by kernel_rfl) (by kernel_rfl) ?_ (fun a hF => ?_)
                              · exact obs_cons (ob_get1 (n := 4) (m := ([1, 0, 1, 1] : List Int)) (Value.int .i64) (0 : Int) Agg3 (fun _ hS => ⟨_, (hS.at_ 1 rfl).rd⟩) (fun _ hS => ((hS.at_ 1 rfl).len1)) (fun _ => hp2)) <| obs_nil
                              refine any_finI rfl (fun h => h) ?_
                              refine any_step [8] (by kernel_rfl) rfl ?_
                              refine (all_cons ?_ all_nil)
                              · refine any_op (listed' := #[true, true, true, true, true, true, true, true, true, false]) (by kernel_rfl) (by kernel_rfl) ?_
                                refine at_runW 1 [] [] [1, 2, 6, 7, 8, 9, 10, 11, 12, 46] [pl 1 (.int .i64 k1), pl 2 (.pointer (some ⟨g4, 0, none⟩)), pl 6 (.slice A2 (Int.toNat (g3.length : Int)) c2), pl 7 (.bool one5), pl 8 (.bool two5), pl 9 (.int .i64 y1), pl 10 (.int .i64 x1), pl 11 (.int .i64 d1), pl 12 (.int .i64 (geti ([1, 0, 1, 1] : List Int) d1)), pl 46 (.int .i64 (geti ([0, 1, 1, (-1)] : List Int) d1))] hF hS (by kernel_rfl) (by kernel_rfl) ?_ (fun a hF => ?_)
                                · exact obs_nil
                                refine any_finI rfl (fun h => h) ?_
                                refine any_step [9] (by kernel_rfl) rfl ?_
                                refine (all_cons ?_ all_nil)
                                · refine any_op (listed' := #[true, true, true, true, true, true, true, true, true, true]) (by kernel_rfl) (by kernel_rfl) ?_
                                  refine at_runW 1 [] [] [1, 2, 6, 7, 8, 9, 10, 11, 12, 13] [pl 1 (.int .i64 k1), pl 2 (.pointer (some ⟨g4, 0, none⟩)), pl 6 (.slice A2 (Int.toNat (g3.length : Int)) c2), pl 7 (.bool one5), pl 8 (.bool two5), pl 9 (.int .i64 y1), pl 10 (.int .i64 x1), pl 11 (.int .i64 d1), pl 12 (.int .i64 (geti ([1, 0, 1, 1] : List Int) d1)), pl 13 (.int .i64 (geti ([0, 1, 1, (-1)] : List Int) d1))] hF hS (by kernel_rfl) (by kernel_rfl) ?_ (fun a hF => ?_)
                                  · exact obs_nil
                                  refine any_finI rfl (fun h => h) ?_
                                  refine any_end (by kernel_rfl) ?_
                                  refine np_n ?_
                                  refine then_n ?_
                                  have hS := hS.pickN 4 [2, 3] (by decide)
                                  exact ⟨hF.weak [1, 2, 6, 7, 8, 9, 10, 11, 12, 13] (by kernel_rfl), hS, hm⟩
                      · refine any_op (listed' := #[true, true, false, false, true, true, true, false, false, false]) (by kernel_rfl) (by kernel_rfl) ?_
                        refine at_runW 1 [⟨true, [], vS (Instr.indexAt 34 (.slice g6 4 4) (.int .i64 d1)), .pointer (some (sAddr g6 d1))⟩] [some (.pointer (some (sAddr g6 d1)))] [1, 2, 6, 7, 8, 9, 10, 11, 39, 40, 45] [pl 1 (.int .i64 k1), pl 2 (.pointer (some ⟨g4, 0, none⟩)), pl 6 (.slice A2 (Int.toNat (g3.length : Int)) c2), pl 7 (.bool one5), pl 8 (.bool two5), pl 9 (.int .i64 y1), pl 10 (.int .i64 x1), pl 11 (.int .i64 d1), pl 39 (.slice g5 4 4), pl 40 (.int .i64 d1), pl 45 (.pointer (some (sAddr g6 d1)))] hF hS (by kernel_rfl) (by kernel_rfl) ?_ (fun a hF => ?_)
                        · exact obs_cons (ob_ix1 (f := (Value.int .i64)) (m := ([0, 1, 1, (-1)] : List Int)) Und34 hi3 hs3 (hS.at_ 0 rfl).rd ((hS.at_ 0 rfl).len1) (fun _ => hp3)) <| obs_nil
                        refine any_finI rfl (fun h => h) ?_
                        refine any_step [2, 7] (by kernel_rfl) rfl ?_
                        refine (all_cons ?_ (all_cons ?_ all_nil))
                        · refine any_op (listed' := #[true, true, true, false, true, true, true, false, false, false]) (by kernel_rfl) (by kernel_rfl) ?_
                          refine at_runW 1 [⟨true, [], vS (Instr.indexAt 34 (.slice g5 4 4) (.int .i64 d1)), .pointer (some (sAddr g5 d1))⟩] [some (.pointer (some (sAddr g5 d1)))] [1, 2, 6, 7, 8, 9, 10, 11, 41, 45] [pl 1 (.int .i64 k1), pl 2 (.pointer (some ⟨g4, 0, none⟩)), pl 6 (.slice A2 (Int.toNat (g3.length : Int)) c2), pl 7 (.bool one5), pl 8 (.bool two5), pl 9 (.int .i64 y1), pl 10 (.int .i64 x1), pl 11 (.int .i64 d1), pl 41 (.pointer (some (sAddr g5 d1))), pl 45 (.pointer (some (sAddr g6 d1)))] hF hS (by kernel_rfl) (by kernel_rfl) ?_ (fun a hF => ?_)
                          · exact obs_cons (ob_ix1 (f := (Value.int .i64)) (m := ([1, 0, 1, 1] : List Int)) Und34 hi3 hs3 (hS.at_ 1 rfl).rd ((hS.at_ 1 rfl).len1) (fun _ => hp2)) <| obs_nil
                          refine any_finI rfl (fun h => h) ?_
                          refine any_step [3, 7] (by kernel_rfl) rfl ?_
                          refine (all_cons ?_ (all_cons ?_ all_nil))
                          · refine any_op (listed' := #[true, true, true, true, true, true, true, false, false, false]) (by kernel_rfl) (by kernel_rfl) ?_
                            refine at_runW 1 [⟨false, [], vS (Instr.loadAt 3 (.pointer (some (sAddr g5 d1)))), .int .i64 (geti ([1, 0, 1, 1] : List Int) d1)⟩] [some (.int .i64 (geti ([1, 0, 1, 1] : List Int) d1))] [1, 2, 6, 7, 8, 9, 10, 11, 42, 45] [pl 1 (.int .i64 k1), pl 2 (.pointer (some ⟨g4, 0, none⟩)), pl 6 (.slice A2 (Int.toNat (g3.length : Int)) c2), pl 7 (.bool one5), pl 8 (.bool two5), pl 9 (.int .i64 y1), pl 10 (.int .i64 x1), pl 11 (.int .i64 d1), pl 42 (.int .i64 (geti ([1, 0, 1, 1] : List Int) d1)), pl 45 (.pointer (some (sAddr g6 d1)))] hF hS (by kernel_rfl) (by kernel_rfl) ?_ (fun a hF => ?_)
                            · exact obs_cons (ob_get1 (n := 4) (m := ([1, 0, 1, 1] : List Int)) (Value.int .i64) (0 : Int) Agg3 (fun _ hS => ⟨_, (hS.at_ 1 rfl).rd⟩) (fun _ hS => ((hS.at_ 1 rfl).len1)) (fun _ => hp2)) <| obs_nil
                            refine any_finI rfl (fun h => h) ?_
                            refine any_step [7, 8] (by kernel_rfl) rfl ?_
                            refine (all_cons ?_ (all_cons ?_ all_nil))
                            · refine any_op (listed' := #[true, true, true, true, true, true, true, true, false, false]) (by kernel_rfl) (by kernel_rfl) ?_
                              refine at_runW 1 [⟨false, [], vS (Instr.loadAt 3 (.pointer (some (sAddr g6 d1)))), .int .i64 (geti ([0, 1, 1, (-1)] : List Int) d1)⟩] [some (.int .i64 (geti ([0, 1, 1, (-1)] : List Int) d1))] [1, 2, 6, 7, 8, 9, 10, 11, 42, 46] [pl 1 (.int .i64 k1), pl 2 (.pointer (some ⟨g4, 0, none⟩)), pl 6 (.slice A2 (Int.toNat (g3.length : Int)) c2), pl 7 (.bool one5), pl 8 (.bool two5), pl 9 (.int .i64 y1), pl 10 (.int .i64 x1), pl 11 (.int .i64 d1), pl 42 (.int .i64 (geti ([1, 0, 1, 1] : List Int) d1)), pl 46 (.int .i64 (geti ([0, 1, 1, (-1)] : List Int) d1))] hF hS (by kernel_rfl) (by kernel_rfl) ?_ (fun a hF => ?_)
                              · exact obs_cons (ob_get1 (n := 4) (m := ([0, 1, 1, (-1)] : List Int)) (Value.int .i64) (0 : Int) Agg3 (fun _ hS => ⟨_, (hS.at_ 0 rfl).rd⟩) (fun _ hS => ((hS.at_ 0 rfl).len1)) (fun _ => hp3)) <| obs_nil
                              refine any_finI rfl (fun h => h) ?_
                              refine any_step [8] (by kernel_rfl) rfl ?_
                              refine (all_cons ?_ all_nil)
                              · refine any_op (listed' := #[true, true, true, true, true, true, true, true, true, false]) (by kernel_rfl) (by kernel_rfl) ?_
                                refine at_runW 1 [] [] [1, 2, 6, 7, 8, 9, 10, 11, 12, 46] [pl 1 (.int .i64 k1), pl 2 (.pointer (some ⟨g4, 0, none⟩)), pl 6 (.slice A2 (Int.toNat (g3.length : Int)) c2), pl 7 (.bool one5), pl 8 (.bool two5), pl 9 (.int .i64 y1), pl 10 (.int .i64 x1), pl 11 (.int .i64 d1), pl 12 (.int .i64 (geti ([1, 0, 1, 1] : List Int) d1)), pl 46 (.int .i64 (geti ([0, 1, 1, (-1)] : List Int) d1))] hF hS (by kernel_rfl) (by kernel_rfl) ?_ (fun a hF => ?_)
                                · exact obs_nil
                                refine any_finI rfl (fun h => h) ?_
                                refine any_step [9] (by kernel_rfl) rfl ?_
                                refine (all_cons ?_ all_nil)
                                · refine any_op (listed' := #[true, true, true, true, true, true, true, true, true, true]) (by kernel_rfl) (by kernel_rfl) ?_
                                  refine at_runW 1 [] [] [1, 2, 6, 7, 8, 9, 10, 11, 12, 13] [pl 1 (.int .i64 k1), pl 2 (.pointer (some ⟨g4, 0, none⟩)), pl 6 (.slice A2 (Int.toNat (g3.length : Int)) c2), pl 7 (.bool one5), pl 8 (.bool two5), pl 9 (.int .i64 y1), pl 10 (.int .i64 x1), pl 11 (.int .i64 d1), pl 12 (.int .i64 (geti ([1, 0, 1, 1] : List Int) d1)), pl 13 (.int .i64 (geti ([0, 1, 1, (-1)] : List Int) d1))] hF hS (by kernel_rfl) (by kernel_rfl) ?_ (fun a hF => ?_)
                                  · exact obs_nil
                                  refine any_finI rfl (fun h => h) ?_
                                  refine any_end (by kernel_rfl) ?_
                                  refine np_n ?_
                                  refine then_n ?_
                                  have hS := hS.pickN 4 [2, 3] (by decide)
                                  exact ⟨hF.weak [1, 2, 6, 7, 8, 9, 10, 11, 12, 13] (by kernel_rfl), hS, hm⟩
                            · refine any_op (listed' := #[true, true, true, true, true, true, true, false, true, false]) (by kernel_rfl) (by kernel_rfl) ?_
                              refine at_runW 1 [] [] [1, 2, 6, 7, 8, 9, 10, 11, 12, 45] [pl 1 (.int .i64 k1), pl 2 (.pointer (some ⟨g4, 0, none⟩)), pl 6 (.slice A2 (Int.toNat (g3.length : Int)) c2), pl 7 (.bool one5), pl 8 (.bool two5), pl 9 (.int .i64 y1), pl 10 (.int .i64 x1), pl 11 (.int .i64 d1), pl 12 (.int .i64 (geti ([1, 0, 1, 1] : List Int) d1)), pl 45 (.pointer (some (sAddr g6 d1)))] hF hS (by kernel_rfl) (by kernel_rfl) ?_ (fun a hF => ?_)
                              · exact obs_nil
                              refine any_finI rfl (fun h => h) ?_
                              refine any_step [7] (by kernel_rfl) rfl ?_
                              refine (all_cons ?_ all_nil)
                              · refine any_op (listed' := #[true, true, true, true, true, true, true, true, true, false]) (by kernel_rfl) (by kernel_rfl) ?_
                                refine at_runW 1 [⟨false, [], vS (Instr.loadAt 3 (.pointer (some (sAddr g6 d1)))), .int .i64 (geti ([0, 1, 1, (-1)] : List Int) d1)⟩] [some (.int .i64 (geti ([0, 1, 1, (-1)] : List Int) d1))] [1, 2, 6, 7, 8, 9, 10, 11, 12, 46] [pl 1 (.int .i64 k1), pl 2 (.pointer (some ⟨g4, 0, none⟩)), pl 6 (.slice A2 (Int.toNat (g3.length : Int)) c2), pl 7 (.bool one5), pl 8 (.bool two5), pl 9 (.int .i64 y1), pl 10 (.int .i64 x1), pl 11 (.int .i64 d1), pl 12 (.int .i64 (geti ([1, 0, 1, 1] : List Int) d1)), pl 46 (.int .i64 (geti ([0, 1, 1, (-1)] : List Int) d1))] hF hS (by kernel_rfl) (by kernel_rfl) ?_ (fun a hF => ?_)
                                · exact obs_cons (ob_get1 (n := 4) (m := ([0, 1, 1, (-1)] : List Int)) (Value.int .i64) (0 : Int) Agg3 (fun _ hS => ⟨_, (hS.at_ 0 rfl).rd⟩) (fun _ hS => ((hS.at_ 0 rfl).len1)) (fun _ => hp3)) <| obs_nil
                                refine any_finI rfl (fun h => h) ?_
                                refine any_step [9] (by kernel_rfl) rfl ?_
                                refine (all_cons ?_ all_nil)
                                · refine any_op (listed' := #[true, true, true, true, true, true, true, true, true, true]) (by kernel_rfl) (by kernel_rfl) ?_
                                  refine at_runW 1 [] [] [1, 2, 6, 7, 8, 9, 10, 11, 12, 13] [pl 1 (.int .i64 k1), pl 2 (.pointer (some ⟨g4, 0, none⟩)), pl 6 (.slice A2 (Int.toNat (g3.length : Int)) c2), pl 7 (.bool one5), pl 8 (.bool two5), pl 9 (.int .i64 y1), pl 10 (.int .i64 x1), pl 11 (.int .i64 d1), pl 12 (.int .i64 (geti ([1, 0, 1, 1] : List Int) d1)), pl 13 (.int .i64 (geti ([0, 1, 1, (-1)] : List Int) d1))] hF hS (by kernel_rfl) (by kernel_rfl) ?_ (fun a hF => ?_)
                                  · exact obs_nil
                                  refine any_finI rfl (fun h => h) ?_
                                  refine any_end (by kernel_rfl) ?_
                                  refine np_n ?_
                                  refine then_n ?_
                                  have hS := hS.pickN 4 [2, 3] (by decide)
                                  exact ⟨hF.weak [1, 2, 6, 7, 8, 9, 10, 11, 12, 13] (by kernel_rfl), hS, hm⟩
                          · refine any_op (listed' := #[true, true, true, false, true, true, true, true, false, false]) (by kernel_rfl) (by kernel_rfl) ?_
                            refine at_runW 1 [⟨false, [], vS (Instr.loadAt 3 (.pointer (some (sAddr g6 d1)))), .int .i64 (geti ([0, 1, 1, (-1)] : List Int) d1)⟩] [some (.int .i64 (geti ([0, 1, 1, (-1)] : List Int) d1))] [1, 2, 6, 7, 8, 9, 10, 11, 41, 46] [pl 1 (.int .i64 k1), pl 2 (.pointer (some ⟨g4, 0, none⟩)), pl 6 (.slice A2 (Int.toNat (g3.length : Int)) c2), pl 7 (.bool one5), pl 8 (.bool two5), pl 9 (.int .i64 y1), pl 10 (.int .i64 x1), pl 11 (.int .i64 d1), pl 41 (.pointer (some (sAddr g5 d1))), pl 46 (.int .i64 (geti ([0, 1, 1, (-1)] : List Int) d1))] hF hS (by kernel_rfl) (by kernel_rfl) ?_ (fun a hF => ?_)
                            · exact obs_cons (ob_get1 (n := 4) (m := ([0, 1, 1, (-1)] : List Int)) (Value.int .i64) (0 : Int) Agg3 (fun _ hS => ⟨_, (hS.at_ 0 rfl).rd⟩) (fun _ hS => ((hS.at_ 0 rfl).len1)) (fun _ => hp3)) <| obs_nil
                            refine any_finI rfl (fun h => h) ?_
                            refine any_step [3] (by kernel_rfl) rfl ?_
                            refine (all_cons ?_ all_nil)
                            · refine any_op (listed' := #[true, true, true, true, true, true, true, true, false, false]) (by kernel_rfl) (by kernel_rfl) ?_
                              refine at_runW 1 [⟨false, [], vS (Instr.loadAt 3 (.pointer (some (sAddr g5 d1)))), .int .i64 (geti ([1, 0, 1, 1] : List Int) d1)⟩] [some (.int .i64 (geti ([1, 0, 1, 1] : List Int) d1))] [1, 2, 6, 7, 8, 9, 10, 11, 42, 46] [pl 1 (.int .i64 k1), pl 2 (.pointer (some ⟨g4, 0, none⟩)), pl 6 (.slice A2 (Int.toNat (g3.length : Int)) c2), pl 7 (.bool one5), pl 8 (.bool two5), pl 9 (.int .i64 y1), pl 10 (.int .i64 x1), pl 11 (.int .i64 d1), pl 42 (.int .i64 (geti ([1, 0, 1, 1] : List Int) d1)), pl 46 (.int .i64 (geti ([0, 1, 1, (-1)] : List Int) d1))] hF hS (by kernel_rfl) (by kernel_rfl) ?_ (fun a hF => ?_)
                              · exact obs_cons (ob_get1 (n := 4) (m := ([1, 0, 1, 1] : List Int)) (Value.int .i64) (0 : Int) Agg3 (fun _ hS => ⟨_, (hS.at_ 1 rfl).rd⟩) (fun _ hS => ((hS.at_ 1 rfl).len1)) (fun _ => hp2)) <| obs_nil
                              refine any_finI rfl (fun h => h) ?_
                              refine any_step [8] (by kernel_rfl) rfl ?_
                              refine (all_cons ?_ all_nil)
                              · refine any_op (listed' := #[true, true, true, true, true, true, true, true, true, false]) (by kernel_rfl) (by kernel_rfl) ?_
                                refine at_runW 1 [] [] [1, 2, 6, 7, 8, 9, 10, 11, 12, 46] [pl 1 (.int .i64 k1), pl 2 (.pointer (some ⟨g4, 0, none⟩)), pl 6 (.slice A2 (Int.toNat (g3.length : Int)) c2), pl 7 (.bool one5), pl 8 (.bool two5), pl 9 (.int .i64 y1), pl 10 (.int .i64 x1), pl 11 (.int .i64 d1), pl 12 (.int .i64 (geti ([1, 0, 1, 1] : List Int) d1)), pl 46 (.int .i64 (geti ([0, 1, 1, (-1)] : List Int) d1))] hF hS (by kernel_rfl) (by kernel_rfl) ?_ (fun a hF => ?_)
                                · exact obs_nil
                                refine any_finI rfl (fun h => h) ?_
                                refine any_step [9] (by kernel_rfl) rfl ?_
                                refine (all_cons ?_ all_nil)
                                · refine any_op (listed' := #[true, true, true, true, true, true, true, true, true, true]) (by kernel_rfl) (by kernel_rfl) ?_
                                  refine at_runW 1 [] [] [1, 2, 6, 7, 8, 9, 10, 11, 12, 13] [pl 1 (.int .i64 k1), pl 2 (.pointer (some ⟨g4, 0, none⟩)), pl 6 (.slice A2 (Int.toNat (g3.length : Int)) c2), pl 7 (.bool one5), pl 8 (.bool two5), pl 9 (.int .i64 y1), pl 10 (.int .i64 x1), pl 11 (.int .i64 d1), pl 12 (.int .i64 (geti ([1, 0, 1, 1] : List Int) d1)), pl 13 (.int .i64 (geti ([0, 1, 1, (-1)] : List Int) d1))] hF hS (by kernel_rfl) (by kernel_rfl) ?_ (fun a hF => ?_)
                                  · exact obs_nil
                                  refine any_finI rfl (fun h => h) ?_
                                  refine any_end (by kernel_rfl) ?_
                                  refine np_n ?_
                                  refine then_n ?_
                                  have hS := hS.pickN 4 [2, 3] (by decide)
                                  exact ⟨hF.weak [1, 2, 6, 7, 8, 9, 10, 11, 12, 13] (by kernel_rfl), hS, hm⟩
                        · refine any_op (listed' := #[true, true, false, false, true, true, true, true, false, false]) (by kernel_rfl) (by kernel_rfl) ?_
                          refine at_runW 1 [⟨false, [], vS (Instr.loadAt 3 (.pointer (some (sAddr g6 d1)))), .int .i64 (geti ([0, 1, 1, (-1)] : List Int) d1)⟩] [some (.int .i64 (geti ([0, 1, 1, (-1)] : List Int) d1))] [1, 2, 6, 7, 8, 9, 10, 11, 39, 40, 46] [pl 1 (.int .i64 k1), pl 2 (.pointer (some ⟨g4, 0, none⟩)), pl 6 (.slice A2 (Int.toNat (g3.length : Int)) c2), pl 7 (.bool one5), pl 8 (.bool two5), pl 9 (.int .i64 y1), pl 10 (.int .i64 x1), pl 11 (.int .i64 d1), pl 39 (.slice g5 4 4), pl 40 (.int .i64 d1), pl 46 (.int .i64 (geti ([0, 1, 1, (-1)] : List Int) d1))] hF hS (by kernel_rfl) (by kernel_rfl) ?_ (fun a hF => ?_)
                          · exact obs_cons (ob_get1 (n := 4) (m := ([0, 1, 1, (-1)] : List Int)) (Value.int .i64) (0 : Int) Agg3 (fun _ hS => ⟨_, (hS.at_ 0 rfl).rd⟩) (fun _ hS => ((hS.at_ 0 rfl).len1)) (fun _ => hp3)) <| obs_nil
                          refine any_finI rfl (fun h => h) ?_
                          refine any_step [2] (by kernel_rfl) rfl ?_
                          refine (all_cons ?_ all_nil)
                          · refine any_op (listed' := #[true, true, true, false, true, true, true, true, false, false]) (by kernel_rfl) (by kernel_rfl) ?_
                            refine at_runW 1 [⟨true, [], vS (Instr.indexAt 34 (.slice g5 4 4) (.int .i64 d1)), .pointer (some (sAddr g5 d1))⟩] [some (.pointer (some (sAddr g5 d1)))] [1, 2, 6, 7, 8, 9, 10, 11, 41, 46] [pl 1 (.int .i64 k1), pl 2 (.pointer (some ⟨g4, 0, none⟩)), pl 6 (.slice A2 (Int.toNat (g3.length : Int)) c2), pl 7 (.bool one5), pl 8 (.bool two5), pl 9 (.int .i64 y1), pl 10 (.int .i64 x1), pl 11 (.int .i64 d1), pl 41 (.pointer (some (sAddr g5 d1))), pl 46 (.int .i64 (geti ([0, 1, 1, (-1)] : List Int) d1))] hF hS (by kernel_rfl) (by kernel_rfl) ?_ (fun a hF => ?_)
                            · exact obs_cons (ob_ix1 (f := (Value.int .i64)) (m := ([1, 0, 1, 1] : List Int)) Und34 hi3 hs3 (hS.at_ 1 rfl).rd ((hS.at_ 1 rfl).len1) (fun _ => hp2)) <| obs_nil
                            refine any_finI rfl (fun h => h) ?_
                            refine any_step [3] (by kernel_rfl) rfl ?_
                            refine (all_cons ?_ all_nil)
                            · refine any_op (listed' := #[true, true, true, true, true, true, true, true, false, false]) (by kernel_rfl) (by kernel_rfl) ?_
                              refine at_runW 1 [⟨false, [], vS (Instr.loadAt 3 (.pointer (some (sAddr g5 d1)))), .int .i64 (geti ([1, 0, 1, 1] : List Int) d1)⟩] [some (.int .i64 (geti ([1, 0, 1, 1] : List Int) d1))] [1, 2, 6, 7, 8, 9, 10, 11, 42, 46] [pl 1 (.int .i64 k1), pl 2 (.pointer (some ⟨g4, 0, none⟩)), pl 6 (.slice A2 (Int.toNat (g3.length : Int)) c2), pl 7 (.bool one5), pl 8 (.bool two5), pl 9 (.int .i64 y1), pl 10 (.int .i64 x1), pl 11 (.int .i64 d1), pl 42 (.int .i64 (geti ([1, 0, 1, 1] : List Int) d1)), pl 46 (.int .i64 (geti ([0, 1, 1, (-1)] : List Int) d1))] hF hS (by kernel_rfl) (by kernel_rfl) ?_ (fun a hF => ?_)
                              · exact obs_cons (ob_get1 (n := 4) (m := ([1, 0, 1, 1] : List Int)) (Value.int .i64) (0 : Int) Agg3 (fun _ hS => ⟨_, (hS.at_ 1 rfl).rd⟩) (fun _ hS => ((hS.at_ 1 rfl).len1)) (fun _ => hp2)) <| obs_nil
                              refine any_finI rfl (fun h => h) ?_
                              refine any_step [8] (by kernel_rfl) rfl ?_
                              refine (all_cons ?_ all_nil)
                              · refine any_op (listed' := #[true, true, true, true, true, true, true, true, true, false]) (by kernel_rfl) (by kernel_rfl) ?_
                                refine at_runW 1 [] [] [1, 2, 6, 7, 8, 9, 10, 11, 12, 46] [pl 1 (.int .i64 k1), pl 2 (.pointer (some ⟨g4, 0, none⟩)), pl 6 (.slice A2 (Int.toNat (g3.length : Int)) c2), pl 7 (.bool one5), pl 8 (.bool two5), pl 9 (.int .i64 y1), pl 10 (.int .i64 x1), pl 11 (.int .i64 d1), pl 12 (.int .i64 (geti ([1, 0, 1, 1] : List Int) d1)), pl 46 (.int .i64 (geti ([0, 1, 1, (-1)] : List Int) d1))] hF hS (by kernel_rfl) (by kernel_rfl) ?_ (fun a hF => ?_)
                                · exact obs_nil
                                refine any_finI rfl (fun h => h) ?_
                                refine any_step [9] (by kernel_rfl) rfl ?_
                                refine (all_cons ?_ all_nil)
                                · refine any_op (listed' := #[true, true, true, true, true, true, true, true, true, true]) (by kernel_rfl) (by kernel_rfl) ?_
                                  refine at_runW 1 [] [] [1, 2, 6, 7, 8, 9, 10, 11, 12, 13] [pl 1 (.int .i64 k1), pl 2 (.pointer (some ⟨g4, 0, none⟩)), pl 6 (.slice A2 (Int.toNat (g3.length : Int)) c2), pl 7 (.bool one5), pl 8 (.bool two5), pl 9 (.int .i64 y1), pl 10 (.int .i64 x1), pl 11 (.int .i64 d1), pl 12 (.int .i64 (geti ([1, 0, 1, 1] : List Int) d1)), pl 13 (.int .i64 (geti ([0, 1, 1, (-1)] : List Int) d1))] hF hS (by kernel_rfl) (by kernel_rfl) ?_ (fun a hF => ?_)
                                  · exact obs_nil
                                  refine any_finI rfl (fun h => h) ?_
                                  refine any_end (by kernel_rfl) ?_
                                  refine np_n ?_
                                  refine then_n ?_
                                  have hS := hS.pickN 4 [2, 3] (by decide)
                                  exact ⟨hF.weak [1, 2, 6, 7, 8, 9, 10, 11, 12, 13] (by kernel_rfl), hS, hm⟩
                  · refine any_op (listed' := #[false, true, false, false, true, true, false, false, false, false]) (by kernel_rfl) (by kernel_rfl) ?_
                    refine at_do (d := 43) (s := vS (Instr.buildSlice 34 4 #[(0, .int .i64 0), (1, .int .i64 1), (2, .int .i64 1), (3, .int .i64 (-1))])) (v := .slice (some ⟨w.heap.size, 0, none⟩) 4 4) (w' := w.alloc (.cells #[.int .i64 0, .int .i64 1, .int .i64 1, .int .i64 (-1)] 3)) hF (by kernel_rfl) (by kernel_rfl) (by kernel_rfl) (fun a hF => ?_)
                    have hS : Sep w0 B (w.alloc (.cells #[.int .i64 0, .int .i64 1, .int .i64 1, .int .i64 (-1)] 3)) (own 3 (.slice (some (⟨w.heap.size, 0, none⟩ : Addr)) 4 4) (vI ([0, 1, 1, (-1)] : List Int)) :: (blk g4 93 #[.int .i64 g1, .int .i64 g2, .slice A1 g3.length c1] :: own 4 (.slice A2 (Int.toNat (g3.length : Int)) c2) (vB in5) :: fs)) := hS.lit 3 #[.int .i64 0, .int .i64 1, .int .i64 1, .int .i64 (-1)] 4 rfl (by omega)
                    generalize (some (⟨w.heap.size, 0, none⟩ : Addr)) = g6 at hF hS
                    generalize w.alloc (.cells #[.int .i64 0, .int .i64 1, .int .i64 1, .int .i64 (-1)] 3) = w at hS ⊢
                    refine any_fin rfl (hS.pickN 3 [1, 2] (by decide)) ?_
                    refine any_step [0, 6] (by kernel_rfl) rfl ?_
                    refine (all_cons ?_ (all_cons ?_ all_nil))
                    · refine any_op (listed' := #[true, true, false, false, true, true, false, false, false, false]) (by kernel_rfl) (by kernel_rfl) ?_
                      refine at_do (d := 39) (s := vS (Instr.buildSlice 34 4 #[(0, .int .i64 1), (1, .int .i64 0), (2, .int .i64 1), (3, .int .i64 1)])) (v := .slice (some ⟨w.heap.size, 0, none⟩) 4 4) (w' := w.alloc (.cells #[.int .i64 1, .int .i64 0, .int .i64 1, .int .i64 1] 3)) hF (by kernel_rfl) (by kernel_rfl) (by kernel_rfl) (fun a hF => ?_)
                      have hS : Sep w0 B (w.alloc (.cells #[.int .i64 1, .int .i64 0, .int .i64 1, .int .i64 1] 3)) (own 3 (.slice (some (⟨w.heap.size, 0, none⟩ : Addr)) 4 4) (vI ([1, 0, 1, 1] : List Int)) :: (own 3 (.slice g6 4 4) (vI ([0, 1, 1, (-1)] : List Int)) :: blk g4 93 #[.int .i64 g1, .int .i64 g2, .slice A1 g3.length c1] :: own 4 (.slice A2 (Int.toNat (g3.length : Int)) c2) (vB in5) :: fs)) := hS.lit 3 #[.int .i64 1, .int .i64 0, .int .i64 1, .int .i64 1] 4 rfl (by omega)
                      generalize (some (⟨w.heap.size, 0, none⟩ : Addr)) = g5 at hF hS
                      generalize w.alloc (.cells #[.int .i64 1, .int .i64 0, .int .i64 1, .int .i64 1] 3) = w at hS ⊢
                      refine any_fin rfl (hS.pickN 4 [2, 3] (by decide)) ?_
                      refine any_step [2, 6] (by kernel_rfl) rfl ?_
                      refine (all_cons ?_ (all_cons ?_ all_nil))
                      · refine any_op (listed' := #[true, true, true, false, true, true, false, false, false, false]) (by kernel_rfl) (by kernel_rfl) ?_
                        refine at_runW 1 [⟨true, [], vS (Instr.indexAt 34 (.slice g5 4 4) (.int .i64 d1)), .pointer (some (sAddr g5 d1))⟩] [some (.pointer (some (sAddr g5 d1)))] [1, 2, 6, 7, 8, 9, 10, 11, 41, 43, 44] [pl 1 (.int .i64 k1), pl 2 (.pointer (some ⟨g4, 0, none⟩)), pl 6 (.slice A2 (Int.toNat (g3.length : Int)) c2), pl 7 (.bool one5), pl 8 (.bool two5), pl 9 (.int .i64 y1), pl 10 (.int .i64 x1), pl 11 (.int .i64 d1), pl 41 (.pointer (some (sAddr g5 d1))), pl 43 (.slice g6 4 4), pl 44 (.int .i64 d1)] hF hS (by kernel_rfl) (by kernel_rfl) ?_ (fun a hF => ?_)
                        · exact obs_cons (ob_ix1 (f := (Value.int .i64)) (m := ([1, 0, 1, 1] : List Int)) Und34 hi3 hs3 (hS.at_ 0 rfl).rd ((hS.at_ 0 rfl).len1) (fun _ => hp2)) <| obs_nil
                        refine any_finI rfl (fun h => h) ?_
                        refine any_step [3, 6] (by kernel_rfl) rfl ?_
                        refine (all_cons ?_ (all_cons ?_ all_nil))
                        · refine any_op (listed' := #[true, true, true, true, true, true, false, false, false, false]) (by kernel_rfl) (by kernel_rfl) ?_
                          refine at_runW 1 [⟨false, [], vS (Instr.loadAt 3 (.pointer (some (sAddr g5 d1)))), .int .i64 (geti ([1, 0, 1, 1] : List Int) d1)⟩] [some (.int .i64 (geti ([1, 0, 1, 1] : List Int) d1))] [1, 2, 6, 7, 8, 9, 10, 11, 42, 43, 44] [pl 1 (.int .i64 k1), pl 2 (.pointer (some ⟨g4, 0, none⟩)), pl 6 (.slice A2 (Int.toNat (g3.length : Int)) c2), pl 7 (.bool one5), pl 8 (.bool two5), pl 9 (.int .i64 y1), pl 10 (.int .i64 x1), pl 11 (.int .i64 d1), pl 42 (.int .i64 (geti ([1, 0, 1, 1] : List Int) d1)), pl 43 (.slice g6 4 4), pl 44 (.int .i64 d1)] hF hS (by kernel_rfl) (by kernel_rfl) ?_ (fun a hF => ?_)
                          · exact obs_cons (ob_get1 (n := 4) (m := ([1, 0, 1, 1] : List Int)) (Value.int .i64) (0 : Int) Agg3 (fun _ hS => ⟨_, (hS.at_ 0 rfl).rd⟩) (fun _ hS => ((hS.at_ 0 rfl).len1)) (fun _ => hp2)) <| obs_nil
                          refine any_finI rfl (fun h => h) ?_
                          refine any_step [6, 8] (by kernel_rfl) rfl ?_
                          refine (all_cons ?_ (all_cons ?_ all_nil))
                          · refine any_op (listed' := #[true, true, true, true, true, true, true, false, false, false]) (by kernel_rfl) (by kernel_rfl) ?_
                            refine at_runW 1 [⟨true, [], vS (Instr.indexAt 34 (.slice g6 4 4) (.int .i64 d1)), .pointer (some (sAddr g6 d1))⟩] [some (.pointer (some (sAddr g6 d1)))] [1, 2, 6, 7, 8, 9, 10, 11, 42, 45] [pl 1 (.int .i64 k1), pl 2 (.pointer (some ⟨g4, 0, none⟩)), pl 6 (.slice A2 (Int.toNat (g3.length : Int)) c2), pl 7 (.bool one5), pl 8 (.bool two5), pl 9 (.int .i64 y1), pl 10 (.int .i64 x1), pl 11 (.int .i64 d1), pl 42 (.int .i64 (geti ([1, 0, 1, 1] : List Int) d1)), pl 45 (.pointer (some (sAddr g6 d1)))] hF hS (by kernel_rfl) (by kernel_rfl) ?_ (fun a hF => ?_)
                            · exact obs_cons (ob_ix1 (f := (Value.int .i64)) (m := ([0, 1, 1, (-1)] : List Int)) Und34 hi3 hs3 (hS.at_ 1 rfl).rd ((hS.at_ 1 rfl).len1) (fun _ => hp3)) <| obs_nil
                            refine any_finI rfl (fun h => h) ?_
                            refine any_step [7, 8] (by kernel_rfl) rfl ?_
                            refine (all_cons ?_ (all_cons ?_ all_nil))
                            · refine any_op (listed' := #[true, true, true, true, true, true, true, true, false, false]) (by kernel_rfl) (by kernel_rfl) ?_
                              refine at_runW 1 [⟨false, [], vS (Instr.loadAt 3 (.pointer (some (sAddr g6 d1)))), .int .i64 (geti ([0, 1, 1, (-1)] : List Int) d1)⟩] [some (.int .i64 (geti ([0, 1, 1, (-1)] : List Int) d1))] [1, 2, 6, 7, 8, 9, 10, 11, 42, 46] [pl 1 (.int .i64 k1), pl 2 (.pointer (some ⟨g4, 0, none⟩)), pl 6 (.slice A2 (Int.toNat (g3.length : Int)) c2), pl 7 (.bool one5), pl 8 (.bool two5), pl 9 (.int .i64 y1), pl 10 (.int .i64 x1), pl 11 (.int .i64 d1), pl 42 (.int .i64 (geti ([1, 0, 1, 1] : List Int) d1)), pl 46 (.int .i64 (geti ([0, 1, 1, (-1)] : List Int) d1))] hF hS (by kernel_rfl) (by kernel_rfl) ?_ (fun a hF => ?_)
                              · exact obs_cons (ob_get1 (n := 4) (m := ([0, 1, 1, (-1)] : List Int)) (Value.int .i64) (0 : Int) Agg3 (fun _ hS => ⟨_, (hS.at_ 1 rfl).rd⟩) (fun _ hS => ((hS.at_ 1 rfl).len1)) (fun _ => hp3)) <| obs_nil
                              refine any_finI rfl (fun h => h) ?_
                              refine any_step [8] (by kernel_rfl) rfl ?_
                              refine (all_cons ?_ all_nil)
                              · refine any_op (listed' := #[true, true, true, true, true, true, true, true, true, false]) (by kernel_rfl) (by kernel_rfl) ?_
                                refine at_runW 1 [] [] [1, 2, 6, 7, 8, 9, 10, 11, 12, 46] [pl 1 (.int .i64 k1), pl 2 (.pointer (some ⟨g4, 0, none⟩)), pl 6 (.slice A2 (Int.toNat (g3.length : Int)) c2), pl 7 (.bool one5), pl 8 (.bool two5), pl 9 (.int .i64 y1), pl 10 (.int .i64 x1), pl 11 (.int .i64 d1), pl 12 (.int .i64 (geti ([1, 0, 1, 1] : List Int) d1)), pl 46 (.int .i64 (geti ([0, 1, 1, (-1)] : List Int) d1))] hF hS (by kernel_rfl) (by kernel_rfl) ?_ (fun a hF => ?_)
                                · exact obs_nil
                                refine any_finI rfl (fun h => h) ?_
                                refine any_step [9] (by kernel_rfl) rfl ?_
                                refine (all_cons ?_ all_nil)
                                · refine any_op (listed' := #[true, true, true, true, true, true, true, true, true, true]) (by kernel_rfl) (by kernel_rfl) ?_
                                  refine at_runW 1 [] [] [1, 2, 6, 7, 8, 9, 10, 11, 12, 13] [pl 1 (.int .i64 k1), pl 2 (.pointer (some ⟨g4, 0, none⟩)), pl 6 (.slice A2 (Int.toNat (g3.length : Int)) c2), pl 7 (.bool one5), pl 8 (.bool two5), pl 9 (.int .i64 y1), pl 10 (.int .i64 x1), pl 11 (.int .i64 d1), pl 12 (.int .i64 (geti ([1, 0, 1, 1] : List Int) d1)), pl 13 (.int .i64 (geti ([0, 1, 1, (-1)] : List Int) d1))] hF hS (by kernel_rfl) (by kernel_rfl) ?_ (fun a hF => ?_)
                                  · exact obs_nil
                                  refine any_finI rfl (fun h => h) ?_
                                  refine any_end (by kernel_rfl) ?_
                                  refine np_n ?_
                                  refine then_n ?_
                                  have hS := hS.pickN 4 [2, 3] (by decide)
                                  exact ⟨hF.weak [1, 2, 6, 7, 8, 9, 10, 11, 12, 13] (by kernel_rfl), hS, hm⟩
                            · refine any_op (listed' := #[true, true, true, true, true, true, true, false, true, false]) (by kernel_rfl) (by kernel_rfl) ?_
                              refine at_runW 1 [] [] [1, 2, 6, 7, 8, 9, 10, 11, 12, 45] [pl 1 (.int .i64 k1), pl 2 (.pointer (some ⟨g4, 0, none⟩)), pl 6 (.slice A2 (Int.toNat (g3.length : Int)) c2), pl 7 (.bool one5), pl 8 (.bool two5), pl 9 (.int .i64 y1), pl 10 (.int .i64 x1), pl 11 (.int .i64 d1), pl 12 (.int .i64 (geti ([1, 0, 1, 1] : List Int) d1)), pl 45 (.pointer (some (sAddr g6 d1)))] hF hS (by kernel_rfl) (by kernel_rfl) ?_ (fun a hF => ?_)
                              · exact obs_nil
                              refine any_finI rfl (fun h => h) ?_
                              refine any_step [7] (by kernel_rfl) rfl ?_
                              refine (all_cons ?_ all_nil)
                              · refine any_op (listed' := #[true, true, true, true, true, true, true, true, true, false]) (by kernel_rfl) (by kernel_rfl) ?_
                                refine at_runW 1 [⟨false, [], vS (Instr.loadAt 3 (.pointer (some (sAddr g6 d1)))), .int .i64 (geti ([0, 1, 1, (-1)] : List Int) d1)⟩] [some (.int .i64 (geti ([0, 1, 1, (-1)] : List Int) d1))] [1, 2, 6, 7, 8, 9, 10, 11, 12, 46] [pl 1 (.int .i64 k1), pl 2 (.pointer (some ⟨g4, 0, none⟩)), pl 6 (.slice A2 (Int.toNat (g3.length : Int)) c2), pl 7 (.bool one5), pl 8 (.bool two5), pl 9 (.int .i64 y1), pl 10 (.int .i64 x1), pl 11 (.int .i64 d1), pl 12 (.int .i64 (geti ([1, 0, 1, 1] : List Int) d1)), pl 46 (.int .i64 (geti ([0, 1, 1, (-1)] : List Int) d1))] hF hS (by kernel_rfl) (by kernel_rfl) ?_ (fun a hF => ?_)
                                · exact obs_cons (ob_get1 (n := 4) (m := ([0, 1, 1, (-1)] : List Int)) (Value.int .i64) (0 : Int) Agg3 (fun _ hS => ⟨_, (hS.at_ 1 rfl).rd⟩) (fun _ hS => ((hS.at_ 1 rfl).len1)) (fun _ => hp3)) <| obs_nil
                                refine any_finI rfl (fun h => h) ?_
                                refine any_step [9] (by kernel_rfl) rfl ?_
                                refine (all_cons ?_ all_nil)
                                · refine any_op (listed' := #[true, true, true, true, true, true, true, true, true, true]) (by kernel_rfl) (by kernel_rfl) ?_
                                  refine at_runW 1 [] [] [1, 2, 6, 7, 8, 9, 10, 11, 12, 13] [pl 1 (.int .i64 k1), pl 2 (.pointer (some ⟨g4, 0, none⟩)), pl 6 (.slice A2 (Int.toNat (g3.length : Int)) c2), pl 7 (.bool one5), pl 8 (.bool two5), pl 9 (.int .i64 y1), pl 10 (.int .i64 x1), pl 11 (.int .i64 d1), pl 12 (.int .i64 (geti ([1, 0, 1, 1] : List Int) d1)), pl 13 (.int .i64 (geti ([0, 1, 1, (-1)] : List Int) d1))] hF hS (by kernel_rfl) (by kernel_rfl) ?_ (fun a hF => ?_)
                                  · exact obs_nil
                                  refine any_finI rfl (fun h => h) ?_
                                  refine any_end (by kernel_rfl) ?_
                                  refine np_n ?_
                                  refine then_n ?_
                                  have hS := hS.pickN 4 [2, 3] (by decide)
                                  exact ⟨hF.weak [1, 2, 6, 7, 8, 9, 10, 11, 12, 13] (by kernel_rfl), hS, hm⟩
                          · refine any_op (listed' := #[true, true, true, true, true, true, false, false, true, false]) (by kernel_rfl) (by kernel_rfl) ?_
                            refine at_runW 1 [] [] [1, 2, 6, 7, 8, 9, 10, 11, 12, 43, 44] [pl 1 (.int .i64 k1), pl 2 (.pointer (some ⟨g4, 0, none⟩)), pl 6 (.slice A2 (Int.toNat (g3.length : Int)) c2), pl 7 (.bool one5), pl 8 (.bool two5), pl 9 (.int .i64 y1), pl 10 (.int .i64 x1), pl 11 (.int .i64 d1), pl 12 (.int .i64 (geti ([1, 0, 1, 1] : List Int) d1)), pl 43 (.slice g6 4 4), pl 44 (.int .i64 d1)] hF hS (by kernel_rfl) (by kernel_rfl) ?_ (fun a hF => ?_)
                            · exact obs_nil
                            refine any_finI rfl (fun h => h) ?_
                            refine any_step [6] (by kernel_rfl) rfl ?_
                            refine (all_cons ?_ all_nil)
                            · refine any_op (listed' := #[true, true, true, true, true, true, true, false, true, false]) (by kernel_rfl) (by kernel_rfl) ?_
                              refine at_runW 1 [⟨true, [], vS (Instr.indexAt 34 (.slice g6 4 4) (.int .i64 d1)), .pointer (some (sAddr g6 d1))⟩] [some (.pointer (some (sAddr g6 d1)))] [1, 2, 6, 7, 8, 9, 10, 11, 12, 45] [pl 1 (.int .i64 k1), pl 2 (.pointer (some ⟨g4, 0, none⟩)), pl 6 (.slice A2 (Int.toNat (g3.length : Int)) c2), pl 7 (.bool one5), pl 8 (.bool two5), pl 9 (.int .i64 y1), pl 10 (.int .i64 x1), pl 11 (.int .i64 d1), pl 12 (.int .i64 (geti ([1, 0, 1, 1] : List Int) d1)), pl 45 (.pointer (some (sAddr g6 d1)))] hF hS (by kernel_rfl) (by kernel_rfl) ?_ (fun a hF => ?_)
                              · exact obs_cons (ob_ix1 (f := (Value.int .i64)) (m := ([0, 1, 1, (-1)] : List Int)) Und34 hi3 hs3 (hS.at_ 1 rfl).rd ((hS.at_ 1 rfl).len1) (fun _ => hp3)) <| obs_nil
                              refine any_finI rfl (fun h => h) ?_
                              refine any_step [7] (by kernel_rfl) rfl ?_
                              refine (all_cons ?_ all_nil)
                              · refine any_op (listed' := #[true, true, true, true, true, true, true, true, true, false]) (by kernel_rfl) (by kernel_rfl) ?_
                                refine at_runW 1 [⟨false, [], vS (Instr.loadAt 3 (.pointer (some (sAddr g6 d1)))), .int .i64 (geti ([0, 1, 1, (-1)] : List Int) d1)⟩] [some (.int .i64 (geti ([0, 1, 1, (-1)] : List Int) d1))] [1, 2, 6, 7, 8, 9, 10, 11, 12, 46] [pl 1 (.int .i64 k1), pl 2 (.pointer (some ⟨g4, 0, none⟩)), pl 6 (.slice A2 (Int.toNat (g3.length : Int)) c2), pl 7 (.bool one5), pl 8 (.bool two5), pl 9 (.int .i64 y1), pl 10 (.int .i64 x1), pl 11 (.int .i64 d1), pl 12 (.int .i64 (geti ([1, 0, 1, 1] : List Int) d1)), pl 46 (.int .i64 (geti ([0, 1, 1, (-1)] : List Int) d1))] hF hS (by kernel_rfl) (by kernel_rfl) ?_ (fun a hF => ?_)
                                · exact obs_cons (ob_get1 (n := 4) (m := ([0, 1, 1, (-1)] : List Int)) (Value.int .i64) (0 : Int) Agg3 (fun _ hS => ⟨_, (hS.at_ 1 rfl).rd⟩) (fun _ hS => ((hS.at_ 1 rfl).len1)) (fun _ => hp3)) <| obs_nil
                                refine any_finI rfl (fun h => h) ?_
                                refine any_step [9] (by kernel_rfl) rfl ?_
                                refine (all_cons ?_ all_nil)
                                · refine any_op (listed' := #[true, true, true, true, true, true, true, true, true, true]) (by kernel_rfl) (by kernel_rfl) ?_
                                  refine at_runW 1 [] [] [1, 2, 6, 7, 8, 9, 10, 11, 12, 13] [pl 1 (.int .i64 k1), pl 2 (.pointer (some ⟨g4, 0, none⟩)), pl 6 (.slice A2 (Int.toNat (g3.length : Int)) c2), pl 7 (.bool one5), pl 8 (.bool two5), pl 9 (.int .i64 y1), pl 10 (.int .i64 x1), pl 11 (.int .i64 d1), pl 12 (.int .i64 (geti ([1, 0, 1, 1] : List Int) d1)), pl 13 (.int .i64 (geti ([0, 1, 1, (-1)] : List Int) d1))] hF hS (by kernel_rfl) (by kernel_rfl) ?_ (fun a hF => ?_)
                                  · exact obs_nil
                                  refine any_finI rfl (fun h => h) ?_
                                  refine any_end (by kernel_rfl) ?_
                                  refine np_n ?_
                                  refine then_n ?_
                                  have hS := hS.pickN 4 [2, 3] (by decide)
                                  exact ⟨hF.weak [1, 2, 6, 7, 8, 9, 10, 11, 12, 13] (by kernel_rfl), hS, hm⟩
                        · refine any_op (listed' := #[true, true, true, false, true, true, true, false, false, false]) (by kernel_rfl) (by kernel_rfl) ?_
                          refine at_runW 1 [⟨true, [], vS (Instr.indexAt 34 (.slice g6 4 4) (.int .i64 d1)), .pointer (some (sAddr g6 d1))⟩] [some (.pointer (some (sAddr g6 d1)))] [1, 2, 6, 7, 8, 9, 10, 11, 41, 45] [pl 1 (.int .i64 k1), pl 2 (.pointer (some ⟨g4, 0, none⟩)), pl 6 (.slice A2 (Int.toNat (g3.length : Int)) c2), pl 7 (.bool one5), pl 8 (.bool two5), pl 9 (.int .i64 y1), pl 10 (.int .i64 x1), pl 11 (.int .i64 d1), pl 41 (.pointer (some (sAddr g5 d1))), pl 45 (.pointer (some (sAddr g6 d1)))] hF hS (by kernel_rfl) (by kernel_rfl) ?_ (fun a hF => ?_)
                          · exact obs_cons (ob_ix1 (f := (Value.int .i64)) (m := ([0, 1, 1, (-1)] : List Int)) Und34 hi3 hs3 (hS.at_ 1 rfl).rd ((hS.at_ 1 rfl).len1) (fun _ => hp3)) <| obs_nil
                          refine any_finI rfl (fun h => h) ?_
                          refine any_step [3, 7] (by kernel_rfl) rfl ?_
                          refine (all_cons ?_ (all_cons ?_ all_nil))
                          · refine any_op (listed' := #[true, true, true, true, true, true, true, false, false, false]) (by kernel_rfl) (by kernel_rfl) ?_
                            refine at_runW 1 [⟨false, [], vS (Instr.loadAt 3 (.pointer (some (sAddr g5 d1)))), .int .i64 (geti ([1, 0, 1, 1] : List Int) d1)⟩] [some (.int .i64 (geti ([1, 0, 1, 1] : List Int) d1))] [1, 2, 6, 7, 8, 9, 10, 11, 42, 45] [pl 1 (.int .i64 k1), pl 2 (.pointer (some ⟨g4, 0, none⟩)), pl 6 (.slice A2 (Int.toNat (g3.length : Int)) c2), pl 7 (.bool one5), pl 8 (.bool two5), pl 9 (.int .i64 y1), pl 10 (.int .i64 x1), pl 11 (.int .i64 d1), pl 42 (.int .i64 (geti ([1, 0, 1, 1] : List Int) d1)), pl 45 (.pointer (some (sAddr g6 d1)))] hF hS (by kernel_rfl) (by kernel_rfl) ?_ (fun a hF => ?_)
                            · exact obs_cons (ob_get1 (n := 4) (m := ([1, 0, 1, 1] : List Int)) (Value.int .i64) (0 : Int) Agg3 (fun _ hS => ⟨_, (hS.at_ 0 rfl).rd⟩) (fun _ hS => ((hS.at_ 0 rfl).len1)) (fun _ => hp2)) <| obs_nil
                            refine any_finI rfl (fun h => h) ?_
                            refine any_step [7, 8] (by kernel_rfl) rfl ?_
                            refine (all_cons ?_ (all_cons ?_ all_nil))
                            · refine any_op (listed' := #[true, true, true, true, true, true, true, true, false, false]) (by kernel_rfl) (by kernel_rfl) ?_
                              refine at_runW 1 [⟨false, [], vS (Instr.loadAt 3 (.pointer (some (sAddr g6 d1)))), .int .i64 (geti ([0, 1, 1, (-1)] : List Int) d1)⟩] [some (.int .i64 (geti ([0, 1, 1, (-1)] : List Int) d1))] [1, 2, 6, 7, 8, 9, 10, 11, 42, 46] [pl 1 (.int .i64 k1), pl 2 (.pointer (some ⟨g4, 0, none⟩)), pl 6 (.slice A2 (Int.toNat (g3.length : Int)) c2), pl 7 (.bool one5), pl 8 (.bool two5), pl 9 (.int .i64 y1), pl 10 (.int .i64 x1), pl 11 (.int .i64 d1), pl 42 (.int .i64 (geti ([1, 0, 1, 1] : List Int) d1)), pl 46 (.int .i64 (geti ([0, 1, 1, (-1)] : List Int) d1))] hF hS (by kernel_rfl) (by kernel_rfl) ?_ (fun a hF => ?_)
                              · exact obs_cons (ob_get1 (n := 4) (m := ([0, 1, 1, (-1)] : List Int)) (Value.int .i64) (0 : Int) Agg3 (fun _ hS => ⟨_, (hS.at_ 1 rfl).rd⟩) (fun _ hS => ((hS.at_ 1 rfl).len1)) (fun _ => hp3)) <| obs_nil
                              refine any_finI rfl (fun h => h) ?_
                              refine any_step [8] (by kernel_rfl) rfl ?_
                              refine (all_cons ?_ all_nil)
                              · refine any_op (listed' := #[true, true, true, true, true, true, true, true, true, false]) (by kernel_rfl) (by kernel_rfl) ?_
                                refine at_runW 1 [] [] [1, 2, 6, 7, 8, 9, 10, 11, 12, 46] [pl 1 (.int .i64 k1), pl 2 (.pointer (some ⟨g4, 0, none⟩)), pl 6 (.slice A2 (Int.toNat (g3.length : Int)) c2), pl 7 (.bool one5), pl 8 (.bool two5), pl 9 (.int .i64 y1), pl 10 (.int .i64 x1), pl 11 (.int .i64 d1), pl 12 (.int .i64 (geti ([1, 0, 1, 1] : List Int) d1)), pl 46 (.int .i64 (geti ([0, 1, 1, (-1)] : List Int) d1))] hF hS (by kernel_rfl) (by kernel_rfl) ?_ (fun a hF => ?_)
                                · exact obs_nil
                                refine any_finI rfl (fun h => h) ?_
                                refine any_step [9] (by kernel_rfl) rfl ?_
                                refine (all_cons ?_ all_nil)
                                · refine any_op (listed' := #[true, true, true, true, true, true, true, true, true, true]) (by kernel_rfl) (by kernel_rfl) ?_
                                  refine at_runW 1 [] [] [1, 2, 6, 7, 8, 9, 10, 11, 12, 13] [pl 1 (.int .i64 k1), pl 2 (.pointer (some ⟨g4, 0, none⟩)), pl 6 (.slice A2 (Int.toNat (g3.length : Int)) c2), pl 7 (.bool one5), pl 8 (.bool two5), pl 9 (.int .i64 y1), pl 10 (.int .i64 x1), pl 11 (.int .i64 d1), pl 12 (.int .i64 (geti ([1, 0, 1, 1] : List Int) d1)), pl 13 (.int .i64 (geti ([0, 1, 1, (-1)] : List Int) d1))] hF hS (by kernel_rfl) (by kernel_rfl) ?_ (fun a hF => ?_)
                                  · exact obs_nil
                                  refine any_finI rfl (fun h => h) ?_
                                  refine any_end (by kernel_rfl) ?_
                                  refine np_n ?_
                                  refine then_n ?_
                                  have hS := hS.pickN 4 [2, 3] (by decide)
                                  exact ⟨hF.weak [1, 2, 6, 7, 8, 9, 10, 11, 12, 13] (by kernel_rfl), hS, hm⟩
                            · refine any_op (listed' := #[true, true, true, true, true, true, true, false, true, false]) (by kernel_rfl) (by kernel_rfl) ?_
                              refine at_runW 1 [] [] [1, 2, 6, 7, 8, 9, 10, 11, 12, 45] [pl 1 (.int .i64 k1), pl 2 (.pointer (some ⟨g4, 0, none⟩)), pl 6 (.slice A2 (Int.toNat (g3.length : Int)) c2), pl 7 (.bool one5), pl 8 (.bool two5), pl 9 (.int .i64 y1), pl 10 (.int .i64 x1), pl 11 (.int .i64 d1), pl 12 (.int .i64 (geti ([1, 0, 1, 1] : List Int) d1)), pl 45 (.pointer (some (sAddr g6 d1)))] hF hS (by kernel_rfl) (by kernel_rfl) ?_ (fun a hF => ?_)
                              · exact obs_nil
                              refine any_finI rfl (fun h => h) ?_
                              refine any_step [7] (by kernel_rfl) rfl ?_
                              refine (all_cons ?_ all_nil)
                              · refine any_op (listed' := #[true, true, true, true, true, true, true, true, true, false]) (by kernel_rfl) (by kernel_rfl) ?_
                                refine at_runW 1 [⟨false, [], vS (Instr.loadAt 3 (.pointer (some (sAddr g6 d1)))), .int .i64 (geti ([0, 1, 1, (-1)] : List Int) d1)⟩] [some (.int .i64 (geti ([0, 1, 1, (-1)] : List Int) d1))] [1, 2, 6, 7, 8, 9, 10, 11, 12, 46] [pl 1 (.int .i64 k1), pl 2 (.pointer (some ⟨g4, 0, none⟩)), pl 6 (.slice A2 (Int.toNat (g3.length : Int)) c2), pl 7 (.bool one5), pl 8 (.bool two5), pl 9 (.int .i64 y1), pl 10 (.int .i64 x1), pl 11 (.int .i64 d1), pl 12 (.int .i64 (geti ([1, 0, 1, 1] : List Int) d1)), pl 46 (.int .i64 (geti ([0, 1, 1, (-1)] : List Int) d1))] hF hS (by kernel_rfl) (by kernel_rfl) ?_ (fun a hF => ?_)
                                · exact obs_cons (ob_get1 (n := 4) (m := ([0, 1, 1, (-1)] : List Int)) (Value.int .i64) (0 : Int) Agg3 (fun _ hS => ⟨_, (hS.at_ 1 rfl).rd⟩) (fun _ hS => ((hS.at_ 1 rfl).len1)) (fun _ => hp3)) <| obs_nil
                                refine any_finI rfl (fun h => h) ?_
                                refine any_step [9] (by kernel_rfl) rfl ?_
                                refine (all_cons ?_ all_nil)
                                · refine any_op (listed' := #[true, true, true, true, true, true, true, true, true, true]) (by kernel_rfl) (by kernel_rfl) ?_
                                  refine at_runW 1 [] [] [1, 2, 6, 7, 8, 9, 10, 11, 12, 13] [pl 1 (.int .i64 k1), pl 2 (.pointer (some ⟨g4, 0, none⟩)), pl 6 (.slice A2 (Int.toNat (g3.length : Int)) c2), pl 7 (.bool one5), pl 8 (.bool two5), pl 9 (.int .i64 y1), pl 10 (.int .i64 x1), pl 11 (.int .i64 d1), pl 12 (.int .i64 (geti ([1, 0, 1, 1] : List Int) d1)), pl 13 (.int .i64 (geti ([0, 1, 1, (-1)] : List Int) d1))] hF hS (by kernel_rfl) (by kernel_rfl) ?_ (fun a hF => ?_)
                                  · exact obs_nil
                                  refine any_finI rfl (fun h => h) ?_
                                  refine any_end (by kernel_rfl) ?_
                                  refine np_n ?_
                                  refine then_n ?_
                                  have hS := hS.pickN 4 [2, 3] (by decide)
                                  exact ⟨hF.weak [1, 2, 6, 7, 8, 9, 10, 11, 12, 13] (by kernel_rfl), hS, hm⟩
                          · refine any_op (listed' := #[true, true, true, false, true, true, true, true, false, false]) (by kernel_rfl) (by kernel_rfl) ?_
                            refine at_runW 1 [⟨false, [], vS (Instr.loadAt 3 (.pointer (some (sAddr g6 d1)))), .int .i64 (geti ([0, 1, 1, (-1)] : List Int) d1)⟩] [some (.int .i64 (geti ([0, 1, 1, (-1)] : List Int) d1))] [1, 2, 6, 7, 8, 9, 10, 11, 41, 46] [pl 1 (.int .i64 k1), pl 2 (.pointer (some ⟨g4, 0, none⟩)), pl 6 (.slice A2 (Int.toNat (g3.length : Int)) c2), pl 7 (.bool one5), pl 8 (.bool two5), pl 9 (.int .i64 y1), pl 10 (.int .i64 x1), pl 11 (.int .i64 d1), pl 41 (.pointer (some (sAddr g5 d1))), pl 46 (.int .i64 (geti ([0, 1, 1, (-1)] : List Int) d1))] hF hS (by kernel_rfl) (by kernel_rfl) ?_ (fun a hF => ?_)
                            · exact obs_cons (ob_get1 (n := 4) (m := ([0, 1, 1, (-1)] : List Int)) (Value.int .i64) (0 : Int) Agg3 (fun _ hS => ⟨_, (hS.at_ 1 rfl).rd⟩) (fun _ hS => ((hS.at_ 1 rfl).len1)) (fun _ => hp3)) <| obs_nil
                            refine any_finI rfl (fun h => h) ?_
                            refine any_step [3] (by kernel_rfl) rfl ?_
                            refine (all_cons ?_ all_nil)
                            · refine any_op (listed' := #[true, true, true, true, true, true, true, true, false, false]) (by kernel_rfl) (by kernel_rfl) ?_
                              refine at_runW 1 [⟨false, [], vS (Instr.loadAt 3 (.pointer (some (sAddr g5 d1)))), .int .i64 (geti ([1, 0, 1, 1] : List Int) d1)⟩] [some (.int .i64 (geti ([1, 0, 1, 1] : List Int) d1))] [1, 2, 6, 7, 8, 9, 10, 11, 42, 46] [pl 1 (.int .i64 k1), pl 2 (.pointer (some ⟨g4, 0, none⟩)), pl 6 (.slice A2 (Int.toNat (g3.length : Int)) c2), pl 7 (.bool one5), pl 8 (.bool two5), pl 9 (.int .i64 y1), pl 10 (.int .i64 x1), pl 11 (.int .i64 d1), pl 42 (.int .i64 (geti ([1, 0, 1, 1] : List Int) d1)), pl 46 (.int .i64 (geti ([0, 1, 1, (-1)] : List Int) d1))] hF hS (by kernel_rfl) (by kernel_rfl) ?_ (fun a hF => ?_)
                              · exact obs_cons (ob_get1 (n := 4) (m := ([1, 0, 1, 1] : List Int)) (Value.int .i64) (0 : Int) Agg3 (fun _ hS => ⟨_, (hS.at_ 0 rfl).rd⟩) (fun _ hS => ((hS.at_ 0 rfl).len1)) (fun _ => hp2)) <| obs_nil
                              refine any_finI rfl (fun h => h) ?_
                              refine any_step [8] (by kernel_rfl) rfl ?_
                              refine (all_cons ?_ all_nil)
                              · refine any_op (listed' := #[true, true, true, true, true, true, true, true, true, false]) (by kernel_rfl) (by kernel_rfl) ?_
                                refine at_runW 1 [] [] [1, 2, 6, 7, 8, 9, 10, 11, 12, 46] [pl 1 (.int .i64 k1), pl 2 (.pointer (some ⟨g4, 0, none⟩)), pl 6 (.slice A2 (Int.toNat (g3.length : Int)) c2), pl 7 (.bool one5), pl 8 (.bool two5), pl 9 (.int .i64 y1), pl 10 (.int .i64 x1), pl 11 (.int .i64 d1), pl 12 (.int .i64 (geti ([1, 0, 1, 1] : List Int) d1)), pl 46 (.int .i64 (geti ([0, 1, 1, (-1)] : List Int) d1))] hF hS (by kernel_rfl) (by kernel_rfl) ?_ (fun a hF => ?_)
                                · exact obs_nil
                                refine any_finI rfl (fun h => h) ?_
                                refine any_step [9] (by kernel_rfl) rfl ?_
                                refine (all_cons ?_ all_nil)
                                · refine any_op (listed' := #[true, true, true, true, true, true, true, true, true, true]) (by kernel_rfl) (by kernel_rfl) ?_
                                  refine at_runW 1 [] [] [1, 2, 6, 7, 8, 9, 10, 11, 12, 13] [pl 1 (.int .i64 k1), pl 2 (.pointer (some ⟨g4, 0, none⟩)), pl 6 (.slice A2 (Int.toNat (g3.length : Int)) c2), pl 7 (.bool one5), pl 8 (.bool two5), pl 9 (.int .i64 y1), pl 10 (.int .i64 x1), pl 11 (.int .i64 d1), pl 12 (.int .i64 (geti ([1, 0, 1, 1] : List Int) d1)), pl 13 (.int .i64 (geti ([0, 1, 1, (-1)] : List Int) d1))] hF hS (by kernel_rfl) (by kernel_rfl) ?_ (fun a hF => ?_)
                                  · exact obs_nil
                                  refine any_finI rfl (fun h => h) ?_
                                  refine any_end (by kernel_rfl) ?_
                                  refine np_n ?_
                                  refine then_n ?_
                                  have hS := hS.pickN 4 [2, 3] (by decide)
                                  exact ⟨hF.weak [1, 2, 6, 7, 8, 9, 10, 11, 12, 13] (by kernel_rfl), hS, hm⟩
                      · refine any_op (listed' := #[true, true, false, false, true, true, true, false, false, false]) (by kernel_rfl) (by kernel_rfl) ?_
                        refine at_runW 1 [⟨true, [], vS (Instr.indexAt 34 (.slice g6 4 4) (.int .i64 d1)), .pointer (some (sAddr g6 d1))⟩] [some (.pointer (some (sAddr g6 d1)))] [1, 2, 6, 7, 8, 9, 10, 11, 39, 40, 45] [pl 1 (.int .i64 k1), pl 2 (.pointer (some ⟨g4, 0, none⟩)), pl 6 (.slice A2 (Int.toNat (g3.length : Int)) c2), pl 7 (.bool one5), pl 8 (.bool two5), pl 9 (.int .i64 y1), pl 10 (.int .i64 x1), pl 11 (.int .i64 d1), pl 39 (.slice g5 4 4), pl 40 (.int .i64 d1), pl 45 (.pointer (some (sAddr g6 d1)))] hF hS (by kernel_rfl) (by kernel_rfl) ?_ (fun a hF => ?_)
                        · exact obs_cons (ob_ix1 (f := (Value.int .i64)) (m := ([0, 1, 1, (-1)] : List Int)) Und34 hi3 hs3 (hS.at_ 1 rfl).rd ((hS.at_ 1 rfl).len1) (fun _ => hp3)) <| obs_nil
                        refine any_finI rfl (fun h => h) ?_
                        refine any_step [2, 7] (by kernel_rfl) rfl ?_
                        refine (all_cons ?_ (all_cons ?_ all_nil))
                        · refine any_op (listed' := #[true, true, true, false, true, true, true, false, false, false]) (by kernel_rfl) (by kernel_rfl) ?_
                          refine at_runW 1 [⟨true, [], vS (Instr.indexAt 34 (.slice g5 4 4) (.int .i64 d1)), .pointer (some (sAddr g5 d1))⟩] [some (.pointer (some (sAddr g5 d1)))] [1, 2, 6, 7, 8, 9, 10, 11, 41, 45] [pl 1 (.int .i64 k1), pl 2 (.pointer (some ⟨g4, 0, none⟩)), pl 6 (.slice A2 (Int.toNat (g3.length : Int)) c2), pl 7 (.bool one5), pl 8 (.bool two5), pl 9 (.int .i64 y1), pl 10 (.int .i64 x1), pl 11 (.int .i64 d1), pl 41 (.pointer (some (sAddr g5 d1))), pl 45 (.pointer (some (sAddr g6 d1)))] hF hS (by kernel_rfl) (by kernel_rfl) ?_ (fun a hF => ?_)
                          · exact obs_cons (ob_ix1 (f := (Value.int .i64)) (m := ([1, 0, 1, 1] : List Int)) Und34 hi3 hs3 (hS.at_ 0 rfl).rd ((hS.at_ 0 rfl).len1) (fun _ => hp2)) <| obs_nil
                          refine any_finI rfl (fun h => h) ?_
                          refine any_step [3, 7] (by kernel_rfl) rfl ?_
                          refine (all_cons ?_ (all_cons ?_ all_nil))
                          · refine any_op (listed' := #[true, true, true, true, true, true, true, false, false, false]) (by kernel_rfl) (by kernel_rfl) ?_
                            refine at_runW 1 [⟨false, [], vS (Instr.loadAt 3 (.pointer (some (sAddr g5 d1)))), .int .i64 (geti ([1, 0, 1, 1] : List Int) d1)⟩] [some (.int .i64 (geti ([1, 0, 1, 1] : List Int) d1))] [1, 2, 6, 7, 8, 9, 10, 11, 42, 45] [pl 1 (.int .i64 k1), pl 2 (.pointer (some ⟨g4, 0, none⟩)), pl 6 (.slice A2 (Int.toNat (g3.length : Int)) c2), pl 7 (.bool one5), pl 8 (.bool two5), pl 9 (.int .i64 y1), pl 10 (.int .i64 x1), pl 11 (.int .i64 d1), pl 42 (.int .i64 (geti ([1, 0, 1, 1] : List Int) d1)), pl 45 (.pointer (some (sAddr g6 d1)))] hF hS (by kernel_rfl) (by kernel_rfl) ?_ (fun a hF => ?_)
                            · exact obs_cons (ob_get1 (n := 4) (m := ([1, 0, 1, 1] : List Int)) (Value.int .i64) (0 : Int) Agg3 (fun _ hS => ⟨_, (hS.at_ 0 rfl).rd⟩) (fun _ hS => ((hS.at_ 0 rfl).len1)) (fun _ => hp2)) <| obs_nil
                            refine any_finI rfl (fun h => h) ?_
                            refine any_step [7, 8] (by kernel_rfl) rfl ?_
                            refine (all_cons ?_ (all_cons ?_ all_nil))
                            · refine any_op (listed' := #[true, true, true, true, true, true, true, true, false, false]) (by kernel_rfl) (by kernel_rfl) ?_
                              refine at_runW 1 [⟨false, [], vS (Instr.loadAt 3 (.pointer (some (sAddr g6 d1)))), .int .i64 (geti ([0, 1, 1, (-1)] : List Int) d1)⟩] [some (.int .i64 (geti ([0, 1, 1, (-1)] : List Int) d1))] [1, 2, 6, 7, 8, 9, 10, 11, 42, 46] [pl 1 (.int .i64 k1), pl 2 (.pointer (some ⟨g4, 0, none⟩)), pl 6 (.slice A2 (Int.toNat (g3.length : Int)) c2), pl 7 (.bool one5), pl 8 (.bool two5), pl 9 (.int .i64 y1), pl 10 (.int .i64 x1), pl 11 (.int .i64 d1), pl 42 (.int .i64 (geti ([1, 0, 1, 1] : List Int) d1)), pl 46 (.int .i64 (geti ([0, 1, 1, (-1)] : List Int) d1))] hF hS (by kernel_rfl) (by kernel_rfl) ?_ (fun a hF => ?_)
                              · exact obs_cons (ob_get1 (n := 4) (m := ([0, 1, 1, (-1)] : List Int)) (Value.int .i64) (0 : Int) Agg3 (fun _ hS => ⟨_, (hS.at_ 1 rfl).rd⟩) (fun _ hS => ((hS.at_ 1 rfl).len1)) (fun _ => hp3)) <| obs_nil
                              refine any_finI rfl (fun h => h) ?_
                              refine any_step [8] (by kernel_rfl) rfl ?_
                              refine (all_cons ?_ all_nil)
                              · refine any_op (listed' := #[true, true, true, true, true, true, true, true, true, false]) (by kernel_rfl) (by kernel_rfl) ?_
                                refine at_runW 1 [] [] [1, 2, 6, 7, 8, 9, 10, 11, 12, 46] [pl 1 (.int .i64 k1), pl 2 (.pointer (some ⟨g4, 0, none⟩)), pl 6 (.slice A2 (Int.toNat (g3.length : Int)) c2), pl 7 (.bool one5), pl 8 (.bool two5), pl 9 (.int .i64 y1), pl 10 (.int .i64 x1), pl 11 (.int .i64 d1), pl 12 (.int .i64 (geti ([1, 0, 1, 1] : List Int) d1)), pl 46 (.int .i64 (geti ([0, 1, 1, (-1)] : List Int) d1))] hF hS (by kernel_rfl) (by kernel_rfl) ?_ (fun a hF => ?_)
                                · exact obs_nil
                                refine any_finI rfl (fun h => h) ?_
                                refine any_step [9] (by kernel_rfl) rfl ?_
                                refine (all_cons ?_ all_nil)
                                · refine any_op (listed' := #[true, true, true, true, true, true, true, true, true, true]) (by kernel_rfl) (by kernel_rfl) ?_
                                  refine at_runW 1 [] [] [1, 2, 6, 7, 8, 9, 10, 11, 12, 13] [pl 1 (.int .i64 k1), pl 2 (.pointer (some ⟨g4, 0, none⟩)), pl 6 (.slice A2 (Int.toNat (g3.length : Int)) c2), pl 7 (.bool one5), pl 8 (.bool two5), pl 9 (.int .i64 y1), pl 10 (.int .i64 x1), pl 11 (.int .i64 d1), pl 12 (.int .i64 (geti ([1, 0, 1, 1] : List Int) d1)), pl 13 (.int .i64 (geti ([0, 1, 1, (-1)] : List Int) d1))] hF hS (by kernel_rfl) (by kernel_rfl) ?_ (fun a hF => ?_)
                                  · exact obs_nil
                                  refine any_finI rfl (fun h => h) ?_
                                  refine any_end (by kernel_rfl) ?_
                                  refine np_n ?_
                                  refine then_n ?_
                                  have hS := hS.pickN 4 [2, 3] (by decide)
                                  exact ⟨hF.weak [1, 2, 6, 7, 8, 9, 10, 11, 12, 13] (by kernel_rfl), hS, hm⟩
                            · refine any_op (listed' := #[true, true, true, true, true, true, true, false, true, false]) (by kernel_rfl) (by kernel_rfl) ?_
                              refine at_runW 1 [] [] [1, 2, 6, 7, 8, 9, 10, 11, 12, 45] [pl 1 (.int .i64 k1), pl 2 (.pointer (some ⟨g4, 0, none⟩)), pl 6 (.slice A2 (Int.toNat (g3.length : Int)) c2), pl 7 (.bool one5), pl 8 (.bool two5), pl 9 (.int .i64 y1), pl 10 (.int .i64 x1), pl 11 (.int .i64 d1), pl 12 (.int .i64 (geti ([1, 0, 1, 1] : List Int) d1)), pl 45 (.pointer (some (sAddr g6 d1)))] hF hS (by kernel_rfl) (by kernel_rfl) ?_ (fun a hF => ?_)
                              · exact obs_nil
                              refine any_finI rfl (fun h => h) ?_
                              refine any_step [7] (by kernel_rfl) rfl ?_
                              refine (all_cons ?_ all_nil)
                              · refine any_op (listed' := #[true, true, true, true, true, true, true, true, true, false]) (by kernel_rfl) (by kernel_rfl) ?_
                                refine at_runW 1 [⟨false, [], vS (Instr.loadAt 3 (.pointer (some (sAddr g6 d1)))), .int .i64 (geti ([0, 1, 1, (-1)] : List Int) d1)⟩] [some (.int .i64 (geti ([0, 1, 1, (-1)] : List Int) d1))] [1, 2, 6, 7, 8, 9, 10, 11, 12, 46] [pl 1 (.int .i64 k1), pl 2 (.pointer (some ⟨g4, 0, none⟩)), pl 6 (.slice A2 (Int.toNat (g3.length : Int)) c2), pl 7 (.bool one5), pl 8 (.bool two5), pl 9 (.int .i64 y1), pl 10 (.int .i64 x1), pl 11 (.int .i64 d1), pl 12 (.int .i64 (geti ([1, 0, 1, 1] : List Int) d1)), pl 46 (.int .i64 (geti ([0, 1, 1, (-1)] : List Int) d1))] hF hS (by kernel_rfl) (by kernel_rfl) ?_ (fun a hF => ?_)
                                · exact obs_cons (ob_get1 (n := 4) (m := ([0, 1, 1, (-1)] : List Int)) (Value.int .i64) (0 : Int) Agg3 (fun _ hS => ⟨_, (hS.at_ 1 rfl).rd⟩) (fun _ hS => ((hS.at_ 1 rfl).len1)) (fun _ => hp3)) <| obs_nil
                                refine any_finI rfl (fun h => h) ?_
                                refine any_step [9] (by kernel_rfl) rfl ?_
                                refine (all_cons ?_ all_nil)
                                · refine any_op (listed' := #[true, true, true, true, true, true, true, true, true, true]) (by kernel_rfl) (by kernel_rfl) ?_
                                  refine at_runW 1 [] [] [1, 2, 6, 7, 8, 9, 10, 11, 12, 13] [pl 1 (.int .i64 k1), pl 2 (.pointer (some ⟨g4, 0, none⟩)), pl 6 (.slice A2 (Int.toNat (g3.length : Int)) c2), pl 7 (.bool one5), pl 8 (.bool two5), pl 9 (.int .i64 y1), pl 10 (.int .i64 x1), pl 11 (.int .i64 d1), pl 12 (.int .i64 (geti ([1, 0, 1, 1] : List Int) d1)), pl 13 (.int .i64 (geti ([0, 1, 1, (-1)] : List Int) d1))] hF hS (by kernel_rfl) (by kernel_rfl) ?_ (fun a hF => ?_)
                                  · exact obs_nil
                                  refine any_finI rfl (fun h => h) ?_
                                  refine any_end (by kernel_rfl) ?_
                                  refine np_n ?_
                                  refine then_n ?_
                                  have hS := hS.pickN 4 [2, 3] (by decide)
                                  exact ⟨hF.weak [1, 2, 6, 7, 8, 9, 10, 11, 12, 13] (by kernel_rfl), hS, hm⟩
                          · refine any_op (listed' := #[true, true, true, false, true, true, true, true, false, false]) (by kernel_rfl) (by kernel_rfl) ?_
                            refine at_runW 1 [⟨false, [], vS (Instr.loadAt 3 (.pointer (some (sAddr g6 d1)))), .int .i64 (geti ([0, 1, 1, (-1)] : List Int) d1)⟩] [some (.int .i64 (geti ([0, 1, 1, (-1)] : List Int) d1))] [1, 2, 6, 7, 8, 9, 10, 11, 41, 46] [pl 1 (.int .i64 k1), pl 2 (.pointer (some ⟨g4, 0, none⟩)), pl 6 (.slice A2 (Int.toNat (g3.length : Int)) c2), pl 7 (.bool one5), pl 8 (.bool two5), pl 9 (.int .i64 y1), pl 10 (.int .i64 x1), pl 11 (.int .i64 d1), pl 41 (.pointer (some (sAddr g5 d1))), pl 46 (.int .i64 (geti ([0, 1, 1, (-1)] : List Int) d1))] hF hS (by kernel_rfl) (by kernel_rfl) ?_ (fun a hF => ?_)
                            · exact obs_cons (ob_get1 (n := 4) (m := ([0, 1, 1, (-1)] : List Int)) (Value.int .i64) (0 : Int) Agg3 (fun _ hS => ⟨_, (hS.at_ 1 rfl).rd⟩) (fun _ hS => ((hS.at_ 1 rfl).len1)) (fun _ => hp3)) <| obs_nil
                            refine any_finI rfl (fun h => h) ?_
                            refine any_step [3] (by kernel_rfl) rfl ?_
                            refine (all_cons ?_ all_nil)
                            · refine any_op (listed' := #[true, true, true, true, true, true, true, true, false, false]) (by kernel_rfl) (by kernel_rfl) ?_
                              refine at_runW 1 [⟨false, [], vS (Instr.loadAt 3 (.pointer (some (sAddr g5 d1)))), .int .i64 (geti ([1, 0, 1, 1] : List Int) d1)⟩] [some (.int .i64 (geti ([1, 0, 1, 1] : List Int) d1))] [1, 2, 6, 7, 8, 9, 10, 11, 42, 46] [pl 1 (.int .i64 k1), pl 2 (.pointer (some ⟨g4, 0, none⟩)), pl 6 (.slice A2 (Int.toNat (g3.length : Int)) c2), pl 7 (.bool one5), pl 8 (.bool two5), pl 9 (.int .i64 y1), pl 10 (.int .i64 x1), pl 11 (.int .i64 d1), pl 42 (.int .i64 (geti ([1, 0, 1, 1] : List Int) d1)), pl 46 (.int .i64 (geti ([0, 1, 1, (-1)] : List Int) d1))] hF hS (by kernel_rfl) (by kernel_rfl) ?_ (fun a hF => ?_)
                              · exact obs_cons (ob_get1 (n := 4) (m := ([1, 0, 1, 1] : List Int)) (Value.int .i64) (0 : Int) Agg3 (fun _ hS => ⟨_, (hS.at_ 0 rfl).rd⟩) (fun _ hS => ((hS.at_ 0 rfl).len1)) (fun _ => hp2)) <| obs_nil
                              refine any_finI rfl (fun h => h) ?_
                              refine any_step [8] (by kernel_rfl) rfl ?_
                              refine (all_cons ?_ all_nil)
                              · refine any_op (listed' := #[true, true, true, true, true, true, true, true, true, false]) (by kernel_rfl) (by kernel_rfl) ?_
                                refine at_runW 1 [] [] [1, 2, 6, 7, 8, 9, 10, 11, 12, 46] [pl 1 (.int .i64 k1), pl 2 (.pointer (some ⟨g4, 0, none⟩)), pl 6 (.slice A2 (Int.toNat (g3.length : Int)) c2), pl 7 (.bool one5), pl 8 (.bool two5), pl 9 (.int .i64 y1), pl 10 (.int .i64 x1), pl 11 (.int .i64 d1), pl 12 (.int .i64 (geti ([1, 0, 1, 1] : List Int) d1)), pl 46 (.int .i64 (geti ([0, 1, 1, (-1)] : List Int) d1))] hF hS (by kernel_rfl) (by kernel_rfl) ?_ (fun a hF => ?_)
                                · exact obs_nil
                                refine any_finI rfl (fun h => h) ?_
                                refine any_step [9] (by kernel_rfl) rfl ?_
                                refine (all_cons ?_ all_nil)
                                · refine any_op (listed' := #[true, true, true, true, true, true, true, true, true, true]) (by kernel_rfl) (by kernel_rfl) ?_
                                  refine at_runW 1 [] [] [1, 2, 6, 7, 8, 9, 10, 11, 12, 13] [pl 1 (.int .i64 k1), pl 2 (.pointer (some ⟨g4, 0, none⟩)), pl 6 (.slice A2 (Int.toNat (g3.length : Int)) c2), pl 7 (.bool one5), pl 8 (.bool two5), pl 9 (.int .i64 y1), pl 10 (.int .i64 x1), pl 11 (.int .i64 d1), pl 12 (.int .i64 (geti ([1, 0, 1, 1] : List Int) d1)), pl 13 (.int .i64 (geti ([0, 1, 1, (-1)] : List Int) d1))] hF hS (by kernel_rfl) (by kernel_rfl) ?_ (fun a hF => ?_)
                                  · exact obs_nil
                                  refine any_finI rfl (fun h => h) ?_
                                  refine any_end (by kernel_rfl) ?_
                                  refine np_n ?_
                                  refine then_n ?_
                                  have hS := hS.pickN 4 [2, 3] (by decide)
                                  exact ⟨hF.weak [1, 2, 6, 7, 8, 9, 10, 11, 12, 13] (by kernel_rfl), hS, hm⟩
                        · refine any_op (listed' := #[true, true, false, false, true, true, true, true, false, false]) (by kernel_rfl) (by kernel_rfl) ?_
                          refine at_runW 1 [⟨false, [], vS (Instr.loadAt 3 (.pointer (some (sAddr g6 d1)))), .int .i64 (geti ([0, 1, 1, (-1)] : List Int) d1)⟩] [some (.int .i64 (geti ([0, 1, 1, (-1)] : List Int) d1))] [1, 2, 6, 7, 8, 9, 10, 11, 39, 40, 46] [pl 1 (.int .i64 k1), pl 2 (.pointer (some ⟨g4, 0, none⟩)), pl 6 (.slice A2 (Int.toNat (g3.length : Int)) c2), pl 7 (.bool one5), pl 8 (.bool two5), pl 9 (.int .i64 y1), pl 10 (.int .i64 x1), pl 11 (.int .i64 d1), pl 39 (.slice g5 4 4), pl 40 (.int .i64 d1), pl 46 (.int .i64 (geti ([0, 1, 1, (-1)] : List Int) d1))] hF hS (by kernel_rfl) (by kernel_rfl) ?_ (fun a hF => ?_)
                          · exact obs_cons (ob_get1 (n := 4) (m := ([0, 1, 1, (-1)] : List Int)) (Value.int .i64) (0 : Int) Agg3 (fun _ hS => ⟨_, (hS.at_ 1 rfl).rd⟩) (fun _ hS => ((hS.at_ 1 rfl).len1)) (fun _ => hp3)) <| obs_nil
                          refine any_finI rfl (fun h => h) ?_
                          refine any_step [2] (by kernel_rfl) rfl ?_
                          refine (all_cons ?_ all_nil)
                          · refine any_op (listed' := #[true, true, true, false, true, true, true, true, false, false]) (by kernel_rfl) (by kernel_rfl) ?_
                            refine at_runW 1 [⟨true, [], vS (Instr.indexAt 34 (.slice g5 4 4) (.int .i64 d1)), .pointer (some (sAddr g5 d1))⟩] [some (.pointer (some (sAddr g5 d1)))] [1, 2, 6, 7, 8, 9, 10, 11, 41, 46] [pl 1 (.int .i64 k1), pl 2 (.pointer (some ⟨g4, 0, none⟩)), pl 6 (.slice A2 (Int.toNat (g3.length : Int)) c2), pl 7 (.bool one5), pl 8 (.bool two5), pl 9 (.int .i64 y1), pl 10 (.int .i64 x1), pl 11 (.int .i64 d1), pl 41 (.pointer (some (sAddr g5 d1))), pl 46 (.int .i64 (geti ([0, 1, 1, (-1)] : List Int) d1))] hF hS (by kernel_rfl) (by kernel_rfl) ?_ (fun a hF => ?_)
                            · exact obs_cons (ob_ix1 (f := (Value.int .i64)) (m := ([1, 0, 1, 1] : List Int)) Und34 hi3 hs3 (hS.at_ 0 rfl).rd ((hS.at_ 0 rfl).len1) (fun _ => hp2)) <| obs_nil
                            refine any_finI rfl (fun h => h) ?_
                            refine any_step [3] (by kernel_rfl) rfl ?_
                            refine (all_cons ?_ all_nil)
                            · refine any_op (listed' := #[true, true, true, true, true, true, true, true, false, false]) (by kernel_rfl) (by kernel_rfl) ?_
                              refine at_runW 1 [⟨false, [], vS (Instr.loadAt 3 (.pointer (some (sAddr g5 d1)))), .int .i64 (geti ([1, 0, 1, 1] : List Int) d1)⟩] [some (.int .i64 (geti ([1, 0, 1, 1] : List Int) d1))] [1, 2, 6, 7, 8, 9, 10, 11, 42, 46] [pl 1 (.int .i64 k1), pl 2 (.pointer (some ⟨g4, 0, none⟩)), pl 6 (.slice A2 (Int.toNat (g3.length : Int)) c2), pl 7 (.bool one5), pl 8 (.bool two5), pl 9 (.int .i64 y1), pl 10 (.int .i64 x1), pl 11 (.int .i64 d1), pl 42 (.int .i64 (geti ([1, 0, 1, 1] : List Int) d1)), pl 46 (.int .i64 (geti ([0, 1, 1, (-1)] : List Int) d1))] hF hS (by kernel_rfl) (by kernel_rfl) ?_ (fun a hF => ?_)
                              · exact obs_cons (ob_get1 (n := 4) (m := ([1, 0, 1, 1] : List Int)) (Value.int .i64) (0 : Int) Agg3 (fun _ hS => ⟨_, (hS.at_ 0 rfl).rd⟩) (fun _ hS => ((hS.at_ 0 rfl).len1)) (fun _ => hp2)) <| obs_nil
                              refine any_finI rfl (fun h => h) ?_
                              refine any_step [8] (by kernel_rfl) rfl ?_
                              refine (all_cons ?_ all_nil)
                              · refine any_op (listed' := #[true, true, true, true, true, true, true, true, true, false]) (by kernel_rfl) (by kernel_rfl) ?_
                                refine at_runW 1 [] [] [1, 2, 6, 7, 8, 9, 10, 11, 12, 46] [pl 1 (.int .i64 k1), pl 2 (.pointer (some ⟨g4, 0, none⟩)), pl 6 (.slice A2 (Int.toNat (g3.length : Int)) c2), pl 7 (.bool one5), pl 8 (.bool two5), pl 9 (.int .i64 y1), pl 10 (.int .i64 x1), pl 11 (.int .i64 d1), pl 12 (.int .i64 (geti ([1, 0, 1, 1] : List Int) d1)), pl 46 (.int .i64 (geti ([0, 1, 1, (-1)] : List Int) d1))] hF hS (by kernel_rfl) (by kernel_rfl) ?_ (fun a hF => ?_)
                                · exact obs_nil
                                refine any_finI rfl (fun h => h) ?_
                                refine any_step [9] (by kernel_rfl) rfl ?_
                                refine (all_cons ?_ all_nil)
                                · refine any_op (listed' := #[true, true, true, true, true, true, true, true, true, true]) (by kernel_rfl) (by kernel_rfl) ?_
                                  refine at_runW 1 [] [] [1, 2, 6, 7, 8, 9, 10, 11, 12, 13] [pl 1 (.int .i64 k1), pl 2 (.pointer (some ⟨g4, 0, none⟩)), pl 6 (.slice A2 (Int.toNat (g3.length : Int)) c2), pl 7 (.bool one5), pl 8 (.bool two5), pl 9 (.int .i64 y1), pl 10 (.int .i64 x1), pl 11 (.int .i64 d1), pl 12 (.int .i64 (geti ([1, 0, 1, 1] : List Int) d1)), pl 13 (.int .i64 (geti ([0, 1, 1, (-1)] : List Int) d1))] hF hS (by kernel_rfl) (by kernel_rfl) ?_ (fun a hF => ?_)
                                  · exact obs_nil
                                  refine any_finI rfl (fun h => h) ?_
                                  refine any_end (by kernel_rfl) ?_
                                  refine np_n ?_
                                  refine then_n ?_
                                  have hS := hS.pickN 4 [2, 3] (by decide)
                                  exact ⟨hF.weak [1, 2, 6, 7, 8, 9, 10, 11, 12, 13] (by kernel_rfl), hS, hm⟩
                    · refine any_op (listed' := #[false, true, false, false, true, true, true, false, false, false]) (by kernel_rfl) (by kernel_rfl) ?_
                      refine at_runW 1 [⟨true, [], vS (Instr.indexAt 34 (.slice g6 4 4) (.int .i64 d1)), .pointer (some (sAddr g6 d1))⟩] [some (.pointer (some (sAddr g6 d1)))] [1, 2, 6, 7, 8, 9, 10, 11, 40, 45] [pl 1 (.int .i64 k1), pl 2 (.pointer (some ⟨g4, 0, none⟩)), pl 6 (.slice A2 (Int.toNat (g3.length : Int)) c2), pl 7 (.bool one5), pl 8 (.bool two5), pl 9 (.int .i64 y1), pl 10 (.int .i64 x1), pl 11 (.int .i64 d1), pl 40 (.int .i64 d1), pl 45 (.pointer (some (sAddr g6 d1)))] hF hS (by kernel_rfl) (by kernel_rfl) ?_ (fun a hF => ?_)
                      · exact obs_cons (ob_ix1 (f := (Value.int .i64)) (m := ([0, 1, 1, (-1)] : List Int)) Und34 hi3 hs3 (hS.at_ 0 rfl).rd ((hS.at_ 0 rfl).len1) (fun _ => hp3)) <| obs_nil
                      refine any_finI rfl (fun h => h) ?_
                      refine any_step [0, 7] (by kernel_rfl) rfl ?_
                      refine (all_cons ?_ (all_cons ?_ all_nil))
                      · refine any_op (listed' := #[true, true, false, false, true, true, true, false, false, false]) (by kernel_rfl) (by kernel_rfl) ?_
                        refine at_do (d := 39) (s := vS (Instr.buildSlice 34 4 #[(0, .int .i64 1), (1, .int .i64 0), (2, .int .i64 1), (3, .int .i64 1)])) (v := .slice (some ⟨w.heap.size, 0, none⟩) 4 4) (w' := w.alloc (.cells #[.int .i64 1, .int .i64 0, .int .i64 1, .int .i64 1] 3)) hF (by kernel_rfl) (by kernel_rfl) (by kernel_rfl) (fun a hF => ?_)
                        have hS : Sep w0 B (w.alloc (.cells #[.int .i64 1, .int .i64 0, .int .i64 1, .int .i64 1] 3)) (own 3 (.slice (some (⟨w.heap.size, 0, none⟩ : Addr)) 4 4) (vI ([1, 0, 1, 1] : List Int)) :: (own 3 (.slice g6 4 4) (vI ([0, 1, 1, (-1)] : List Int)) :: blk g4 93 #[.int .i64 g1, .int .i64 g2, .slice A1 g3.length c1] :: own 4 (.slice A2 (Int.toNat (g3.length : Int)) c2) (vB in5) :: fs)) := hS.lit 3 #[.int .i64 1, .int .i64 0, .int .i64 1, .int .i64 1] 4 rfl (by omega)
                        generalize (some (⟨w.heap.size, 0, none⟩ : Addr)) = g5 at hF hS
                        generalize w.alloc (.cells #[.int .i64 1, .int .i64 0, .int .i64 1, .int .i64 1] 3) = w at hS ⊢
                        refine any_fin rfl (hS.pickN 4 [2, 3] (by decide)) ?_
                        refine any_step [2, 7] (by kernel_rfl) rfl ?_
                        refine (all_cons ?_ (all_cons ?_ all_nil))
                        · refine any_op (listed' := #[true, true, true, false, true, true, true, false, false, false]) (by kernel_rfl) (by kernel_rfl) ?_
                          refine at_runW 1 [⟨true, [], vS (Instr.indexAt 34 (.slice g5 4 4) (.int .i64 d1)), .pointer (some (sAddr g5 d1))⟩] [some (.pointer (some (sAddr g5 d1)))] [1, 2, 6, 7, 8, 9, 10, 11, 41, 45] [pl 1 (.int .i64 k1), pl 2 (.pointer (some ⟨g4, 0, none⟩)), pl 6 (.slice A2 (Int.toNat (g3.length : Int)) c2), pl 7 (.bool one5), pl 8 (.bool two5), pl 9 (.int .i64 y1), pl 10 (.int .i64 x1), pl 11 (.int .i64 d1), pl 41 (.pointer (some (sAddr g5 d1))), pl 45 (.pointer (some (sAddr g6 d1)))] hF hS (by kernel_rfl) (by kernel_rfl) ?_ (fun a hF => ?_)
                          · exact obs_cons (ob_ix1 (f := (Value.int .i64)) (m := ([1, 0, 1, 1] : List Int)) Und34 hi3 hs3 (hS.at_ 0 rfl).rd ((hS.at_ 0 rfl).len1) (fun _ => hp2)) <| obs_nil
                          refine any_finI rfl (fun h => h) ?_
                          refine any_step [3, 7] (by kernel_rfl) rfl ?_
                          refine (all_cons ?_ (all_cons ?_ all_nil))
                          · refine any_op (listed' := #[true, true, true, true, true, true, true, false, false, false]) (by kernel_rfl) (by kernel_rfl) ?_
                            refine at_runW 1 [⟨false, [], vS (Instr.loadAt 3 (.pointer (some (sAddr g5 d1)))), .int .i64 (geti ([1, 0, 1, 1] : List Int) d1)⟩] [some (.int .i64 (geti ([1, 0, 1, 1] : List Int) d1))] [1, 2, 6, 7, 8, 9, 10, 11, 42, 45] [pl 1 (.int .i64 k1), pl 2 (.pointer (some ⟨g4, 0, none⟩)), pl 6 (.slice A2 (Int.toNat (g3.length : Int)) c2), pl 7 (.bool one5), pl 8 (.bool two5), pl 9 (.int .i64 y1), pl 10 (.int .i64 x1), pl 11 (.int .i64 d1), pl 42 (.int .i64 (geti ([1, 0, 1, 1] : List Int) d1)), pl 45 (.pointer (some (sAddr g6 d1)))] hF hS (by kernel_rfl) (by kernel_rfl) ?_ (fun a hF => ?_)
                            · exact obs_cons (ob_get1 (n := 4) (m := ([1, 0, 1, 1] : List Int)) (Value.int .i64) (0 : Int) Agg3 (fun _ hS => ⟨_, (hS.at_ 0 rfl).rd⟩) (fun _ hS => ((hS.at_ 0 rfl).len1)) (fun _ => hp2)) <| obs_nil
                            refine any_finI rfl (fun h => h) ?_
                            refine any_step [7, 8] (by kernel_rfl) rfl ?_
                            refine (all_cons ?_ (all_cons ?_ all_nil))
                            · refine any_op (listed' := #[true, true, true, true, true, true, true, true, false, false]) (by kernel_rfl) (by kernel_rfl) ?_
                              refine at_runW 1 [⟨false, [], vS (Instr.loadAt 3 (.pointer (some (sAddr g6 d1)))), .int .i64 (geti ([0, 1, 1, (-1)] : List Int) d1)⟩] [some (.int .i64 (geti ([0, 1, 1, (-1)] : List Int) d1))] [1, 2, 6, 7, 8, 9, 10, 11, 42, 46] [pl 1 (.int .i64 k1), pl 2 (.pointer (some ⟨g4, 0, none⟩)), pl 6 (.slice A2 (Int.toNat (g3.length : Int)) c2), pl 7 (.bool one5), pl 8 (.bool two5), pl 9 (.int .i64 y1), pl 10 (.int .i64 x1), pl 11 (.int .i64 d1), pl 42 (.int .i64 (geti ([1, 0, 1, 1] : List Int) d1)), pl 46 (.int .i64 (geti ([0, 1, 1, (-1)] : List Int) d1))] hF hS (by kernel_rfl) (by kernel_rfl) ?_ (fun a hF => ?_)
                              · exact obs_cons (ob_get1 (n := 4) (m := ([0, 1, 1, (-1)] : List Int)) (Value.int .i64) (0 : Int) Agg3 (fun _ hS => ⟨_, (hS.at_ 1 rfl).rd⟩) (fun _ hS => ((hS.at_ 1 rfl).len1)) (fun _ => hp3)) <| obs_nil
                              refine any_finI rfl (fun h => h) ?_
                              refine any_step [8] (by kernel_rfl) rfl ?_
                              refine (all_cons ?_ all_nil)
                              · refine any_op (listed' := #[true, true, true, true, true, true, true, true, true, false]) (by kernel_rfl) (by kernel_rfl) ?_
                                refine at_runW 1 [] [] [1, 2, 6, 7, 8, 9, 10, 11, 12, 46] [pl 1 (.int .i64 k1), pl 2 (.pointer (some ⟨g4, 0, none⟩)), pl 6 (.slice A2 (Int.toNat (g3.length : Int)) c2), pl 7 (.bool one5), pl 8 (.bool two5), pl 9 (.int .i64 y1), pl 10 (.int .i64 x1), pl 11 (.int .i64 d1), pl 12 (.int .i64 (geti ([1, 0, 1, 1] : List Int) d1)), pl 46 (.int .i64 (geti ([0, 1, 1, (-1)] : List Int) d1))] hF hS (by kernel_rfl) (by kernel_rfl) ?_ (fun a hF => ?_)
                                · exact obs_nil
                                refine any_finI rfl (fun h => h) ?_
                                refine any_step [9] (by kernel_rfl) rfl ?_
                                refine (all_cons ?_ all_nil)
                                · refine any_op (listed' := #[true, true, true, true, true, true, true, true, true, true]) (by kernel_rfl) (by kernel_rfl) ?_
                                  refine at_runW 1 [] [] [1, 2, 6, 7, 8, 9, 10, 11, 12, 13] [pl 1 (.int .i64 k1), pl 2 (.pointer (some ⟨g4, 0, none⟩)), pl 6 (.slice A2 (Int.toNat (g3.length : Int)) c2), pl 7 (.bool one5), pl 8 (.bool two5), pl 9 (.int .i64 y1), pl 10 (.int .i64 x1), pl 11 (.int .i64 d1), pl 12 (.int .i64 (geti ([1, 0, 1, 1] : List Int) d1)), pl 13 (.int .i64 (geti ([0, 1, 1, (-1)] : List Int) d1))] hF hS (by kernel_rfl) (by kernel_rfl) ?_ (fun a hF => ?_)
                                  · exact obs_nil
                                  refine any_finI rfl (fun h => h) ?_
                                  refine any_end (by kernel_rfl) ?_
                                  refine np_n ?_
                                  refine then_n ?_
                                  have hS := hS.pickN 4 [2, 3] (by decide)
                                  exact ⟨hF.weak [1, 2, 6, 7, 8, 9, 10, 11, 12, 13] (by kernel_rfl), hS, hm⟩
                            · refine any_op (listed' := #[true, true, true, true, true, true, true, false, true, false]) (by kernel_rfl) (by kernel_rfl) ?_
                              refine at_runW 1 [] [] [1, 2, 6, 7, 8, 9, 10, 11, 12, 45] [pl 1 (.int .i64 k1), pl 2 (.pointer (some ⟨g4, 0, none⟩)), pl 6 (.slice A2 (Int.toNat (g3.length : Int)) c2), pl 7 (.bool one5), pl 8 (.bool two5), pl 9 (.int .i64 y1), pl 10 (.int .i64 x1), pl 11 (.int .i64 d1), pl 12 (.int .i64 (geti ([1, 0, 1, 1] : List Int) d1)), pl 45 (.pointer (some (sAddr g6 d1)))] hF hS (by kernel_rfl) (by kernel_rfl) ?_ (fun a hF => ?_)
                              · exact obs_nil
                              refine any_finI rfl (fun h => h) ?_
                              refine any_step [7] (by kernel_rfl) rfl ?_
                              refine (all_cons ?_ all_nil)
                              · refine any_op (listed' := #[true, true, true, true, true, true, true, true, true, false]) (by kernel_rfl) (by kernel_rfl) ?_
                                refine at_runW 1 [⟨false, [], vS (Instr.loadAt 3 (.pointer (some (sAddr g6 d1)))), .int .i64 (geti ([0, 1, 1, (-1)] : List Int) d1)⟩] [some (.int .i64 (geti ([0, 1, 1, (-1)] : List Int) d1))] [1, 2, 6, 7, 8, 9, 10, 11, 12, 46] [pl 1 (.int .i64 k1), pl 2 (.pointer (some ⟨g4, 0, none⟩)), pl 6 (.slice A2 (Int.toNat (g3.length : Int)) c2), pl 7 (.bool one5), pl 8 (.bool two5), pl 9 (.int .i64 y1), pl 10 (.int .i64 x1), pl 11 (.int .i64 d1), pl 12 (.int .i64 (geti ([1, 0, 1, 1] : List Int) d1)), pl 46 (.int .i64 (geti ([0, 1, 1, (-1)] : List Int) d1))] hF hS (by kernel_rfl) (by kernel_rfl) ?_ (fun a hF => ?_)
                                · exact obs_cons (ob_get1 (n := 4) (m := ([0, 1, 1, (-1)] : List Int)) (Value.int .i64) (0 : Int) Agg3 (fun _ hS => ⟨_, (hS.at_ 1 rfl).rd⟩) (fun _ hS => ((hS.at_ 1 rfl).len1)) (fun _ => hp3)) <| obs_nil
                                refine any_finI rfl (fun h => h) ?_
                                refine any_step [9] (by kernel_rfl) rfl ?_
                                refine (all_cons ?_ all_nil)
                                · refine any_op (listed' := #[true, true, true, true, true, true, true, true, true, true]) (by kernel_rfl) (by kernel_rfl) ?_
                                  refine at_runW 1 [] [] [1, 2, 6, 7, 8, 9, 10, 11, 12, 13] [pl 1 (.int .i64 k1), pl 2 (.pointer (some ⟨g4, 0, none⟩)), pl 6 (.slice A2 (Int.toNat (g3.length : Int)) c2), pl 7 (.bool one5), pl 8 (.bool two5), pl 9 (.int .i64 y1), pl 10 (.int .i64 x1), pl 11 (.int .i64 d1), pl 12 (.int .i64 (geti ([1, 0, 1, 1] : List Int) d1)), pl 13 (.int .i64 (geti ([0, 1, 1, (-1)] : List Int) d1))] hF hS (by kernel_rfl) (by kernel_rfl) ?_ (fun a hF => ?_)
                                  · exact obs_nil
                                  refine any_finI rfl (fun h => h) ?_
                                  refine any_end (by kernel_rfl) ?_
                                  refine np_n ?_
                                  refine then_n ?_
                                  have hS := hS.pickN 4 [2, 3] (by decide)
                                  exact ⟨hF.weak [1, 2, 6, 7, 8, 9, 10, 11, 12, 13] (by kernel_rfl), hS, hm⟩
                          · refine any_op (listed' := #[true, true, true, false, true, true, true, true, false, false]) (by kernel_rfl) (by kernel_rfl) ?_
                            refine at_runW 1 [⟨false, [], vS (Instr.loadAt 3 (.pointer (some (sAddr g6 d1)))), .int .i64 (geti ([0, 1, 1, (-1)] : List Int) d1)⟩] [some (.int .i64 (geti ([0, 1, 1, (-1)] : List Int) d1))] [1, 2, 6, 7, 8, 9, 10, 11, 41, 46] [pl 1 (.int .i64 k1), pl 2 (.pointer (some ⟨g4, 0, none⟩)), pl 6 (.slice A2 (Int.toNat (g3.length : Int)) c2), pl 7 (.bool one5), pl 8 (.bool two5), pl 9 (.int .i64 y1), pl 10 (.int .i64 x1), pl 11 (.int .i64 d1), pl 41 (.pointer (some (sAddr g5 d1))), pl 46 (.int .i64 (geti ([0, 1, 1, (-1)] : List Int) d1))] hF hS (by kernel_rfl) (by kernel_rfl) ?_ (fun a hF => ?_)
                            · exact obs_cons (ob_get1 (n := 4) (m := ([0, 1, 1, (-1)] : List Int)) (Value.int .i64) (0 : Int) Agg3 (fun _ hS => ⟨_, (hS.at_ 1 rfl).rd⟩) (fun _ hS => ((hS.at_ 1 rfl).len1)) (fun _ => hp3)) <| obs_nil
                            refine any_finI rfl (fun h => h) ?_
                            refine any_step [3] (by kernel_rfl) rfl ?_
                            refine (all_cons ?_ all_nil)
                            · refine any_op (listed' := #[true, true, true, true, true, true, true, true, false, false]) (by kernel_rfl) (by kernel_rfl) ?_
                              refine at_runW 1 [⟨false, [], vS (Instr.loadAt 3 (.pointer (some (sAddr g5 d1)))), .int .i64 (geti ([1, 0, 1, 1] : List Int) d1)⟩] [some (.int .i64 (geti ([1, 0, 1, 1] : List Int) d1))] [1, 2, 6, 7, 8, 9, 10, 11, 42, 46] [pl 1 (.int .i64 k1), pl 2 (.pointer (some ⟨g4, 0, none⟩)), pl 6 (.slice A2 (Int.toNat (g3.length : Int)) c2), pl 7 (.bool one5), pl 8 (.bool two5), pl 9 (.int .i64 y1), pl 10 (.int .i64 x1), pl 11 (.int .i64 d1), pl 42 (.int .i64 (geti ([1, 0, 1, 1] : List Int) d1)), pl 46 (.int .i64 (geti ([0, 1, 1, (-1)] : List Int) d1))] hF hS (by kernel_rfl) (by kernel_rfl) ?_ (fun a hF => ?_)
                              · exact obs_cons (ob_get1 (n := 4) (m := ([1, 0, 1, 1] : List Int)) (Value.int .i64) (0 : Int) Agg3 (fun _ hS => ⟨_, (hS.at_ 0 rfl).rd⟩) (fun _ hS => ((hS.at_ 0 rfl).len1)) (fun _ => hp2)) <| obs_nil
                              refine any_finI rfl (fun h => h) ?_
                              refine any_step [8] (by kernel_rfl) rfl ?_
                              refine (all_cons ?_ all_nil)
                              · refine any_op (listed' := #[true, true, true, true, true, true, true, true, true, false]) (by kernel_rfl) (by kernel_rfl) ?_
                                refine at_runW 1 [] [] [1, 2, 6, 7, 8, 9, 10, 11, 12, 46] [pl 1 (.int .i64 k1), pl 2 (.pointer (some ⟨g4, 0, none⟩)), pl 6 (.slice A2 (Int.toNat (g3.length : Int)) c2), pl 7 (.bool one5), pl 8 (.bool two5), pl 9 (.int .i64 y1), pl 10 (.int .i64 x1), pl 11 (.int .i64 d1), pl 12 (.int .i64 (geti ([1, 0, 1, 1] : List Int) d1)), pl 46 (.int .i64 (geti ([0, 1, 1, (-1)] : List Int) d1))] hF hS (by kernel_rfl) (by kernel_rfl) ?_ (fun a hF => ?_)
                                · exact obs_nil
                                refine any_finI rfl (fun h => h) ?_
                                refine any_step [9] (by kernel_rfl) rfl ?_
                                refine (all_cons ?_ all_nil)
                                · refine any_op (listed' := #[true, true, true, true, true, true, true, true, true, true]) (by kernel_rfl) (by kernel_rfl) ?_
                                  refine at_runW 1 [] [] [1, 2, 6, 7, 8, 9, 10, 11, 12, 13] [pl 1 (.int .i64 k1), pl 2 (.pointer (some ⟨g4, 0, none⟩)), pl 6 (.slice A2 (Int.toNat (g3.length : Int)) c2), pl 7 (.bool one5), pl 8 (.bool two5), pl 9 (.int .i64 y1), pl 10 (.int .i64 x1), pl 11 (.int .i64 d1), pl 12 (.int .i64 (geti ([1, 0, 1, 1] : List Int) d1)), pl 13 (.int .i64 (geti ([0, 1, 1, (-1)] : List Int) d1))] hF hS (by kernel_rfl) (by kernel_rfl) ?_ (fun a hF => ?_)
                                  · exact obs_nil
                                  refine any_finI rfl (fun h => h) ?_
                                  refine any_end (by kernel_rfl) ?_
                                  refine np_n ?_
                                  refine then_n ?_
                                  have hS := hS.pickN 4 [2, 3] (by decide)
                                  exact ⟨hF.weak [1, 2, 6, 7, 8, 9, 10, 11, 12, 13] (by kernel_rfl), hS, hm⟩
                        · refine any_op (listed' := #[true, true, false, false, true, true, true, true, false, false]) (by kernel_rfl) (by kernel_rfl) ?_
                          refine at_runW 1 [⟨false, [], vS (Instr.loadAt 3 (.pointer (some (sAddr g6 d1)))), .int .i64 (geti ([0, 1, 1, (-1)] : List Int) d1)⟩] [some (.int .i64 (geti ([0, 1, 1, (-1)] : List Int) d1))] [1, 2, 6, 7, 8, 9, 10, 11, 39, 40, 46] [pl 1 (.int .i64 k1), pl 2 (.pointer (some ⟨g4, 0, none⟩)), pl 6 (.slice A2 (Int.toNat (g3.length : Int)) c2), pl 7 (.bool one5), pl 8 (.bool two5), pl 9 (.int .i64 y1), pl 10 (.int .i64 x1), pl 11 (.int .i64 d1), pl 39 (.slice g5 4 4), pl 40 (.int .i64 d1), pl 46 (.int .i64 (geti ([0, 1, 1, (-1)] : List Int) d1))] hF hS (by kernel_rfl) (by kernel_rfl) ?_ (fun a hF => ?_)
                          · exact obs_cons (ob_get1 (n := 4) (m := ([0, 1, 1, (-1)] : List Int)) (Value.int .i64) (0 : Int) Agg3 (fun _ hS => ⟨_, (hS.at_ 1 rfl).rd⟩) (fun _ hS => ((hS.at_ 1 rfl).len1)) (fun _ => hp3)) <| obs_nil
                          refine any_finI rfl (fun h => h) ?_
                          refine any_step [2] (by kernel_rfl) rfl ?_
                          refine (all_cons ?_ all_nil)
                          · refine any_op (listed' := #[true, true, true, false, true, true, true, true, false, false]) (by kernel_rfl) (by kernel_rfl) ?_
                            refine at_runW 1 [⟨true, [], vS (Instr.indexAt 34 (.slice g5 4 4) (.int .i64 d1)), .pointer (some (sAddr g5 d1))⟩] [some (.pointer (some (sAddr g5 d1)))] [1, 2, 6, 7, 8, 9, 10, 11, 41, 46] [pl 1 (.int .i64 k1), pl 2 (.pointer (some ⟨g4, 0, none⟩)), pl 6 (.slice A2 (Int.toNat (g3.length : Int)) c2), pl 7 (.bool one5), pl 8 (.bool two5), pl 9 (.int .i64 y1), pl 10 (.int .i64 x1), pl 11 (.int .i64 d1), pl 41 (.pointer (some (sAddr g5 d1))), pl 46 (.int .i64 (geti ([0, 1, 1, (-1)] : List Int) d1))] hF hS (by kernel_rfl) (by kernel_rfl) ?_ (fun a hF => ?_)
                            · exact obs_cons (ob_ix1 (f := (Value.int .i64)) (m := ([1, 0, 1, 1] : List Int)) Und34 hi3 hs3 (hS.at_ 0 rfl).rd ((hS.at_ 0 rfl).len1) (fun _ => hp2)) <| obs_nil
                            refine any_finI rfl (fun h => h) ?_
                            refine any_step [3] (by kernel_rfl) rfl ?_
                            refine (all_cons ?_ all_nil)
                            · refine any_op (listed' := #[true, true, true, true, true, true, true, true, false, false]) (by kernel_rfl) (by kernel_rfl) ?_
                              refine at_runW 1 [⟨false, [], vS (Instr.loadAt 3 (.pointer (some (sAddr g5 d1)))), .int .i64 (geti ([1, 0, 1, 1] : List Int) d1)⟩] [some (.int .i64 (geti ([1, 0, 1, 1] : List Int) d1))] [1, 2, 6, 7, 8, 9, 10, 11, 42, 46] [pl 1 (.int .i64 k1), pl 2 (.pointer (some ⟨g4, 0, none⟩)), pl 6 (.slice A2 (Int.toNat (g3.length : Int)) c2), pl 7 (.bool one5), pl 8 (.bool two5), pl 9 (.int .i64 y1), pl 10 (.int .i64 x1), pl 11 (.int .i64 d1), pl 42 (.int .i64 (geti ([1, 0, 1, 1] : List Int) d1)), pl 46 (.int .i64 (geti ([0, 1, 1, (-1)] : List Int) d1))] hF hS (by kernel_rfl) (by kernel_rfl) ?_ (fun a hF => ?_)
                              · exact obs_cons (ob_get1 (n := 4) (m := ([1, 0, 1, 1] : List Int)) (Value.int .i64) (0 : Int) Agg3 (fun _ hS => ⟨_, (hS.at_ 0 rfl).rd⟩) (fun _ hS => ((hS.at_ 0 rfl).len1)) (fun _ => hp2)) <| obs_nil
                              refine any_finI rfl (fun h => h) ?_
                              refine any_step [8] (by kernel_rfl) rfl ?_
                              refine (all_cons ?_ all_nil)
                              · refine any_op (listed' := #[true, true, true, true, true, true, true, true, true, false]) (by kernel_rfl) (by kernel_rfl) ?_
                                refine at_runW 1 [] [] [1, 2, 6, 7, 8, 9, 10, 11, 12, 46] [pl 1 (.int .i64 k1), pl 2 (.pointer (some ⟨g4, 0, none⟩)), pl 6 (.slice A2 (Int.toNat (g3.length : Int)) c2), pl 7 (.bool one5), pl 8 (.bool two5), pl 9 (.int .i64 y1), pl 10 (.int .i64 x1), pl 11 (.int .i64 d1), pl 12 (.int .i64 (geti ([1, 0, 1, 1] : List Int) d1)), pl 46 (.int .i64 (geti ([0, 1, 1, (-1)] : List Int) d1))] hF hS (by kernel_rfl) (by kernel_rfl) ?_ (fun a hF => ?_)
                                · exact obs_nil
                                refine any_finI rfl (fun h => h) ?_
                                refine any_step [9] (by kernel_rfl) rfl ?_
                                refine (all_cons ?_ all_nil)
                                · refine any_op (listed' := #[true, true, true, true, true, true, true, true, true, true]) (by kernel_rfl) (by kernel_rfl) ?_
                                  refine at_runW 1 [] [] [1, 2, 6, 7, 8, 9, 10, 11, 12, 13] [pl 1 (.int .i64 k1), pl 2 (.pointer (some ⟨g4, 0, none⟩)), pl 6 (.slice A2 (Int.toNat (g3.length : Int)) c2), pl 7 (.bool one5), pl 8 (.bool two5), pl 9 (.int .i64 y1), pl 10 (.int .i64 x1), pl 11 (.int .i64 d1), pl 12 (.int .i64 (geti ([1, 0, 1, 1] : List Int) d1)), pl 13 (.int .i64 (geti ([0, 1, 1, (-1)] : List Int) d1))] hF hS (by kernel_rfl) (by kernel_rfl) ?_ (fun a hF => ?_)
                                  · exact obs_nil
                                  refine any_finI rfl (fun h => h) ?_
                                  refine any_end (by kernel_rfl) ?_
                                  refine np_n ?_
                                  refine then_n ?_
                                  have hS := hS.pickN 4 [2, 3] (by decide)
                                  exact ⟨hF.weak [1, 2, 6, 7, 8, 9, 10, 11, 12, 13] (by kernel_rfl), hS, hm⟩
                      · refine any_op (listed' := #[false, true, false, false, true, true, true, true, false, false]) (by kernel_rfl) (by kernel_rfl) ?_
                        refine at_runW 1 [⟨false, [], vS (Instr.loadAt 3 (.pointer (some (sAddr g6 d1)))), .int .i64 (geti ([0, 1, 1, (-1)] : List Int) d1)⟩] [some (.int .i64 (geti ([0, 1, 1, (-1)] : List Int) d1))] [1, 2, 6, 7, 8, 9, 10, 11, 40, 46] [pl 1 (.int .i64 k1), pl 2 (.pointer (some ⟨g4, 0, none⟩)), pl 6 (.slice A2 (Int.toNat (g3.length : Int)) c2), pl 7 (.bool one5), pl 8 (.bool two5), pl 9 (.int .i64 y1), pl 10 (.int .i64 x1), pl 11 (.int .i64 d1), pl 40 (.int .i64 d1), pl 46 (.int .i64 (geti ([0, 1, 1, (-1)] : List Int) d1))] hF hS (by kernel_rfl) (by kernel_rfl) ?_ (fun a hF => ?_)
                        · exact obs_cons (ob_get1 (n := 4) (m := ([0, 1, 1, (-1)] : List Int)) (Value.int .i64) (0 : Int) Agg3 (fun _ hS => ⟨_, (hS.at_ 0 rfl).rd⟩) (fun _ hS => ((hS.at_ 0 rfl).len1)) (fun _ => hp3)) <| obs_nil
                        refine any_finI rfl (fun h => h) ?_
                        refine any_step [0] (by kernel_rfl) rfl ?_
                        refine (all_cons ?_ all_nil)
                        · refine any_op (listed' := #[true, true, false, false, true, true, true, true, false, false]) (by kernel_rfl) (by kernel_rfl) ?_
                          refine at_do (d := 39) (s := vS (Instr.buildSlice 34 4 #[(0, .int .i64 1), (1, .int .i64 0), (2, .int .i64 1), (3, .int .i64 1)])) (v := .slice (some ⟨w.heap.size, 0, none⟩) 4 4) (w' := w.alloc (.cells #[.int .i64 1, .int .i64 0, .int .i64 1, .int .i64 1] 3)) hF (by kernel_rfl) (by kernel_rfl) (by kernel_rfl) (fun a hF => ?_)
                          have hS : Sep w0 B (w.alloc (.cells #[.int .i64 1, .int .i64 0, .int .i64 1, .int .i64 1] 3)) (own 3 (.slice (some (⟨w.heap.size, 0, none⟩ : Addr)) 4 4) (vI ([1, 0, 1, 1] : List Int)) :: (own 3 (.slice g6 4 4) (vI ([0, 1, 1, (-1)] : List Int)) :: blk g4 93 #[.int .i64 g1, .int .i64 g2, .slice A1 g3.length c1] :: own 4 (.slice A2 (Int.toNat (g3.length : Int)) c2) (vB in5) :: fs)) := hS.lit 3 #[.int .i64 1, .int .i64 0, .int .i64 1, .int .i64 1] 4 rfl (by omega)
                          generalize (some (⟨w.heap.size, 0, none⟩ : Addr)) = g5 at hF hS
                          generalize w.alloc (.cells #[.int .i64 1, .int .i64 0, .int .i64 1, .int .i64 1] 3) = w at hS ⊢
                          refine any_fin rfl (hS.pickN 4 [2, 3] (by decide)) ?_
                          refine any_step [2] (by kernel_rfl) rfl ?_
                          refine (all_cons ?_ all_nil)
                          · refine any_op (listed' := #[true, true, true, false, true, true, true, true, false, false]) (by kernel_rfl) (by kernel_rfl) ?_
                            refine at_runW 1 [⟨true, [], vS (Instr.indexAt 34 (.slice g5 4 4) (.int .i64 d1)), .pointer (some (sAddr g5 d1))⟩] [some (.pointer (some (sAddr g5 d1)))] [1, 2, 6, 7, 8, 9, 10, 11, 41, 46] [pl 1 (.int .i64 k1), pl 2 (.pointer (some ⟨g4, 0, none⟩)), pl 6 (.slice A2 (Int.toNat (g3.length : Int)) c2), pl 7 (.bool one5), pl 8 (.bool two5), pl 9 (.int .i64 y1), pl 10 (.int .i64 x1), pl 11 (.int .i64 d1), pl 41 (.pointer (some (sAddr g5 d1))), pl 46 (.int .i64 (geti ([0, 1, 1, (-1)] : List Int) d1))] hF hS (by kernel_rfl) (by kernel_rfl) ?_ (fun a hF => ?_)
                            · exact obs_cons (ob_ix1 (f := (Value.int .i64)) (m := ([1, 0, 1, 1] : List Int)) Und34 hi3 hs3 (hS.at_ 0 rfl).rd ((hS.at_ 0 rfl).len1) (fun _ => hp2)) <| obs_nil
                            refine any_finI rfl (fun h => h) ?_
                            refine any_step [3] (by kernel_rfl) rfl ?_
                            refine (all_cons ?_ all_nil)
                            · refine any_op (listed' := #[true, true, true, true, true, true, true, true, false, false]) (by kernel_rfl) (by kernel_rfl) ?_
                              refine at_runW 1 [⟨false, [], vS (Instr.loadAt 3 (.pointer (some (sAddr g5 d1)))), .int .i64 (geti ([1, 0, 1, 1] : List Int) d1)⟩] [some (.int .i64 (geti ([1, 0, 1, 1] : List Int) d1))] [1, 2, 6, 7, 8, 9, 10, 11, 42, 46] [pl 1 (.int .i64 k1), pl 2 (.pointer (some ⟨g4, 0, none⟩)), pl 6 (.slice A2 (Int.toNat (g3.length : Int)) c2), pl 7 (.bool one5), pl 8 (.bool two5), pl 9 (.int .i64 y1), pl 10 (.int .i64 x1), pl 11 (.int .i64 d1), pl 42 (.int .i64 (geti ([1, 0, 1, 1] : List Int) d1)), pl 46 (.int .i64 (geti ([0, 1, 1, (-1)] : List Int) d1))] hF hS (by kernel_rfl) (by kernel_rfl) ?_ (fun a hF => ?_)
                              · exact obs_cons (ob_get1 (n := 4) (m := ([1, 0, 1, 1] : List Int)) (Value.int .i64) (0 : Int) Agg3 (fun _ hS => ⟨_, (hS.at_ 0 rfl).rd⟩) (fun _ hS => ((hS.at_ 0 rfl).len1)) (fun _ => hp2)) <| obs_nil
                              refine any_finI rfl (fun h => h) ?_
                              refine any_step [8] (by kernel_rfl) rfl ?_
                              refine (all_cons ?_ all_nil)
                              · refine any_op (listed' := #[true, true, true, true, true, true, true, true, true, false]) (by kernel_rfl) (by kernel_rfl) ?_
                                refine at_runW 1 [] [] [1, 2, 6, 7, 8, 9, 10, 11, 12, 46] [pl 1 (.int .i64 k1), pl 2 (.pointer (some ⟨g4, 0, none⟩)), pl 6 (.slice A2 (Int.toNat (g3.length : Int)) c2), pl 7 (.bool one5), pl 8 (.bool two5), pl 9 (.int .i64 y1), pl 10 (.int .i64 x1), pl 11 (.int .i64 d1), pl 12 (.int .i64 (geti ([1, 0, 1, 1] : List Int) d1)), pl 46 (.int .i64 (geti ([0, 1, 1, (-1)] : List Int) d1))] hF hS (by kernel_rfl) (by kernel_rfl) ?_ (fun a hF => ?_)
                                · exact obs_nil
                                refine any_finI rfl (fun h => h) ?_
                                refine any_step [9] (by kernel_rfl) rfl ?_
                                refine (all_cons ?_ all_nil)
                                · refine any_op (listed' := #[true, true, true, true, true, true, true, true, true, true]) (by kernel_rfl) (by kernel_rfl) ?_
                                  refine at_runW 1 [] [] [1, 2, 6, 7, 8, 9, 10, 11, 12, 13] [pl 1 (.int .i64 k1), pl 2 (.pointer (some ⟨g4, 0, none⟩)), pl 6 (.slice A2 (Int.toNat (g3.length : Int)) c2), pl 7 (.bool one5), pl 8 (.bool two5), pl 9 (.int .i64 y1), pl 10 (.int .i64 x1), pl 11 (.int .i64 d1), pl 12 (.int .i64 (geti ([1, 0, 1, 1] : List Int) d1)), pl 13 (.int .i64 (geti ([0, 1, 1, (-1)] : List Int) d1))] hF hS (by kernel_rfl) (by kernel_rfl) ?_ (fun a hF => ?_)
                                  · exact obs_nil
                                  refine any_finI rfl (fun h => h) ?_
                                  refine any_end (by kernel_rfl) ?_
                                  refine np_n ?_
                                  refine then_n ?_
                                  have hS := hS.pickN 4 [2, 3] (by decide)
                                  exact ⟨hF.weak [1, 2, 6, 7, 8, 9, 10, 11, 12, 13] (by kernel_rfl), hS, hm⟩
            · refine reg [] [] [1, 2, 6, 7, 8, 9, 10, 11, 36] [pl 1 (.int .i64 k1), pl 2 (.pointer (some ⟨g4, 0, none⟩)), pl 6 (.slice A2 (Int.toNat (g3.length : Int)) c2), pl 7 (.bool one5), pl 8 (.bool two5), pl 9 (.int .i64 y1), pl 10 (.int .i64 x1), pl 11 (.int .i64 d1), pl 36 (.bool (decide (d1 < 4)))] hF hS Fol (by kernel_rfl) (by kernel_rfl) (by kernel_rfl) ?_ (fun a w hF hS => ?_)
              · exact obs_nil
              refine cond_ev (t := 36) (b := decide (d1 < 4)) hF (by kernel_rfl) (fun hb => ?_) (fun hb => ?_)
              · replace hm := if_t hm hb
                refine wp_skip ?_
                refine then_n ?_
                exact ⟨hF.weak [1, 2, 6, 7, 8, 9, 10, 11] (by kernel_rfl), hS, hm⟩
              · replace hm := if_f hm hb
                refine wp_exit ?_
                refine then_e (then_e (block_e (block_n (then_n ?_))))
                rw [← hφ3] at hm
                replace hm := done_b hm
                unfold gameroomref_WonOf_K3 at hm
                try dsimp only at hm
                have hm : ((gameroomref_WonOf_J5 x1) in5 one5 two5).bind φ2 = some r := hm
                exact ⟨in5, one5, two5, hF.weak [1, 2, 6, 7, 8, 9, 10] (by kernel_rfl), hS, hm⟩
        · refine reg [⟨false, [], vS (Instr.loadAt 3 (.pointer (some ⟨g4, 0, none⟩))), .int .i64 g1⟩] [none, none, some (.int .i64 g1), none] [1, 2, 6, 7, 8, 9, 10, 32] [pl 1 (.int .i64 k1), pl 2 (.pointer (some ⟨g4, 0, none⟩)), pl 6 (.slice A2 (Int.toNat (g3.length : Int)) c2), pl 7 (.bool one3), pl 8 (.bool two3), pl 9 (.int .i64 y1), pl 10 (.int .i64 x1), pl 32 (.bool (decide (x1 < g1)))] hF hS Fol (by kernel_rfl) (by kernel_rfl) (by kernel_rfl) ?_ (fun a w hF hS => ?_)
          · exact obs_cons (ob_load Agg3 (fun _ _ hS => (hS.at_ 0 rfl).cell rfl)) <| obs_nil
          refine cond_ev (t := 32) (b := decide (x1 < g1)) hF (by kernel_rfl) (fun hb => ?_) (fun hb => ?_)
          · replace hm := if_t hm hb
            refine wp_skip ?_
            refine then_n ?_
            exact ⟨hF.weak [1, 2, 6, 7, 8, 9, 10] (by kernel_rfl), hS, hm⟩
          · replace hm := if_f hm hb
            refine wp_exit ?_
            refine then_e (then_e (block_e (block_n (then_n ?_))))
            rw [← hφ2] at hm
            replace hm := done_b hm
            unfold gameroomref_WonOf_K2 at hm
            try dsimp only at hm
            have hm : ((gameroomref_WonOf_J3 y1) in3 one3 two3).bind φ1 = some r := hm
            exact ⟨in3, one3, two3, hF.weak [1, 2, 6, 7, 8, 9] (by kernel_rfl), hS, hm⟩
    · refine reg [⟨false, [], vS (Instr.loadAt 3 (.pointer (some ⟨g4, 1, none⟩))), .int .i64 g2⟩] [none, none, some (.int .i64 g2), none] [1, 2, 6, 7, 8, 9, 26] [pl 1 (.int .i64 k1), pl 2 (.pointer (some ⟨g4, 0, none⟩)), pl 6 (.slice A2 (Int.toNat (g3.length : Int)) c2), pl 7 (.bool one1), pl 8 (.bool two1), pl 9 (.int .i64 y1), pl 26 (.bool (decide (y1 < g2)))] hF hS Fol (by kernel_rfl) (by kernel_rfl) (by kernel_rfl) ?_ (fun a w hF hS => ?_)
      · exact obs_cons (ob_load Agg3 (fun _ _ hS => (hS.at_ 0 rfl).cell rfl)) <| obs_nil
      refine cond_ev (t := 26) (b := decide (y1 < g2)) hF (by kernel_rfl) (fun hb => ?_) (fun hb => ?_)
      · replace hm := if_t hm hb
        refine wp_skip ?_
        refine then_n ?_
        exact ⟨hF.weak [1, 2, 6, 7, 8, 9] (by kernel_rfl), hS, hm⟩
      · replace hm := if_f hm hb
        refine wp_exit ?_
        refine then_e (then_e (block_e (then_n ?_)))
        have hS := hS.pickN 2 [1] (by decide)
        rw [← hφ1] at hm
        replace hm := done_b hm
        unfold gameroomref_WonOf_K1 at hm
        try dsimp only at hm
        have hm : ((gameroomref_WonOf_J1 g3) in1 one1 two1).bind some = some r := hm
        exact ⟨in1, one1, two1, hF.weak [6, 7, 8] (by kernel_rfl), hS, hm⟩

noncomputable def gameroomlaw_sameInts_J4 (i1 : Int) : Option (St Int (Fl Unit Bool)) :=
  some (.next (w64 (i1 + 1)))

noncomputable def gameroomlaw_sameInts_J3 (a1 : List Int) (b1 : List Int) (i1 : Int) : Option (St Int (Fl Unit Bool)) :=
  asrt (0 ≤ i1 ∧ i1 < (a1.length : Int)) <| asrt (0 ≤ i1 ∧ i1 < (b1.length : Int)) <| if ((geti a1 i1) != (geti b1 i1)) then (some (.done (.ret false))) else ((gameroomlaw_sameInts_J4 i1))

noncomputable def gameroomlaw_sameInts_J2 : Option Bool :=
  some true

noncomputable def gameroomlaw_sameInts_K1 : (Fl Unit Bool) → Option Bool :=
  fun (x : (Fl Unit Bool)) => match x with | .go _ => gameroomlaw_sameInts_J2 | .ret x => some x

noncomputable def gameroomlaw_sameInts_L1 (a1 : List Int) (b1 : List Int) : Int → Option (St Int (Fl Unit Bool)) :=
  fun (x : Int) => match x with | i1 => if (decide (i1 < (a1.length : Int))) then ((gameroomlaw_sameInts_J3 a1 b1 i1)) else (some (.done (.go ())))

noncomputable def gameroomlaw_sameInts_J1 (a1 : List Int) (b1 : List Int) : Option Bool :=
  (loop (gameroomlaw_sameInts_L1 a1 b1) 0).bind gameroomlaw_sameInts_K1

noncomputable def gameroomlaw_sameInts_m (a1 : List Int) (b1 : List Int) : Option Bool :=
  if ((a1.length : Int) != (b1.length : Int)) then (some false) else ((gameroomlaw_sameInts_J1 a1 b1))

set_option maxRecDepth 100000 in
set_option maxHeartbeats 4000000 in
theorem gameroomlaw_sameInts_w {A1 : Option Addr} {c1 : Nat} {n1 : Nat} {a1 : List Int} {A2 : Option Addr} {c2 : Nat} {n2 : Nat} {b1 : List Int} {r : Bool} {w0 w : World} {B : Nat} {fs : List HP} (hm : gameroomlaw_sameInts_m a1 b1 = some r) (hS : Sep w0 B w (fs)) (hr_a1 : RdF w0 B fs A1 (vI a1)) (_hc_a1 : a1.length ≤ c1) (_hn_a1 : n1 = a1.length) (hr_b1 : RdF w0 B fs A2 (vI b1)) (_hc_b1 : b1.length ≤ c2) (_hn_b1 : n2 = b1.length) :
    Calls Try.prog 27 #[.slice A1 n1 c1, .slice A2 n2 c2] w fun e w' => e = .returned (.bool r) ∧ Sep w0 B w' (fs) := by
  obtain ⟨i3, hi3, hz3, hs3, hb3⟩ := info_parts Info3
  obtain rfl := _hn_a1
  obtain rfl := _hn_b1
  unfold gameroomlaw_sameInts_m at hm
  replace hm := start_b hm
  refine enter (l := [.slice A1 a1.length c1, .slice A2 b1.length c2]) (n := 26) Try.func27 rfl rfl (by simp) (fun a hF => ?_)
  refine reg [] [] [0, 1] [pl 0 (.slice A1 a1.length c1), pl 1 (.slice A2 b1.length c2)] hF hS Fol (by kernel_rfl) (by kernel_rfl) (by kernel_rfl) ?_ (fun a w hF hS => ?_)
  · exact obs_nil
  refine seq_cut (fun a w => Fr 26 [pl 0 (.slice A1 a1.length c1), pl 1 (.slice A2 b1.length c2)] a ∧ Sep w0 B w (fs) ∧ ((gameroomlaw_sameInts_J1 a1 b1)).bind some = some r) ?_ ?_
  · rintro a w ⟨hF, hS, hm⟩
    unfold gameroomlaw_sameInts_J1 at hm
    refine seq_cut (fun a w => Fr 26 [] a ∧ Sep w0 B w (fs) ∧ (gameroomlaw_sameInts_J2).bind some = some r) ?_ ?_
    · rintro a w ⟨hF, hS, hm⟩
      unfold gameroomlaw_sameInts_J2 at hm
      refine reg [] [] [4] [pl 4 (.bool true)] hF hS Fol (by kernel_rfl) (by kernel_rfl) (by kernel_rfl) ?_ (fun a w hF hS => ?_)
      · exact obs_nil
      refine wp_ret ?_
      have hm : some true = some r := hm
      obtain rfl := Option.some.inj hm
      exact retV (rs := [.tmp 4]) (vs := [.bool true]) hF rfl (rv_t (by kernel_rfl) <| rv_nil) rfl ⟨rfl, hS⟩
    · refine reg [] [] [0, 1, 5] [pl 0 (.slice A1 a1.length c1), pl 1 (.slice A2 b1.length c2), pl 5 (.int .i64 0)] hF hS Fol (by kernel_rfl) (by kernel_rfl) (by kernel_rfl) ?_ (fun a w hF hS => ?_)
      · exact obs_nil
      refine wp_block ?_
      refine wp_loop_model (S := Int) (R := (Fl Unit Bool)) (gameroomlaw_sameInts_L1 a1 b1) (fun x => (gameroomlaw_sameInts_K1 x).bind some) r (fun (x : Int) a w => Fr 26 [pl 0 (.slice A1 a1.length c1), pl 1 (.slice A2 b1.length c2), pl 5 (.int .i64 x)] a ∧ Sep w0 B w (fs)) (assoc_b hm) ⟨hF.weak [0, 1, 5] (by kernel_rfl), hS⟩ ?_
      clear hF hS hm
      rintro nn1 i1 a w ⟨hF, hS⟩ hm
      generalize hφ1 : stK (gameroomlaw_sameInts_L1 a1 b1) nn1 (fun x => (gameroomlaw_sameInts_K1 x).bind some) = φ1 at hm
      unfold gameroomlaw_sameInts_L1 at hm
      dsimp only at hm
      refine seq_cut (fun a w => Fr 26 [pl 0 (.slice A1 a1.length c1), pl 1 (.slice A2 b1.length c2), pl 5 (.int .i64 i1)] a ∧ Sep w0 B w (fs) ∧ ((gameroomlaw_sameInts_J3 a1 b1 i1)).bind φ1 = some r) ?_ ?_
      · rintro a w ⟨hF, hS, hm⟩
        unfold gameroomlaw_sameInts_J3 at hm
        refine seq_cut (fun a w => Fr 26 [pl 0 (.slice A1 a1.length c1), pl 1 (.slice A2 b1.length c2), pl 5 (.int .i64 i1)] a ∧ Sep w0 B w (fs) ∧ ((gameroomlaw_sameInts_J4 i1)).bind φ1 = some r) ?_ ?_
        · rintro a w ⟨hF, hS, hm⟩
          unfold gameroomlaw_sameInts_J4 at hm
          refine reg1 [] [] [0, 1, 5] [pl 0 (.slice A1 a1.length c1), pl 1 (.slice A2 b1.length c2), pl 5 (.int .i64 (w64 (i1 + 1)))] hF hS Fol (by kernel_rfl) (by kernel_rfl) (by kernel_rfl) ?_ (fun a w hF hS => ?_)
          · exact obs_nil
          refine then_n ?_
          rw [← hφ1] at hm
          exact ⟨(w64 (i1 + 1)), ⟨hF.weak [0, 1, 5] (by kernel_rfl), hS⟩, hm⟩
        · refine wp_block ?_
          obtain ⟨hp1, hm⟩ := asrt_b hm
          obtain ⟨hp2, hm⟩ := asrt_b hm
          refine reg [⟨true, [], vS (Instr.indexAt 34 (.slice A1 a1.length c1) (.int .i64 i1)), .pointer (some (sAddr A1 i1))⟩, ⟨false, [], vS (Instr.loadAt 3 (.pointer (some (sAddr A1 i1)))), .int .i64 (geti a1 i1)⟩, ⟨true, [], vS (Instr.indexAt 34 (.slice A2 b1.length c2) (.int .i64 i1)), .pointer (some (sAddr A2 i1))⟩, ⟨false, [], vS (Instr.loadAt 3 (.pointer (some (sAddr A2 i1)))), .int .i64 (geti b1 i1)⟩] [none, none, some (.pointer (some (sAddr A1 i1))), some (.int .i64 (geti a1 i1)), none, none, some (.pointer (some (sAddr A2 i1))), some (.int .i64 (geti b1 i1)), none] [0, 1, 5, 25] [pl 0 (.slice A1 a1.length c1), pl 1 (.slice A2 b1.length c2), pl 5 (.int .i64 i1), pl 25 (.bool ((geti a1 i1) != (geti b1 i1)))] hF hS Fol (by kernel_rfl) (by kernel_rfl) (by kernel_rfl) ?_ (fun a w hF hS => ?_)
          · exact obs_cons (ob_ix1 (f := (Value.int .i64)) (m := a1) Und34 hi3 hs3 (hr_a1 _ (hS.dropN 0)) rfl (fun _ => hp1)) <| obs_cons (ob_get1 (n := a1.length) (m := a1) (Value.int .i64) (0 : Int) Agg3 (fun _ hS => ⟨_, (hr_a1 _ (hS.dropN 0))⟩) (fun _ hS => rfl) (fun _ => hp1)) <| obs_cons (ob_ix1 (f := (Value.int .i64)) (m := b1) Und34 hi3 hs3 (hr_b1 _ (hS.dropN 0)) rfl (fun _ => hp2)) <| obs_cons (ob_get1 (n := b1.length) (m := b1) (Value.int .i64) (0 : Int) Agg3 (fun _ hS => ⟨_, (hr_b1 _ (hS.dropN 0))⟩) (fun _ hS => rfl) (fun _ => hp2)) <| obs_nil
          refine cond_ev (t := 25) (b := ((geti a1 i1) != (geti b1 i1))) hF (by kernel_rfl) (fun hb => ?_) (fun hb => ?_)
          · replace hm := if_t hm hb
            refine reg [] [] [4] [pl 4 (.bool false)] hF hS Fol (by kernel_rfl) (by kernel_rfl) (by kernel_rfl) ?_ (fun a w hF hS => ?_)
            · exact obs_nil
            refine wp_ret ?_
            refine block_r (then_r (then_r (block_r (then_r ?_))))
            rw [← hφ1] at hm
            replace hm := done_b hm
            unfold gameroomlaw_sameInts_K1 at hm
            try dsimp only at hm
            have hm : some false = some r := hm
            obtain rfl := Option.some.inj hm
            exact retV (rs := [.tmp 4]) (vs := [.bool false]) hF rfl (rv_t (by kernel_rfl) <| rv_nil) rfl ⟨rfl, hS⟩
          · replace hm := if_f hm hb
            refine wp_skip ?_
            refine block_n ?_
            refine then_n ?_
            exact ⟨hF.weak [0, 1, 5] (by kernel_rfl), hS, hm⟩
      · refine reg [] [] [0, 1, 5, 14] [pl 0 (.slice A1 a1.length c1), pl 1 (.slice A2 b1.length c2), pl 5 (.int .i64 i1), pl 14 (.bool (decide (i1 < (a1.length : Int))))] hF hS Fol (by kernel_rfl) (by kernel_rfl) (by kernel_rfl) ?_ (fun a w hF hS => ?_)
        · exact obs_nil
        refine cond_ev (t := 14) (b := decide (i1 < (a1.length : Int))) hF (by kernel_rfl) (fun hb => ?_) (fun hb => ?_)
        · replace hm := if_t hm hb
          refine wp_skip ?_
          refine then_n ?_
          exact ⟨hF.weak [0, 1, 5] (by kernel_rfl), hS, hm⟩
        · replace hm := if_f hm hb
          refine wp_exit ?_
          refine then_e (then_e (block_e (then_n ?_)))
          rw [← hφ1] at hm
          replace hm := done_b hm
          unfold gameroomlaw_sameInts_K1 at hm
          try dsimp only at hm
          have hm : (gameroomlaw_sameInts_J2).bind some = some r := hm
          exact ⟨hF.weak [] (by kernel_rfl), hS, hm⟩
  · refine reg [] [] [0, 1, 10] [pl 0 (.slice A1 a1.length c1), pl 1 (.slice A2 b1.length c2), pl 10 (.bool ((a1.length : Int) != (b1.length : Int)))] hF hS Fol (by kernel_rfl) (by kernel_rfl) (by kernel_rfl) ?_ (fun a w hF hS => ?_)
    · exact obs_nil
    refine cond_ev (t := 10) (b := ((a1.length : Int) != (b1.length : Int))) hF (by kernel_rfl) (fun hb => ?_) (fun hb => ?_)
    · replace hm := if_t hm hb
      refine reg [] [] [4] [pl 4 (.bool false)] hF hS Fol (by kernel_rfl) (by kernel_rfl) (by kernel_rfl) ?_ (fun a w hF hS => ?_)
      · exact obs_nil
      refine wp_ret ?_
      refine then_r ?_
      have hm : some false = some r := hm
      obtain rfl := Option.some.inj hm
      exact retV (rs := [.tmp 4]) (vs := [.bool false]) hF rfl (rv_t (by kernel_rfl) <| rv_nil) rfl ⟨rfl, hS⟩
    · replace hm := if_f hm hb
      refine wp_skip ?_
      refine then_n ?_
      exact ⟨hF.weak [0, 1] (by kernel_rfl), hS, hm⟩

noncomputable def gameroomlaw_RowsWins_J2 (g1 : Int) (g2 : Int) (g3 : List Int) (k1 : Int) (r2 : (Int × List Int × Int)) : Option Bool :=
  (gameroomref_WonOf_m g1 g2 g3 k1).bind fun r4 => ((if ((r2.2.2 == 0) && (r2.1 == r4.1)) then gameroomlaw_sameInts_m r2.2.1 r4.2 else some false)).bind fun r5 => some (((r2.2.2 == 0) && (r2.1 == r4.1)) && r5)

noncomputable def gameroomlaw_RowsWins_J1 (g1 : Int) (g2 : Int) (g3 : List Int) (k1 : Int) (r2 : (Int × List Int × Int)) (no1 : Int) : Option Bool :=
  if (no1 != 0) then (some (((r2.2.2 == no1) && (r2.1 == 0)) && ((r2.2.1.length : Int) == 0))) else ((gameroomlaw_RowsWins_J2 g1 g2 g3 k1 r2))
end Go.Proofs.Ytgafnmnacolgbaa
