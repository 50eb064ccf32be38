/-
  Models and walks, printed by our own program (wip/gen).
-/
import Derived.Test.YtoickcchcjehdaaFB
import Derived.Test.YtoickcchcjehdaaLibJ
import Derived.Test.YtoickcchcjehdaaLibBc
import Derived.Test.YtoickcchcjehdaaLibOq
import Derived.Test.YtoickcchcjehdaaLibRF
import Derived.Test.YtoickcchcjehdaaNPVb
namespace Go.Proofs.Ytoickcchcjehdaa
open Go Go.GL Go.RowKit

noncomputable def gameroomref_HandValue_m  (l1 : List Int) : Option Int :=
  asrt ((0 : Int) ≤ 13 ∧ 13 ≤ bigN) <| (loop (gameroomref_HandValue_L1 l1) ((List.replicate (Int.toNat 13) (0 : Int)), true, 0)).bind gameroomref_HandValue_K1

set_option maxRecDepth 100000 in
set_option maxHeartbeats 4000000 in
theorem gameroomref_HandValue_w  {A1 : Option Addr} {c1 : Nat} {n1 : Nat} {l1 : List Int} {r : Int} {w0 w : World} {B : Nat} {fs : List HP} (hm : gameroomref_HandValue_m l1 = some r) (hS : Sep w0 B w (fs)) (hr_l1 : RdF w0 B fs A1 (vI l1)) (_hc_l1 : l1.length ≤ c1) (_hn_l1 : n1 = l1.length) :
    Calls Try.prog 111 #[.slice A1 n1 c1] w fun e w' => e = .returned (.int .i64 r) ∧ Sep w0 B w' (fs) := by
  obtain ⟨i3, hi3, hz3, hs3, hb3⟩ := info_parts Info3
  obtain rfl := _hn_l1
  unfold gameroomref_HandValue_m at hm
  replace hm := start_b hm
  refine enter (l := [.slice A1 l1.length c1]) (n := 168) Try.func111 rfl rfl (by simp) (fun a hF => ?_)
  refine reg [] [] [0] [pl 0 (.slice A1 l1.length c1)] hF hS Fol (by kernel_rfl) (by kernel_rfl) (by kernel_rfl) ?_ (fun a w hF hS => ?_)
  · exact obs_nil
  refine seqR ?_
  obtain ⟨hp1, hm⟩ := asrt_b hm
  obtain ⟨A2, c2, w, hrun, hS⟩ := run_mk1 (P := Try.prog) (t := 22) (Value.int .i64) (0 : Int) hS .i64 .i64 Und22 hi3 hz3 hs3 (by omega) rfl hp1
  have hS : Sep w0 B w (own 3 (.slice A2 (Int.toNat 13) c2) (vI (List.replicate (Int.toNat 13) (0 : Int))) :: fs) := hS
  refine at_do (d := 16) hF (by kernel_rfl) (by kernel_rfl) hrun (fun a hF => ?_)
  refine at_run 1 [] [] [0, 3] [pl 0 (.slice A1 l1.length c1), pl 3 (.slice A2 (Int.toNat 13) c2)] hF hS (by kernel_rfl) (by kernel_rfl) ?_ (fun a w hF hS => ?_)
  · exact obs_nil
  refine at_end [0, 3] [pl 0 (.slice A1 l1.length c1), pl 3 (.slice A2 (Int.toNat 13) c2)] hF rfl (by kernel_rfl) (fun hF => ?_)
  refine then_n ?_
  refine reg [] [] [0, 3, 4] [pl 0 (.slice A1 l1.length c1), pl 3 (.slice A2 (Int.toNat 13) c2), pl 4 (.bool true)] hF hS Fol (by kernel_rfl) (by kernel_rfl) (by kernel_rfl) ?_ (fun a w hF hS => ?_)
  · exact obs_nil
  refine seq_cut (fun a w => ∃ (many2 : List Int) (flush2 : Bool), Fr 168 [pl 3 (.slice A2 (Int.toNat 13) c2), pl 4 (.bool flush2)] a ∧ Sep w0 B w (own 3 (.slice A2 (Int.toNat 13) c2) (vI many2) :: fs) ∧ (gameroomref_HandValue_J1 many2 flush2).bind some = some r) ?_ ?_
  · rintro a w ⟨many2, flush2, hF, hS, hm⟩
    unfold gameroomref_HandValue_J1 at hm
    refine reg [] [] [3, 4, 6] [pl 3 (.slice A2 (Int.toNat 13) c2), pl 4 (.bool flush2), pl 6 (.slice none 0 0)] hF hS Fol (by kernel_rfl) (by kernel_rfl) (by kernel_rfl) ?_ (fun a w hF hS => ?_)
    · exact obs_nil
    refine seq_cut (fun a w => ∃ (signs2 : List Int) (A4 : Option Addr) (c4 : Nat), Fr 168 [pl 3 (.slice A2 (Int.toNat 13) c2), pl 4 (.bool flush2), pl 6 (.slice A4 signs2.length c4)] a ∧ Sep w0 B w (own 3 (.slice A2 (Int.toNat 13) c2) (vI many2) :: own 3 (.slice A4 signs2.length c4) (vI signs2) :: fs) ∧ ((gameroomref_HandValue_J4 many2 flush2) signs2).bind some = some r) ?_ ?_
    · rintro a w ⟨signs2, A4, c4, hF, hS, hm⟩
      unfold gameroomref_HandValue_J4 at hm
      refine reg [] [] [3, 4, 6, 9] [pl 3 (.slice A2 (Int.toNat 13) c2), pl 4 (.bool flush2), pl 6 (.slice A4 signs2.length c4), pl 9 (.int .i64 (-1))] hF hS Fol (by kernel_rfl) (by kernel_rfl) (by kernel_rfl) ?_ (fun a w hF hS => ?_)
      · exact obs_nil
      refine seq_cut (fun a w => ∃ (top2 : Int), Fr 168 [pl 3 (.slice A2 (Int.toNat 13) c2), pl 4 (.bool flush2), pl 6 (.slice A4 signs2.length c4), pl 9 (.int .i64 top2)] a ∧ Sep w0 B w (own 3 (.slice A2 (Int.toNat 13) c2) (vI many2) :: own 3 (.slice A4 signs2.length c4) (vI signs2) :: fs) ∧ ((gameroomref_HandValue_J9 many2 flush2 signs2) top2).bind some = some r) ?_ ?_
      · rintro a w ⟨top2, hF, hS, hm⟩
        unfold gameroomref_HandValue_J9 at hm
        refine reg [] [] [3, 4, 6, 9, 13] [pl 3 (.slice A2 (Int.toNat 13) c2), pl 4 (.bool flush2), pl 6 (.slice A4 signs2.length c4), pl 9 (.int .i64 top2), pl 13 (.int .i64 0)] hF hS Fol (by kernel_rfl) (by kernel_rfl) (by kernel_rfl) ?_ (fun a w hF hS => ?_)
        · exact obs_nil
        refine seq_cut (fun a w => ∃ (class1 : Int), Fr 168 [pl 6 (.slice A4 signs2.length c4), pl 9 (.int .i64 top2), pl 13 (.int .i64 class1)] a ∧ Sep w0 B w (own 3 (.slice A4 signs2.length c4) (vI signs2) :: fs) ∧ ((gameroomref_HandValue_J15 signs2 top2) class1).bind some = some r) ?_ ?_
        · rintro a w ⟨class1, hF, hS, hm⟩
          unfold gameroomref_HandValue_J15 at hm
          refine seq_cut (fun a w => ∃ (signs6 : List Int) (A9 : Option Addr) (c9 : Nat), Fr 168 [pl 6 (.slice A9 signs6.length c9), pl 13 (.int .i64 class1)] a ∧ Sep w0 B w (own 3 (.slice A9 signs6.length c9) (vI signs6) :: fs) ∧ ((gameroomref_HandValue_J16 class1) signs6).bind some = some r) ?_ ?_
          · rintro a w ⟨signs6, A9, c9, hF, hS, hm⟩
            unfold gameroomref_HandValue_J16 at hm
            refine seq_cut (fun a w => ∃ (signs8 : List Int) (A11 : Option Addr) (c11 : Nat), Fr 168 [pl 6 (.slice A11 signs8.length c11), pl 13 (.int .i64 class1)] a ∧ Sep w0 B w (own 3 (.slice A11 signs8.length c11) (vI signs8) :: fs) ∧ ((gameroomref_HandValue_J17 class1) signs8).bind some = some r) ?_ ?_
            · rintro a w ⟨signs8, A11, c11, hF, hS, hm⟩
              unfold gameroomref_HandValue_J17 at hm
              refine reg [] [] [6, 14] [pl 6 (.slice A11 signs8.length c11), pl 14 (.int .i64 class1)] hF hS Fol (by kernel_rfl) (by kernel_rfl) (by kernel_rfl) ?_ (fun a w hF hS => ?_)
              · exact obs_nil
              refine seq_cut (fun a w => ∃ (v2 : Int), Fr 168 [pl 14 (.int .i64 v2)] a ∧ Sep w0 B w (fs) ∧ (gameroomref_HandValue_J19 v2).bind some = some r) ?_ ?_
              · rintro a w ⟨v2, hF, hS, hm⟩
                unfold gameroomref_HandValue_J19 at hm
                refine reg [] [] [2] [pl 2 (.int .i64 v2)] hF hS Fol (by kernel_rfl) (by kernel_rfl) (by kernel_rfl) ?_ (fun a w hF hS => ?_)
                · exact obs_nil
                refine wpIn_ret ?_
                have hm : some v2 = some r := hm
                obtain rfl := Option.some.inj hm
                exact retV (rs := [.tmp 2]) (vs := [.int .i64 v2]) hF rfl (rv_t (by kernel_rfl) <| rv_nil) rfl ⟨rfl, hS⟩
              · refine reg [] [] [6, 14, 15] [pl 6 (.slice A11 signs8.length c11), pl 14 (.int .i64 class1), pl 15 (.int .i64 0)] hF hS Fol (by kernel_rfl) (by kernel_rfl) (by kernel_rfl) ?_ (fun a w hF hS => ?_)
                · exact obs_nil
                refine wpIn_block ?_
                refine wp_loop_model (S := (Int × Int)) (R := Int) (gameroomref_HandValue_L7 signs8) (fun x => (gameroomref_HandValue_K7 x).bind some) r (fun (x : (Int × Int)) a w => Fr 168 [pl 6 (.slice A11 signs8.length c11), pl 14 (.int .i64 x.1), pl 15 (.int .i64 x.2)] a ∧ Sep w0 B w (own 3 (.slice A11 signs8.length c11) (vI signs8) :: fs)) (assoc_b hm) ⟨hF.weak [6, 14, 15] (by kernel_rfl), hS⟩ ?_
                clear hF hS hm
                rintro nn7 ⟨v1, i2⟩ a w ⟨hF, hS⟩ hm
                generalize hφ7 : stK (gameroomref_HandValue_L7 signs8) nn7 (fun x => (gameroomref_HandValue_K7 x).bind some) = φ7 at hm
                unfold gameroomref_HandValue_L7 at hm
                dsimp only at hF hS hm
                refine seq_cut (fun a w => Fr 168 [pl 6 (.slice A11 signs8.length c11), pl 14 (.int .i64 v1), pl 15 (.int .i64 i2)] a ∧ Sep w0 B w (own 3 (.slice A11 signs8.length c11) (vI signs8) :: fs) ∧ ((gameroomref_HandValue_J20 signs8 v1 i2)).bind φ7 = some r) ?_ ?_
                · rintro a w ⟨hF, hS, hm⟩
                  unfold gameroomref_HandValue_J20 at hm
                  refine seq_cut (fun a w => Fr 168 [pl 6 (.slice A11 signs8.length c11), pl 14 (.int .i64 (w64 ((w64 (13 * v1)) + (geti signs8 i2)))), pl 15 (.int .i64 i2)] a ∧ Sep w0 B w (own 3 (.slice A11 signs8.length c11) (vI signs8) :: fs) ∧ ((gameroomref_HandValue_J21 signs8 v1 i2)).bind φ7 = some r) ?_ ?_
                  · rintro a w ⟨hF, hS, hm⟩
                    unfold gameroomref_HandValue_J21 at hm
                    refine reg1 [] [] [6, 14, 15] [pl 6 (.slice A11 signs8.length c11), pl 14 (.int .i64 (w64 ((w64 (13 * v1)) + (geti signs8 i2)))), pl 15 (.int .i64 (w64 (i2 + 1)))] hF hS Fol (by kernel_rfl) (by kernel_rfl) (by kernel_rfl) ?_ (fun a w hF hS => ?_)
                    · exact obs_nil
                    refine then_n ?_
                    rw [← hφ7] at hm
                    exact ⟨((w64 ((w64 (13 * v1)) + (geti signs8 i2))), (w64 (i2 + 1))), ⟨hF.weak [6, 14, 15] (by kernel_rfl), hS⟩, hm⟩
                  · refine wpIn_block ?_
                    obtain ⟨hp25, hm⟩ := asrt_b hm
                    refine reg1 [⟨true, [], vS (Instr.indexAt 22 (.slice A11 signs8.length c11) (.int .i64 i2)), .pointer (some (sAddr A11 i2))⟩, ⟨false, [], vS (Instr.loadAt 3 (.pointer (some (sAddr A11 i2)))), .int .i64 (geti signs8 i2)⟩] [none, none, none, none, some (.pointer (some (sAddr A11 i2))), some (.int .i64 (geti signs8 i2)), none, none] [6, 14, 15] [pl 6 (.slice A11 signs8.length c11), pl 14 (.int .i64 (w64 ((w64 (13 * v1)) + (geti signs8 i2)))), pl 15 (.int .i64 i2)] hF hS Fol (by kernel_rfl) (by kernel_rfl) (by kernel_rfl) ?_ (fun a w hF hS => ?_)
                    · exact obs_cons (ob_ix1 (f := (Value.int .i64)) (m := signs8) Und22 hi3 hs3 (hS.at_ 0 rfl).rd rfl (fun _ => hp25)) <| obs_cons (ob_get1 (n := signs8.length) (m := signs8) (Value.int .i64) (0 : Int) Agg3 (fun _ hS => ⟨_, (hS.at_ 0 rfl).rd⟩) (fun _ hS => rfl) (fun _ => hp25)) <| obs_nil
                    refine block_n ?_
                    refine then_n ?_
                    exact ⟨hF.weak [6, 14, 15] (by kernel_rfl), hS, hm⟩
                · refine reg [] [] [6, 14, 15, 157] [pl 6 (.slice A11 signs8.length c11), pl 14 (.int .i64 v1), pl 15 (.int .i64 i2), pl 157 (.bool (decide (i2 < 5)))] hF hS Fol (by kernel_rfl) (by kernel_rfl) (by kernel_rfl) ?_ (fun a w hF hS => ?_)
                  · exact obs_nil
                  refine cond_ev (t := 157) (b := decide (i2 < 5)) hF (by kernel_rfl) (fun hb => ?_) (fun hb => ?_)
                  · replace hm := if_t hm hb
                    refine wpIn_skip ?_
                    refine then_n ?_
                    exact ⟨hF.weak [6, 14, 15] (by kernel_rfl), hS, hm⟩
                  · replace hm := if_f hm hb
                    refine wpIn_exit ?_
                    refine then_e (then_e (block_e (then_n ?_)))
                    have hS := hS.pickN 1 [] (by decide)
                    rw [← hφ7] at hm
                    replace hm := done_b hm
                    unfold gameroomref_HandValue_K7 at hm
                    try dsimp only at hm
                    have hm : (gameroomref_HandValue_J19 v1).bind some = some r := hm
                    exact ⟨v1, hF.weak [14] (by kernel_rfl), hS, hm⟩
            · refine wpIn_block ?_
              refine wp_loop_model (S := (List Int)) (R := (List Int)) gameroomref_HandValue_L6 (fun x => ((gameroomref_HandValue_K6 class1) x).bind some) r (fun (x : (List Int)) a w => ∃ (A10 : Option Addr) (c10 : Nat), Fr 168 [pl 6 (.slice A10 x.length c10), pl 13 (.int .i64 class1)] a ∧ Sep w0 B w (own 3 (.slice A10 x.length c10) (vI x) :: fs)) (assoc_b hm) ⟨A9, c9, hF.weak [6, 13] (by kernel_rfl), hS⟩ ?_
              clear hF hS hm
              rintro nn6 signs7 a w ⟨A10, c10, hF, hS⟩ hm
              generalize hφ6 : stK gameroomref_HandValue_L6 nn6 (fun x => ((gameroomref_HandValue_K6 class1) x).bind some) = φ6 at hm
              unfold gameroomref_HandValue_L6 at hm
              dsimp only at hm
              refine seq_cut (fun a w => Fr 168 [pl 6 (.slice A10 signs7.length c10), pl 13 (.int .i64 class1)] a ∧ Sep w0 B w (own 3 (.slice A10 signs7.length c10) (vI signs7) :: fs) ∧ ((gameroomref_HandValue_J18 signs7)).bind φ6 = some r) ?_ ?_
              · rintro a w ⟨hF, hS, hm⟩
                unfold gameroomref_HandValue_J18 at hm
                refine wpIn_block ?_
                refine oneR ?_
                obtain ⟨hp24, hm⟩ := asrt_b hm
                refine at_run 1 [] [] [13, 152] [pl 13 (.int .i64 class1), pl 152 (.slice A10 signs7.length c10)] hF hS (by kernel_rfl) (by kernel_rfl) ?_ (fun a w hF hS => ?_)
                · exact obs_nil
                refine at_do (d := 153) (s := vS (Instr.buildSlice 22 1 #[(0, .int .i64 0)])) (v := .slice (some ⟨w.heap.size, 0, none⟩) 1 1) (w' := w.alloc (.cells #[.int .i64 0] 3)) hF (by kernel_rfl) (by kernel_rfl) (by kernel_rfl) (fun a hF => ?_)
                have hS : Sep w0 B (w.alloc (.cells #[.int .i64 0] 3)) (own 3 (.slice (some (⟨w.heap.size, 0, none⟩ : Addr)) 1 1) (vI ([0] : List Int)) :: (own 3 (.slice A10 signs7.length c10) (vI signs7) :: fs)) := hS.lit 3 #[.int .i64 0] 1 rfl (by omega)
                generalize (some (⟨w.heap.size, 0, none⟩ : Addr)) = g3 at hF hS
                generalize w.alloc (.cells #[.int .i64 0] 3) = w at hS ⊢
                obtain ⟨A12, c12, w, hrun, hS⟩ := run_app1 (P := Try.prog) (t := 22) (m := signs7) (ys := ([0] : List Int)) (A2 := g3) (m2 := 1) (c2 := 1) (Value.int .i64) (0 : Int) (hS.at_ 1 rfl) (hS.at_ 0 rfl).rd ((hS.at_ 0 rfl).len1) 22 Und22 hi3 hz3 hs3 (by omega) rfl (fun _ => rfl) hp24
                have hS : Sep w0 B w (own 3 (.slice g3 1 1) (vI ([0] : List Int)) :: own 3 (.slice A12 ((signs7 ++ ([0] : List Int)).length) c12) (vI (signs7 ++ ([0] : List Int))) :: fs) := hS
                refine at_do (d := 154) hF (by kernel_rfl) (by kernel_rfl) hrun (fun a hF => ?_)
                refine at_run 1 [] [] [6, 13] [pl 6 (.slice A12 ((signs7 ++ ([0] : List Int)).length) c12), pl 13 (.int .i64 class1)] hF hS (by kernel_rfl) (by kernel_rfl) ?_ (fun a w hF hS => ?_)
                · exact obs_nil
                refine at_end [6, 13] [pl 6 (.slice A12 ((signs7 ++ ([0] : List Int)).length) c12), pl 13 (.int .i64 class1)] hF rfl (by kernel_rfl) (fun hF => ?_)
                refine block_n ?_
                refine then_n ?_
                have hS := hS.pickN 2 [1] (by decide)
                rw [← hφ6] at hm
                exact ⟨(signs7 ++ ([0] : List Int)), ⟨A12, c12, hF.weak [6, 13] (by kernel_rfl), hS⟩, hm⟩
              · refine reg [] [] [6, 13, 151] [pl 6 (.slice A10 signs7.length c10), pl 13 (.int .i64 class1), pl 151 (.bool (decide ((signs7.length : Int) < 5)))] hF hS Fol (by kernel_rfl) (by kernel_rfl) (by kernel_rfl) ?_ (fun a w hF hS => ?_)
                · exact obs_nil
                refine cond_ev (t := 151) (b := decide ((signs7.length : Int) < 5)) hF (by kernel_rfl) (fun hb => ?_) (fun hb => ?_)
                · replace hm := if_t hm hb
                  refine wpIn_skip ?_
                  refine then_n ?_
                  exact ⟨hF.weak [6, 13] (by kernel_rfl), hS, hm⟩
                · replace hm := if_f hm hb
                  refine wpIn_exit ?_
                  refine then_e (then_e (block_e (then_n ?_)))
                  rw [← hφ6] at hm
                  replace hm := done_b hm
                  unfold gameroomref_HandValue_K6 at hm
                  try dsimp only at hm
                  have hm : ((gameroomref_HandValue_J17 class1) signs7).bind some = some r := hm
                  exact ⟨signs7, A10, c10, hF.weak [6, 13] (by kernel_rfl), hS, hm⟩
          · refine reg [] [] [6, 9, 13, 146] [pl 6 (.slice A4 signs2.length c4), pl 9 (.int .i64 top2), pl 13 (.int .i64 class1), pl 146 (.bool (decide ((0 : Int) ≤ top2)))] hF hS Fol (by kernel_rfl) (by kernel_rfl) (by kernel_rfl) ?_ (fun a w hF hS => ?_)
            · exact obs_nil
            refine cond_ev (t := 146) (b := decide ((0 : Int) ≤ top2)) hF (by kernel_rfl) (fun hb => ?_) (fun hb => ?_)
            · replace hm := if_t hm hb
              refine oneR ?_
              refine at_run 1 [] [] [13, 147] [pl 13 (.int .i64 class1), pl 147 (.int .i64 top2)] hF hS (by kernel_rfl) (by kernel_rfl) ?_ (fun a w hF hS => ?_)
              · exact obs_nil
              refine at_do (d := 148) (s := vS (Instr.buildSlice 22 1 #[(0, .int .i64 top2)])) (v := .slice (some ⟨w.heap.size, 0, none⟩) 1 1) (w' := w.alloc (.cells #[.int .i64 top2] 3)) hF (by kernel_rfl) (by kernel_rfl) (by kernel_rfl) (fun a hF => ?_)
              have hS : Sep w0 B (w.alloc (.cells #[.int .i64 top2] 3)) (own 3 (.slice (some (⟨w.heap.size, 0, none⟩ : Addr)) 1 1) (vI ([top2] : List Int)) :: (own 3 (.slice A4 signs2.length c4) (vI signs2) :: fs)) := hS.lit 3 #[.int .i64 top2] 1 rfl (by omega)
              generalize (some (⟨w.heap.size, 0, none⟩ : Addr)) = g2 at hF hS
              generalize w.alloc (.cells #[.int .i64 top2] 3) = w at hS ⊢
              refine at_run 1 [] [] [6, 13] [pl 6 (.slice g2 1 1), pl 13 (.int .i64 class1)] hF hS (by kernel_rfl) (by kernel_rfl) ?_ (fun a w hF hS => ?_)
              · exact obs_nil
              refine at_end [6, 13] [pl 6 (.slice g2 1 1), pl 13 (.int .i64 class1)] hF rfl (by kernel_rfl) (fun hF => ?_)
              refine then_n ?_
              have hl2 := (hS.at_ 0 rfl).len1
              have hS := (hS.at_ 0 rfl).reN hl2
              have hS : Sep w0 B w (own 3 (.slice g2 (([top2] : List Int).length) 1) (vI ([top2] : List Int)) :: own 3 (.slice A4 signs2.length c4) (vI signs2) :: fs) := hS
              have hF := hF.cast (t := 6) (v := .slice g2 1 1) (v' := .slice g2 (([top2] : List Int).length) 1) rfl rfl (congrArg (fun k => Value.slice g2 k 1) hl2)
              have hS := hS.pickN 2 [0] (by decide)
              exact ⟨([top2] : List Int), g2, 1, hF.weak [6, 13] (by kernel_rfl), hS, hm⟩
            · replace hm := if_f hm hb
              refine wpIn_skip ?_
              refine then_n ?_
              exact ⟨signs2, A4, c4, hF.weak [6, 13] (by kernel_rfl), hS, hm⟩
        · refine reg [] [] [3, 4, 6, 9, 13, 88] [pl 3 (.slice A2 (Int.toNat 13) c2), pl 4 (.bool flush2), pl 6 (.slice A4 signs2.length c4), pl 9 (.int .i64 top2), pl 13 (.int .i64 0), pl 88 (.bool ((decide ((0 : Int) ≤ top2)) && flush2))] hF hS Fol (by kernel_rfl) (by kernel_rfl) (by kernel_rfl) ?_ (fun a w hF hS => ?_)
          · exact obs_nil
          refine cond_ev (t := 88) (b := (decide ((0 : Int) ≤ top2)) && flush2) hF (by kernel_rfl) (fun hb => ?_) (fun hb => ?_)
          · replace hm := if_t hm hb
            refine reg1 [] [] [6, 9, 13] [pl 6 (.slice A4 signs2.length c4), pl 9 (.int .i64 top2), pl 13 (.int .i64 8)] hF hS Fol (by kernel_rfl) (by kernel_rfl) (by kernel_rfl) ?_ (fun a w hF hS => ?_)
            · exact obs_nil
            refine then_n ?_
            have hS := hS.pickN 2 [1] (by decide)
            exact ⟨8, hF.weak [6, 9, 13] (by kernel_rfl), hS, hm⟩
          · replace hm := if_f hm hb
            obtain ⟨hp10, hm⟩ := asrt_b hm
            obtain ⟨hp11, hm⟩ := asrt_b hm
            refine reg [⟨true, [], vS (Instr.indexAt 22 (.slice A4 signs2.length c4) (.int .i64 0)), .pointer (some (sAddr A4 0))⟩, ⟨false, [], vS (Instr.loadAt 3 (.pointer (some (sAddr A4 0)))), .int .i64 (geti signs2 0)⟩, ⟨true, [], vS (Instr.indexAt 22 (.slice A2 (Int.toNat 13) c2) (.int .i64 (geti signs2 0))), .pointer (some (sAddr A2 (geti signs2 0)))⟩, ⟨false, [], vS (Instr.loadAt 3 (.pointer (some (sAddr A2 (geti signs2 0))))), .int .i64 (geti many2 (geti signs2 0))⟩] [none, none, some (.pointer (some (sAddr A4 0))), some (.int .i64 (geti signs2 0)), some (.pointer (some (sAddr A2 (geti signs2 0)))), some (.int .i64 (geti many2 (geti signs2 0))), none] [3, 4, 6, 9, 13, 95] [pl 3 (.slice A2 (Int.toNat 13) c2), pl 4 (.bool flush2), pl 6 (.slice A4 signs2.length c4), pl 9 (.int .i64 top2), pl 13 (.int .i64 0), pl 95 (.bool ((geti many2 (geti signs2 0)) == 4))] hF hS Fol (by kernel_rfl) (by kernel_rfl) (by kernel_rfl) ?_ (fun a w hF hS => ?_)
            · exact obs_cons (ob_ix1 (f := (Value.int .i64)) (m := signs2) Und22 hi3 hs3 (hS.at_ 1 rfl).rd rfl (fun _ => hp10)) <| obs_cons (ob_get1 (n := signs2.length) (m := signs2) (Value.int .i64) (0 : Int) Agg3 (fun _ hS => ⟨_, (hS.at_ 1 rfl).rd⟩) (fun _ hS => rfl) (fun _ => hp10)) <| obs_cons (ob_ix1 (f := (Value.int .i64)) (m := many2) Und22 hi3 hs3 (hS.at_ 0 rfl).rd ((hS.at_ 0 rfl).len1) (fun _ => hp11)) <| obs_cons (ob_get1 (n := (Int.toNat 13)) (m := many2) (Value.int .i64) (0 : Int) Agg3 (fun _ hS => ⟨_, (hS.at_ 0 rfl).rd⟩) (fun _ hS => ((hS.at_ 0 rfl).len1)) (fun _ => hp11)) <| obs_nil
            refine cond_ev (t := 95) (b := ((geti many2 (geti signs2 0)) == 4)) hF (by kernel_rfl) (fun hb => ?_) (fun hb => ?_)
            · replace hm := if_t hm hb
              refine reg1 [] [] [6, 9, 13] [pl 6 (.slice A4 signs2.length c4), pl 9 (.int .i64 top2), pl 13 (.int .i64 7)] hF hS Fol (by kernel_rfl) (by kernel_rfl) (by kernel_rfl) ?_ (fun a w hF hS => ?_)
              · exact obs_nil
              refine then_n ?_
              have hS := hS.pickN 2 [1] (by decide)
              exact ⟨7, hF.weak [6, 9, 13] (by kernel_rfl), hS, hm⟩
            · replace hm := if_f hm hb
              obtain ⟨hp12, hm⟩ := asrt_b hm
              obtain ⟨hp13, hm⟩ := asrt_b hm
              obtain ⟨hp14, hm⟩ := asrt_b hm
              obtain ⟨hp15, hm⟩ := asrt_b hm
              refine reg [⟨true, [], vS (Instr.indexAt 22 (.slice A4 signs2.length c4) (.int .i64 0)), .pointer (some (sAddr A4 0))⟩, ⟨false, [], vS (Instr.loadAt 3 (.pointer (some (sAddr A4 0)))), .int .i64 (geti signs2 0)⟩, ⟨true, [], vS (Instr.indexAt 22 (.slice A2 (Int.toNat 13) c2) (.int .i64 (geti signs2 0))), .pointer (some (sAddr A2 (geti signs2 0)))⟩, ⟨false, [], vS (Instr.loadAt 3 (.pointer (some (sAddr A2 (geti signs2 0))))), .int .i64 (geti many2 (geti signs2 0))⟩, ⟨true, [(((geti many2 (geti signs2 0)) == 3), true)], vS (Instr.indexAt 22 (.slice A4 signs2.length c4) (.int .i64 1)), .pointer (some (sAddr A4 1))⟩, ⟨false, [(((geti many2 (geti signs2 0)) == 3), true)], vS (Instr.loadAt 3 (.pointer (some (sAddr A4 1)))), .int .i64 (geti signs2 1)⟩, ⟨true, [(((geti many2 (geti signs2 0)) == 3), true)], vS (Instr.indexAt 22 (.slice A2 (Int.toNat 13) c2) (.int .i64 (geti signs2 1))), .pointer (some (sAddr A2 (geti signs2 1)))⟩, ⟨false, [(((geti many2 (geti signs2 0)) == 3), true)], vS (Instr.loadAt 3 (.pointer (some (sAddr A2 (geti signs2 1))))), .int .i64 (geti many2 (geti signs2 1))⟩] [none, none, some (.pointer (some (sAddr A4 0))), some (.int .i64 (geti signs2 0)), some (.pointer (some (sAddr A2 (geti signs2 0)))), some (.int .i64 (geti many2 (geti signs2 0))), none, none, none, none, some (.pointer (some (sAddr A4 1))), some (.int .i64 (geti signs2 1)), some (.pointer (some (sAddr A2 (geti signs2 1)))), some (.int .i64 (geti many2 (geti signs2 1))), none, none] [3, 4, 6, 9, 13, 111] [pl 3 (.slice A2 (Int.toNat 13) c2), pl 4 (.bool flush2), pl 6 (.slice A4 signs2.length c4), pl 9 (.int .i64 top2), pl 13 (.int .i64 0), pl 111 (.bool (((geti many2 (geti signs2 0)) == 3) && ((geti many2 (geti signs2 1)) == 2)))] hF hS Fol (by kernel_rfl) (by kernel_rfl) (by kernel_rfl) ?_ (fun a w hF hS => ?_)
              · exact obs_cons (ob_ix1 (f := (Value.int .i64)) (m := signs2) Und22 hi3 hs3 (hS.at_ 1 rfl).rd rfl (fun _ => hp12)) <| obs_cons (ob_get1 (n := signs2.length) (m := signs2) (Value.int .i64) (0 : Int) Agg3 (fun _ hS => ⟨_, (hS.at_ 1 rfl).rd⟩) (fun _ hS => rfl) (fun _ => hp12)) <| obs_cons (ob_ix1 (f := (Value.int .i64)) (m := many2) Und22 hi3 hs3 (hS.at_ 0 rfl).rd ((hS.at_ 0 rfl).len1) (fun _ => hp13)) <| obs_cons (ob_get1 (n := (Int.toNat 13)) (m := many2) (Value.int .i64) (0 : Int) Agg3 (fun _ hS => ⟨_, (hS.at_ 0 rfl).rd⟩) (fun _ hS => ((hS.at_ 0 rfl).len1)) (fun _ => hp13)) <| obs_cons (ob_ix1 (f := (Value.int .i64)) (m := signs2) Und22 hi3 hs3 (hS.at_ 1 rfl).rd rfl (fun hy => hp14 (hy (((geti many2 (geti signs2 0)) == 3), true) (by simp)))) <| obs_cons (ob_get1 (n := signs2.length) (m := signs2) (Value.int .i64) (0 : Int) Agg3 (fun _ hS => ⟨_, (hS.at_ 1 rfl).rd⟩) (fun _ hS => rfl) (fun hy => hp14 (hy (((geti many2 (geti signs2 0)) == 3), true) (by simp)))) <| obs_cons (ob_ix1 (f := (Value.int .i64)) (m := many2) Und22 hi3 hs3 (hS.at_ 0 rfl).rd ((hS.at_ 0 rfl).len1) (fun hy => hp15 (hy (((geti many2 (geti signs2 0)) == 3), true) (by simp)))) <| obs_cons (ob_get1 (n := (Int.toNat 13)) (m := many2) (Value.int .i64) (0 : Int) Agg3 (fun _ hS => ⟨_, (hS.at_ 0 rfl).rd⟩) (fun _ hS => ((hS.at_ 0 rfl).len1)) (fun hy => hp15 (hy (((geti many2 (geti signs2 0)) == 3), true) (by simp)))) <| obs_nil
              refine cond_ev (t := 111) (b := ((geti many2 (geti signs2 0)) == 3) && ((geti many2 (geti signs2 1)) == 2)) hF (by kernel_rfl) (fun hb => ?_) (fun hb => ?_)
              · replace hm := if_t hm hb
                refine reg1 [] [] [6, 9, 13] [pl 6 (.slice A4 signs2.length c4), pl 9 (.int .i64 top2), pl 13 (.int .i64 6)] hF hS Fol (by kernel_rfl) (by kernel_rfl) (by kernel_rfl) ?_ (fun a w hF hS => ?_)
                · exact obs_nil
                refine then_n ?_
                have hS := hS.pickN 2 [1] (by decide)
                exact ⟨6, hF.weak [6, 9, 13] (by kernel_rfl), hS, hm⟩
              · replace hm := if_f hm hb
                refine reg [] [] [3, 6, 9, 13, 112] [pl 3 (.slice A2 (Int.toNat 13) c2), pl 6 (.slice A4 signs2.length c4), pl 9 (.int .i64 top2), pl 13 (.int .i64 0), pl 112 (.bool flush2)] hF hS Fol (by kernel_rfl) (by kernel_rfl) (by kernel_rfl) ?_ (fun a w hF hS => ?_)
                · exact obs_nil
                refine cond_ev (t := 112) (b := flush2) hF (by kernel_rfl) (fun hb => ?_) (fun hb => ?_)
                · replace hm := if_t hm hb
                  refine reg1 [] [] [6, 9, 13] [pl 6 (.slice A4 signs2.length c4), pl 9 (.int .i64 top2), pl 13 (.int .i64 5)] hF hS Fol (by kernel_rfl) (by kernel_rfl) (by kernel_rfl) ?_ (fun a w hF hS => ?_)
                  · exact obs_nil
                  refine then_n ?_
                  have hS := hS.pickN 2 [1] (by decide)
                  exact ⟨5, hF.weak [6, 9, 13] (by kernel_rfl), hS, hm⟩
                · replace hm := if_f hm hb
                  refine reg [] [] [3, 6, 9, 13, 114] [pl 3 (.slice A2 (Int.toNat 13) c2), pl 6 (.slice A4 signs2.length c4), pl 9 (.int .i64 top2), pl 13 (.int .i64 0), pl 114 (.bool (decide ((0 : Int) ≤ top2)))] hF hS Fol (by kernel_rfl) (by kernel_rfl) (by kernel_rfl) ?_ (fun a w hF hS => ?_)
                  · exact obs_nil
                  refine cond_ev (t := 114) (b := decide ((0 : Int) ≤ top2)) hF (by kernel_rfl) (fun hb => ?_) (fun hb => ?_)
                  · replace hm := if_t hm hb
                    refine reg1 [] [] [6, 9, 13] [pl 6 (.slice A4 signs2.length c4), pl 9 (.int .i64 top2), pl 13 (.int .i64 4)] hF hS Fol (by kernel_rfl) (by kernel_rfl) (by kernel_rfl) ?_ (fun a w hF hS => ?_)
                    · exact obs_nil
                    refine then_n ?_
                    have hS := hS.pickN 2 [1] (by decide)
                    exact ⟨4, hF.weak [6, 9, 13] (by kernel_rfl), hS, hm⟩
                  · replace hm := if_f hm hb
                    obtain ⟨hp16, hm⟩ := asrt_b hm
                    obtain ⟨hp17, hm⟩ := asrt_b hm
                    refine reg [⟨true, [], vS (Instr.indexAt 22 (.slice A4 signs2.length c4) (.int .i64 0)), .pointer (some (sAddr A4 0))⟩, ⟨false, [], vS (Instr.loadAt 3 (.pointer (some (sAddr A4 0)))), .int .i64 (geti signs2 0)⟩, ⟨true, [], vS (Instr.indexAt 22 (.slice A2 (Int.toNat 13) c2) (.int .i64 (geti signs2 0))), .pointer (some (sAddr A2 (geti signs2 0)))⟩, ⟨false, [], vS (Instr.loadAt 3 (.pointer (some (sAddr A2 (geti signs2 0))))), .int .i64 (geti many2 (geti signs2 0))⟩] [none, none, some (.pointer (some (sAddr A4 0))), some (.int .i64 (geti signs2 0)), some (.pointer (some (sAddr A2 (geti signs2 0)))), some (.int .i64 (geti many2 (geti signs2 0))), none] [3, 6, 9, 13, 121] [pl 3 (.slice A2 (Int.toNat 13) c2), pl 6 (.slice A4 signs2.length c4), pl 9 (.int .i64 top2), pl 13 (.int .i64 0), pl 121 (.bool ((geti many2 (geti signs2 0)) == 3))] hF hS Fol (by kernel_rfl) (by kernel_rfl) (by kernel_rfl) ?_ (fun a w hF hS => ?_)
                    · exact obs_cons (ob_ix1 (f := (Value.int .i64)) (m := signs2) Und22 hi3 hs3 (hS.at_ 1 rfl).rd rfl (fun _ => hp16)) <| obs_cons (ob_get1 (n := signs2.length) (m := signs2) (Value.int .i64) (0 : Int) Agg3 (fun _ hS => ⟨_, (hS.at_ 1 rfl).rd⟩) (fun _ hS => rfl) (fun _ => hp16)) <| obs_cons (ob_ix1 (f := (Value.int .i64)) (m := many2) Und22 hi3 hs3 (hS.at_ 0 rfl).rd ((hS.at_ 0 rfl).len1) (fun _ => hp17)) <| obs_cons (ob_get1 (n := (Int.toNat 13)) (m := many2) (Value.int .i64) (0 : Int) Agg3 (fun _ hS => ⟨_, (hS.at_ 0 rfl).rd⟩) (fun _ hS => ((hS.at_ 0 rfl).len1)) (fun _ => hp17)) <| obs_nil
                    refine cond_ev (t := 121) (b := ((geti many2 (geti signs2 0)) == 3)) hF (by kernel_rfl) (fun hb => ?_) (fun hb => ?_)
                    · replace hm := if_t hm hb
                      refine reg1 [] [] [6, 9, 13] [pl 6 (.slice A4 signs2.length c4), pl 9 (.int .i64 top2), pl 13 (.int .i64 3)] hF hS Fol (by kernel_rfl) (by kernel_rfl) (by kernel_rfl) ?_ (fun a w hF hS => ?_)
                      · exact obs_nil
                      refine then_n ?_
                      have hS := hS.pickN 2 [1] (by decide)
                      exact ⟨3, hF.weak [6, 9, 13] (by kernel_rfl), hS, hm⟩
                    · replace hm := if_f hm hb
                      obtain ⟨hp18, hm⟩ := asrt_b hm
                      obtain ⟨hp19, hm⟩ := asrt_b hm
                      obtain ⟨hp20, hm⟩ := asrt_b hm
                      obtain ⟨hp21, hm⟩ := asrt_b hm
                      refine reg [⟨true, [], vS (Instr.indexAt 22 (.slice A4 signs2.length c4) (.int .i64 0)), .pointer (some (sAddr A4 0))⟩, ⟨false, [], vS (Instr.loadAt 3 (.pointer (some (sAddr A4 0)))), .int .i64 (geti signs2 0)⟩, ⟨true, [], vS (Instr.indexAt 22 (.slice A2 (Int.toNat 13) c2) (.int .i64 (geti signs2 0))), .pointer (some (sAddr A2 (geti signs2 0)))⟩, ⟨false, [], vS (Instr.loadAt 3 (.pointer (some (sAddr A2 (geti signs2 0))))), .int .i64 (geti many2 (geti signs2 0))⟩, ⟨true, [(((geti many2 (geti signs2 0)) == 2), true)], vS (Instr.indexAt 22 (.slice A4 signs2.length c4) (.int .i64 1)), .pointer (some (sAddr A4 1))⟩, ⟨false, [(((geti many2 (geti signs2 0)) == 2), true)], vS (Instr.loadAt 3 (.pointer (some (sAddr A4 1)))), .int .i64 (geti signs2 1)⟩, ⟨true, [(((geti many2 (geti signs2 0)) == 2), true)], vS (Instr.indexAt 22 (.slice A2 (Int.toNat 13) c2) (.int .i64 (geti signs2 1))), .pointer (some (sAddr A2 (geti signs2 1)))⟩, ⟨false, [(((geti many2 (geti signs2 0)) == 2), true)], vS (Instr.loadAt 3 (.pointer (some (sAddr A2 (geti signs2 1))))), .int .i64 (geti many2 (geti signs2 1))⟩] [none, none, some (.pointer (some (sAddr A4 0))), some (.int .i64 (geti signs2 0)), some (.pointer (some (sAddr A2 (geti signs2 0)))), some (.int .i64 (geti many2 (geti signs2 0))), none, none, none, none, some (.pointer (some (sAddr A4 1))), some (.int .i64 (geti signs2 1)), some (.pointer (some (sAddr A2 (geti signs2 1)))), some (.int .i64 (geti many2 (geti signs2 1))), none, none] [3, 6, 9, 13, 137] [pl 3 (.slice A2 (Int.toNat 13) c2), pl 6 (.slice A4 signs2.length c4), pl 9 (.int .i64 top2), pl 13 (.int .i64 0), pl 137 (.bool (((geti many2 (geti signs2 0)) == 2) && ((geti many2 (geti signs2 1)) == 2)))] hF hS Fol (by kernel_rfl) (by kernel_rfl) (by kernel_rfl) ?_ (fun a w hF hS => ?_)
                      · exact obs_cons (ob_ix1 (f := (Value.int .i64)) (m := signs2) Und22 hi3 hs3 (hS.at_ 1 rfl).rd rfl (fun _ => hp18)) <| obs_cons (ob_get1 (n := signs2.length) (m := signs2) (Value.int .i64) (0 : Int) Agg3 (fun _ hS => ⟨_, (hS.at_ 1 rfl).rd⟩) (fun _ hS => rfl) (fun _ => hp18)) <| obs_cons (ob_ix1 (f := (Value.int .i64)) (m := many2) Und22 hi3 hs3 (hS.at_ 0 rfl).rd ((hS.at_ 0 rfl).len1) (fun _ => hp19)) <| obs_cons (ob_get1 (n := (Int.toNat 13)) (m := many2) (Value.int .i64) (0 : Int) Agg3 (fun _ hS => ⟨_, (hS.at_ 0 rfl).rd⟩) (fun _ hS => ((hS.at_ 0 rfl).len1)) (fun _ => hp19)) <| obs_cons (ob_ix1 (f := (Value.int .i64)) (m := signs2) Und22 hi3 hs3 (hS.at_ 1 rfl).rd rfl (fun hy => hp20 (hy (((geti many2 (geti signs2 0)) == 2), true) (by simp)))) <| obs_cons (ob_get1 (n := signs2.length) (m := signs2) (Value.int .i64) (0 : Int) Agg3 (fun _ hS => ⟨_, (hS.at_ 1 rfl).rd⟩) (fun _ hS => rfl) (fun hy => hp20 (hy (((geti many2 (geti signs2 0)) == 2), true) (by simp)))) <| obs_cons (ob_ix1 (f := (Value.int .i64)) (m := many2) Und22 hi3 hs3 (hS.at_ 0 rfl).rd ((hS.at_ 0 rfl).len1) (fun hy => hp21 (hy (((geti many2 (geti signs2 0)) == 2), true) (by simp)))) <| obs_cons (ob_get1 (n := (Int.toNat 13)) (m := many2) (Value.int .i64) (0 : Int) Agg3 (fun _ hS => ⟨_, (hS.at_ 0 rfl).rd⟩) (fun _ hS => ((hS.at_ 0 rfl).len1)) (fun hy => hp21 (hy (((geti many2 (geti signs2 0)) == 2), true) (by simp)))) <| obs_nil
                      refine cond_ev (t := 137) (b := ((geti many2 (geti signs2 0)) == 2) && ((geti many2 (geti signs2 1)) == 2)) hF (by kernel_rfl) (fun hb => ?_) (fun hb => ?_)
                      · replace hm := if_t hm hb
                        refine reg1 [] [] [6, 9, 13] [pl 6 (.slice A4 signs2.length c4), pl 9 (.int .i64 top2), pl 13 (.int .i64 2)] hF hS Fol (by kernel_rfl) (by kernel_rfl) (by kernel_rfl) ?_ (fun a w hF hS => ?_)
                        · exact obs_nil
                        refine then_n ?_
                        have hS := hS.pickN 2 [1] (by decide)
                        exact ⟨2, hF.weak [6, 9, 13] (by kernel_rfl), hS, hm⟩
                      · replace hm := if_f hm hb
                        obtain ⟨hp22, hm⟩ := asrt_b hm
                        obtain ⟨hp23, hm⟩ := asrt_b hm
                        refine reg [⟨true, [], vS (Instr.indexAt 22 (.slice A4 signs2.length c4) (.int .i64 0)), .pointer (some (sAddr A4 0))⟩, ⟨false, [], vS (Instr.loadAt 3 (.pointer (some (sAddr A4 0)))), .int .i64 (geti signs2 0)⟩, ⟨true, [], vS (Instr.indexAt 22 (.slice A2 (Int.toNat 13) c2) (.int .i64 (geti signs2 0))), .pointer (some (sAddr A2 (geti signs2 0)))⟩, ⟨false, [], vS (Instr.loadAt 3 (.pointer (some (sAddr A2 (geti signs2 0))))), .int .i64 (geti many2 (geti signs2 0))⟩] [none, none, some (.pointer (some (sAddr A4 0))), some (.int .i64 (geti signs2 0)), some (.pointer (some (sAddr A2 (geti signs2 0)))), some (.int .i64 (geti many2 (geti signs2 0))), none] [6, 9, 13, 144] [pl 6 (.slice A4 signs2.length c4), pl 9 (.int .i64 top2), pl 13 (.int .i64 0), pl 144 (.bool ((geti many2 (geti signs2 0)) == 2))] hF hS Fol (by kernel_rfl) (by kernel_rfl) (by kernel_rfl) ?_ (fun a w hF hS => ?_)
                        · exact obs_cons (ob_ix1 (f := (Value.int .i64)) (m := signs2) Und22 hi3 hs3 (hS.at_ 1 rfl).rd rfl (fun _ => hp22)) <| obs_cons (ob_get1 (n := signs2.length) (m := signs2) (Value.int .i64) (0 : Int) Agg3 (fun _ hS => ⟨_, (hS.at_ 1 rfl).rd⟩) (fun _ hS => rfl) (fun _ => hp22)) <| obs_cons (ob_ix1 (f := (Value.int .i64)) (m := many2) Und22 hi3 hs3 (hS.at_ 0 rfl).rd ((hS.at_ 0 rfl).len1) (fun _ => hp23)) <| obs_cons (ob_get1 (n := (Int.toNat 13)) (m := many2) (Value.int .i64) (0 : Int) Agg3 (fun _ hS => ⟨_, (hS.at_ 0 rfl).rd⟩) (fun _ hS => ((hS.at_ 0 rfl).len1)) (fun _ => hp23)) <| obs_nil
                        refine cond_ev (t := 144) (b := ((geti many2 (geti signs2 0)) == 2)) hF (by kernel_rfl) (fun hb => ?_) (fun hb => ?_)
                        · replace hm := if_t hm hb
                          refine reg1 [] [] [6, 9, 13] [pl 6 (.slice A4 signs2.length c4), pl 9 (.int .i64 top2), pl 13 (.int .i64 1)] hF hS Fol (by kernel_rfl) (by kernel_rfl) (by kernel_rfl) ?_ (fun a w hF hS => ?_)
                          · exact obs_nil
                          refine then_n ?_
                          have hS := hS.pickN 2 [1] (by decide)
                          exact ⟨1, hF.weak [6, 9, 13] (by kernel_rfl), hS, hm⟩
                        · replace hm := if_f hm hb
                          refine wpIn_skip ?_
                          refine then_n ?_
                          have hS := hS.pickN 2 [1] (by decide)
                          exact ⟨0, hF.weak [6, 9, 13] (by kernel_rfl), hS, hm⟩
      · refine reg [] [] [3, 4, 6, 9, 10] [pl 3 (.slice A2 (Int.toNat 13) c2), pl 4 (.bool flush2), pl 6 (.slice A4 signs2.length c4), pl 9 (.int .i64 (-1)), pl 10 (.int .i64 3)] hF hS Fol (by kernel_rfl) (by kernel_rfl) (by kernel_rfl) ?_ (fun a w hF hS => ?_)
        · exact obs_nil
        refine wpIn_block ?_
        refine wp_loop_model (S := (Int × Int)) (R := Int) (gameroomref_HandValue_L4 many2) (fun x => ((gameroomref_HandValue_K4 many2 flush2 signs2) x).bind some) r (fun (x : (Int × Int)) a w => Fr 168 [pl 3 (.slice A2 (Int.toNat 13) c2), pl 4 (.bool flush2), pl 6 (.slice A4 signs2.length c4), pl 9 (.int .i64 x.1), pl 10 (.int .i64 x.2)] a ∧ Sep w0 B w (own 3 (.slice A2 (Int.toNat 13) c2) (vI many2) :: own 3 (.slice A4 signs2.length c4) (vI signs2) :: fs)) (assoc_b hm) ⟨hF.weak [3, 4, 6, 9, 10] (by kernel_rfl), hS⟩ ?_
        clear hF hS hm
        rintro nn4 ⟨top1, r2⟩ a w ⟨hF, hS⟩ hm
        generalize hφ4 : stK (gameroomref_HandValue_L4 many2) nn4 (fun x => ((gameroomref_HandValue_K4 many2 flush2 signs2) x).bind some) = φ4 at hm
        unfold gameroomref_HandValue_L4 at hm
        dsimp only at hF hS hm
        refine seq_cut (fun a w => Fr 168 [pl 3 (.slice A2 (Int.toNat 13) c2), pl 4 (.bool flush2), pl 6 (.slice A4 signs2.length c4), pl 9 (.int .i64 top1), pl 10 (.int .i64 r2)] a ∧ Sep w0 B w (own 3 (.slice A2 (Int.toNat 13) c2) (vI many2) :: own 3 (.slice A4 signs2.length c4) (vI signs2) :: fs) ∧ ((gameroomref_HandValue_J10 many2 top1 r2)).bind φ4 = some r) ?_ ?_
        · rintro a w ⟨hF, hS, hm⟩
          unfold gameroomref_HandValue_J10 at hm
          refine seq_cut (fun a w => ∃ (top3 : Int), Fr 168 [pl 3 (.slice A2 (Int.toNat 13) c2), pl 4 (.bool flush2), pl 6 (.slice A4 signs2.length c4), pl 9 (.int .i64 top3), pl 10 (.int .i64 r2)] a ∧ Sep w0 B w (own 3 (.slice A2 (Int.toNat 13) c2) (vI many2) :: own 3 (.slice A4 signs2.length c4) (vI signs2) :: fs) ∧ ((gameroomref_HandValue_J11 r2) top3).bind φ4 = some r) ?_ ?_
          · rintro a w ⟨top3, hF, hS, hm⟩
            unfold gameroomref_HandValue_J11 at hm
            refine reg1 [] [] [3, 4, 6, 9, 10] [pl 3 (.slice A2 (Int.toNat 13) c2), pl 4 (.bool flush2), pl 6 (.slice A4 signs2.length c4), pl 9 (.int .i64 top3), pl 10 (.int .i64 (w64 (r2 + 1)))] hF hS Fol (by kernel_rfl) (by kernel_rfl) (by kernel_rfl) ?_ (fun a w hF hS => ?_)
            · exact obs_nil
            refine then_n ?_
            rw [← hφ4] at hm
            exact ⟨(top3, (w64 (r2 + 1))), ⟨hF.weak [3, 4, 6, 9, 10] (by kernel_rfl), hS⟩, hm⟩
          · refine wpIn_block ?_
            refine reg [] [] [3, 4, 6, 9, 10, 11] [pl 3 (.slice A2 (Int.toNat 13) c2), pl 4 (.bool flush2), pl 6 (.slice A4 signs2.length c4), pl 9 (.int .i64 top1), pl 10 (.int .i64 r2), pl 11 (.bool true)] hF hS Fol (by kernel_rfl) (by kernel_rfl) (by kernel_rfl) ?_ (fun a w hF hS => ?_)
            · exact obs_nil
            refine seq_cut (fun a w => ∃ (all2 : Bool), Fr 168 [pl 3 (.slice A2 (Int.toNat 13) c2), pl 4 (.bool flush2), pl 6 (.slice A4 signs2.length c4), pl 9 (.int .i64 top1), pl 10 (.int .i64 r2), pl 11 (.bool all2)] a ∧ Sep w0 B w (own 3 (.slice A2 (Int.toNat 13) c2) (vI many2) :: own 3 (.slice A4 signs2.length c4) (vI signs2) :: fs) ∧ ((gameroomref_HandValue_J12 top1 r2) all2).bind φ4 = some r) ?_ ?_
            · rintro a w ⟨all2, hF, hS, hm⟩
              unfold gameroomref_HandValue_J12 at hm
              refine reg [] [] [3, 4, 6, 9, 10, 82] [pl 3 (.slice A2 (Int.toNat 13) c2), pl 4 (.bool flush2), pl 6 (.slice A4 signs2.length c4), pl 9 (.int .i64 top1), pl 10 (.int .i64 r2), pl 82 (.bool all2)] hF hS Fol (by kernel_rfl) (by kernel_rfl) (by kernel_rfl) ?_ (fun a w hF hS => ?_)
              · exact obs_nil
              refine cond_ev (t := 82) (b := all2) hF (by kernel_rfl) (fun hb => ?_) (fun hb => ?_)
              · replace hm := if_t hm hb
                refine reg1 [] [] [3, 4, 6, 9, 10] [pl 3 (.slice A2 (Int.toNat 13) c2), pl 4 (.bool flush2), pl 6 (.slice A4 signs2.length c4), pl 9 (.int .i64 r2), pl 10 (.int .i64 r2)] hF hS Fol (by kernel_rfl) (by kernel_rfl) (by kernel_rfl) ?_ (fun a w hF hS => ?_)
                · exact obs_nil
                refine block_n ?_
                refine then_n ?_
                exact ⟨r2, hF.weak [3, 4, 6, 9, 10] (by kernel_rfl), hS, hm⟩
              · replace hm := if_f hm hb
                refine wpIn_skip ?_
                refine block_n ?_
                refine then_n ?_
                exact ⟨top1, hF.weak [3, 4, 6, 9, 10] (by kernel_rfl), hS, hm⟩
            · refine reg [] [] [3, 4, 6, 9, 10, 11, 12] [pl 3 (.slice A2 (Int.toNat 13) c2), pl 4 (.bool flush2), pl 6 (.slice A4 signs2.length c4), pl 9 (.int .i64 top1), pl 10 (.int .i64 r2), pl 11 (.bool true), pl 12 (.int .i64 0)] hF hS Fol (by kernel_rfl) (by kernel_rfl) (by kernel_rfl) ?_ (fun a w hF hS => ?_)
              · exact obs_nil
              refine wpIn_block ?_
              refine wp_loop_model (S := (Bool × Int)) (R := Bool) (gameroomref_HandValue_L5 many2 r2) (fun x => ((gameroomref_HandValue_K5 top1 r2) x).bind φ4) r (fun (x : (Bool × Int)) a w => Fr 168 [pl 3 (.slice A2 (Int.toNat 13) c2), pl 4 (.bool flush2), pl 6 (.slice A4 signs2.length c4), pl 9 (.int .i64 top1), pl 10 (.int .i64 r2), pl 11 (.bool x.1), pl 12 (.int .i64 x.2)] a ∧ Sep w0 B w (own 3 (.slice A2 (Int.toNat 13) c2) (vI many2) :: own 3 (.slice A4 signs2.length c4) (vI signs2) :: fs)) (assoc_b hm) ⟨hF.weak [3, 4, 6, 9, 10, 11, 12] (by kernel_rfl), hS⟩ ?_
              clear hF hS hm
              rintro nn5 ⟨all1, k1⟩ a w ⟨hF, hS⟩ hm
              generalize hφ5 : stK (gameroomref_HandValue_L5 many2 r2) nn5 (fun x => ((gameroomref_HandValue_K5 top1 r2) x).bind φ4) = φ5 at hm
              unfold gameroomref_HandValue_L5 at hm
              dsimp only at hF hS hm
              refine seq_cut (fun a w => Fr 168 [pl 3 (.slice A2 (Int.toNat 13) c2), pl 4 (.bool flush2), pl 6 (.slice A4 signs2.length c4), pl 9 (.int .i64 top1), pl 10 (.int .i64 r2), pl 11 (.bool all1), pl 12 (.int .i64 k1)] a ∧ Sep w0 B w (own 3 (.slice A2 (Int.toNat 13) c2) (vI many2) :: own 3 (.slice A4 signs2.length c4) (vI signs2) :: fs) ∧ ((gameroomref_HandValue_J13 many2 r2 all1 k1)).bind φ5 = some r) ?_ ?_
              · rintro a w ⟨hF, hS, hm⟩
                unfold gameroomref_HandValue_J13 at hm
                refine seq_cut (fun a w => Fr 168 [pl 3 (.slice A2 (Int.toNat 13) c2), pl 4 (.bool flush2), pl 6 (.slice A4 signs2.length c4), pl 9 (.int .i64 top1), pl 10 (.int .i64 r2), pl 11 (.bool (all1 && ((geti many2 (Int.tmod (w64 ((w64 (r2 - k1)) + 13)) 13)) == 1))), pl 12 (.int .i64 k1)] a ∧ Sep w0 B w (own 3 (.slice A2 (Int.toNat 13) c2) (vI many2) :: own 3 (.slice A4 signs2.length c4) (vI signs2) :: fs) ∧ ((gameroomref_HandValue_J14 many2 r2 all1 k1)).bind φ5 = some r) ?_ ?_
                · rintro a w ⟨hF, hS, hm⟩
                  unfold gameroomref_HandValue_J14 at hm
                  refine reg1 [] [] [3, 4, 6, 9, 10, 11, 12] [pl 3 (.slice A2 (Int.toNat 13) c2), pl 4 (.bool flush2), pl 6 (.slice A4 signs2.length c4), pl 9 (.int .i64 top1), pl 10 (.int .i64 r2), pl 11 (.bool (all1 && ((geti many2 (Int.tmod (w64 ((w64 (r2 - k1)) + 13)) 13)) == 1))), pl 12 (.int .i64 (w64 (k1 + 1)))] hF hS Fol (by kernel_rfl) (by kernel_rfl) (by kernel_rfl) ?_ (fun a w hF hS => ?_)
                  · exact obs_nil
                  refine then_n ?_
                  rw [← hφ5] at hm
                  exact ⟨((all1 && ((geti many2 (Int.tmod (w64 ((w64 (r2 - k1)) + 13)) 13)) == 1)), (w64 (k1 + 1))), ⟨hF.weak [3, 4, 6, 9, 10, 11, 12] (by kernel_rfl), hS⟩, hm⟩
                · refine wpIn_block ?_
                  obtain ⟨hp9, hm⟩ := asrt_b hm
                  refine reg1 [⟨true, [(all1, true)], vS (Instr.indexAt 22 (.slice A2 (Int.toNat 13) c2) (.int .i64 (Int.tmod (w64 ((w64 (r2 - k1)) + 13)) 13))), .pointer (some (sAddr A2 (Int.tmod (w64 ((w64 (r2 - k1)) + 13)) 13)))⟩, ⟨false, [(all1, true)], vS (Instr.loadAt 3 (.pointer (some (sAddr A2 (Int.tmod (w64 ((w64 (r2 - k1)) + 13)) 13))))), .int .i64 (geti many2 (Int.tmod (w64 ((w64 (r2 - k1)) + 13)) 13))⟩] [none, none, none, none, none, none, none, none, some (.pointer (some (sAddr A2 (Int.tmod (w64 ((w64 (r2 - k1)) + 13)) 13)))), some (.int .i64 (geti many2 (Int.tmod (w64 ((w64 (r2 - k1)) + 13)) 13))), none, none, none] [3, 4, 6, 9, 10, 11, 12] [pl 3 (.slice A2 (Int.toNat 13) c2), pl 4 (.bool flush2), pl 6 (.slice A4 signs2.length c4), pl 9 (.int .i64 top1), pl 10 (.int .i64 r2), pl 11 (.bool (all1 && ((geti many2 (Int.tmod (w64 ((w64 (r2 - k1)) + 13)) 13)) == 1))), pl 12 (.int .i64 k1)] hF hS Fol (by kernel_rfl) (by kernel_rfl) (by kernel_rfl) ?_ (fun a w hF hS => ?_)
                  · exact obs_cons (ob_ix1 (f := (Value.int .i64)) (m := many2) Und22 hi3 hs3 (hS.at_ 0 rfl).rd ((hS.at_ 0 rfl).len1) (fun hy => hp9 (hy (all1, true) (by simp)))) <| obs_cons (ob_get1 (n := (Int.toNat 13)) (m := many2) (Value.int .i64) (0 : Int) Agg3 (fun _ hS => ⟨_, (hS.at_ 0 rfl).rd⟩) (fun _ hS => ((hS.at_ 0 rfl).len1)) (fun hy => hp9 (hy (all1, true) (by simp)))) <| obs_nil
                  refine block_n ?_
                  refine then_n ?_
                  exact ⟨hF.weak [3, 4, 6, 9, 10, 11, 12] (by kernel_rfl), hS, hm⟩
              · refine reg [] [] [3, 4, 6, 9, 10, 11, 12, 67] [pl 3 (.slice A2 (Int.toNat 13) c2), pl 4 (.bool flush2), pl 6 (.slice A4 signs2.length c4), pl 9 (.int .i64 top1), pl 10 (.int .i64 r2), pl 11 (.bool all1), pl 12 (.int .i64 k1), pl 67 (.bool (decide (k1 < 5)))] hF hS Fol (by kernel_rfl) (by kernel_rfl) (by kernel_rfl) ?_ (fun a w hF hS => ?_)
                · exact obs_nil
                refine cond_ev (t := 67) (b := decide (k1 < 5)) hF (by kernel_rfl) (fun hb => ?_) (fun hb => ?_)
                · replace hm := if_t hm hb
                  refine wpIn_skip ?_
                  refine then_n ?_
                  exact ⟨hF.weak [3, 4, 6, 9, 10, 11, 12] (by kernel_rfl), hS, hm⟩
                · replace hm := if_f hm hb
                  refine wpIn_exit ?_
                  refine then_e (then_e (block_e (then_n ?_)))
                  rw [← hφ5] at hm
                  replace hm := done_b hm
                  unfold gameroomref_HandValue_K5 at hm
                  try dsimp only at hm
                  have hm : ((gameroomref_HandValue_J12 top1 r2) all1).bind φ4 = some r := hm
                  exact ⟨all1, hF.weak [3, 4, 6, 9, 10, 11] (by kernel_rfl), hS, hm⟩
        · refine reg [] [] [3, 4, 6, 9, 10, 63] [pl 3 (.slice A2 (Int.toNat 13) c2), pl 4 (.bool flush2), pl 6 (.slice A4 signs2.length c4), pl 9 (.int .i64 top1), pl 10 (.int .i64 r2), pl 63 (.bool (decide (r2 < 13)))] hF hS Fol (by kernel_rfl) (by kernel_rfl) (by kernel_rfl) ?_ (fun a w hF hS => ?_)
          · exact obs_nil
          refine cond_ev (t := 63) (b := decide (r2 < 13)) hF (by kernel_rfl) (fun hb => ?_) (fun hb => ?_)
          · replace hm := if_t hm hb
            refine wpIn_skip ?_
            refine then_n ?_
            exact ⟨hF.weak [3, 4, 6, 9, 10] (by kernel_rfl), hS, hm⟩
          · replace hm := if_f hm hb
            refine wpIn_exit ?_
            refine then_e (then_e (block_e (then_n ?_)))
            rw [← hφ4] at hm
            replace hm := done_b hm
            unfold gameroomref_HandValue_K4 at hm
            try dsimp only at hm
            have hm : ((gameroomref_HandValue_J9 many2 flush2 signs2) top1).bind some = some r := hm
            exact ⟨top1, hF.weak [3, 4, 6, 9] (by kernel_rfl), hS, hm⟩
    · refine reg [] [] [3, 4, 6, 7] [pl 3 (.slice A2 (Int.toNat 13) c2), pl 4 (.bool flush2), pl 6 (.slice none 0 0), pl 7 (.int .i64 4)] hF hS Fol (by kernel_rfl) (by kernel_rfl) (by kernel_rfl) ?_ (fun a w hF hS => ?_)
      · exact obs_nil
      refine wpIn_block ?_
      have hS : Sep w0 B w (own 3 (.slice none 0 0) (vI ([] : List Int)) :: own 3 (.slice A2 (Int.toNat 13) c2) (vI many2) :: fs) := hS.nil 3
      have hl1 := (hS.at_ 0 rfl).len1
      have hS := (hS.at_ 0 rfl).reN hl1
      have hS : Sep w0 B w (own 3 (.slice none (([] : List Int).length) 0) (vI ([] : List Int)) :: own 3 (.slice A2 (Int.toNat 13) c2) (vI many2) :: fs) := hS
      have hF := hF.cast (t := 6) (v := .slice none 0 0) (v' := .slice none (([] : List Int).length) 0) rfl rfl (congrArg (fun k => Value.slice none k 0) hl1)
      have hS := hS.pickN 2 [1, 0] (by decide)
      refine wp_loop_model (S := (List Int × Int)) (R := (List Int)) (gameroomref_HandValue_L2 many2) (fun x => ((gameroomref_HandValue_K2 many2 flush2) x).bind some) r (fun (x : (List Int × Int)) a w => ∃ (A3 : Option Addr) (c3 : Nat), Fr 168 [pl 3 (.slice A2 (Int.toNat 13) c2), pl 4 (.bool flush2), pl 6 (.slice A3 x.1.length c3), pl 7 (.int .i64 x.2)] a ∧ Sep w0 B w (own 3 (.slice A2 (Int.toNat 13) c2) (vI many2) :: own 3 (.slice A3 x.1.length c3) (vI x.1) :: fs)) (assoc_b hm) ⟨none, 0, hF.weak [3, 4, 6, 7] (by kernel_rfl), hS⟩ ?_
      clear hF hS hm
      rintro nn2 ⟨signs1, times1⟩ a w ⟨A3, c3, hF, hS⟩ hm
      generalize hφ2 : stK (gameroomref_HandValue_L2 many2) nn2 (fun x => ((gameroomref_HandValue_K2 many2 flush2) x).bind some) = φ2 at hm
      unfold gameroomref_HandValue_L2 at hm
      dsimp only at hF hS hm
      refine seq_cut (fun a w => Fr 168 [pl 3 (.slice A2 (Int.toNat 13) c2), pl 4 (.bool flush2), pl 6 (.slice A3 signs1.length c3), pl 7 (.int .i64 times1)] a ∧ Sep w0 B w (own 3 (.slice A2 (Int.toNat 13) c2) (vI many2) :: own 3 (.slice A3 signs1.length c3) (vI signs1) :: fs) ∧ ((gameroomref_HandValue_J5 many2 signs1 times1)).bind φ2 = some r) ?_ ?_
      · rintro a w ⟨hF, hS, hm⟩
        unfold gameroomref_HandValue_J5 at hm
        refine seq_cut (fun a w => ∃ (signs4 : List Int) (A6 : Option Addr) (c6 : Nat), Fr 168 [pl 3 (.slice A2 (Int.toNat 13) c2), pl 4 (.bool flush2), pl 6 (.slice A6 signs4.length c6), pl 7 (.int .i64 times1)] a ∧ Sep w0 B w (own 3 (.slice A2 (Int.toNat 13) c2) (vI many2) :: own 3 (.slice A6 signs4.length c6) (vI signs4) :: fs) ∧ ((gameroomref_HandValue_J6 times1) signs4).bind φ2 = some r) ?_ ?_
        · rintro a w ⟨signs4, A6, c6, hF, hS, hm⟩
          unfold gameroomref_HandValue_J6 at hm
          refine reg1 [] [] [3, 4, 6, 7] [pl 3 (.slice A2 (Int.toNat 13) c2), pl 4 (.bool flush2), pl 6 (.slice A6 signs4.length c6), pl 7 (.int .i64 (w64 (times1 - 1)))] hF hS Fol (by kernel_rfl) (by kernel_rfl) (by kernel_rfl) ?_ (fun a w hF hS => ?_)
          · exact obs_nil
          refine then_n ?_
          rw [← hφ2] at hm
          exact ⟨(signs4, (w64 (times1 - 1))), ⟨A6, c6, hF.weak [3, 4, 6, 7] (by kernel_rfl), hS⟩, hm⟩
        · refine wpIn_block ?_
          refine reg [] [] [3, 4, 6, 7, 8] [pl 3 (.slice A2 (Int.toNat 13) c2), pl 4 (.bool flush2), pl 6 (.slice A3 signs1.length c3), pl 7 (.int .i64 times1), pl 8 (.int .i64 12)] hF hS Fol (by kernel_rfl) (by kernel_rfl) (by kernel_rfl) ?_ (fun a w hF hS => ?_)
          · exact obs_nil
          refine wpIn_block ?_
          refine wp_loop_model (S := (List Int × Int)) (R := (List Int)) (gameroomref_HandValue_L3 many2 times1) (fun x => ((gameroomref_HandValue_K3 times1) x).bind φ2) r (fun (x : (List Int × Int)) a w => ∃ (A5 : Option Addr) (c5 : Nat), Fr 168 [pl 3 (.slice A2 (Int.toNat 13) c2), pl 4 (.bool flush2), pl 6 (.slice A5 x.1.length c5), pl 7 (.int .i64 times1), pl 8 (.int .i64 x.2)] a ∧ Sep w0 B w (own 3 (.slice A2 (Int.toNat 13) c2) (vI many2) :: own 3 (.slice A5 x.1.length c5) (vI x.1) :: fs)) (assoc_b hm) ⟨A3, c3, hF.weak [3, 4, 6, 7, 8] (by kernel_rfl), hS⟩ ?_
          clear hF hS hm
          rintro nn3 ⟨signs3, r1⟩ a w ⟨A5, c5, hF, hS⟩ hm
          generalize hφ3 : stK (gameroomref_HandValue_L3 many2 times1) nn3 (fun x => ((gameroomref_HandValue_K3 times1) x).bind φ2) = φ3 at hm
          unfold gameroomref_HandValue_L3 at hm
          dsimp only at hF hS hm
          refine seq_cut (fun a w => Fr 168 [pl 3 (.slice A2 (Int.toNat 13) c2), pl 4 (.bool flush2), pl 6 (.slice A5 signs3.length c5), pl 7 (.int .i64 times1), pl 8 (.int .i64 r1)] a ∧ Sep w0 B w (own 3 (.slice A2 (Int.toNat 13) c2) (vI many2) :: own 3 (.slice A5 signs3.length c5) (vI signs3) :: fs) ∧ ((gameroomref_HandValue_J7 many2 times1 signs3 r1)).bind φ3 = some r) ?_ ?_
          · rintro a w ⟨hF, hS, hm⟩
            unfold gameroomref_HandValue_J7 at hm
            refine seq_cut (fun a w => ∃ (signs5 : List Int) (A8 : Option Addr) (c8 : Nat), Fr 168 [pl 3 (.slice A2 (Int.toNat 13) c2), pl 4 (.bool flush2), pl 6 (.slice A8 signs5.length c8), pl 7 (.int .i64 times1), pl 8 (.int .i64 r1)] a ∧ Sep w0 B w (own 3 (.slice A2 (Int.toNat 13) c2) (vI many2) :: own 3 (.slice A8 signs5.length c8) (vI signs5) :: fs) ∧ ((gameroomref_HandValue_J8 r1) signs5).bind φ3 = some r) ?_ ?_
            · rintro a w ⟨signs5, A8, c8, hF, hS, hm⟩
              unfold gameroomref_HandValue_J8 at hm
              refine reg1 [] [] [3, 4, 6, 7, 8] [pl 3 (.slice A2 (Int.toNat 13) c2), pl 4 (.bool flush2), pl 6 (.slice A8 signs5.length c8), pl 7 (.int .i64 times1), pl 8 (.int .i64 (w64 (r1 - 1)))] hF hS Fol (by kernel_rfl) (by kernel_rfl) (by kernel_rfl) ?_ (fun a w hF hS => ?_)
              · exact obs_nil
              refine then_n ?_
              rw [← hφ3] at hm
              exact ⟨(signs5, (w64 (r1 - 1))), ⟨A8, c8, hF.weak [3, 4, 6, 7, 8] (by kernel_rfl), hS⟩, hm⟩
            · refine wpIn_block ?_
              obtain ⟨hp7, hm⟩ := asrt_b hm
              refine reg [⟨true, [], vS (Instr.indexAt 22 (.slice A2 (Int.toNat 13) c2) (.int .i64 r1)), .pointer (some (sAddr A2 r1))⟩, ⟨false, [], vS (Instr.loadAt 3 (.pointer (some (sAddr A2 r1)))), .int .i64 (geti many2 r1)⟩] [none, none, some (.pointer (some (sAddr A2 r1))), some (.int .i64 (geti many2 r1)), none, none] [3, 4, 6, 7, 8, 57] [pl 3 (.slice A2 (Int.toNat 13) c2), pl 4 (.bool flush2), pl 6 (.slice A5 signs3.length c5), pl 7 (.int .i64 times1), pl 8 (.int .i64 r1), pl 57 (.bool ((geti many2 r1) == times1))] hF hS Fol (by kernel_rfl) (by kernel_rfl) (by kernel_rfl) ?_ (fun a w hF hS => ?_)
              · exact obs_cons (ob_ix1 (f := (Value.int .i64)) (m := many2) Und22 hi3 hs3 (hS.at_ 0 rfl).rd ((hS.at_ 0 rfl).len1) (fun _ => hp7)) <| obs_cons (ob_get1 (n := (Int.toNat 13)) (m := many2) (Value.int .i64) (0 : Int) Agg3 (fun _ hS => ⟨_, (hS.at_ 0 rfl).rd⟩) (fun _ hS => ((hS.at_ 0 rfl).len1)) (fun _ => hp7)) <| obs_nil
              refine cond_ev (t := 57) (b := ((geti many2 r1) == times1)) hF (by kernel_rfl) (fun hb => ?_) (fun hb => ?_)
              · replace hm := if_t hm hb
                refine oneR ?_
                obtain ⟨hp8, hm⟩ := asrt_b hm
                refine at_run 2 [] [] [3, 4, 7, 8, 58, 59] [pl 3 (.slice A2 (Int.toNat 13) c2), pl 4 (.bool flush2), pl 7 (.int .i64 times1), pl 8 (.int .i64 r1), pl 58 (.slice A5 signs3.length c5), pl 59 (.int .i64 r1)] hF hS (by kernel_rfl) (by kernel_rfl) ?_ (fun a w hF hS => ?_)
                · exact obs_nil
                refine at_do (d := 60) (s := vS (Instr.buildSlice 22 1 #[(0, .int .i64 r1)])) (v := .slice (some ⟨w.heap.size, 0, none⟩) 1 1) (w' := w.alloc (.cells #[.int .i64 r1] 3)) hF (by kernel_rfl) (by kernel_rfl) (by kernel_rfl) (fun a hF => ?_)
                have hS : Sep w0 B (w.alloc (.cells #[.int .i64 r1] 3)) (own 3 (.slice (some (⟨w.heap.size, 0, none⟩ : Addr)) 1 1) (vI ([r1] : List Int)) :: (own 3 (.slice A2 (Int.toNat 13) c2) (vI many2) :: own 3 (.slice A5 signs3.length c5) (vI signs3) :: fs)) := hS.lit 3 #[.int .i64 r1] 1 rfl (by omega)
                generalize (some (⟨w.heap.size, 0, none⟩ : Addr)) = g1 at hF hS
                generalize w.alloc (.cells #[.int .i64 r1] 3) = w at hS ⊢
                obtain ⟨A7, c7, w, hrun, hS⟩ := run_app1 (P := Try.prog) (t := 22) (m := signs3) (ys := ([r1] : List Int)) (A2 := g1) (m2 := 1) (c2 := 1) (Value.int .i64) (0 : Int) (hS.at_ 2 rfl) (hS.at_ 0 rfl).rd ((hS.at_ 0 rfl).len1) 22 Und22 hi3 hz3 hs3 (by omega) rfl (fun _ => rfl) hp8
                have hS : Sep w0 B w (own 3 (.slice g1 1 1) (vI ([r1] : List Int)) :: own 3 (.slice A2 (Int.toNat 13) c2) (vI many2) :: own 3 (.slice A7 ((signs3 ++ ([r1] : List Int)).length) c7) (vI (signs3 ++ ([r1] : List Int))) :: fs) := hS
                refine at_do (d := 61) hF (by kernel_rfl) (by kernel_rfl) hrun (fun a hF => ?_)
                refine at_run 1 [] [] [3, 4, 6, 7, 8] [pl 3 (.slice A2 (Int.toNat 13) c2), pl 4 (.bool flush2), pl 6 (.slice A7 ((signs3 ++ ([r1] : List Int)).length) c7), pl 7 (.int .i64 times1), pl 8 (.int .i64 r1)] hF hS (by kernel_rfl) (by kernel_rfl) ?_ (fun a w hF hS => ?_)
                · exact obs_nil
                refine at_end [3, 4, 6, 7, 8] [pl 3 (.slice A2 (Int.toNat 13) c2), pl 4 (.bool flush2), pl 6 (.slice A7 ((signs3 ++ ([r1] : List Int)).length) c7), pl 7 (.int .i64 times1), pl 8 (.int .i64 r1)] hF rfl (by kernel_rfl) (fun hF => ?_)
                refine block_n ?_
                refine then_n ?_
                have hS := hS.pickN 3 [1, 2] (by decide)
                exact ⟨(signs3 ++ ([r1] : List Int)), A7, c7, hF.weak [3, 4, 6, 7, 8] (by kernel_rfl), hS, hm⟩
              · replace hm := if_f hm hb
                refine wpIn_skip ?_
                refine block_n ?_
                refine then_n ?_
                exact ⟨signs3, A5, c5, hF.weak [3, 4, 6, 7, 8] (by kernel_rfl), hS, hm⟩
          · refine reg [] [] [3, 4, 6, 7, 8, 49] [pl 3 (.slice A2 (Int.toNat 13) c2), pl 4 (.bool flush2), pl 6 (.slice A5 signs3.length c5), pl 7 (.int .i64 times1), pl 8 (.int .i64 r1), pl 49 (.bool (decide ((0 : Int) ≤ r1)))] hF hS Fol (by kernel_rfl) (by kernel_rfl) (by kernel_rfl) ?_ (fun a w hF hS => ?_)
            · exact obs_nil
            refine cond_ev (t := 49) (b := decide ((0 : Int) ≤ r1)) hF (by kernel_rfl) (fun hb => ?_) (fun hb => ?_)
            · replace hm := if_t hm hb
              refine wpIn_skip ?_
              refine then_n ?_
              exact ⟨hF.weak [3, 4, 6, 7, 8] (by kernel_rfl), hS, hm⟩
            · replace hm := if_f hm hb
              refine wpIn_exit ?_
              refine then_e (then_e (block_e (block_n (then_n ?_))))
              rw [← hφ3] at hm
              replace hm := done_b hm
              unfold gameroomref_HandValue_K3 at hm
              try dsimp only at hm
              have hm : ((gameroomref_HandValue_J6 times1) signs3).bind φ2 = some r := hm
              exact ⟨signs3, A5, c5, hF.weak [3, 4, 6, 7] (by kernel_rfl), hS, hm⟩
      · refine reg [] [] [3, 4, 6, 7, 45] [pl 3 (.slice A2 (Int.toNat 13) c2), pl 4 (.bool flush2), pl 6 (.slice A3 signs1.length c3), pl 7 (.int .i64 times1), pl 45 (.bool (decide ((0 : Int) < times1)))] hF hS Fol (by kernel_rfl) (by kernel_rfl) (by kernel_rfl) ?_ (fun a w hF hS => ?_)
        · exact obs_nil
        refine cond_ev (t := 45) (b := decide ((0 : Int) < times1)) hF (by kernel_rfl) (fun hb => ?_) (fun hb => ?_)
        · replace hm := if_t hm hb
          refine wpIn_skip ?_
          refine then_n ?_
          exact ⟨hF.weak [3, 4, 6, 7] (by kernel_rfl), hS, hm⟩
        · replace hm := if_f hm hb
          refine wpIn_exit ?_
          refine then_e (then_e (block_e (then_n ?_)))
          rw [← hφ2] at hm
          replace hm := done_b hm
          unfold gameroomref_HandValue_K2 at hm
          try dsimp only at hm
          have hm : ((gameroomref_HandValue_J4 many2 flush2) signs1).bind some = some r := hm
          exact ⟨signs1, A3, c3, hF.weak [3, 4, 6] (by kernel_rfl), hS, hm⟩
  · refine reg [] [] [0, 3, 4, 5] [pl 0 (.slice A1 l1.length c1), pl 3 (.slice A2 (Int.toNat 13) c2), pl 4 (.bool true), pl 5 (.int .i64 0)] hF hS Fol (by kernel_rfl) (by kernel_rfl) (by kernel_rfl) ?_ (fun a w hF hS => ?_)
    · exact obs_nil
    refine wpIn_block ?_
    refine wp_loop_model (S := (List Int × Bool × Int)) (R := (List Int × Bool)) (gameroomref_HandValue_L1 l1) (fun x => (gameroomref_HandValue_K1 x).bind some) r (fun (x : (List Int × Bool × Int)) a w => Fr 168 [pl 0 (.slice A1 l1.length c1), pl 3 (.slice A2 (Int.toNat 13) c2), pl 4 (.bool x.2.1), pl 5 (.int .i64 x.2.2)] a ∧ Sep w0 B w (own 3 (.slice A2 (Int.toNat 13) c2) (vI x.1) :: fs)) (assoc_b hm) ⟨hF.weak [0, 3, 4, 5] (by kernel_rfl), hS⟩ ?_
    clear hF hS hm
    rintro nn1 ⟨many1, flush1, i1⟩ a w ⟨hF, hS⟩ hm
    generalize hφ1 : stK (gameroomref_HandValue_L1 l1) nn1 (fun x => (gameroomref_HandValue_K1 x).bind some) = φ1 at hm
    unfold gameroomref_HandValue_L1 at hm
    dsimp only at hF hS hm
    refine seq_cut (fun a w => Fr 168 [pl 0 (.slice A1 l1.length c1), pl 3 (.slice A2 (Int.toNat 13) c2), pl 4 (.bool flush1), pl 5 (.int .i64 i1)] a ∧ Sep w0 B w (own 3 (.slice A2 (Int.toNat 13) c2) (vI many1) :: fs) ∧ ((gameroomref_HandValue_J2 l1 many1 flush1 i1)).bind φ1 = some r) ?_ ?_
    · rintro a w ⟨hF, hS, hm⟩
      unfold gameroomref_HandValue_J2 at hm
      refine seq_cut (fun a w => Fr 168 [pl 0 (.slice A1 l1.length c1), pl 3 (.slice A2 (Int.toNat 13) c2), pl 4 (.bool (flush1 && ((Int.tmod (geti l1 i1) 4) == (Int.tmod (geti l1 0) 4)))), pl 5 (.int .i64 i1)] a ∧ Sep w0 B w (own 3 (.slice A2 (Int.toNat 13) c2) (vI (many1.set (Int.toNat (w64 (Int.tdiv (geti l1 i1) 4))) (w64 ((geti many1 (w64 (Int.tdiv (geti l1 i1) 4))) + 1)))) :: fs) ∧ ((gameroomref_HandValue_J3 l1 many1 flush1 i1)).bind φ1 = some r) ?_ ?_
      · rintro a w ⟨hF, hS, hm⟩
        unfold gameroomref_HandValue_J3 at hm
        refine reg1 [] [] [0, 3, 4, 5] [pl 0 (.slice A1 l1.length c1), pl 3 (.slice A2 (Int.toNat 13) c2), pl 4 (.bool (flush1 && ((Int.tmod (geti l1 i1) 4) == (Int.tmod (geti l1 0) 4)))), pl 5 (.int .i64 (w64 (i1 + 1)))] hF hS Fol (by kernel_rfl) (by kernel_rfl) (by kernel_rfl) ?_ (fun a w hF hS => ?_)
        · exact obs_nil
        refine then_n ?_
        rw [← hφ1] at hm
        exact ⟨((many1.set (Int.toNat (w64 (Int.tdiv (geti l1 i1) 4))) (w64 ((geti many1 (w64 (Int.tdiv (geti l1 i1) 4))) + 1))), (flush1 && ((Int.tmod (geti l1 i1) 4) == (Int.tmod (geti l1 0) 4))), (w64 (i1 + 1))), ⟨hF.weak [0, 3, 4, 5] (by kernel_rfl), hS⟩, hm⟩
      · refine wpIn_block ?_
        refine seqR ?_
        obtain ⟨hp2, hm⟩ := asrt_b hm
        obtain ⟨hp3, hm⟩ := asrt_b hm
        obtain ⟨hp4, hm⟩ := asrt_b hm
        refine at_run 10 [⟨true, [], vS (Instr.indexAt 22 (.slice A1 l1.length c1) (.int .i64 i1)), .pointer (some (sAddr A1 i1))⟩, ⟨false, [], vS (Instr.loadAt 3 (.pointer (some (sAddr A1 i1)))), .int .i64 (geti l1 i1)⟩, ⟨true, [], vS (Instr.indexAt 22 (.slice A2 (Int.toNat 13) c2) (.int .i64 (w64 (Int.tdiv (geti l1 i1) 4)))), .pointer (some (sAddr A2 (w64 (Int.tdiv (geti l1 i1) 4))))⟩, ⟨false, [], vS (Instr.loadAt 3 (.pointer (some (sAddr A2 (w64 (Int.tdiv (geti l1 i1) 4)))))), .int .i64 (geti many1 (w64 (Int.tdiv (geti l1 i1) 4)))⟩, ⟨true, [], vS (Instr.indexAt 22 (.slice A2 (Int.toNat 13) c2) (.int .i64 (w64 (Int.tdiv (geti l1 i1) 4)))), .pointer (some (sAddr A2 (w64 (Int.tdiv (geti l1 i1) 4))))⟩] [none, none, none, some (.pointer (some (sAddr A1 i1))), some (.int .i64 (geti l1 i1)), none, some (.pointer (some (sAddr A2 (w64 (Int.tdiv (geti l1 i1) 4))))), some (.int .i64 (geti many1 (w64 (Int.tdiv (geti l1 i1) 4)))), none, some (.pointer (some (sAddr A2 (w64 (Int.tdiv (geti l1 i1) 4)))))] [0, 3, 4, 5, 29, 30] [pl 0 (.slice A1 l1.length c1), pl 3 (.slice A2 (Int.toNat 13) c2), pl 4 (.bool flush1), pl 5 (.int .i64 i1), pl 29 (.int .i64 (w64 ((geti many1 (w64 (Int.tdiv (geti l1 i1) 4))) + 1))), pl 30 (.pointer (some (sAddr A2 (w64 (Int.tdiv (geti l1 i1) 4)))))] hF hS (by kernel_rfl) (by kernel_rfl) ?_ (fun a w hF hS => ?_)
        · exact obs_cons (ob_ix1 (f := (Value.int .i64)) (m := l1) Und22 hi3 hs3 (hr_l1 _ (hS.dropN 1)) rfl (fun _ => hp2)) <| obs_cons (ob_get1 (n := l1.length) (m := l1) (Value.int .i64) (0 : Int) Agg3 (fun _ hS => ⟨_, (hr_l1 _ (hS.dropN 1))⟩) (fun _ hS => rfl) (fun _ => hp2)) <| obs_cons (ob_ix1 (f := (Value.int .i64)) (m := many1) Und22 hi3 hs3 (hS.at_ 0 rfl).rd ((hS.at_ 0 rfl).len1) (fun _ => hp3)) <| obs_cons (ob_get1 (n := (Int.toNat 13)) (m := many1) (Value.int .i64) (0 : Int) Agg3 (fun _ hS => ⟨_, (hS.at_ 0 rfl).rd⟩) (fun _ hS => ((hS.at_ 0 rfl).len1)) (fun _ => hp3)) <| obs_cons (ob_ix1 (f := (Value.int .i64)) (m := many1) Und22 hi3 hs3 (hS.at_ 0 rfl).rd ((hS.at_ 0 rfl).len1) (fun _ => hp4)) <| obs_nil
        obtain ⟨w, hrun, hS⟩ := run_set1 (P := Try.prog) (t := 3) (x := (w64 ((geti many1 (w64 (Int.tdiv (geti l1 i1) 4))) + 1))) (Value.int .i64) (hS.at_ 0 rfl) hi3 hs3 rfl rfl hp4
        refine at_skip hF (by kernel_rfl) hrun ?_
        have hS : Sep w0 B w (own 3 (.slice A2 (Int.toNat 13) c2) (vI (many1.set (Int.toNat (w64 (Int.tdiv (geti l1 i1) 4))) (w64 ((geti many1 (w64 (Int.tdiv (geti l1 i1) 4))) + 1)))) :: fs) := hS
        refine at_end [0, 3, 4, 5] [pl 0 (.slice A1 l1.length c1), pl 3 (.slice A2 (Int.toNat 13) c2), pl 4 (.bool flush1), pl 5 (.int .i64 i1)] hF rfl (by kernel_rfl) (fun hF => ?_)
        refine then_n ?_
        obtain ⟨hp5, hm⟩ := asrt_b hm
        obtain ⟨hp6, hm⟩ := asrt_b hm
        refine reg1 [⟨true, [(flush1, true)], vS (Instr.indexAt 22 (.slice A1 l1.length c1) (.int .i64 i1)), .pointer (some (sAddr A1 i1))⟩, ⟨false, [(flush1, true)], vS (Instr.loadAt 3 (.pointer (some (sAddr A1 i1)))), .int .i64 (geti l1 i1)⟩, ⟨true, [(flush1, true)], vS (Instr.indexAt 22 (.slice A1 l1.length c1) (.int .i64 0)), .pointer (some (sAddr A1 0))⟩, ⟨false, [(flush1, true)], vS (Instr.loadAt 3 (.pointer (some (sAddr A1 0)))), .int .i64 (geti l1 0)⟩] [none, none, none, none, some (.pointer (some (sAddr A1 i1))), some (.int .i64 (geti l1 i1)), none, none, some (.pointer (some (sAddr A1 0))), some (.int .i64 (geti l1 0)), none, none, none, none] [0, 3, 4, 5] [pl 0 (.slice A1 l1.length c1), pl 3 (.slice A2 (Int.toNat 13) c2), pl 4 (.bool (flush1 && ((Int.tmod (geti l1 i1) 4) == (Int.tmod (geti l1 0) 4)))), pl 5 (.int .i64 i1)] hF hS Fol (by kernel_rfl) (by kernel_rfl) (by kernel_rfl) ?_ (fun a w hF hS => ?_)
        · exact obs_cons (ob_ix1 (f := (Value.int .i64)) (m := l1) Und22 hi3 hs3 (hr_l1 _ (hS.dropN 1)) rfl (fun hy => hp5 (hy (flush1, true) (by simp)))) <| obs_cons (ob_get1 (n := l1.length) (m := l1) (Value.int .i64) (0 : Int) Agg3 (fun _ hS => ⟨_, (hr_l1 _ (hS.dropN 1))⟩) (fun _ hS => rfl) (fun hy => hp5 (hy (flush1, true) (by simp)))) <| obs_cons (ob_ix1 (f := (Value.int .i64)) (m := l1) Und22 hi3 hs3 (hr_l1 _ (hS.dropN 1)) rfl (fun hy => hp6 (hy (flush1, true) (by simp)))) <| obs_cons (ob_get1 (n := l1.length) (m := l1) (Value.int .i64) (0 : Int) Agg3 (fun _ hS => ⟨_, (hr_l1 _ (hS.dropN 1))⟩) (fun _ hS => rfl) (fun hy => hp6 (hy (flush1, true) (by simp)))) <| obs_nil
        refine block_n ?_
        refine then_n ?_
        exact ⟨hF.weak [0, 3, 4, 5] (by kernel_rfl), hS, hm⟩
    · refine reg [] [] [0, 3, 4, 5, 18] [pl 0 (.slice A1 l1.length c1), pl 3 (.slice A2 (Int.toNat 13) c2), pl 4 (.bool flush1), pl 5 (.int .i64 i1), pl 18 (.bool (decide (i1 < 5)))] hF hS Fol (by kernel_rfl) (by kernel_rfl) (by kernel_rfl) ?_ (fun a w hF hS => ?_)
      · exact obs_nil
      refine cond_ev (t := 18) (b := decide (i1 < 5)) hF (by kernel_rfl) (fun hb => ?_) (fun hb => ?_)
      · replace hm := if_t hm hb
        refine wpIn_skip ?_
        refine then_n ?_
        exact ⟨hF.weak [0, 3, 4, 5] (by kernel_rfl), hS, hm⟩
      · replace hm := if_f hm hb
        refine wpIn_exit ?_
        refine then_e (then_e (block_e (then_n ?_)))
        rw [← hφ1] at hm
        replace hm := done_b hm
        unfold gameroomref_HandValue_K1 at hm
        try dsimp only at hm
        have hm : (gameroomref_HandValue_J1 many1 flush1).bind some = some r := hm
        exact ⟨many1, flush1, hF.weak [3, 4] (by kernel_rfl), hS, hm⟩

noncomputable def gameroomref_BestFive_J11  (e1 : Int) (best11 : Int) (who11 : List Int) : Option (St (Int × List Int × Int) (Int × List Int)) :=
  some (.next (best11, who11, (w64 (e1 + 1))))

noncomputable def gameroomref_BestFive_J10  (l1 : List Int) (a1 : Int) (b1 : Int) (c7 : Int) (d1 : Int) (best9 : Int) (who9 : List Int) (e1 : Int) : Option (St (Int × List Int × Int) (Int × List Int)) :=
  asrt (0 ≤ a1 ∧ a1 < (l1.length : Int)) <| asrt (0 ≤ b1 ∧ b1 < (l1.length : Int)) <| asrt (0 ≤ c7 ∧ c7 < (l1.length : Int)) <| asrt (0 ≤ d1 ∧ d1 < (l1.length : Int)) <| asrt (0 ≤ e1 ∧ e1 < (l1.length : Int)) <| (gameroomref_HandValue_m ([geti l1 a1, geti l1 b1, geti l1 c7, geti l1 d1, geti l1 e1] : List Int)).bind fun r1 => if (decide (best9 < r1)) then ((gameroomref_BestFive_J11 e1) r1 ([geti l1 a1, geti l1 b1, geti l1 c7, geti l1 d1, geti l1 e1] : List Int)) else ((gameroomref_BestFive_J11 e1) best9 who9)

noncomputable def gameroomref_BestFive_J9  (d1 : Int) (best10 : Int) (who10 : List Int) : Option (St (Int × List Int × Int) (Int × List Int)) :=
  some (.next (best10, who10, (w64 (d1 + 1))))

noncomputable def gameroomref_BestFive_K5  (d1 : Int) : (Int × List Int) → Option (St (Int × List Int × Int) (Int × List Int)) :=
  fun (x : (Int × List Int)) => match x with | (best10, who10) => (gameroomref_BestFive_J9 d1) best10 who10

noncomputable def gameroomref_BestFive_L5  (l1 : List Int) (a1 : Int) (b1 : Int) (c7 : Int) (d1 : Int) : (Int × List Int × Int) → Option (St (Int × List Int × Int) (Int × List Int)) :=
  fun (x : (Int × List Int × Int)) => match x with | (best9, who9, e1) => if (decide (e1 < (l1.length : Int))) then ((gameroomref_BestFive_J10 l1 a1 b1 c7 d1 best9 who9 e1)) else (some (.done (best9, who9)))

noncomputable def gameroomref_BestFive_J8  (l1 : List Int) (a1 : Int) (b1 : Int) (c7 : Int) (best7 : Int) (who7 : List Int) (d1 : Int) : Option (St (Int × List Int × Int) (Int × List Int)) :=
  (loop (gameroomref_BestFive_L5 l1 a1 b1 c7 d1) (best7, who7, (w64 (d1 + 1)))).bind (gameroomref_BestFive_K5 d1)

noncomputable def gameroomref_BestFive_J7  (c7 : Int) (best8 : Int) (who8 : List Int) : Option (St (Int × List Int × Int) (Int × List Int)) :=
  some (.next (best8, who8, (w64 (c7 + 1))))

noncomputable def gameroomref_BestFive_K4  (c7 : Int) : (Int × List Int) → Option (St (Int × List Int × Int) (Int × List Int)) :=
  fun (x : (Int × List Int)) => match x with | (best8, who8) => (gameroomref_BestFive_J7 c7) best8 who8

noncomputable def gameroomref_BestFive_L4  (l1 : List Int) (a1 : Int) (b1 : Int) (c7 : Int) : (Int × List Int × Int) → Option (St (Int × List Int × Int) (Int × List Int)) :=
  fun (x : (Int × List Int × Int)) => match x with | (best7, who7, d1) => if (decide (d1 < (l1.length : Int))) then ((gameroomref_BestFive_J8 l1 a1 b1 c7 best7 who7 d1)) else (some (.done (best7, who7)))

noncomputable def gameroomref_BestFive_J6  (l1 : List Int) (a1 : Int) (b1 : Int) (best5 : Int) (who5 : List Int) (c7 : Int) : Option (St (Int × List Int × Int) (Int × List Int)) :=
  (loop (gameroomref_BestFive_L4 l1 a1 b1 c7) (best5, who5, (w64 (c7 + 1)))).bind (gameroomref_BestFive_K4 c7)

noncomputable def gameroomref_BestFive_J5  (b1 : Int) (best6 : Int) (who6 : List Int) : Option (St (Int × List Int × Int) (Int × List Int)) :=
  some (.next (best6, who6, (w64 (b1 + 1))))

noncomputable def gameroomref_BestFive_K3  (b1 : Int) : (Int × List Int) → Option (St (Int × List Int × Int) (Int × List Int)) :=
  fun (x : (Int × List Int)) => match x with | (best6, who6) => (gameroomref_BestFive_J5 b1) best6 who6

noncomputable def gameroomref_BestFive_L3  (l1 : List Int) (a1 : Int) (b1 : Int) : (Int × List Int × Int) → Option (St (Int × List Int × Int) (Int × List Int)) :=
  fun (x : (Int × List Int × Int)) => match x with | (best5, who5, c7) => if (decide (c7 < (l1.length : Int))) then ((gameroomref_BestFive_J6 l1 a1 b1 best5 who5 c7)) else (some (.done (best5, who5)))

noncomputable def gameroomref_BestFive_J4  (l1 : List Int) (a1 : Int) (best3 : Int) (who3 : List Int) (b1 : Int) : Option (St (Int × List Int × Int) (Int × List Int)) :=
  (loop (gameroomref_BestFive_L3 l1 a1 b1) (best3, who3, (w64 (b1 + 1)))).bind (gameroomref_BestFive_K3 b1)

noncomputable def gameroomref_BestFive_J3  (a1 : Int) (best4 : Int) (who4 : List Int) : Option (St (Int × List Int × Int) (Int × List Int)) :=
  some (.next (best4, who4, (w64 (a1 + 1))))

noncomputable def gameroomref_BestFive_K2  (a1 : Int) : (Int × List Int) → Option (St (Int × List Int × Int) (Int × List Int)) :=
  fun (x : (Int × List Int)) => match x with | (best4, who4) => (gameroomref_BestFive_J3 a1) best4 who4

noncomputable def gameroomref_BestFive_L2  (l1 : List Int) (a1 : Int) : (Int × List Int × Int) → Option (St (Int × List Int × Int) (Int × List Int)) :=
  fun (x : (Int × List Int × Int)) => match x with | (best3, who3, b1) => if (decide (b1 < (l1.length : Int))) then ((gameroomref_BestFive_J4 l1 a1 best3 who3 b1)) else (some (.done (best3, who3)))

noncomputable def gameroomref_BestFive_J2  (l1 : List Int) (best1 : Int) (who1 : List Int) (a1 : Int) : Option (St (Int × List Int × Int) (Int × List Int)) :=
  (loop (gameroomref_BestFive_L2 l1 a1) (best1, who1, (w64 (a1 + 1)))).bind (gameroomref_BestFive_K2 a1)

noncomputable def gameroomref_BestFive_J1  (best2 : Int) (who2 : List Int) : Option (Int × List Int) :=
  some (best2, who2)

noncomputable def gameroomref_BestFive_K1  : (Int × List Int) → Option (Int × List Int) :=
  fun (x : (Int × List Int)) => match x with | (best2, who2) => gameroomref_BestFive_J1 best2 who2

noncomputable def gameroomref_BestFive_L1  (l1 : List Int) : (Int × List Int × Int) → Option (St (Int × List Int × Int) (Int × List Int)) :=
  fun (x : (Int × List Int × Int)) => match x with | (best1, who1, a1) => if (decide (a1 < (l1.length : Int))) then ((gameroomref_BestFive_J2 l1 best1 who1 a1)) else (some (.done (best1, who1)))

noncomputable def gameroomref_BestFive_m  (l1 : List Int) : Option (Int × List Int) :=
  (loop (gameroomref_BestFive_L1 l1) ((-1), ([] : List Int), 0)).bind gameroomref_BestFive_K1

set_option maxRecDepth 100000 in
set_option maxHeartbeats 4000000 in
theorem gameroomref_BestFive_w  {A1 : Option Addr} {c1 : Nat} {n1 : Nat} {l1 : List Int} {r : (Int × List Int)} {w0 w : World} {B : Nat} {fs : List HP} (hm : gameroomref_BestFive_m l1 = some r) (hS : Sep w0 B w (fs)) (hr_l1 : RdF w0 B fs A1 (vI l1)) (_hc_l1 : l1.length ≤ c1) (_hn_l1 : n1 = l1.length) :
    Calls Try.prog 37 #[.slice A1 n1 c1] w fun e w' => ∃ v, e = .returned v ∧ ∃ (A13 : Option Addr) (c14 : Nat), v = .tuple #[.int .i64 r.1, .slice A13 r.2.length c14] ∧ Sep w0 B w' (own 3 (.slice A13 r.2.length c14) (vI r.2) :: fs) := by
  obtain ⟨i3, hi3, hz3, hs3, hb3⟩ := info_parts Info3
  obtain rfl := _hn_l1
  unfold gameroomref_BestFive_m at hm
  replace hm := start_b hm
  refine enter (l := [.slice A1 l1.length c1]) (n := 79) Try.func37 rfl rfl (by simp) (fun a hF => ?_)
  refine reg [] [] [0] [pl 0 (.slice A1 l1.length c1)] hF hS Fol (by kernel_rfl) (by kernel_rfl) (by kernel_rfl) ?_ (fun a w hF hS => ?_)
  · exact obs_nil
  refine reg [] [] [0, 4] [pl 0 (.slice A1 l1.length c1), pl 4 (.int .i64 (l1.length : Int))] hF hS Fol (by kernel_rfl) (by kernel_rfl) (by kernel_rfl) ?_ (fun a w hF hS => ?_)
  · exact obs_nil
  refine reg [] [] [0, 4, 5] [pl 0 (.slice A1 l1.length c1), pl 4 (.int .i64 (l1.length : Int)), pl 5 (.int .i64 (-1))] hF hS Fol (by kernel_rfl) (by kernel_rfl) (by kernel_rfl) ?_ (fun a w hF hS => ?_)
  · exact obs_nil
  refine reg [] [] [0, 4, 5, 6] [pl 0 (.slice A1 l1.length c1), pl 4 (.int .i64 (l1.length : Int)), pl 5 (.int .i64 (-1)), pl 6 (.slice none 0 0)] hF hS Fol (by kernel_rfl) (by kernel_rfl) (by kernel_rfl) ?_ (fun a w hF hS => ?_)
  · exact obs_nil
  refine seq_cut (fun a w => ∃ (best2 : Int) (who2 : List Int) (A3 : Option Addr) (c3 : Nat), Fr 79 [pl 5 (.int .i64 best2), pl 6 (.slice A3 who2.length c3)] a ∧ Sep w0 B w (own 3 (.slice A3 who2.length c3) (vI who2) :: fs) ∧ (gameroomref_BestFive_J1 best2 who2).bind some = some r) ?_ ?_
  · rintro a w ⟨best2, who2, A3, c3, hF, hS, hm⟩
    unfold gameroomref_BestFive_J1 at hm
    refine reg [] [] [2, 3] [pl 2 (.int .i64 best2), pl 3 (.slice A3 who2.length c3)] hF hS Fol (by kernel_rfl) (by kernel_rfl) (by kernel_rfl) ?_ (fun a w hF hS => ?_)
    · exact obs_nil
    refine wpIn_ret ?_
    have hm : some (best2, who2) = some r := hm
    obtain rfl := Option.some.inj hm
    exact retV (rs := [.tmp 2, .tmp 3]) (vs := [.int .i64 best2, .slice A3 who2.length c3]) hF rfl (rv_t (by kernel_rfl) <| rv_t (by kernel_rfl) <| rv_nil) rfl ⟨_, rfl, A3, c3, rfl, hS⟩
  · refine reg [] [] [0, 4, 5, 6, 7] [pl 0 (.slice A1 l1.length c1), pl 4 (.int .i64 (l1.length : Int)), pl 5 (.int .i64 (-1)), pl 6 (.slice none 0 0), pl 7 (.int .i64 0)] hF hS Fol (by kernel_rfl) (by kernel_rfl) (by kernel_rfl) ?_ (fun a w hF hS => ?_)
    · exact obs_nil
    refine wpIn_block ?_
    have hS : Sep w0 B w (own 3 (.slice none 0 0) (vI ([] : List Int)) :: fs) := hS.nil 3
    have hl1 := (hS.at_ 0 rfl).len1
    have hS := (hS.at_ 0 rfl).reN hl1
    have hS : Sep w0 B w (own 3 (.slice none (([] : List Int).length) 0) (vI ([] : List Int)) :: fs) := hS
    have hF := hF.cast (t := 6) (v := .slice none 0 0) (v' := .slice none (([] : List Int).length) 0) rfl rfl (congrArg (fun k => Value.slice none k 0) hl1)
    refine wp_loop_model (S := (Int × List Int × Int)) (R := (Int × List Int)) (gameroomref_BestFive_L1 l1) (fun x => (gameroomref_BestFive_K1 x).bind some) r (fun (x : (Int × List Int × Int)) a w => ∃ (A2 : Option Addr) (c2 : Nat), Fr 79 [pl 0 (.slice A1 l1.length c1), pl 4 (.int .i64 (l1.length : Int)), pl 5 (.int .i64 x.1), pl 6 (.slice A2 x.2.1.length c2), pl 7 (.int .i64 x.2.2)] a ∧ Sep w0 B w (own 3 (.slice A2 x.2.1.length c2) (vI x.2.1) :: fs)) (assoc_b hm) ⟨none, 0, hF.weak [0, 4, 5, 6, 7] (by kernel_rfl), hS⟩ ?_
    clear hF hS hm
    rintro nn1 ⟨best1, who1, a1⟩ a w ⟨A2, c2, hF, hS⟩ hm
    generalize hφ1 : stK (gameroomref_BestFive_L1 l1) nn1 (fun x => (gameroomref_BestFive_K1 x).bind some) = φ1 at hm
    unfold gameroomref_BestFive_L1 at hm
    dsimp only at hF hS hm
    refine seq_cut (fun a w => Fr 79 [pl 0 (.slice A1 l1.length c1), pl 4 (.int .i64 (l1.length : Int)), pl 5 (.int .i64 best1), pl 6 (.slice A2 who1.length c2), pl 7 (.int .i64 a1)] a ∧ Sep w0 B w (own 3 (.slice A2 who1.length c2) (vI who1) :: fs) ∧ ((gameroomref_BestFive_J2 l1 best1 who1 a1)).bind φ1 = some r) ?_ ?_
    · rintro a w ⟨hF, hS, hm⟩
      unfold gameroomref_BestFive_J2 at hm
      refine seq_cut (fun a w => ∃ (best4 : Int) (who4 : List Int) (A5 : Option Addr) (c5 : Nat), Fr 79 [pl 0 (.slice A1 l1.length c1), pl 4 (.int .i64 (l1.length : Int)), pl 5 (.int .i64 best4), pl 6 (.slice A5 who4.length c5), pl 7 (.int .i64 a1)] a ∧ Sep w0 B w (own 3 (.slice A5 who4.length c5) (vI who4) :: fs) ∧ ((gameroomref_BestFive_J3 a1) best4 who4).bind φ1 = some r) ?_ ?_
      · rintro a w ⟨best4, who4, A5, c5, hF, hS, hm⟩
        unfold gameroomref_BestFive_J3 at hm
        refine reg1 [] [] [0, 4, 5, 6, 7] [pl 0 (.slice A1 l1.length c1), pl 4 (.int .i64 (l1.length : Int)), pl 5 (.int .i64 best4), pl 6 (.slice A5 who4.length c5), pl 7 (.int .i64 (w64 (a1 + 1)))] hF hS Fol (by kernel_rfl) (by kernel_rfl) (by kernel_rfl) ?_ (fun a w hF hS => ?_)
        · exact obs_nil
        refine then_n ?_
        rw [← hφ1] at hm
        exact ⟨(best4, who4, (w64 (a1 + 1))), ⟨A5, c5, hF.weak [0, 4, 5, 6, 7] (by kernel_rfl), hS⟩, hm⟩
      · refine wpIn_block ?_
        refine reg [] [] [0, 4, 5, 6, 7, 8] [pl 0 (.slice A1 l1.length c1), pl 4 (.int .i64 (l1.length : Int)), pl 5 (.int .i64 best1), pl 6 (.slice A2 who1.length c2), pl 7 (.int .i64 a1), pl 8 (.int .i64 (w64 (a1 + 1)))] hF hS Fol (by kernel_rfl) (by kernel_rfl) (by kernel_rfl) ?_ (fun a w hF hS => ?_)
        · exact obs_nil
        refine wpIn_block ?_
        refine wp_loop_model (S := (Int × List Int × Int)) (R := (Int × List Int)) (gameroomref_BestFive_L2 l1 a1) (fun x => ((gameroomref_BestFive_K2 a1) x).bind φ1) r (fun (x : (Int × List Int × Int)) a w => ∃ (A4 : Option Addr) (c4 : Nat), Fr 79 [pl 0 (.slice A1 l1.length c1), pl 4 (.int .i64 (l1.length : Int)), pl 5 (.int .i64 x.1), pl 6 (.slice A4 x.2.1.length c4), pl 7 (.int .i64 a1), pl 8 (.int .i64 x.2.2)] a ∧ Sep w0 B w (own 3 (.slice A4 x.2.1.length c4) (vI x.2.1) :: fs)) (assoc_b hm) ⟨A2, c2, hF.weak [0, 4, 5, 6, 7, 8] (by kernel_rfl), hS⟩ ?_
        clear hF hS hm
        rintro nn2 ⟨best3, who3, b1⟩ a w ⟨A4, c4, hF, hS⟩ hm
        generalize hφ2 : stK (gameroomref_BestFive_L2 l1 a1) nn2 (fun x => ((gameroomref_BestFive_K2 a1) x).bind φ1) = φ2 at hm
        unfold gameroomref_BestFive_L2 at hm
        dsimp only at hF hS hm
        refine seq_cut (fun a w => Fr 79 [pl 0 (.slice A1 l1.length c1), pl 4 (.int .i64 (l1.length : Int)), pl 5 (.int .i64 best3), pl 6 (.slice A4 who3.length c4), pl 7 (.int .i64 a1), pl 8 (.int .i64 b1)] a ∧ Sep w0 B w (own 3 (.slice A4 who3.length c4) (vI who3) :: fs) ∧ ((gameroomref_BestFive_J4 l1 a1 best3 who3 b1)).bind φ2 = some r) ?_ ?_
        · rintro a w ⟨hF, hS, hm⟩
          unfold gameroomref_BestFive_J4 at hm
          refine seq_cut (fun a w => ∃ (best6 : Int) (who6 : List Int) (A7 : Option Addr) (c8 : Nat), Fr 79 [pl 0 (.slice A1 l1.length c1), pl 4 (.int .i64 (l1.length : Int)), pl 5 (.int .i64 best6), pl 6 (.slice A7 who6.length c8), pl 7 (.int .i64 a1), pl 8 (.int .i64 b1)] a ∧ Sep w0 B w (own 3 (.slice A7 who6.length c8) (vI who6) :: fs) ∧ ((gameroomref_BestFive_J5 b1) best6 who6).bind φ2 = some r) ?_ ?_
          · rintro a w ⟨best6, who6, A7, c8, hF, hS, hm⟩
            unfold gameroomref_BestFive_J5 at hm
            refine reg1 [] [] [0, 4, 5, 6, 7, 8] [pl 0 (.slice A1 l1.length c1), pl 4 (.int .i64 (l1.length : Int)), pl 5 (.int .i64 best6), pl 6 (.slice A7 who6.length c8), pl 7 (.int .i64 a1), pl 8 (.int .i64 (w64 (b1 + 1)))] hF hS Fol (by kernel_rfl) (by kernel_rfl) (by kernel_rfl) ?_ (fun a w hF hS => ?_)
            · exact obs_nil
            refine then_n ?_
            rw [← hφ2] at hm
            exact ⟨(best6, who6, (w64 (b1 + 1))), ⟨A7, c8, hF.weak [0, 4, 5, 6, 7, 8] (by kernel_rfl), hS⟩, hm⟩
          · refine wpIn_block ?_
            refine reg [] [] [0, 4, 5, 6, 7, 8, 9] [pl 0 (.slice A1 l1.length c1), pl 4 (.int .i64 (l1.length : Int)), pl 5 (.int .i64 best3), pl 6 (.slice A4 who3.length c4), pl 7 (.int .i64 a1), pl 8 (.int .i64 b1), pl 9 (.int .i64 (w64 (b1 + 1)))] hF hS Fol (by kernel_rfl) (by kernel_rfl) (by kernel_rfl) ?_ (fun a w hF hS => ?_)
            · exact obs_nil
            refine wpIn_block ?_
            refine wp_loop_model (S := (Int × List Int × Int)) (R := (Int × List Int)) (gameroomref_BestFive_L3 l1 a1 b1) (fun x => ((gameroomref_BestFive_K3 b1) x).bind φ2) r (fun (x : (Int × List Int × Int)) a w => ∃ (A6 : Option Addr) (c6 : Nat), Fr 79 [pl 0 (.slice A1 l1.length c1), pl 4 (.int .i64 (l1.length : Int)), pl 5 (.int .i64 x.1), pl 6 (.slice A6 x.2.1.length c6), pl 7 (.int .i64 a1), pl 8 (.int .i64 b1), pl 9 (.int .i64 x.2.2)] a ∧ Sep w0 B w (own 3 (.slice A6 x.2.1.length c6) (vI x.2.1) :: fs)) (assoc_b hm) ⟨A4, c4, hF.weak [0, 4, 5, 6, 7, 8, 9] (by kernel_rfl), hS⟩ ?_
            clear hF hS hm
            rintro nn3 ⟨best5, who5, c7⟩ a w ⟨A6, c6, hF, hS⟩ hm
            generalize hφ3 : stK (gameroomref_BestFive_L3 l1 a1 b1) nn3 (fun x => ((gameroomref_BestFive_K3 b1) x).bind φ2) = φ3 at hm
            unfold gameroomref_BestFive_L3 at hm
            dsimp only at hF hS hm
            refine seq_cut (fun a w => Fr 79 [pl 0 (.slice A1 l1.length c1), pl 4 (.int .i64 (l1.length : Int)), pl 5 (.int .i64 best5), pl 6 (.slice A6 who5.length c6), pl 7 (.int .i64 a1), pl 8 (.int .i64 b1), pl 9 (.int .i64 c7)] a ∧ Sep w0 B w (own 3 (.slice A6 who5.length c6) (vI who5) :: fs) ∧ ((gameroomref_BestFive_J6 l1 a1 b1 best5 who5 c7)).bind φ3 = some r) ?_ ?_
            · rintro a w ⟨hF, hS, hm⟩
              unfold gameroomref_BestFive_J6 at hm
              refine seq_cut (fun a w => ∃ (best8 : Int) (who8 : List Int) (A9 : Option Addr) (c10 : Nat), Fr 79 [pl 0 (.slice A1 l1.length c1), pl 4 (.int .i64 (l1.length : Int)), pl 5 (.int .i64 best8), pl 6 (.slice A9 who8.length c10), pl 7 (.int .i64 a1), pl 8 (.int .i64 b1), pl 9 (.int .i64 c7)] a ∧ Sep w0 B w (own 3 (.slice A9 who8.length c10) (vI who8) :: fs) ∧ ((gameroomref_BestFive_J7 c7) best8 who8).bind φ3 = some r) ?_ ?_
              · rintro a w ⟨best8, who8, A9, c10, hF, hS, hm⟩
                unfold gameroomref_BestFive_J7 at hm
                refine reg1 [] [] [0, 4, 5, 6, 7, 8, 9] [pl 0 (.slice A1 l1.length c1), pl 4 (.int .i64 (l1.length : Int)), pl 5 (.int .i64 best8), pl 6 (.slice A9 who8.length c10), pl 7 (.int .i64 a1), pl 8 (.int .i64 b1), pl 9 (.int .i64 (w64 (c7 + 1)))] hF hS Fol (by kernel_rfl) (by kernel_rfl) (by kernel_rfl) ?_ (fun a w hF hS => ?_)
                · exact obs_nil
                refine then_n ?_
                rw [← hφ3] at hm
                exact ⟨(best8, who8, (w64 (c7 + 1))), ⟨A9, c10, hF.weak [0, 4, 5, 6, 7, 8, 9] (by kernel_rfl), hS⟩, hm⟩
              · refine wpIn_block ?_
                refine reg [] [] [0, 4, 5, 6, 7, 8, 9, 10] [pl 0 (.slice A1 l1.length c1), pl 4 (.int .i64 (l1.length : Int)), pl 5 (.int .i64 best5), pl 6 (.slice A6 who5.length c6), pl 7 (.int .i64 a1), pl 8 (.int .i64 b1), pl 9 (.int .i64 c7), pl 10 (.int .i64 (w64 (c7 + 1)))] hF hS Fol (by kernel_rfl) (by kernel_rfl) (by kernel_rfl) ?_ (fun a w hF hS => ?_)
                · exact obs_nil
                refine wpIn_block ?_
                refine wp_loop_model (S := (Int × List Int × Int)) (R := (Int × List Int)) (gameroomref_BestFive_L4 l1 a1 b1 c7) (fun x => ((gameroomref_BestFive_K4 c7) x).bind φ3) r (fun (x : (Int × List Int × Int)) a w => ∃ (A8 : Option Addr) (c9 : Nat), Fr 79 [pl 0 (.slice A1 l1.length c1), pl 4 (.int .i64 (l1.length : Int)), pl 5 (.int .i64 x.1), pl 6 (.slice A8 x.2.1.length c9), pl 7 (.int .i64 a1), pl 8 (.int .i64 b1), pl 9 (.int .i64 c7), pl 10 (.int .i64 x.2.2)] a ∧ Sep w0 B w (own 3 (.slice A8 x.2.1.length c9) (vI x.2.1) :: fs)) (assoc_b hm) ⟨A6, c6, hF.weak [0, 4, 5, 6, 7, 8, 9, 10] (by kernel_rfl), hS⟩ ?_
                clear hF hS hm
                rintro nn4 ⟨best7, who7, d1⟩ a w ⟨A8, c9, hF, hS⟩ hm
                generalize hφ4 : stK (gameroomref_BestFive_L4 l1 a1 b1 c7) nn4 (fun x => ((gameroomref_BestFive_K4 c7) x).bind φ3) = φ4 at hm
                unfold gameroomref_BestFive_L4 at hm
                dsimp only at hF hS hm
                refine seq_cut (fun a w => Fr 79 [pl 0 (.slice A1 l1.length c1), pl 4 (.int .i64 (l1.length : Int)), pl 5 (.int .i64 best7), pl 6 (.slice A8 who7.length c9), pl 7 (.int .i64 a1), pl 8 (.int .i64 b1), pl 9 (.int .i64 c7), pl 10 (.int .i64 d1)] a ∧ Sep w0 B w (own 3 (.slice A8 who7.length c9) (vI who7) :: fs) ∧ ((gameroomref_BestFive_J8 l1 a1 b1 c7 best7 who7 d1)).bind φ4 = some r) ?_ ?_
                · rintro a w ⟨hF, hS, hm⟩
                  unfold gameroomref_BestFive_J8 at hm
                  refine seq_cut (fun a w => ∃ (best10 : Int) (who10 : List Int) (A11 : Option Addr) (c12 : Nat), Fr 79 [pl 0 (.slice A1 l1.length c1), pl 4 (.int .i64 (l1.length : Int)), pl 5 (.int .i64 best10), pl 6 (.slice A11 who10.length c12), pl 7 (.int .i64 a1), pl 8 (.int .i64 b1), pl 9 (.int .i64 c7), pl 10 (.int .i64 d1)] a ∧ Sep w0 B w (own 3 (.slice A11 who10.length c12) (vI who10) :: fs) ∧ ((gameroomref_BestFive_J9 d1) best10 who10).bind φ4 = some r) ?_ ?_
                  · rintro a w ⟨best10, who10, A11, c12, hF, hS, hm⟩
                    unfold gameroomref_BestFive_J9 at hm
                    refine reg1 [] [] [0, 4, 5, 6, 7, 8, 9, 10] [pl 0 (.slice A1 l1.length c1), pl 4 (.int .i64 (l1.length : Int)), pl 5 (.int .i64 best10), pl 6 (.slice A11 who10.length c12), pl 7 (.int .i64 a1), pl 8 (.int .i64 b1), pl 9 (.int .i64 c7), pl 10 (.int .i64 (w64 (d1 + 1)))] hF hS Fol (by kernel_rfl) (by kernel_rfl) (by kernel_rfl) ?_ (fun a w hF hS => ?_)
                    · exact obs_nil
                    refine then_n ?_
                    rw [← hφ4] at hm
                    exact ⟨(best10, who10, (w64 (d1 + 1))), ⟨A11, c12, hF.weak [0, 4, 5, 6, 7, 8, 9, 10] (by kernel_rfl), hS⟩, hm⟩
                  · refine wpIn_block ?_
                    refine reg [] [] [0, 4, 5, 6, 7, 8, 9, 10, 11] [pl 0 (.slice A1 l1.length c1), pl 4 (.int .i64 (l1.length : Int)), pl 5 (.int .i64 best7), pl 6 (.slice A8 who7.length c9), pl 7 (.int .i64 a1), pl 8 (.int .i64 b1), pl 9 (.int .i64 c7), pl 10 (.int .i64 d1), pl 11 (.int .i64 (w64 (d1 + 1)))] hF hS Fol (by kernel_rfl) (by kernel_rfl) (by kernel_rfl) ?_ (fun a w hF hS => ?_)
                    · exact obs_nil
                    refine wpIn_block ?_
                    refine wp_loop_model (S := (Int × List Int × Int)) (R := (Int × List Int)) (gameroomref_BestFive_L5 l1 a1 b1 c7 d1) (fun x => ((gameroomref_BestFive_K5 d1) x).bind φ4) r (fun (x : (Int × List Int × Int)) a w => ∃ (A10 : Option Addr) (c11 : Nat), Fr 79 [pl 0 (.slice A1 l1.length c1), pl 4 (.int .i64 (l1.length : Int)), pl 5 (.int .i64 x.1), pl 6 (.slice A10 x.2.1.length c11), pl 7 (.int .i64 a1), pl 8 (.int .i64 b1), pl 9 (.int .i64 c7), pl 10 (.int .i64 d1), pl 11 (.int .i64 x.2.2)] a ∧ Sep w0 B w (own 3 (.slice A10 x.2.1.length c11) (vI x.2.1) :: fs)) (assoc_b hm) ⟨A8, c9, hF.weak [0, 4, 5, 6, 7, 8, 9, 10, 11] (by kernel_rfl), hS⟩ ?_
                    clear hF hS hm
                    rintro nn5 ⟨best9, who9, e1⟩ a w ⟨A10, c11, hF, hS⟩ hm
                    generalize hφ5 : stK (gameroomref_BestFive_L5 l1 a1 b1 c7 d1) nn5 (fun x => ((gameroomref_BestFive_K5 d1) x).bind φ4) = φ5 at hm
                    unfold gameroomref_BestFive_L5 at hm
                    dsimp only at hF hS hm
                    refine seq_cut (fun a w => Fr 79 [pl 0 (.slice A1 l1.length c1), pl 4 (.int .i64 (l1.length : Int)), pl 5 (.int .i64 best9), pl 6 (.slice A10 who9.length c11), pl 7 (.int .i64 a1), pl 8 (.int .i64 b1), pl 9 (.int .i64 c7), pl 10 (.int .i64 d1), pl 11 (.int .i64 e1)] a ∧ Sep w0 B w (own 3 (.slice A10 who9.length c11) (vI who9) :: fs) ∧ ((gameroomref_BestFive_J10 l1 a1 b1 c7 d1 best9 who9 e1)).bind φ5 = some r) ?_ ?_
                    · rintro a w ⟨hF, hS, hm⟩
                      unfold gameroomref_BestFive_J10 at hm
                      refine seq_cut (fun a w => ∃ (best11 : Int) (who11 : List Int) (A12 : Option Addr) (c13 : Nat), Fr 79 [pl 0 (.slice A1 l1.length c1), pl 4 (.int .i64 (l1.length : Int)), pl 5 (.int .i64 best11), pl 6 (.slice A12 who11.length c13), pl 7 (.int .i64 a1), pl 8 (.int .i64 b1), pl 9 (.int .i64 c7), pl 10 (.int .i64 d1), pl 11 (.int .i64 e1)] a ∧ Sep w0 B w (own 3 (.slice A12 who11.length c13) (vI who11) :: fs) ∧ ((gameroomref_BestFive_J11 e1) best11 who11).bind φ5 = some r) ?_ ?_
                      · rintro a w ⟨best11, who11, A12, c13, hF, hS, hm⟩
                        unfold gameroomref_BestFive_J11 at hm
                        refine reg1 [] [] [0, 4, 5, 6, 7, 8, 9, 10, 11] [pl 0 (.slice A1 l1.length c1), pl 4 (.int .i64 (l1.length : Int)), pl 5 (.int .i64 best11), pl 6 (.slice A12 who11.length c13), pl 7 (.int .i64 a1), pl 8 (.int .i64 b1), pl 9 (.int .i64 c7), pl 10 (.int .i64 d1), pl 11 (.int .i64 (w64 (e1 + 1)))] hF hS Fol (by kernel_rfl) (by kernel_rfl) (by kernel_rfl) ?_ (fun a w hF hS => ?_)
                        · exact obs_nil
                        refine then_n ?_
                        rw [← hφ5] at hm
                        exact ⟨(best11, who11, (w64 (e1 + 1))), ⟨A12, c13, hF.weak [0, 4, 5, 6, 7, 8, 9, 10, 11] (by kernel_rfl), hS⟩, hm⟩
                      · refine wpIn_block ?_
                        refine wpIn_seq ?_
                        obtain ⟨hp1, hm⟩ := asrt_b hm
                        obtain ⟨hp2, hm⟩ := asrt_b hm
                        obtain ⟨hp3, hm⟩ := asrt_b hm
                        obtain ⟨hp4, hm⟩ := asrt_b hm
                        obtain ⟨hp5, hm⟩ := asrt_b hm
                        refine regMix4 [0, 1, 2, 3, 4, 5, 6, 7, 8, 9, 10, 11, 12, 13, 14, 15, 16, 17, 18, 19] [20, 21] [⟨true, [], vS (Instr.indexAt 22 (.slice A1 l1.length c1) (.int .i64 a1)), .pointer (some (sAddr A1 a1))⟩, ⟨false, [], vS (Instr.loadAt 3 (.pointer (some (sAddr A1 a1)))), .int .i64 (geti l1 a1)⟩, ⟨true, [], vS (Instr.indexAt 22 (.slice A1 l1.length c1) (.int .i64 b1)), .pointer (some (sAddr A1 b1))⟩, ⟨false, [], vS (Instr.loadAt 3 (.pointer (some (sAddr A1 b1)))), .int .i64 (geti l1 b1)⟩, ⟨true, [], vS (Instr.indexAt 22 (.slice A1 l1.length c1) (.int .i64 c7)), .pointer (some (sAddr A1 c7))⟩, ⟨false, [], vS (Instr.loadAt 3 (.pointer (some (sAddr A1 c7)))), .int .i64 (geti l1 c7)⟩, ⟨true, [], vS (Instr.indexAt 22 (.slice A1 l1.length c1) (.int .i64 d1)), .pointer (some (sAddr A1 d1))⟩, ⟨false, [], vS (Instr.loadAt 3 (.pointer (some (sAddr A1 d1)))), .int .i64 (geti l1 d1)⟩, ⟨true, [], vS (Instr.indexAt 22 (.slice A1 l1.length c1) (.int .i64 e1)), .pointer (some (sAddr A1 e1))⟩, ⟨false, [], vS (Instr.loadAt 3 (.pointer (some (sAddr A1 e1)))), .int .i64 (geti l1 e1)⟩] [none, none, some (.pointer (some (sAddr A1 a1))), some (.int .i64 (geti l1 a1)), none, none, some (.pointer (some (sAddr A1 b1))), some (.int .i64 (geti l1 b1)), none, none, some (.pointer (some (sAddr A1 c7))), some (.int .i64 (geti l1 c7)), none, none, some (.pointer (some (sAddr A1 d1))), some (.int .i64 (geti l1 d1)), none, none, some (.pointer (some (sAddr A1 e1))), some (.int .i64 (geti l1 e1))] [0, 4, 5, 6, 7, 8, 9, 10, 11, 52, 56, 60, 64, 68] [pl 0 (.slice A1 l1.length c1), pl 4 (.int .i64 (l1.length : Int)), pl 5 (.int .i64 best9), pl 6 (.slice A10 who9.length c11), pl 7 (.int .i64 a1), pl 8 (.int .i64 b1), pl 9 (.int .i64 c7), pl 10 (.int .i64 d1), pl 11 (.int .i64 e1), pl 52 (.int .i64 (geti l1 a1)), pl 56 (.int .i64 (geti l1 b1)), pl 60 (.int .i64 (geti l1 c7)), pl 64 (.int .i64 (geti l1 d1)), pl 68 (.int .i64 (geti l1 e1))] hF hS Fol (by kernel_rfl) (by kernel_rfl) (by kernel_rfl) (by kernel_rfl) (by kernel_rfl) ?_ (fun a w hF hS => ?_)
                        · exact obs_cons (ob_ix1 (f := (Value.int .i64)) (m := l1) Und22 hi3 hs3 (hr_l1 _ (hS.dropN 1)) rfl (fun _ => hp1)) <| obs_cons (ob_get1 (n := l1.length) (m := l1) (Value.int .i64) (0 : Int) Agg3 (fun _ hS => ⟨_, (hr_l1 _ (hS.dropN 1))⟩) (fun _ hS => rfl) (fun _ => hp1)) <| obs_cons (ob_ix1 (f := (Value.int .i64)) (m := l1) Und22 hi3 hs3 (hr_l1 _ (hS.dropN 1)) rfl (fun _ => hp2)) <| obs_cons (ob_get1 (n := l1.length) (m := l1) (Value.int .i64) (0 : Int) Agg3 (fun _ hS => ⟨_, (hr_l1 _ (hS.dropN 1))⟩) (fun _ hS => rfl) (fun _ => hp2)) <| obs_cons (ob_ix1 (f := (Value.int .i64)) (m := l1) Und22 hi3 hs3 (hr_l1 _ (hS.dropN 1)) rfl (fun _ => hp3)) <| obs_cons (ob_get1 (n := l1.length) (m := l1) (Value.int .i64) (0 : Int) Agg3 (fun _ hS => ⟨_, (hr_l1 _ (hS.dropN 1))⟩) (fun _ hS => rfl) (fun _ => hp3)) <| obs_cons (ob_ix1 (f := (Value.int .i64)) (m := l1) Und22 hi3 hs3 (hr_l1 _ (hS.dropN 1)) rfl (fun _ => hp4)) <| obs_cons (ob_get1 (n := l1.length) (m := l1) (Value.int .i64) (0 : Int) Agg3 (fun _ hS => ⟨_, (hr_l1 _ (hS.dropN 1))⟩) (fun _ hS => rfl) (fun _ => hp4)) <| obs_cons (ob_ix1 (f := (Value.int .i64)) (m := l1) Und22 hi3 hs3 (hr_l1 _ (hS.dropN 1)) rfl (fun _ => hp5)) <| obs_cons (ob_get1 (n := l1.length) (m := l1) (Value.int .i64) (0 : Int) Agg3 (fun _ hS => ⟨_, (hr_l1 _ (hS.dropN 1))⟩) (fun _ hS => rfl) (fun _ => hp5)) <| obs_nil
                        refine at_do (d := 69) (s := vS (Instr.buildSlice 22 5 #[(0, .int .i64 (geti l1 a1)), (1, .int .i64 (geti l1 b1)), (2, .int .i64 (geti l1 c7)), (3, .int .i64 (geti l1 d1)), (4, .int .i64 (geti l1 e1))])) (v := .slice (some ⟨w.heap.size, 0, none⟩) 5 5) (w' := w.alloc (.cells #[.int .i64 (geti l1 a1), .int .i64 (geti l1 b1), .int .i64 (geti l1 c7), .int .i64 (geti l1 d1), .int .i64 (geti l1 e1)] 3)) hF (by kernel_rfl) (by kernel_rfl) (by kernel_rfl) (fun a hF => ?_)
                        have hS : Sep w0 B (w.alloc (.cells #[.int .i64 (geti l1 a1), .int .i64 (geti l1 b1), .int .i64 (geti l1 c7), .int .i64 (geti l1 d1), .int .i64 (geti l1 e1)] 3)) (own 3 (.slice (some (⟨w.heap.size, 0, none⟩ : Addr)) 5 5) (vI ([geti l1 a1, geti l1 b1, geti l1 c7, geti l1 d1, geti l1 e1] : List Int)) :: (own 3 (.slice A10 who9.length c11) (vI who9) :: fs)) := hS.lit 3 #[.int .i64 (geti l1 a1), .int .i64 (geti l1 b1), .int .i64 (geti l1 c7), .int .i64 (geti l1 d1), .int .i64 (geti l1 e1)] 5 rfl (by omega)
                        generalize (some (⟨w.heap.size, 0, none⟩ : Addr)) = g1 at hF hS
                        generalize w.alloc (.cells #[.int .i64 (geti l1 a1), .int .i64 (geti l1 b1), .int .i64 (geti l1 c7), .int .i64 (geti l1 d1), .int .i64 (geti l1 e1)] 3) = w at hS ⊢
                        refine at_run 1 [] [] [0, 4, 5, 6, 7, 8, 9, 10, 11, 12] [pl 0 (.slice A1 l1.length c1), pl 4 (.int .i64 (l1.length : Int)), pl 5 (.int .i64 best9), pl 6 (.slice A10 who9.length c11), pl 7 (.int .i64 a1), pl 8 (.int .i64 b1), pl 9 (.int .i64 c7), pl 10 (.int .i64 d1), pl 11 (.int .i64 e1), pl 12 (.slice g1 5 5)] hF hS (by kernel_rfl) (by kernel_rfl) ?_ (fun a w hF hS => ?_)
                        · exact obs_nil
                        refine at_end [0, 4, 5, 6, 7, 8, 9, 10, 11, 12] [pl 0 (.slice A1 l1.length c1), pl 4 (.int .i64 (l1.length : Int)), pl 5 (.int .i64 best9), pl 6 (.slice A10 who9.length c11), pl 7 (.int .i64 a1), pl 8 (.int .i64 b1), pl 9 (.int .i64 c7), pl 10 (.int .i64 d1), pl 11 (.int .i64 e1), pl 12 (.slice g1 5 5)] hF rfl (by kernel_rfl) (fun hF => ?_)
                        refine np_n ?_
                        refine then_n ?_
                        obtain ⟨r1, hr1, hm⟩ := call_b hm
                        refine reg [⟨false, [], callFunc 111 #[.slice g1 5 5], .int .i64 r1⟩] [none, some (.int .i64 r1), none] [0, 4, 5, 6, 7, 8, 9, 10, 11, 12, 13] [pl 0 (.slice A1 l1.length c1), pl 4 (.int .i64 (l1.length : Int)), pl 5 (.int .i64 best9), pl 6 (.slice A10 who9.length c11), pl 7 (.int .i64 a1), pl 8 (.int .i64 b1), pl 9 (.int .i64 c7), pl 10 (.int .i64 d1), pl 11 (.int .i64 e1), pl 12 (.slice g1 5 5), pl 13 (.int .i64 r1)] hF hS Fol (by kernel_rfl) (by kernel_rfl) (by kernel_rfl) ?_ (fun a w hF hS => ?_)
                        · exact obs_cons (ob_call Try.func111 (by kernel_rfl) rfl (fun _ _ hS => gameroomref_HandValue_w hr1 hS (fun _ hS => (hS.at_ 0 rfl).rd) ((hS.at_ 0 rfl).cap1) ((hS.at_ 0 rfl).len1))) <| obs_nil
                        refine reg [] [] [0, 4, 5, 6, 7, 8, 9, 10, 11, 12, 13, 74] [pl 0 (.slice A1 l1.length c1), pl 4 (.int .i64 (l1.length : Int)), pl 5 (.int .i64 best9), pl 6 (.slice A10 who9.length c11), pl 7 (.int .i64 a1), pl 8 (.int .i64 b1), pl 9 (.int .i64 c7), pl 10 (.int .i64 d1), pl 11 (.int .i64 e1), pl 12 (.slice g1 5 5), pl 13 (.int .i64 r1), pl 74 (.bool (decide (best9 < r1)))] hF hS Fol (by kernel_rfl) (by kernel_rfl) (by kernel_rfl) ?_ (fun a w hF hS => ?_)
                        · exact obs_nil
                        refine cond_ev (t := 74) (b := decide (best9 < r1)) hF (by kernel_rfl) (fun hb => ?_) (fun hb => ?_)
                        · replace hm := if_t hm hb
                          refine reg [] [] [0, 4, 5, 7, 8, 9, 10, 11, 12] [pl 0 (.slice A1 l1.length c1), pl 4 (.int .i64 (l1.length : Int)), pl 5 (.int .i64 r1), pl 7 (.int .i64 a1), pl 8 (.int .i64 b1), pl 9 (.int .i64 c7), pl 10 (.int .i64 d1), pl 11 (.int .i64 e1), pl 12 (.slice g1 5 5)] hF hS Fol (by kernel_rfl) (by kernel_rfl) (by kernel_rfl) ?_ (fun a w hF hS => ?_)
                          · exact obs_nil
                          refine reg1 [] [] [0, 4, 5, 6, 7, 8, 9, 10, 11] [pl 0 (.slice A1 l1.length c1), pl 4 (.int .i64 (l1.length : Int)), pl 5 (.int .i64 r1), pl 6 (.slice g1 5 5), pl 7 (.int .i64 a1), pl 8 (.int .i64 b1), pl 9 (.int .i64 c7), pl 10 (.int .i64 d1), pl 11 (.int .i64 e1)] hF hS Fol (by kernel_rfl) (by kernel_rfl) (by kernel_rfl) ?_ (fun a w hF hS => ?_)
                          · exact obs_nil
                          refine block_n ?_
                          refine then_n ?_
                          have hl2 := (hS.at_ 0 rfl).len1
                          have hS := (hS.at_ 0 rfl).reN hl2
                          have hS : Sep w0 B w (own 3 (.slice g1 (([geti l1 a1, geti l1 b1, geti l1 c7, geti l1 d1, geti l1 e1] : List Int).length) 5) (vI ([geti l1 a1, geti l1 b1, geti l1 c7, geti l1 d1, geti l1 e1] : List Int)) :: own 3 (.slice A10 who9.length c11) (vI who9) :: fs) := hS
                          have hF := hF.cast (t := 6) (v := .slice g1 5 5) (v' := .slice g1 (([geti l1 a1, geti l1 b1, geti l1 c7, geti l1 d1, geti l1 e1] : List Int).length) 5) rfl rfl (congrArg (fun k => Value.slice g1 k 5) hl2)
                          have hS := hS.pickN 2 [0] (by decide)
                          exact ⟨r1, ([geti l1 a1, geti l1 b1, geti l1 c7, geti l1 d1, geti l1 e1] : List Int), g1, 5, hF.weak [0, 4, 5, 6, 7, 8, 9, 10, 11] (by kernel_rfl), hS, hm⟩
                        · replace hm := if_f hm hb
                          refine wpIn_skip ?_
                          refine block_n ?_
                          refine then_n ?_
                          have hS := hS.pickN 2 [1] (by decide)
                          exact ⟨best9, who9, A10, c11, hF.weak [0, 4, 5, 6, 7, 8, 9, 10, 11] (by kernel_rfl), hS, hm⟩
                    · refine reg [] [] [0, 4, 5, 6, 7, 8, 9, 10, 11, 46] [pl 0 (.slice A1 l1.length c1), pl 4 (.int .i64 (l1.length : Int)), pl 5 (.int .i64 best9), pl 6 (.slice A10 who9.length c11), pl 7 (.int .i64 a1), pl 8 (.int .i64 b1), pl 9 (.int .i64 c7), pl 10 (.int .i64 d1), pl 11 (.int .i64 e1), pl 46 (.bool (decide (e1 < (l1.length : Int))))] hF hS Fol (by kernel_rfl) (by kernel_rfl) (by kernel_rfl) ?_ (fun a w hF hS => ?_)
                      · exact obs_nil
                      refine cond_ev (t := 46) (b := decide (e1 < (l1.length : Int))) hF (by kernel_rfl) (fun hb => ?_) (fun hb => ?_)
                      · replace hm := if_t hm hb
                        refine wpIn_skip ?_
                        refine then_n ?_
                        exact ⟨hF.weak [0, 4, 5, 6, 7, 8, 9, 10, 11] (by kernel_rfl), hS, hm⟩
                      · replace hm := if_f hm hb
                        refine wpIn_exit ?_
                        refine then_e (then_e (block_e (block_n (then_n ?_))))
                        rw [← hφ5] at hm
                        replace hm := done_b hm
                        unfold gameroomref_BestFive_K5 at hm
                        try dsimp only at hm
                        have hm : ((gameroomref_BestFive_J9 d1) best9 who9).bind φ4 = some r := hm
                        exact ⟨best9, who9, A10, c11, hF.weak [0, 4, 5, 6, 7, 8, 9, 10] (by kernel_rfl), hS, hm⟩
                · refine reg [] [] [0, 4, 5, 6, 7, 8, 9, 10, 39] [pl 0 (.slice A1 l1.length c1), pl 4 (.int .i64 (l1.length : Int)), pl 5 (.int .i64 best7), pl 6 (.slice A8 who7.length c9), pl 7 (.int .i64 a1), pl 8 (.int .i64 b1), pl 9 (.int .i64 c7), pl 10 (.int .i64 d1), pl 39 (.bool (decide (d1 < (l1.length : Int))))] hF hS Fol (by kernel_rfl) (by kernel_rfl) (by kernel_rfl) ?_ (fun a w hF hS => ?_)
                  · exact obs_nil
                  refine cond_ev (t := 39) (b := decide (d1 < (l1.length : Int))) hF (by kernel_rfl) (fun hb => ?_) (fun hb => ?_)
                  · replace hm := if_t hm hb
                    refine wpIn_skip ?_
                    refine then_n ?_
                    exact ⟨hF.weak [0, 4, 5, 6, 7, 8, 9, 10] (by kernel_rfl), hS, hm⟩
                  · replace hm := if_f hm hb
                    refine wpIn_exit ?_
                    refine then_e (then_e (block_e (block_n (then_n ?_))))
                    rw [← hφ4] at hm
                    replace hm := done_b hm
                    unfold gameroomref_BestFive_K4 at hm
                    try dsimp only at hm
                    have hm : ((gameroomref_BestFive_J7 c7) best7 who7).bind φ3 = some r := hm
                    exact ⟨best7, who7, A8, c9, hF.weak [0, 4, 5, 6, 7, 8, 9] (by kernel_rfl), hS, hm⟩
            · refine reg [] [] [0, 4, 5, 6, 7, 8, 9, 32] [pl 0 (.slice A1 l1.length c1), pl 4 (.int .i64 (l1.length : Int)), pl 5 (.int .i64 best5), pl 6 (.slice A6 who5.length c6), pl 7 (.int .i64 a1), pl 8 (.int .i64 b1), pl 9 (.int .i64 c7), pl 32 (.bool (decide (c7 < (l1.length : Int))))] hF hS Fol (by kernel_rfl) (by kernel_rfl) (by kernel_rfl) ?_ (fun a w hF hS => ?_)
              · exact obs_nil
              refine cond_ev (t := 32) (b := decide (c7 < (l1.length : Int))) hF (by kernel_rfl) (fun hb => ?_) (fun hb => ?_)
              · replace hm := if_t hm hb
                refine wpIn_skip ?_
                refine then_n ?_
                exact ⟨hF.weak [0, 4, 5, 6, 7, 8, 9] (by kernel_rfl), hS, hm⟩
              · replace hm := if_f hm hb
                refine wpIn_exit ?_
                refine then_e (then_e (block_e (block_n (then_n ?_))))
                rw [← hφ3] at hm
                replace hm := done_b hm
                unfold gameroomref_BestFive_K3 at hm
                try dsimp only at hm
                have hm : ((gameroomref_BestFive_J5 b1) best5 who5).bind φ2 = some r := hm
                exact ⟨best5, who5, A6, c6, hF.weak [0, 4, 5, 6, 7, 8] (by kernel_rfl), hS, hm⟩
        · refine reg [] [] [0, 4, 5, 6, 7, 8, 25] [pl 0 (.slice A1 l1.length c1), pl 4 (.int .i64 (l1.length : Int)), pl 5 (.int .i64 best3), pl 6 (.slice A4 who3.length c4), pl 7 (.int .i64 a1), pl 8 (.int .i64 b1), pl 25 (.bool (decide (b1 < (l1.length : Int))))] hF hS Fol (by kernel_rfl) (by kernel_rfl) (by kernel_rfl) ?_ (fun a w hF hS => ?_)
          · exact obs_nil
          refine cond_ev (t := 25) (b := decide (b1 < (l1.length : Int))) hF (by kernel_rfl) (fun hb => ?_) (fun hb => ?_)
          · replace hm := if_t hm hb
            refine wpIn_skip ?_
            refine then_n ?_
            exact ⟨hF.weak [0, 4, 5, 6, 7, 8] (by kernel_rfl), hS, hm⟩
          · replace hm := if_f hm hb
            refine wpIn_exit ?_
            refine then_e (then_e (block_e (block_n (then_n ?_))))
            rw [← hφ2] at hm
            replace hm := done_b hm
            unfold gameroomref_BestFive_K2 at hm
            try dsimp only at hm
            have hm : ((gameroomref_BestFive_J3 a1) best3 who3).bind φ1 = some r := hm
            exact ⟨best3, who3, A4, c4, hF.weak [0, 4, 5, 6, 7] (by kernel_rfl), hS, hm⟩
    · refine reg [] [] [0, 4, 5, 6, 7, 18] [pl 0 (.slice A1 l1.length c1), pl 4 (.int .i64 (l1.length : Int)), pl 5 (.int .i64 best1), pl 6 (.slice A2 who1.length c2), pl 7 (.int .i64 a1), pl 18 (.bool (decide (a1 < (l1.length : Int))))] hF hS Fol (by kernel_rfl) (by kernel_rfl) (by kernel_rfl) ?_ (fun a w hF hS => ?_)
      · exact obs_nil
      refine cond_ev (t := 18) (b := decide (a1 < (l1.length : Int))) hF (by kernel_rfl) (fun hb => ?_) (fun hb => ?_)
      · replace hm := if_t hm hb
        refine wpIn_skip ?_
        refine then_n ?_
        exact ⟨hF.weak [0, 4, 5, 6, 7] (by kernel_rfl), hS, hm⟩
      · replace hm := if_f hm hb
        refine wpIn_exit ?_
        refine then_e (then_e (block_e (then_n ?_)))
        rw [← hφ1] at hm
        replace hm := done_b hm
        unfold gameroomref_BestFive_K1 at hm
        try dsimp only at hm
        have hm : (gameroomref_BestFive_J1 best1 who1).bind some = some r := hm
        exact ⟨best1, who1, A2, c2, hF.weak [5, 6] (by kernel_rfl), hS, hm⟩

end Go.Proofs.Ytoickcchcjehdaa
