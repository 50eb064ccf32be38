/-
  Models and walks, printed by our own program (wip/gen).
-/
import Derived.Test.YtdjjomghggplpaaFB
import Derived.Test.YtdjjomghggplpaaLibSc
import Derived.Test.YtdjjomghggplpaaFE
import Derived.Test.YtdjjomghggplpaaLibPl
import Derived.Test.YtdjjomghggplpaaSH
import Derived.Test.YtdjjomghggplpaaNSAc
namespace Go.Proofs.Ytdjjomghggplpaa
open Go Go.GL Go.RowKit

noncomputable def gameroomref_AliveOf_m  (g1 : Int) (g2 : Int) (g3 : List Int) (who1 : Int) : Option (List Int) :=
  (gameroomref_marks_m g1 g2 g3 who1 false).bind fun r1 => (gameroomref_marks_m g1 g2 g3 who1 true).bind fun r2 => (gameroomref_AliveOf_J1 g1 g2 g3) r1 r2

set_option maxRecDepth 100000 in
set_option maxHeartbeats 4000000 in
theorem gameroomref_AliveOf_w  {g1 : Int} {g2 : Int} {A1 : Option Addr} {c1 : Nat} {n1 : Nat} {g3 : List Int} {who1 : Int} {r : (List Int)} {w0 w : World} {B : Nat} {fs : List HP} (hm : gameroomref_AliveOf_m g1 g2 g3 who1 = some r) (hS : Sep w0 B w (fs)) (hr_g3 : RdF w0 B fs A1 (vI g3)) (_hc_g3 : g3.length ≤ c1) (_hn_g3 : n1 = g3.length) :
    Calls Try.prog 15 #[.agg #[.int .i64 g1, .int .i64 g2, .slice A1 n1 c1], .int .i64 who1] w fun e w' => ∃ v, e = .returned v ∧ ∃ (A16 : Option Addr) (c16 : Nat), v = .slice A16 r.length c16 ∧ Sep w0 B w' (own 3 (.slice A16 r.length c16) (vI r) :: fs) := by
  obtain ⟨i3, hi3, hz3, hs3, hb3⟩ := info_parts Info3
  obtain ⟨i4, hi4, hz4, hs4, hb4⟩ := info_parts Info4
  obtain rfl := _hn_g3
  unfold gameroomref_AliveOf_m at hm
  replace hm := start_b hm
  refine enter (l := [.agg #[.int .i64 g1, .int .i64 g2, .slice A1 g3.length c1], .int .i64 who1]) (n := 169) Try.func15 rfl rfl (by simp) (fun a hF => ?_)
  refine seqR ?_
  refine at_do (d := 2) (s := vS (Instr.box 24 (.agg #[.int .i64 g1, .int .i64 g2, .slice A1 g3.length c1]))) (v := .pointer (some ⟨w.heap.size, 0, none⟩)) (w' := w.alloc (.cells #[.int .i64 g1, .int .i64 g2, .slice A1 g3.length c1] 24)) hF (by kernel_rfl) (by kernel_rfl) (by kernel_rfl) (fun a hF => ?_)
  have hS : Sep w0 B (w.alloc (.cells #[.int .i64 g1, .int .i64 g2, .slice A1 g3.length c1] 24)) (blk w.heap.size 24 #[.int .i64 g1, .int .i64 g2, .slice A1 g3.length c1] :: (fs)) := hS.box 24 #[.int .i64 g1, .int .i64 g2, .slice A1 g3.length c1]
  generalize w.heap.size = g4 at hF hS
  generalize w.alloc (.cells #[.int .i64 g1, .int .i64 g2, .slice A1 g3.length c1] 24) = w at hS ⊢
  refine at_run 1 [] [] [1, 2] [pl 1 (.int .i64 who1), pl 2 (.pointer (some ⟨g4, 0, none⟩))] hF hS (by kernel_rfl) (by kernel_rfl) ?_ (fun a w hF hS => ?_)
  · exact obs_nil
  refine at_end [1, 2] [pl 1 (.int .i64 who1), pl 2 (.pointer (some ⟨g4, 0, none⟩))] hF rfl (by kernel_rfl) (fun hF => ?_)
  refine then_n ?_
  refine reg [⟨false, [], vS (Instr.loadAt 22 (.pointer (some ⟨g4, 2, none⟩))), .slice A1 g3.length c1⟩] [none, some (.slice A1 g3.length c1), none, none] [1, 2, 5] [pl 1 (.int .i64 who1), pl 2 (.pointer (some ⟨g4, 0, none⟩)), pl 5 (.int .i64 (g3.length : Int))] hF hS Fol (by kernel_rfl) (by kernel_rfl) (by kernel_rfl) ?_ (fun a w hF hS => ?_)
  · exact obs_cons (ob_load Agg22 (fun _ _ hS => (hS.at_ 0 rfl).cell rfl)) <| obs_nil
  refine seq_cut (fun a w => ∃ (own5 : List Bool) (rest1 : List Bool) (A6 : Option Addr) (c6 : Nat) (A7 : Option Addr) (c7 : Nat), Fr 169 [pl 2 (.pointer (some ⟨g4, 0, none⟩)), pl 5 (.int .i64 (g3.length : Int)), pl 6 (.slice A6 own5.length c6), pl 7 (.slice A7 rest1.length c7)] a ∧ Sep w0 B w (blk g4 24 #[.int .i64 g1, .int .i64 g2, .slice A1 g3.length c1] :: own 4 (.slice A6 own5.length c6) (vB own5) :: own 4 (.slice A7 rest1.length c7) (vB rest1) :: fs) ∧ ((gameroomref_AliveOf_J1 g1 g2 g3) own5 rest1).bind some = some r) ?_ ?_
  · rintro a w ⟨own5, rest1, A6, c6, A7, c7, hF, hS, hm⟩
    unfold gameroomref_AliveOf_J1 at hm
    refine seqR ?_
    obtain ⟨hp1, hm⟩ := asrt_b hm
    refine at_run 1 [] [] [2, 5, 6, 7, 31] [pl 2 (.pointer (some ⟨g4, 0, none⟩)), pl 5 (.int .i64 (g3.length : Int)), pl 6 (.slice A6 own5.length c6), pl 7 (.slice A7 rest1.length c7), pl 31 (.int .i64 (g3.length : Int))] hF hS (by kernel_rfl) (by kernel_rfl) ?_ (fun a w hF hS => ?_)
    · exact obs_nil
    obtain ⟨A8, c8, w, hrun, hS⟩ := run_mk1 (P := Try.prog) (t := 86) Value.bool false hS .i64 .i64 Und86 hi4 hz4 hs4 (by omega) rfl hp1
    have hS : Sep w0 B w (own 4 (.slice A8 (Int.toNat (g3.length : Int)) c8) (vB (List.replicate (Int.toNat (g3.length : Int)) false)) :: blk g4 24 #[.int .i64 g1, .int .i64 g2, .slice A1 g3.length c1] :: own 4 (.slice A6 own5.length c6) (vB own5) :: own 4 (.slice A7 rest1.length c7) (vB rest1) :: fs) := hS
    refine at_do (d := 32) hF (by kernel_rfl) (by kernel_rfl) hrun (fun a hF => ?_)
    refine at_run 1 [] [] [2, 5, 6, 7, 8] [pl 2 (.pointer (some ⟨g4, 0, none⟩)), pl 5 (.int .i64 (g3.length : Int)), pl 6 (.slice A6 own5.length c6), pl 7 (.slice A7 rest1.length c7), pl 8 (.slice A8 (Int.toNat (g3.length : Int)) c8)] hF hS (by kernel_rfl) (by kernel_rfl) ?_ (fun a w hF hS => ?_)
    · exact obs_nil
    refine at_end [2, 5, 6, 7, 8] [pl 2 (.pointer (some ⟨g4, 0, none⟩)), pl 5 (.int .i64 (g3.length : Int)), pl 6 (.slice A6 own5.length c6), pl 7 (.slice A7 rest1.length c7), pl 8 (.slice A8 (Int.toNat (g3.length : Int)) c8)] hF rfl (by kernel_rfl) (fun hF => ?_)
    refine then_n ?_
    refine seq_cut (fun a w => ∃ (out2 : List Bool), Fr 169 [pl 5 (.int .i64 (g3.length : Int)), pl 6 (.slice A6 own5.length c6), pl 8 (.slice A8 (Int.toNat (g3.length : Int)) c8)] a ∧ Sep w0 B w (own 4 (.slice A6 own5.length c6) (vB own5) :: own 4 (.slice A8 (Int.toNat (g3.length : Int)) c8) (vB out2) :: fs) ∧ ((gameroomref_AliveOf_J2 g3 own5) out2).bind some = some r) ?_ ?_
    · rintro a w ⟨out2, hF, hS, hm⟩
      unfold gameroomref_AliveOf_J2 at hm
      refine reg [] [] [5, 6, 8, 20] [pl 5 (.int .i64 (g3.length : Int)), pl 6 (.slice A6 own5.length c6), pl 8 (.slice A8 (Int.toNat (g3.length : Int)) c8), pl 20 (.slice none 0 0)] hF hS Fol (by kernel_rfl) (by kernel_rfl) (by kernel_rfl) ?_ (fun a w hF hS => ?_)
      · exact obs_nil
      refine seq_cut (fun a w => ∃ (l2 : List Int) (A13 : Option Addr) (c13 : Nat), Fr 169 [pl 20 (.slice A13 l2.length c13)] a ∧ Sep w0 B w (own 3 (.slice A13 l2.length c13) (vI l2) :: fs) ∧ (gameroomref_AliveOf_J18 l2).bind some = some r) ?_ ?_
      · rintro a w ⟨l2, A13, c13, hF, hS, hm⟩
        unfold gameroomref_AliveOf_J18 at hm
        refine reg [] [] [4] [pl 4 (.slice A13 l2.length c13)] hF hS Fol (by kernel_rfl) (by kernel_rfl) (by kernel_rfl) ?_ (fun a w hF hS => ?_)
        · exact obs_nil
        refine wpIn_ret ?_
        have hm : some l2 = some r := hm
        obtain rfl := Option.some.inj hm
        exact retV (rs := [.tmp 4]) (vs := [.slice A13 l2.length c13]) hF rfl (rv_t (by kernel_rfl) <| rv_nil) rfl ⟨_, rfl, A13, c13, rfl, hS⟩
      · refine reg [] [] [5, 6, 8, 20, 21] [pl 5 (.int .i64 (g3.length : Int)), pl 6 (.slice A6 own5.length c6), pl 8 (.slice A8 (Int.toNat (g3.length : Int)) c8), pl 20 (.slice none 0 0), pl 21 (.int .i64 0)] hF hS Fol (by kernel_rfl) (by kernel_rfl) (by kernel_rfl) ?_ (fun a w hF hS => ?_)
        · exact obs_nil
        refine wpIn_block ?_
        have hS : Sep w0 B w (own 3 (.slice none 0 0) (vI ([] : List Int)) :: own 4 (.slice A6 own5.length c6) (vB own5) :: own 4 (.slice A8 (Int.toNat (g3.length : Int)) c8) (vB out2) :: fs) := hS.nil 3
        have hl1 := (hS.at_ 0 rfl).len1
        have hS := (hS.at_ 0 rfl).reN hl1
        have hS : Sep w0 B w (own 3 (.slice none (([] : List Int).length) 0) (vI ([] : List Int)) :: own 4 (.slice A6 own5.length c6) (vB own5) :: own 4 (.slice A8 (Int.toNat (g3.length : Int)) c8) (vB out2) :: fs) := hS
        have hF := hF.cast (t := 20) (v := .slice none 0 0) (v' := .slice none (([] : List Int).length) 0) rfl rfl (congrArg (fun k => Value.slice none k 0) hl1)
        have hS := hS.pickN 3 [1, 2, 0] (by decide)
        refine wp_loop_model (S := (List Int × Int)) (R := (List Int)) (gameroomref_AliveOf_L6 g3 own5 out2) (fun x => (gameroomref_AliveOf_K6 x).bind some) r (fun (x : (List Int × Int)) a w => ∃ (A12 : Option Addr) (c12 : Nat), Fr 169 [pl 5 (.int .i64 (g3.length : Int)), pl 6 (.slice A6 own5.length c6), pl 8 (.slice A8 (Int.toNat (g3.length : Int)) c8), pl 20 (.slice A12 x.1.length c12), pl 21 (.int .i64 x.2)] a ∧ Sep w0 B w (own 4 (.slice A6 own5.length c6) (vB own5) :: own 4 (.slice A8 (Int.toNat (g3.length : Int)) c8) (vB out2) :: own 3 (.slice A12 x.1.length c12) (vI x.1) :: fs)) (assoc_b hm) ⟨none, 0, hF.weak [5, 6, 8, 20, 21] (by kernel_rfl), hS⟩ ?_
        clear hF hS hm
        rintro nn6 ⟨l1, i2⟩ a w ⟨A12, c12, hF, hS⟩ hm
        generalize hφ6 : stK (gameroomref_AliveOf_L6 g3 own5 out2) nn6 (fun x => (gameroomref_AliveOf_K6 x).bind some) = φ6 at hm
        unfold gameroomref_AliveOf_L6 at hm
        dsimp only at hF hS hm
        refine seq_cut (fun a w => Fr 169 [pl 5 (.int .i64 (g3.length : Int)), pl 6 (.slice A6 own5.length c6), pl 8 (.slice A8 (Int.toNat (g3.length : Int)) c8), pl 20 (.slice A12 l1.length c12), pl 21 (.int .i64 i2)] a ∧ Sep w0 B w (own 4 (.slice A6 own5.length c6) (vB own5) :: own 4 (.slice A8 (Int.toNat (g3.length : Int)) c8) (vB out2) :: own 3 (.slice A12 l1.length c12) (vI l1) :: fs) ∧ ((gameroomref_AliveOf_J19 g3 own5 out2 l1 i2)).bind φ6 = some r) ?_ ?_
        · rintro a w ⟨hF, hS, hm⟩
          unfold gameroomref_AliveOf_J19 at hm
          refine seq_cut (fun a w => ∃ (l3 : List Int) (A15 : Option Addr) (c15 : Nat), Fr 169 [pl 5 (.int .i64 (g3.length : Int)), pl 6 (.slice A6 own5.length c6), pl 8 (.slice A8 (Int.toNat (g3.length : Int)) c8), pl 20 (.slice A15 l3.length c15), pl 21 (.int .i64 i2)] a ∧ Sep w0 B w (own 4 (.slice A6 own5.length c6) (vB own5) :: own 4 (.slice A8 (Int.toNat (g3.length : Int)) c8) (vB out2) :: own 3 (.slice A15 l3.length c15) (vI l3) :: fs) ∧ ((gameroomref_AliveOf_J20 i2) l3).bind φ6 = some r) ?_ ?_
          · rintro a w ⟨l3, A15, c15, hF, hS, hm⟩
            unfold gameroomref_AliveOf_J20 at hm
            refine reg1 [] [] [5, 6, 8, 20, 21] [pl 5 (.int .i64 (g3.length : Int)), pl 6 (.slice A6 own5.length c6), pl 8 (.slice A8 (Int.toNat (g3.length : Int)) c8), pl 20 (.slice A15 l3.length c15), pl 21 (.int .i64 (w64 (i2 + 1)))] hF hS Fol (by kernel_rfl) (by kernel_rfl) (by kernel_rfl) ?_ (fun a w hF hS => ?_)
            · exact obs_nil
            refine then_n ?_
            rw [← hφ6] at hm
            exact ⟨(l3, (w64 (i2 + 1))), ⟨A15, c15, hF.weak [5, 6, 8, 20, 21] (by kernel_rfl), hS⟩, hm⟩
          · refine wpIn_block ?_
            obtain ⟨hp15, hm⟩ := asrt_b hm
            obtain ⟨hp16, hm⟩ := asrt_b hm
            refine reg [⟨true, [], vS (Instr.indexAt 86 (.slice A6 own5.length c6) (.int .i64 i2)), .pointer (some (sAddr A6 i2))⟩, ⟨false, [], vS (Instr.loadAt 4 (.pointer (some (sAddr A6 i2)))), .bool (getb own5 i2)⟩, ⟨true, [(getb own5 i2, true)], vS (Instr.indexAt 86 (.slice A8 (Int.toNat (g3.length : Int)) c8) (.int .i64 i2)), .pointer (some (sAddr A8 i2))⟩, ⟨false, [(getb own5 i2, true)], vS (Instr.loadAt 4 (.pointer (some (sAddr A8 i2)))), .bool (getb out2 i2)⟩] [none, none, some (.pointer (some (sAddr A6 i2))), some (.bool (getb own5 i2)), none, none, none, some (.pointer (some (sAddr A8 i2))), some (.bool (getb out2 i2)), none, none] [5, 6, 8, 20, 21, 163] [pl 5 (.int .i64 (g3.length : Int)), pl 6 (.slice A6 own5.length c6), pl 8 (.slice A8 (Int.toNat (g3.length : Int)) c8), pl 20 (.slice A12 l1.length c12), pl 21 (.int .i64 i2), pl 163 (.bool ((getb own5 i2) && (!(getb out2 i2))))] hF hS Fol (by kernel_rfl) (by kernel_rfl) (by kernel_rfl) ?_ (fun a w hF hS => ?_)
            · exact obs_cons (ob_ix1 (f := Value.bool) (m := own5) Und86 hi4 hs4 (hS.at_ 0 rfl).rd rfl (fun _ => hp15)) <| obs_cons (ob_get1 (n := own5.length) (m := own5) Value.bool false Agg4 (fun _ hS => ⟨_, (hS.at_ 0 rfl).rd⟩) (fun _ hS => rfl) (fun _ => hp15)) <| obs_cons (ob_ix1 (f := Value.bool) (m := out2) Und86 hi4 hs4 (hS.at_ 1 rfl).rd ((hS.at_ 1 rfl).len1) (fun hy => hp16 (hy (getb own5 i2, true) (by simp)))) <| obs_cons (ob_get1 (n := (Int.toNat (g3.length : Int))) (m := out2) Value.bool false Agg4 (fun _ hS => ⟨_, (hS.at_ 1 rfl).rd⟩) (fun _ hS => ((hS.at_ 1 rfl).len1)) (fun hy => hp16 (hy (getb own5 i2, true) (by simp)))) <| obs_nil
            refine cond_ev (t := 163) (b := (getb own5 i2) && (!(getb out2 i2))) hF (by kernel_rfl) (fun hb => ?_) (fun hb => ?_)
            · replace hm := if_t hm hb
              refine oneR ?_
              obtain ⟨hp17, hm⟩ := asrt_b hm
              refine at_run 2 [] [] [5, 6, 8, 21, 164, 165] [pl 5 (.int .i64 (g3.length : Int)), pl 6 (.slice A6 own5.length c6), pl 8 (.slice A8 (Int.toNat (g3.length : Int)) c8), pl 21 (.int .i64 i2), pl 164 (.slice A12 l1.length c12), pl 165 (.int .i64 i2)] hF hS (by kernel_rfl) (by kernel_rfl) ?_ (fun a w hF hS => ?_)
              · exact obs_nil
              refine at_do (d := 166) (s := vS (Instr.buildSlice 22 1 #[(0, .int .i64 i2)])) (v := .slice (some ⟨w.heap.size, 0, none⟩) 1 1) (w' := w.alloc (.cells #[.int .i64 i2] 3)) hF (by kernel_rfl) (by kernel_rfl) (by kernel_rfl) (fun a hF => ?_)
              have hS : Sep w0 B (w.alloc (.cells #[.int .i64 i2] 3)) (own 3 (.slice (some (⟨w.heap.size, 0, none⟩ : Addr)) 1 1) (vI ([i2] : List Int)) :: (own 4 (.slice A6 own5.length c6) (vB own5) :: own 4 (.slice A8 (Int.toNat (g3.length : Int)) c8) (vB out2) :: own 3 (.slice A12 l1.length c12) (vI l1) :: fs)) := hS.lit 3 #[.int .i64 i2] 1 rfl (by omega)
              generalize (some (⟨w.heap.size, 0, none⟩ : Addr)) = g5 at hF hS
              generalize w.alloc (.cells #[.int .i64 i2] 3) = w at hS ⊢
              obtain ⟨A14, c14, w, hrun, hS⟩ := run_app1 (P := Try.prog) (t := 22) (m := l1) (ys := ([i2] : List Int)) (A2 := g5) (m2 := 1) (c2 := 1) (Value.int .i64) (0 : Int) (hS.at_ 3 rfl) (hS.at_ 0 rfl).rd ((hS.at_ 0 rfl).len1) 22 Und22 hi3 hz3 hs3 (by omega) rfl (fun _ => rfl) hp17
              have hS : Sep w0 B w (own 3 (.slice g5 1 1) (vI ([i2] : List Int)) :: own 4 (.slice A6 own5.length c6) (vB own5) :: own 4 (.slice A8 (Int.toNat (g3.length : Int)) c8) (vB out2) :: own 3 (.slice A14 ((l1 ++ ([i2] : List Int)).length) c14) (vI (l1 ++ ([i2] : List Int))) :: fs) := hS
              refine at_do (d := 167) hF (by kernel_rfl) (by kernel_rfl) hrun (fun a hF => ?_)
              refine at_run 1 [] [] [5, 6, 8, 20, 21] [pl 5 (.int .i64 (g3.length : Int)), pl 6 (.slice A6 own5.length c6), pl 8 (.slice A8 (Int.toNat (g3.length : Int)) c8), pl 20 (.slice A14 ((l1 ++ ([i2] : List Int)).length) c14), pl 21 (.int .i64 i2)] hF hS (by kernel_rfl) (by kernel_rfl) ?_ (fun a w hF hS => ?_)
              · exact obs_nil
              refine at_end [5, 6, 8, 20, 21] [pl 5 (.int .i64 (g3.length : Int)), pl 6 (.slice A6 own5.length c6), pl 8 (.slice A8 (Int.toNat (g3.length : Int)) c8), pl 20 (.slice A14 ((l1 ++ ([i2] : List Int)).length) c14), pl 21 (.int .i64 i2)] hF rfl (by kernel_rfl) (fun hF => ?_)
              refine block_n ?_
              refine then_n ?_
              have hS := hS.pickN 4 [1, 2, 3] (by decide)
              exact ⟨(l1 ++ ([i2] : List Int)), A14, c14, hF.weak [5, 6, 8, 20, 21] (by kernel_rfl), hS, hm⟩
            · replace hm := if_f hm hb
              refine wpIn_skip ?_
              refine block_n ?_
              refine then_n ?_
              exact ⟨l1, A12, c12, hF.weak [5, 6, 8, 20, 21] (by kernel_rfl), hS, hm⟩
        · refine reg [] [] [5, 6, 8, 20, 21, 150] [pl 5 (.int .i64 (g3.length : Int)), pl 6 (.slice A6 own5.length c6), pl 8 (.slice A8 (Int.toNat (g3.length : Int)) c8), pl 20 (.slice A12 l1.length c12), pl 21 (.int .i64 i2), pl 150 (.bool (decide (i2 < (g3.length : Int))))] hF hS Fol (by kernel_rfl) (by kernel_rfl) (by kernel_rfl) ?_ (fun a w hF hS => ?_)
          · exact obs_nil
          refine cond_ev (t := 150) (b := decide (i2 < (g3.length : Int))) hF (by kernel_rfl) (fun hb => ?_) (fun hb => ?_)
          · replace hm := if_t hm hb
            refine wpIn_skip ?_
            refine then_n ?_
            exact ⟨hF.weak [5, 6, 8, 20, 21] (by kernel_rfl), hS, hm⟩
          · replace hm := if_f hm hb
            refine wpIn_exit ?_
            refine then_e (then_e (block_e (then_n ?_)))
            have hS := hS.pickN 3 [2] (by decide)
            rw [← hφ6] at hm
            replace hm := done_b hm
            unfold gameroomref_AliveOf_K6 at hm
            try dsimp only at hm
            have hm : (gameroomref_AliveOf_J18 l1).bind some = some r := hm
            exact ⟨l1, A12, c12, hF.weak [20] (by kernel_rfl), hS, hm⟩
    · refine reg [] [] [2, 5, 6, 7, 8, 9] [pl 2 (.pointer (some ⟨g4, 0, none⟩)), pl 5 (.int .i64 (g3.length : Int)), pl 6 (.slice A6 own5.length c6), pl 7 (.slice A7 rest1.length c7), pl 8 (.slice A8 (Int.toNat (g3.length : Int)) c8), pl 9 (.bool true)] hF hS Fol (by kernel_rfl) (by kernel_rfl) (by kernel_rfl) ?_ (fun a w hF hS => ?_)
      · exact obs_nil
      refine wpIn_block ?_
      have hS := hS.pickN 4 [1, 2, 3, 0] (by decide)
      refine wp_loop_model (S := (List Bool × Bool)) (R := (List Bool)) (gameroomref_AliveOf_L1 g1 g2 g3 own5 rest1) (fun x => ((gameroomref_AliveOf_K1 g3 own5) x).bind some) r (fun (x : (List Bool × Bool)) a w => Fr 169 [pl 2 (.pointer (some ⟨g4, 0, none⟩)), pl 5 (.int .i64 (g3.length : Int)), pl 6 (.slice A6 own5.length c6), pl 7 (.slice A7 rest1.length c7), pl 8 (.slice A8 (Int.toNat (g3.length : Int)) c8), pl 9 (.bool x.2)] a ∧ Sep w0 B w (blk g4 24 #[.int .i64 g1, .int .i64 g2, .slice A1 g3.length c1] :: own 4 (.slice A6 own5.length c6) (vB own5) :: own 4 (.slice A7 rest1.length c7) (vB rest1) :: own 4 (.slice A8 (Int.toNat (g3.length : Int)) c8) (vB x.1) :: fs)) (assoc_b hm) ⟨hF.weak [2, 5, 6, 7, 8, 9] (by kernel_rfl), hS⟩ ?_
      clear hF hS hm
      rintro nn1 ⟨out1, changed1⟩ a w ⟨hF, hS⟩ hm
      generalize hφ1 : stK (gameroomref_AliveOf_L1 g1 g2 g3 own5 rest1) nn1 (fun x => ((gameroomref_AliveOf_K1 g3 own5) x).bind some) = φ1 at hm
      unfold gameroomref_AliveOf_L1 at hm
      dsimp only at hF hS hm
      refine seq_cut (fun a w => Fr 169 [pl 2 (.pointer (some ⟨g4, 0, none⟩)), pl 5 (.int .i64 (g3.length : Int)), pl 6 (.slice A6 own5.length c6), pl 7 (.slice A7 rest1.length c7), pl 8 (.slice A8 (Int.toNat (g3.length : Int)) c8)] a ∧ Sep w0 B w (blk g4 24 #[.int .i64 g1, .int .i64 g2, .slice A1 g3.length c1] :: own 4 (.slice A6 own5.length c6) (vB own5) :: own 4 (.slice A7 rest1.length c7) (vB rest1) :: own 4 (.slice A8 (Int.toNat (g3.length : Int)) c8) (vB out1) :: fs) ∧ ((gameroomref_AliveOf_J3 g1 g2 g3 own5 rest1 out1)).bind φ1 = some r) ?_ ?_
      · rintro a w ⟨hF, hS, hm⟩
        unfold gameroomref_AliveOf_J3 at hm
        refine wpIn_block ?_
        refine reg [] [] [2, 5, 6, 7, 8, 9] [pl 2 (.pointer (some ⟨g4, 0, none⟩)), pl 5 (.int .i64 (g3.length : Int)), pl 6 (.slice A6 own5.length c6), pl 7 (.slice A7 rest1.length c7), pl 8 (.slice A8 (Int.toNat (g3.length : Int)) c8), pl 9 (.bool false)] hF hS Fol (by kernel_rfl) (by kernel_rfl) (by kernel_rfl) ?_ (fun a w hF hS => ?_)
        · exact obs_nil
        refine reg [] [] [2, 5, 6, 7, 8, 9, 10] [pl 2 (.pointer (some ⟨g4, 0, none⟩)), pl 5 (.int .i64 (g3.length : Int)), pl 6 (.slice A6 own5.length c6), pl 7 (.slice A7 rest1.length c7), pl 8 (.slice A8 (Int.toNat (g3.length : Int)) c8), pl 9 (.bool false), pl 10 (.int .i64 0)] hF hS Fol (by kernel_rfl) (by kernel_rfl) (by kernel_rfl) ?_ (fun a w hF hS => ?_)
        · exact obs_nil
        refine wpIn_block ?_
        refine wp_loop_model (S := (List Bool × Bool × Int)) (R := (List Bool × Bool)) (gameroomref_AliveOf_L2 g1 g2 g3 own5 rest1) (fun x => (gameroomref_AliveOf_K2 x).bind φ1) r (fun (x : (List Bool × Bool × Int)) a w => Fr 169 [pl 2 (.pointer (some ⟨g4, 0, none⟩)), pl 5 (.int .i64 (g3.length : Int)), pl 6 (.slice A6 own5.length c6), pl 7 (.slice A7 rest1.length c7), pl 8 (.slice A8 (Int.toNat (g3.length : Int)) c8), pl 9 (.bool x.2.1), pl 10 (.int .i64 x.2.2)] a ∧ Sep w0 B w (blk g4 24 #[.int .i64 g1, .int .i64 g2, .slice A1 g3.length c1] :: own 4 (.slice A6 own5.length c6) (vB own5) :: own 4 (.slice A7 rest1.length c7) (vB rest1) :: own 4 (.slice A8 (Int.toNat (g3.length : Int)) c8) (vB x.1) :: fs)) (assoc_b hm) ⟨hF.weak [2, 5, 6, 7, 8, 9, 10] (by kernel_rfl), hS⟩ ?_
        clear hF hS hm
        rintro nn2 ⟨out3, changed2, i1⟩ a w ⟨hF, hS⟩ hm
        generalize hφ2 : stK (gameroomref_AliveOf_L2 g1 g2 g3 own5 rest1) nn2 (fun x => (gameroomref_AliveOf_K2 x).bind φ1) = φ2 at hm
        unfold gameroomref_AliveOf_L2 at hm
        dsimp only at hF hS hm
        refine seq_cut (fun a w => Fr 169 [pl 2 (.pointer (some ⟨g4, 0, none⟩)), pl 5 (.int .i64 (g3.length : Int)), pl 6 (.slice A6 own5.length c6), pl 7 (.slice A7 rest1.length c7), pl 8 (.slice A8 (Int.toNat (g3.length : Int)) c8), pl 9 (.bool changed2), pl 10 (.int .i64 i1)] a ∧ Sep w0 B w (blk g4 24 #[.int .i64 g1, .int .i64 g2, .slice A1 g3.length c1] :: own 4 (.slice A6 own5.length c6) (vB own5) :: own 4 (.slice A7 rest1.length c7) (vB rest1) :: own 4 (.slice A8 (Int.toNat (g3.length : Int)) c8) (vB out3) :: fs) ∧ ((gameroomref_AliveOf_J4 g1 g2 g3 own5 rest1 out3 changed2 i1)).bind φ2 = some r) ?_ ?_
        · rintro a w ⟨hF, hS, hm⟩
          unfold gameroomref_AliveOf_J4 at hm
          refine seq_cut (fun a w => ∃ (out4 : List Bool) (changed3 : Bool), Fr 169 [pl 2 (.pointer (some ⟨g4, 0, none⟩)), pl 5 (.int .i64 (g3.length : Int)), pl 6 (.slice A6 own5.length c6), pl 7 (.slice A7 rest1.length c7), pl 8 (.slice A8 (Int.toNat (g3.length : Int)) c8), pl 9 (.bool changed3), pl 10 (.int .i64 i1)] a ∧ Sep w0 B w (blk g4 24 #[.int .i64 g1, .int .i64 g2, .slice A1 g3.length c1] :: own 4 (.slice A6 own5.length c6) (vB own5) :: own 4 (.slice A7 rest1.length c7) (vB rest1) :: own 4 (.slice A8 (Int.toNat (g3.length : Int)) c8) (vB out4) :: fs) ∧ ((gameroomref_AliveOf_J5 i1) out4 changed3).bind φ2 = some r) ?_ ?_
          · rintro a w ⟨out4, changed3, hF, hS, hm⟩
            unfold gameroomref_AliveOf_J5 at hm
            refine reg1 [] [] [2, 5, 6, 7, 8, 9, 10] [pl 2 (.pointer (some ⟨g4, 0, none⟩)), pl 5 (.int .i64 (g3.length : Int)), pl 6 (.slice A6 own5.length c6), pl 7 (.slice A7 rest1.length c7), pl 8 (.slice A8 (Int.toNat (g3.length : Int)) c8), pl 9 (.bool changed3), pl 10 (.int .i64 (w64 (i1 + 1)))] hF hS Fol (by kernel_rfl) (by kernel_rfl) (by kernel_rfl) ?_ (fun a w hF hS => ?_)
            · exact obs_nil
            refine then_n ?_
            rw [← hφ2] at hm
            exact ⟨(out4, changed3, (w64 (i1 + 1))), ⟨hF.weak [2, 5, 6, 7, 8, 9, 10] (by kernel_rfl), hS⟩, hm⟩
          · refine wpIn_block ?_
            refine seq_cut (fun a w => Fr 169 [pl 2 (.pointer (some ⟨g4, 0, none⟩)), pl 5 (.int .i64 (g3.length : Int)), pl 6 (.slice A6 own5.length c6), pl 7 (.slice A7 rest1.length c7), pl 8 (.slice A8 (Int.toNat (g3.length : Int)) c8), pl 9 (.bool changed2), pl 10 (.int .i64 i1)] a ∧ Sep w0 B w (blk g4 24 #[.int .i64 g1, .int .i64 g2, .slice A1 g3.length c1] :: own 4 (.slice A6 own5.length c6) (vB own5) :: own 4 (.slice A7 rest1.length c7) (vB rest1) :: own 4 (.slice A8 (Int.toNat (g3.length : Int)) c8) (vB out3) :: fs) ∧ ((gameroomref_AliveOf_J6 g1 g2 g3 own5 rest1 out3 changed2 i1)).bind φ2 = some r) ?_ ?_
            · rintro a w ⟨hF, hS, hm⟩
              unfold gameroomref_AliveOf_J6 at hm
              refine seqR ?_
              obtain ⟨r3, hr3, hm⟩ := call_b hm
              refine at_run 3 [⟨false, [], vS (Instr.loadAt 24 (.pointer (some ⟨g4, 0, none⟩))), .agg #[.int .i64 g1, .int .i64 g2, .slice A1 g3.length c1]⟩] [some (.agg #[.int .i64 g1, .int .i64 g2, .slice A1 g3.length c1]), none, none] [2, 5, 6, 7, 8, 9, 10, 50, 51, 52] [pl 2 (.pointer (some ⟨g4, 0, none⟩)), pl 5 (.int .i64 (g3.length : Int)), pl 6 (.slice A6 own5.length c6), pl 7 (.slice A7 rest1.length c7), pl 8 (.slice A8 (Int.toNat (g3.length : Int)) c8), pl 9 (.bool changed2), pl 10 (.int .i64 i1), pl 50 (.agg #[.int .i64 g1, .int .i64 g2, .slice A1 g3.length c1]), pl 51 (.int .i64 i1), pl 52 (.slice A6 own5.length c6)] hF hS (by kernel_rfl) (by kernel_rfl) ?_ (fun a w hF hS => ?_)
              · exact obs_cons (ob_loadA (cs := #[.int .i64 g1, .int .i64 g2, .slice A1 g3.length c1]) (by kernel_rfl) (by kernel_rfl) (fun _ _ hS => (hS.at_ 0 rfl).cellsAt 0 (by rfl))) <| obs_nil
              refine at_call (f := 55) (args := #[.agg #[.int .i64 g1, .int .i64 g2, .slice A1 g3.length c1], .int .i64 i1, .slice A6 own5.length c6]) (d := 53) hF (by kernel_rfl) (by kernel_rfl) Try.func55 (by kernel_rfl) rfl (gameroomref_regionOf_w hr3 hS (fun _ hS => (hr_g3 _ (hS.dropN 4))) _hc_g3 rfl (fun _ hS => (hS.at_ 1 rfl).rd) ((hS.at_ 1 rfl).cap1) rfl) (fun v a w hR hF => ?_)
              clear hS
              obtain ⟨A9, c9, rfl, hS⟩ := hR
              have hS : Sep w0 B w (own 4 (.slice A9 r3.length c9) (vB r3) :: blk g4 24 #[.int .i64 g1, .int .i64 g2, .slice A1 g3.length c1] :: own 4 (.slice A6 own5.length c6) (vB own5) :: own 4 (.slice A7 rest1.length c7) (vB rest1) :: own 4 (.slice A8 (Int.toNat (g3.length : Int)) c8) (vB out3) :: fs) := hS
              refine at_run 1 [] [] [2, 5, 6, 7, 8, 9, 10, 11] [pl 2 (.pointer (some ⟨g4, 0, none⟩)), pl 5 (.int .i64 (g3.length : Int)), pl 6 (.slice A6 own5.length c6), pl 7 (.slice A7 rest1.length c7), pl 8 (.slice A8 (Int.toNat (g3.length : Int)) c8), pl 9 (.bool changed2), pl 10 (.int .i64 i1), pl 11 (.slice A9 r3.length c9)] hF hS (by kernel_rfl) (by kernel_rfl) ?_ (fun a w hF hS => ?_)
              · exact obs_nil
              refine at_end [2, 5, 6, 7, 8, 9, 10, 11] [pl 2 (.pointer (some ⟨g4, 0, none⟩)), pl 5 (.int .i64 (g3.length : Int)), pl 6 (.slice A6 own5.length c6), pl 7 (.slice A7 rest1.length c7), pl 8 (.slice A8 (Int.toNat (g3.length : Int)) c8), pl 9 (.bool changed2), pl 10 (.int .i64 i1), pl 11 (.slice A9 r3.length c9)] hF rfl (by kernel_rfl) (fun hF => ?_)
              refine then_n ?_
              refine reg [] [] [2, 5, 6, 7, 8, 9, 10, 11, 12] [pl 2 (.pointer (some ⟨g4, 0, none⟩)), pl 5 (.int .i64 (g3.length : Int)), pl 6 (.slice A6 own5.length c6), pl 7 (.slice A7 rest1.length c7), pl 8 (.slice A8 (Int.toNat (g3.length : Int)) c8), pl 9 (.bool changed2), pl 10 (.int .i64 i1), pl 11 (.slice A9 r3.length c9), pl 12 (.int .i64 0)] hF hS Fol (by kernel_rfl) (by kernel_rfl) (by kernel_rfl) ?_ (fun a w hF hS => ?_)
              · exact obs_nil
              refine seqR ?_
              obtain ⟨hp4, hm⟩ := asrt_b hm
              refine at_run 1 [] [] [2, 5, 6, 7, 8, 9, 10, 11, 12, 54] [pl 2 (.pointer (some ⟨g4, 0, none⟩)), pl 5 (.int .i64 (g3.length : Int)), pl 6 (.slice A6 own5.length c6), pl 7 (.slice A7 rest1.length c7), pl 8 (.slice A8 (Int.toNat (g3.length : Int)) c8), pl 9 (.bool changed2), pl 10 (.int .i64 i1), pl 11 (.slice A9 r3.length c9), pl 12 (.int .i64 0), pl 54 (.int .i64 (g3.length : Int))] hF hS (by kernel_rfl) (by kernel_rfl) ?_ (fun a w hF hS => ?_)
              · exact obs_nil
              obtain ⟨A10, c10, w, hrun, hS⟩ := run_mk1 (P := Try.prog) (t := 86) Value.bool false hS .i64 .i64 Und86 hi4 hz4 hs4 (by omega) rfl hp4
              have hS : Sep w0 B w (own 4 (.slice A10 (Int.toNat (g3.length : Int)) c10) (vB (List.replicate (Int.toNat (g3.length : Int)) false)) :: own 4 (.slice A9 r3.length c9) (vB r3) :: blk g4 24 #[.int .i64 g1, .int .i64 g2, .slice A1 g3.length c1] :: own 4 (.slice A6 own5.length c6) (vB own5) :: own 4 (.slice A7 rest1.length c7) (vB rest1) :: own 4 (.slice A8 (Int.toNat (g3.length : Int)) c8) (vB out3) :: fs) := hS
              refine at_do (d := 55) hF (by kernel_rfl) (by kernel_rfl) hrun (fun a hF => ?_)
              refine at_run 1 [] [] [2, 5, 6, 7, 8, 9, 10, 11, 12, 13] [pl 2 (.pointer (some ⟨g4, 0, none⟩)), pl 5 (.int .i64 (g3.length : Int)), pl 6 (.slice A6 own5.length c6), pl 7 (.slice A7 rest1.length c7), pl 8 (.slice A8 (Int.toNat (g3.length : Int)) c8), pl 9 (.bool changed2), pl 10 (.int .i64 i1), pl 11 (.slice A9 r3.length c9), pl 12 (.int .i64 0), pl 13 (.slice A10 (Int.toNat (g3.length : Int)) c10)] hF hS (by kernel_rfl) (by kernel_rfl) ?_ (fun a w hF hS => ?_)
              · exact obs_nil
              refine at_end [2, 5, 6, 7, 8, 9, 10, 11, 12, 13] [pl 2 (.pointer (some ⟨g4, 0, none⟩)), pl 5 (.int .i64 (g3.length : Int)), pl 6 (.slice A6 own5.length c6), pl 7 (.slice A7 rest1.length c7), pl 8 (.slice A8 (Int.toNat (g3.length : Int)) c8), pl 9 (.bool changed2), pl 10 (.int .i64 i1), pl 11 (.slice A9 r3.length c9), pl 12 (.int .i64 0), pl 13 (.slice A10 (Int.toNat (g3.length : Int)) c10)] hF rfl (by kernel_rfl) (fun hF => ?_)
              refine then_n ?_
              refine seq_cut (fun a w => ∃ (good2 : Int), Fr 169 [pl 2 (.pointer (some ⟨g4, 0, none⟩)), pl 5 (.int .i64 (g3.length : Int)), pl 6 (.slice A6 own5.length c6), pl 7 (.slice A7 rest1.length c7), pl 8 (.slice A8 (Int.toNat (g3.length : Int)) c8), pl 9 (.bool changed2), pl 10 (.int .i64 i1), pl 11 (.slice A9 r3.length c9), pl 12 (.int .i64 good2)] a ∧ Sep w0 B w (blk g4 24 #[.int .i64 g1, .int .i64 g2, .slice A1 g3.length c1] :: own 4 (.slice A6 own5.length c6) (vB own5) :: own 4 (.slice A7 rest1.length c7) (vB rest1) :: own 4 (.slice A8 (Int.toNat (g3.length : Int)) c8) (vB out3) :: own 4 (.slice A9 r3.length c9) (vB r3) :: fs) ∧ ((gameroomref_AliveOf_J7 g3 out3 changed2 i1 r3) good2).bind φ2 = some r) ?_ ?_
              · rintro a w ⟨good2, hF, hS, hm⟩
                unfold gameroomref_AliveOf_J7 at hm
                refine reg [] [] [2, 5, 6, 7, 8, 9, 10, 11, 135] [pl 2 (.pointer (some ⟨g4, 0, none⟩)), pl 5 (.int .i64 (g3.length : Int)), pl 6 (.slice A6 own5.length c6), pl 7 (.slice A7 rest1.length c7), pl 8 (.slice A8 (Int.toNat (g3.length : Int)) c8), pl 9 (.bool changed2), pl 10 (.int .i64 i1), pl 11 (.slice A9 r3.length c9), pl 135 (.bool (decide (good2 < 2)))] hF hS Fol (by kernel_rfl) (by kernel_rfl) (by kernel_rfl) ?_ (fun a w hF hS => ?_)
                · exact obs_nil
                refine cond_ev (t := 135) (b := decide (good2 < 2)) hF (by kernel_rfl) (fun hb => ?_) (fun hb => ?_)
                · replace hm := if_t hm hb
                  refine seq_cut (fun a w => ∃ (out6 : List Bool), Fr 169 [pl 2 (.pointer (some ⟨g4, 0, none⟩)), pl 5 (.int .i64 (g3.length : Int)), pl 6 (.slice A6 own5.length c6), pl 7 (.slice A7 rest1.length c7), pl 8 (.slice A8 (Int.toNat (g3.length : Int)) c8), pl 10 (.int .i64 i1)] a ∧ Sep w0 B w (blk g4 24 #[.int .i64 g1, .int .i64 g2, .slice A1 g3.length c1] :: own 4 (.slice A6 own5.length c6) (vB own5) :: own 4 (.slice A7 rest1.length c7) (vB rest1) :: own 4 (.slice A8 (Int.toNat (g3.length : Int)) c8) (vB out6) :: fs) ∧ ((gameroomref_AliveOf_J15 i1) out6).bind φ2 = some r) ?_ ?_
                  · rintro a w ⟨out6, hF, hS, hm⟩
                    unfold gameroomref_AliveOf_J15 at hm
                    refine reg1 [] [] [2, 5, 6, 7, 8, 9, 10] [pl 2 (.pointer (some ⟨g4, 0, none⟩)), pl 5 (.int .i64 (g3.length : Int)), pl 6 (.slice A6 own5.length c6), pl 7 (.slice A7 rest1.length c7), pl 8 (.slice A8 (Int.toNat (g3.length : Int)) c8), pl 9 (.bool true), pl 10 (.int .i64 i1)] hF hS Fol (by kernel_rfl) (by kernel_rfl) (by kernel_rfl) ?_ (fun a w hF hS => ?_)
                    · exact obs_nil
                    refine block_n ?_
                    refine then_n ?_
                    exact ⟨out6, true, hF.weak [2, 5, 6, 7, 8, 9, 10] (by kernel_rfl), hS, hm⟩
                  · refine reg [] [] [2, 5, 6, 7, 8, 10, 11, 19] [pl 2 (.pointer (some ⟨g4, 0, none⟩)), pl 5 (.int .i64 (g3.length : Int)), pl 6 (.slice A6 own5.length c6), pl 7 (.slice A7 rest1.length c7), pl 8 (.slice A8 (Int.toNat (g3.length : Int)) c8), pl 10 (.int .i64 i1), pl 11 (.slice A9 r3.length c9), pl 19 (.int .i64 0)] hF hS Fol (by kernel_rfl) (by kernel_rfl) (by kernel_rfl) ?_ (fun a w hF hS => ?_)
                    · exact obs_nil
                    refine wpIn_block ?_
                    refine wp_loop_model (S := (List Bool × Int)) (R := (List Bool)) (gameroomref_AliveOf_L5 g3 r3) (fun x => ((gameroomref_AliveOf_K5 i1) x).bind φ2) r (fun (x : (List Bool × Int)) a w => Fr 169 [pl 2 (.pointer (some ⟨g4, 0, none⟩)), pl 5 (.int .i64 (g3.length : Int)), pl 6 (.slice A6 own5.length c6), pl 7 (.slice A7 rest1.length c7), pl 8 (.slice A8 (Int.toNat (g3.length : Int)) c8), pl 10 (.int .i64 i1), pl 11 (.slice A9 r3.length c9), pl 19 (.int .i64 x.2)] a ∧ Sep w0 B w (blk g4 24 #[.int .i64 g1, .int .i64 g2, .slice A1 g3.length c1] :: own 4 (.slice A6 own5.length c6) (vB own5) :: own 4 (.slice A7 rest1.length c7) (vB rest1) :: own 4 (.slice A8 (Int.toNat (g3.length : Int)) c8) (vB x.1) :: own 4 (.slice A9 r3.length c9) (vB r3) :: fs)) (assoc_b hm) ⟨hF.weak [2, 5, 6, 7, 8, 10, 11, 19] (by kernel_rfl), hS⟩ ?_
                    clear hF hS hm
                    rintro nn5 ⟨out5, p2⟩ a w ⟨hF, hS⟩ hm
                    generalize hφ5 : stK (gameroomref_AliveOf_L5 g3 r3) nn5 (fun x => ((gameroomref_AliveOf_K5 i1) x).bind φ2) = φ5 at hm
                    unfold gameroomref_AliveOf_L5 at hm
                    dsimp only at hF hS hm
                    refine seq_cut (fun a w => Fr 169 [pl 2 (.pointer (some ⟨g4, 0, none⟩)), pl 5 (.int .i64 (g3.length : Int)), pl 6 (.slice A6 own5.length c6), pl 7 (.slice A7 rest1.length c7), pl 8 (.slice A8 (Int.toNat (g3.length : Int)) c8), pl 10 (.int .i64 i1), pl 11 (.slice A9 r3.length c9), pl 19 (.int .i64 p2)] a ∧ Sep w0 B w (blk g4 24 #[.int .i64 g1, .int .i64 g2, .slice A1 g3.length c1] :: own 4 (.slice A6 own5.length c6) (vB own5) :: own 4 (.slice A7 rest1.length c7) (vB rest1) :: own 4 (.slice A8 (Int.toNat (g3.length : Int)) c8) (vB out5) :: own 4 (.slice A9 r3.length c9) (vB r3) :: fs) ∧ ((gameroomref_AliveOf_J16 g3 r3 out5 p2)).bind φ5 = some r) ?_ ?_
                    · rintro a w ⟨hF, hS, hm⟩
                      unfold gameroomref_AliveOf_J16 at hm
                      refine seq_cut (fun a w => ∃ (out7 : List Bool), Fr 169 [pl 2 (.pointer (some ⟨g4, 0, none⟩)), pl 5 (.int .i64 (g3.length : Int)), pl 6 (.slice A6 own5.length c6), pl 7 (.slice A7 rest1.length c7), pl 8 (.slice A8 (Int.toNat (g3.length : Int)) c8), pl 10 (.int .i64 i1), pl 11 (.slice A9 r3.length c9), pl 19 (.int .i64 p2)] a ∧ Sep w0 B w (blk g4 24 #[.int .i64 g1, .int .i64 g2, .slice A1 g3.length c1] :: own 4 (.slice A6 own5.length c6) (vB own5) :: own 4 (.slice A7 rest1.length c7) (vB rest1) :: own 4 (.slice A8 (Int.toNat (g3.length : Int)) c8) (vB out7) :: own 4 (.slice A9 r3.length c9) (vB r3) :: fs) ∧ ((gameroomref_AliveOf_J17 p2) out7).bind φ5 = some r) ?_ ?_
                      · rintro a w ⟨out7, hF, hS, hm⟩
                        unfold gameroomref_AliveOf_J17 at hm
                        refine reg1 [] [] [2, 5, 6, 7, 8, 10, 11, 19] [pl 2 (.pointer (some ⟨g4, 0, none⟩)), pl 5 (.int .i64 (g3.length : Int)), pl 6 (.slice A6 own5.length c6), pl 7 (.slice A7 rest1.length c7), pl 8 (.slice A8 (Int.toNat (g3.length : Int)) c8), pl 10 (.int .i64 i1), pl 11 (.slice A9 r3.length c9), pl 19 (.int .i64 (w64 (p2 + 1)))] hF hS Fol (by kernel_rfl) (by kernel_rfl) (by kernel_rfl) ?_ (fun a w hF hS => ?_)
                        · exact obs_nil
                        refine then_n ?_
                        rw [← hφ5] at hm
                        exact ⟨(out7, (w64 (p2 + 1))), ⟨hF.weak [2, 5, 6, 7, 8, 10, 11, 19] (by kernel_rfl), hS⟩, hm⟩
                      · refine wpIn_block ?_
                        obtain ⟨hp13, hm⟩ := asrt_b hm
                        refine reg [⟨true, [], vS (Instr.indexAt 86 (.slice A9 r3.length c9) (.int .i64 p2)), .pointer (some (sAddr A9 p2))⟩, ⟨false, [], vS (Instr.loadAt 4 (.pointer (some (sAddr A9 p2)))), .bool (getb r3 p2)⟩] [none, none, some (.pointer (some (sAddr A9 p2))), some (.bool (getb r3 p2))] [2, 5, 6, 7, 8, 10, 11, 19, 144] [pl 2 (.pointer (some ⟨g4, 0, none⟩)), pl 5 (.int .i64 (g3.length : Int)), pl 6 (.slice A6 own5.length c6), pl 7 (.slice A7 rest1.length c7), pl 8 (.slice A8 (Int.toNat (g3.length : Int)) c8), pl 10 (.int .i64 i1), pl 11 (.slice A9 r3.length c9), pl 19 (.int .i64 p2), pl 144 (.bool (getb r3 p2))] hF hS Fol (by kernel_rfl) (by kernel_rfl) (by kernel_rfl) ?_ (fun a w hF hS => ?_)
                        · exact obs_cons (ob_ix1 (f := Value.bool) (m := r3) Und86 hi4 hs4 (hS.at_ 4 rfl).rd rfl (fun _ => hp13)) <| obs_cons (ob_get1 (n := r3.length) (m := r3) Value.bool false Agg4 (fun _ hS => ⟨_, (hS.at_ 4 rfl).rd⟩) (fun _ hS => rfl) (fun _ => hp13)) <| obs_nil
                        refine cond_ev (t := 144) (b := getb r3 p2) hF (by kernel_rfl) (fun hb => ?_) (fun hb => ?_)
                        · replace hm := if_t hm hb
                          refine oneR ?_
                          obtain ⟨hp14, hm⟩ := asrt_b hm
                          refine at_run 3 [⟨true, [], vS (Instr.indexAt 86 (.slice A8 (Int.toNat (g3.length : Int)) c8) (.int .i64 p2)), .pointer (some (sAddr A8 p2))⟩] [none, none, some (.pointer (some (sAddr A8 p2)))] [2, 5, 6, 7, 8, 10, 11, 19, 147] [pl 2 (.pointer (some ⟨g4, 0, none⟩)), pl 5 (.int .i64 (g3.length : Int)), pl 6 (.slice A6 own5.length c6), pl 7 (.slice A7 rest1.length c7), pl 8 (.slice A8 (Int.toNat (g3.length : Int)) c8), pl 10 (.int .i64 i1), pl 11 (.slice A9 r3.length c9), pl 19 (.int .i64 p2), pl 147 (.pointer (some (sAddr A8 p2)))] hF hS (by kernel_rfl) (by kernel_rfl) ?_ (fun a w hF hS => ?_)
                          · exact obs_cons (ob_ix1 (f := Value.bool) (m := out5) Und86 hi4 hs4 (hS.at_ 3 rfl).rd ((hS.at_ 3 rfl).len1) (fun _ => hp14)) <| obs_nil
                          obtain ⟨w, hrun, hS⟩ := run_set1 (P := Try.prog) (t := 4) (x := true) Value.bool (hS.at_ 3 rfl) hi4 hs4 rfl rfl hp14
                          refine at_skip hF (by kernel_rfl) hrun ?_
                          have hS : Sep w0 B w (blk g4 24 #[.int .i64 g1, .int .i64 g2, .slice A1 g3.length c1] :: own 4 (.slice A6 own5.length c6) (vB own5) :: own 4 (.slice A7 rest1.length c7) (vB rest1) :: own 4 (.slice A8 (Int.toNat (g3.length : Int)) c8) (vB (out5.set (Int.toNat p2) true)) :: own 4 (.slice A9 r3.length c9) (vB r3) :: fs) := hS
                          refine at_end [2, 5, 6, 7, 8, 10, 11, 19] [pl 2 (.pointer (some ⟨g4, 0, none⟩)), pl 5 (.int .i64 (g3.length : Int)), pl 6 (.slice A6 own5.length c6), pl 7 (.slice A7 rest1.length c7), pl 8 (.slice A8 (Int.toNat (g3.length : Int)) c8), pl 10 (.int .i64 i1), pl 11 (.slice A9 r3.length c9), pl 19 (.int .i64 p2)] hF rfl (by kernel_rfl) (fun hF => ?_)
                          refine block_n ?_
                          refine then_n ?_
                          exact ⟨(out5.set (Int.toNat p2) true), hF.weak [2, 5, 6, 7, 8, 10, 11, 19] (by kernel_rfl), hS, hm⟩
                        · replace hm := if_f hm hb
                          refine wpIn_skip ?_
                          refine block_n ?_
                          refine then_n ?_
                          exact ⟨out5, hF.weak [2, 5, 6, 7, 8, 10, 11, 19] (by kernel_rfl), hS, hm⟩
                    · refine reg [] [] [2, 5, 6, 7, 8, 10, 11, 19, 138] [pl 2 (.pointer (some ⟨g4, 0, none⟩)), pl 5 (.int .i64 (g3.length : Int)), pl 6 (.slice A6 own5.length c6), pl 7 (.slice A7 rest1.length c7), pl 8 (.slice A8 (Int.toNat (g3.length : Int)) c8), pl 10 (.int .i64 i1), pl 11 (.slice A9 r3.length c9), pl 19 (.int .i64 p2), pl 138 (.bool (decide (p2 < (g3.length : Int))))] hF hS Fol (by kernel_rfl) (by kernel_rfl) (by kernel_rfl) ?_ (fun a w hF hS => ?_)
                      · exact obs_nil
                      refine cond_ev (t := 138) (b := decide (p2 < (g3.length : Int))) hF (by kernel_rfl) (fun hb => ?_) (fun hb => ?_)
                      · replace hm := if_t hm hb
                        refine wpIn_skip ?_
                        refine then_n ?_
                        exact ⟨hF.weak [2, 5, 6, 7, 8, 10, 11, 19] (by kernel_rfl), hS, hm⟩
                      · replace hm := if_f hm hb
                        refine wpIn_exit ?_
                        refine then_e (then_e (block_e (then_n ?_)))
                        have hS := hS.pickN 5 [0, 1, 2, 3] (by decide)
                        rw [← hφ5] at hm
                        replace hm := done_b hm
                        unfold gameroomref_AliveOf_K5 at hm
                        try dsimp only at hm
                        have hm : ((gameroomref_AliveOf_J15 i1) out5).bind φ2 = some r := hm
                        exact ⟨out5, hF.weak [2, 5, 6, 7, 8, 10] (by kernel_rfl), hS, hm⟩
                · replace hm := if_f hm hb
                  refine wpIn_skip ?_
                  refine block_n ?_
                  refine then_n ?_
                  have hS := hS.pickN 5 [0, 1, 2, 3] (by decide)
                  exact ⟨out3, changed2, hF.weak [2, 5, 6, 7, 8, 9, 10] (by kernel_rfl), hS, hm⟩
              · refine reg [] [] [2, 5, 6, 7, 8, 9, 10, 11, 12, 13, 14] [pl 2 (.pointer (some ⟨g4, 0, none⟩)), pl 5 (.int .i64 (g3.length : Int)), pl 6 (.slice A6 own5.length c6), pl 7 (.slice A7 rest1.length c7), pl 8 (.slice A8 (Int.toNat (g3.length : Int)) c8), pl 9 (.bool changed2), pl 10 (.int .i64 i1), pl 11 (.slice A9 r3.length c9), pl 12 (.int .i64 0), pl 13 (.slice A10 (Int.toNat (g3.length : Int)) c10), pl 14 (.int .i64 0)] hF hS Fol (by kernel_rfl) (by kernel_rfl) (by kernel_rfl) ?_ (fun a w hF hS => ?_)
                · exact obs_nil
                refine wpIn_block ?_
                have hS := hS.pickN 6 [2, 3, 4, 5, 1, 0] (by decide)
                refine wp_loop_model (S := (Int × List Bool × Int)) (R := Int) (gameroomref_AliveOf_L3 g1 g2 g3 own5 rest1 out3 r3) (fun x => ((gameroomref_AliveOf_K3 g3 out3 changed2 i1 r3) x).bind φ2) r (fun (x : (Int × List Bool × Int)) a w => Fr 169 [pl 2 (.pointer (some ⟨g4, 0, none⟩)), pl 5 (.int .i64 (g3.length : Int)), pl 6 (.slice A6 own5.length c6), pl 7 (.slice A7 rest1.length c7), pl 8 (.slice A8 (Int.toNat (g3.length : Int)) c8), pl 9 (.bool changed2), pl 10 (.int .i64 i1), pl 11 (.slice A9 r3.length c9), pl 12 (.int .i64 x.1), pl 13 (.slice A10 (Int.toNat (g3.length : Int)) c10), pl 14 (.int .i64 x.2.2)] a ∧ Sep w0 B w (blk g4 24 #[.int .i64 g1, .int .i64 g2, .slice A1 g3.length c1] :: own 4 (.slice A6 own5.length c6) (vB own5) :: own 4 (.slice A7 rest1.length c7) (vB rest1) :: own 4 (.slice A8 (Int.toNat (g3.length : Int)) c8) (vB out3) :: own 4 (.slice A9 r3.length c9) (vB r3) :: own 4 (.slice A10 (Int.toNat (g3.length : Int)) c10) (vB x.2.1) :: fs)) (assoc_b hm) ⟨hF.weak [2, 5, 6, 7, 8, 9, 10, 11, 12, 13, 14] (by kernel_rfl), hS⟩ ?_
                clear hF hS hm
                rintro nn3 ⟨good1, counted1, k1⟩ a w ⟨hF, hS⟩ hm
                generalize hφ3 : stK (gameroomref_AliveOf_L3 g1 g2 g3 own5 rest1 out3 r3) nn3 (fun x => ((gameroomref_AliveOf_K3 g3 out3 changed2 i1 r3) x).bind φ2) = φ3 at hm
                unfold gameroomref_AliveOf_L3 at hm
                dsimp only at hF hS hm
                refine seq_cut (fun a w => Fr 169 [pl 2 (.pointer (some ⟨g4, 0, none⟩)), pl 5 (.int .i64 (g3.length : Int)), pl 6 (.slice A6 own5.length c6), pl 7 (.slice A7 rest1.length c7), pl 8 (.slice A8 (Int.toNat (g3.length : Int)) c8), pl 9 (.bool changed2), pl 10 (.int .i64 i1), pl 11 (.slice A9 r3.length c9), pl 12 (.int .i64 good1), pl 13 (.slice A10 (Int.toNat (g3.length : Int)) c10), pl 14 (.int .i64 k1)] a ∧ Sep w0 B w (blk g4 24 #[.int .i64 g1, .int .i64 g2, .slice A1 g3.length c1] :: own 4 (.slice A6 own5.length c6) (vB own5) :: own 4 (.slice A7 rest1.length c7) (vB rest1) :: own 4 (.slice A8 (Int.toNat (g3.length : Int)) c8) (vB out3) :: own 4 (.slice A9 r3.length c9) (vB r3) :: own 4 (.slice A10 (Int.toNat (g3.length : Int)) c10) (vB counted1) :: fs) ∧ ((gameroomref_AliveOf_J8 g1 g2 g3 own5 rest1 out3 r3 good1 counted1 k1)).bind φ3 = some r) ?_ ?_
                · rintro a w ⟨hF, hS, hm⟩
                  unfold gameroomref_AliveOf_J8 at hm
                  refine seq_cut (fun a w => ∃ (good3 : Int) (counted2 : List Bool), Fr 169 [pl 2 (.pointer (some ⟨g4, 0, none⟩)), pl 5 (.int .i64 (g3.length : Int)), pl 6 (.slice A6 own5.length c6), pl 7 (.slice A7 rest1.length c7), pl 8 (.slice A8 (Int.toNat (g3.length : Int)) c8), pl 9 (.bool changed2), pl 10 (.int .i64 i1), pl 11 (.slice A9 r3.length c9), pl 12 (.int .i64 good3), pl 13 (.slice A10 (Int.toNat (g3.length : Int)) c10), pl 14 (.int .i64 k1)] a ∧ Sep w0 B w (blk g4 24 #[.int .i64 g1, .int .i64 g2, .slice A1 g3.length c1] :: own 4 (.slice A6 own5.length c6) (vB own5) :: own 4 (.slice A7 rest1.length c7) (vB rest1) :: own 4 (.slice A8 (Int.toNat (g3.length : Int)) c8) (vB out3) :: own 4 (.slice A9 r3.length c9) (vB r3) :: own 4 (.slice A10 (Int.toNat (g3.length : Int)) c10) (vB counted2) :: fs) ∧ ((gameroomref_AliveOf_J9 k1) good3 counted2).bind φ3 = some r) ?_ ?_
                  · rintro a w ⟨good3, counted2, hF, hS, hm⟩
                    unfold gameroomref_AliveOf_J9 at hm
                    refine reg1 [] [] [2, 5, 6, 7, 8, 9, 10, 11, 12, 13, 14] [pl 2 (.pointer (some ⟨g4, 0, none⟩)), pl 5 (.int .i64 (g3.length : Int)), pl 6 (.slice A6 own5.length c6), pl 7 (.slice A7 rest1.length c7), pl 8 (.slice A8 (Int.toNat (g3.length : Int)) c8), pl 9 (.bool changed2), pl 10 (.int .i64 i1), pl 11 (.slice A9 r3.length c9), pl 12 (.int .i64 good3), pl 13 (.slice A10 (Int.toNat (g3.length : Int)) c10), pl 14 (.int .i64 (w64 (k1 + 1)))] hF hS Fol (by kernel_rfl) (by kernel_rfl) (by kernel_rfl) ?_ (fun a w hF hS => ?_)
                    · exact obs_nil
                    refine then_n ?_
                    rw [← hφ3] at hm
                    exact ⟨(good3, counted2, (w64 (k1 + 1))), ⟨hF.weak [2, 5, 6, 7, 8, 9, 10, 11, 12, 13, 14] (by kernel_rfl), hS⟩, hm⟩
                  · refine wpIn_block ?_
                    refine seq_cut (fun a w => Fr 169 [pl 2 (.pointer (some ⟨g4, 0, none⟩)), pl 5 (.int .i64 (g3.length : Int)), pl 6 (.slice A6 own5.length c6), pl 7 (.slice A7 rest1.length c7), pl 8 (.slice A8 (Int.toNat (g3.length : Int)) c8), pl 9 (.bool changed2), pl 10 (.int .i64 i1), pl 11 (.slice A9 r3.length c9), pl 12 (.int .i64 good1), pl 13 (.slice A10 (Int.toNat (g3.length : Int)) c10), pl 14 (.int .i64 k1)] a ∧ Sep w0 B w (blk g4 24 #[.int .i64 g1, .int .i64 g2, .slice A1 g3.length c1] :: own 4 (.slice A6 own5.length c6) (vB own5) :: own 4 (.slice A7 rest1.length c7) (vB rest1) :: own 4 (.slice A8 (Int.toNat (g3.length : Int)) c8) (vB out3) :: own 4 (.slice A9 r3.length c9) (vB r3) :: own 4 (.slice A10 (Int.toNat (g3.length : Int)) c10) (vB counted1) :: fs) ∧ ((gameroomref_AliveOf_J10 g1 g2 g3 own5 rest1 out3 r3 good1 counted1 k1)).bind φ3 = some r) ?_ ?_
                    · rintro a w ⟨hF, hS, hm⟩
                      unfold gameroomref_AliveOf_J10 at hm
                      refine seqR ?_
                      obtain ⟨r4, hr4, hm⟩ := call_b hm
                      refine at_run 3 [⟨false, [], vS (Instr.loadAt 24 (.pointer (some ⟨g4, 0, none⟩))), .agg #[.int .i64 g1, .int .i64 g2, .slice A1 g3.length c1]⟩] [some (.agg #[.int .i64 g1, .int .i64 g2, .slice A1 g3.length c1]), none, none] [2, 5, 6, 7, 8, 9, 10, 11, 12, 13, 14, 72, 73, 74] [pl 2 (.pointer (some ⟨g4, 0, none⟩)), pl 5 (.int .i64 (g3.length : Int)), pl 6 (.slice A6 own5.length c6), pl 7 (.slice A7 rest1.length c7), pl 8 (.slice A8 (Int.toNat (g3.length : Int)) c8), pl 9 (.bool changed2), pl 10 (.int .i64 i1), pl 11 (.slice A9 r3.length c9), pl 12 (.int .i64 good1), pl 13 (.slice A10 (Int.toNat (g3.length : Int)) c10), pl 14 (.int .i64 k1), pl 72 (.agg #[.int .i64 g1, .int .i64 g2, .slice A1 g3.length c1]), pl 73 (.int .i64 k1), pl 74 (.slice A7 rest1.length c7)] hF hS (by kernel_rfl) (by kernel_rfl) ?_ (fun a w hF hS => ?_)
                      · exact obs_cons (ob_loadA (cs := #[.int .i64 g1, .int .i64 g2, .slice A1 g3.length c1]) (by kernel_rfl) (by kernel_rfl) (fun _ _ hS => (hS.at_ 0 rfl).cellsAt 0 (by rfl))) <| obs_nil
                      refine at_call (f := 55) (args := #[.agg #[.int .i64 g1, .int .i64 g2, .slice A1 g3.length c1], .int .i64 k1, .slice A7 rest1.length c7]) (d := 75) hF (by kernel_rfl) (by kernel_rfl) Try.func55 (by kernel_rfl) rfl (gameroomref_regionOf_w hr4 hS (fun _ hS => (hr_g3 _ (hS.dropN 6))) _hc_g3 rfl (fun _ hS => (hS.at_ 2 rfl).rd) ((hS.at_ 2 rfl).cap1) rfl) (fun v a w hR hF => ?_)
                      clear hS
                      obtain ⟨A11, c11, rfl, hS⟩ := hR
                      have hS : Sep w0 B w (own 4 (.slice A11 r4.length c11) (vB r4) :: blk g4 24 #[.int .i64 g1, .int .i64 g2, .slice A1 g3.length c1] :: own 4 (.slice A6 own5.length c6) (vB own5) :: own 4 (.slice A7 rest1.length c7) (vB rest1) :: own 4 (.slice A8 (Int.toNat (g3.length : Int)) c8) (vB out3) :: own 4 (.slice A9 r3.length c9) (vB r3) :: own 4 (.slice A10 (Int.toNat (g3.length : Int)) c10) (vB counted1) :: fs) := hS
                      refine at_run 1 [] [] [2, 5, 6, 7, 8, 9, 10, 11, 12, 13, 14, 15] [pl 2 (.pointer (some ⟨g4, 0, none⟩)), pl 5 (.int .i64 (g3.length : Int)), pl 6 (.slice A6 own5.length c6), pl 7 (.slice A7 rest1.length c7), pl 8 (.slice A8 (Int.toNat (g3.length : Int)) c8), pl 9 (.bool changed2), pl 10 (.int .i64 i1), pl 11 (.slice A9 r3.length c9), pl 12 (.int .i64 good1), pl 13 (.slice A10 (Int.toNat (g3.length : Int)) c10), pl 14 (.int .i64 k1), pl 15 (.slice A11 r4.length c11)] hF hS (by kernel_rfl) (by kernel_rfl) ?_ (fun a w hF hS => ?_)
                      · exact obs_nil
                      refine at_end [2, 5, 6, 7, 8, 9, 10, 11, 12, 13, 14, 15] [pl 2 (.pointer (some ⟨g4, 0, none⟩)), pl 5 (.int .i64 (g3.length : Int)), pl 6 (.slice A6 own5.length c6), pl 7 (.slice A7 rest1.length c7), pl 8 (.slice A8 (Int.toNat (g3.length : Int)) c8), pl 9 (.bool changed2), pl 10 (.int .i64 i1), pl 11 (.slice A9 r3.length c9), pl 12 (.int .i64 good1), pl 13 (.slice A10 (Int.toNat (g3.length : Int)) c10), pl 14 (.int .i64 k1), pl 15 (.slice A11 r4.length c11)] hF rfl (by kernel_rfl) (fun hF => ?_)
                      refine then_n ?_
                      refine reg [] [] [2, 5, 6, 7, 8, 9, 10, 11, 12, 13, 14, 15, 16, 17] [pl 2 (.pointer (some ⟨g4, 0, none⟩)), pl 5 (.int .i64 (g3.length : Int)), pl 6 (.slice A6 own5.length c6), pl 7 (.slice A7 rest1.length c7), pl 8 (.slice A8 (Int.toNat (g3.length : Int)) c8), pl 9 (.bool changed2), pl 10 (.int .i64 i1), pl 11 (.slice A9 r3.length c9), pl 12 (.int .i64 good1), pl 13 (.slice A10 (Int.toNat (g3.length : Int)) c10), pl 14 (.int .i64 k1), pl 15 (.slice A11 r4.length c11), pl 16 (.bool true), pl 17 (.bool false)] hF hS Fol (by kernel_rfl) (by kernel_rfl) (by kernel_rfl) ?_ (fun a w hF hS => ?_)
                      · exact obs_nil
                      refine seq_cut (fun a w => ∃ (counted4 : List Bool) (ok2 : Bool) (some2 : Bool), Fr 169 [pl 2 (.pointer (some ⟨g4, 0, none⟩)), pl 5 (.int .i64 (g3.length : Int)), pl 6 (.slice A6 own5.length c6), pl 7 (.slice A7 rest1.length c7), pl 8 (.slice A8 (Int.toNat (g3.length : Int)) c8), pl 9 (.bool changed2), pl 10 (.int .i64 i1), pl 11 (.slice A9 r3.length c9), pl 12 (.int .i64 good1), pl 13 (.slice A10 (Int.toNat (g3.length : Int)) c10), pl 14 (.int .i64 k1), pl 16 (.bool ok2), pl 17 (.bool some2)] a ∧ Sep w0 B w (blk g4 24 #[.int .i64 g1, .int .i64 g2, .slice A1 g3.length c1] :: own 4 (.slice A6 own5.length c6) (vB own5) :: own 4 (.slice A7 rest1.length c7) (vB rest1) :: own 4 (.slice A8 (Int.toNat (g3.length : Int)) c8) (vB out3) :: own 4 (.slice A9 r3.length c9) (vB r3) :: own 4 (.slice A10 (Int.toNat (g3.length : Int)) c10) (vB counted4) :: fs) ∧ ((gameroomref_AliveOf_J11 good1 k1) counted4 ok2 some2).bind φ3 = some r) ?_ ?_
                      · rintro a w ⟨counted4, ok2, some2, hF, hS, hm⟩
                        unfold gameroomref_AliveOf_J11 at hm
                        refine reg [] [] [2, 5, 6, 7, 8, 9, 10, 11, 12, 13, 14, 131] [pl 2 (.pointer (some ⟨g4, 0, none⟩)), pl 5 (.int .i64 (g3.length : Int)), pl 6 (.slice A6 own5.length c6), pl 7 (.slice A7 rest1.length c7), pl 8 (.slice A8 (Int.toNat (g3.length : Int)) c8), pl 9 (.bool changed2), pl 10 (.int .i64 i1), pl 11 (.slice A9 r3.length c9), pl 12 (.int .i64 good1), pl 13 (.slice A10 (Int.toNat (g3.length : Int)) c10), pl 14 (.int .i64 k1), pl 131 (.bool (ok2 && some2))] hF hS Fol (by kernel_rfl) (by kernel_rfl) (by kernel_rfl) ?_ (fun a w hF hS => ?_)
                        · exact obs_nil
                        refine cond_ev (t := 131) (b := ok2 && some2) hF (by kernel_rfl) (fun hb => ?_) (fun hb => ?_)
                        · replace hm := if_t hm hb
                          refine reg1 [] [] [2, 5, 6, 7, 8, 9, 10, 11, 12, 13, 14] [pl 2 (.pointer (some ⟨g4, 0, none⟩)), pl 5 (.int .i64 (g3.length : Int)), pl 6 (.slice A6 own5.length c6), pl 7 (.slice A7 rest1.length c7), pl 8 (.slice A8 (Int.toNat (g3.length : Int)) c8), pl 9 (.bool changed2), pl 10 (.int .i64 i1), pl 11 (.slice A9 r3.length c9), pl 12 (.int .i64 (w64 (good1 + 1))), pl 13 (.slice A10 (Int.toNat (g3.length : Int)) c10), pl 14 (.int .i64 k1)] hF hS Fol (by kernel_rfl) (by kernel_rfl) (by kernel_rfl) ?_ (fun a w hF hS => ?_)
                          · exact obs_nil
                          refine block_n ?_
                          refine then_n ?_
                          exact ⟨(w64 (good1 + 1)), counted4, hF.weak [2, 5, 6, 7, 8, 9, 10, 11, 12, 13, 14] (by kernel_rfl), hS, hm⟩
                        · replace hm := if_f hm hb
                          refine wpIn_skip ?_
                          refine block_n ?_
                          refine then_n ?_
                          exact ⟨good1, counted4, hF.weak [2, 5, 6, 7, 8, 9, 10, 11, 12, 13, 14] (by kernel_rfl), hS, hm⟩
                      · refine reg [] [] [2, 5, 6, 7, 8, 9, 10, 11, 12, 13, 14, 15, 16, 17, 18] [pl 2 (.pointer (some ⟨g4, 0, none⟩)), pl 5 (.int .i64 (g3.length : Int)), pl 6 (.slice A6 own5.length c6), pl 7 (.slice A7 rest1.length c7), pl 8 (.slice A8 (Int.toNat (g3.length : Int)) c8), pl 9 (.bool changed2), pl 10 (.int .i64 i1), pl 11 (.slice A9 r3.length c9), pl 12 (.int .i64 good1), pl 13 (.slice A10 (Int.toNat (g3.length : Int)) c10), pl 14 (.int .i64 k1), pl 15 (.slice A11 r4.length c11), pl 16 (.bool true), pl 17 (.bool false), pl 18 (.int .i64 0)] hF hS Fol (by kernel_rfl) (by kernel_rfl) (by kernel_rfl) ?_ (fun a w hF hS => ?_)
                        · exact obs_nil
                        refine wpIn_block ?_
                        have hS := hS.pickN 7 [1, 2, 3, 4, 5, 6, 0] (by decide)
                        refine wp_loop_model (S := (List Bool × Bool × Bool × Int)) (R := (List Bool × Bool × Bool)) (gameroomref_AliveOf_L4 g1 g2 g3 own5 out3 r3 r4) (fun x => ((gameroomref_AliveOf_K4 good1 k1) x).bind φ3) r (fun (x : (List Bool × Bool × Bool × Int)) a w => Fr 169 [pl 2 (.pointer (some ⟨g4, 0, none⟩)), pl 5 (.int .i64 (g3.length : Int)), pl 6 (.slice A6 own5.length c6), pl 7 (.slice A7 rest1.length c7), pl 8 (.slice A8 (Int.toNat (g3.length : Int)) c8), pl 9 (.bool changed2), pl 10 (.int .i64 i1), pl 11 (.slice A9 r3.length c9), pl 12 (.int .i64 good1), pl 13 (.slice A10 (Int.toNat (g3.length : Int)) c10), pl 14 (.int .i64 k1), pl 15 (.slice A11 r4.length c11), pl 16 (.bool x.2.1), pl 17 (.bool x.2.2.1), pl 18 (.int .i64 x.2.2.2)] a ∧ Sep w0 B w (blk g4 24 #[.int .i64 g1, .int .i64 g2, .slice A1 g3.length c1] :: own 4 (.slice A6 own5.length c6) (vB own5) :: own 4 (.slice A7 rest1.length c7) (vB rest1) :: own 4 (.slice A8 (Int.toNat (g3.length : Int)) c8) (vB out3) :: own 4 (.slice A9 r3.length c9) (vB r3) :: own 4 (.slice A10 (Int.toNat (g3.length : Int)) c10) (vB x.1) :: own 4 (.slice A11 r4.length c11) (vB r4) :: fs)) (assoc_b hm) ⟨hF.weak [2, 5, 6, 7, 8, 9, 10, 11, 12, 13, 14, 15, 16, 17, 18] (by kernel_rfl), hS⟩ ?_
                        clear hF hS hm
                        rintro nn4 ⟨counted3, ok1, some1, p1⟩ a w ⟨hF, hS⟩ hm
                        generalize hφ4 : stK (gameroomref_AliveOf_L4 g1 g2 g3 own5 out3 r3 r4) nn4 (fun x => ((gameroomref_AliveOf_K4 good1 k1) x).bind φ3) = φ4 at hm
                        unfold gameroomref_AliveOf_L4 at hm
                        dsimp only at hF hS hm
                        refine seq_cut (fun a w => Fr 169 [pl 2 (.pointer (some ⟨g4, 0, none⟩)), pl 5 (.int .i64 (g3.length : Int)), pl 6 (.slice A6 own5.length c6), pl 7 (.slice A7 rest1.length c7), pl 8 (.slice A8 (Int.toNat (g3.length : Int)) c8), pl 9 (.bool changed2), pl 10 (.int .i64 i1), pl 11 (.slice A9 r3.length c9), pl 12 (.int .i64 good1), pl 13 (.slice A10 (Int.toNat (g3.length : Int)) c10), pl 14 (.int .i64 k1), pl 15 (.slice A11 r4.length c11), pl 16 (.bool ok1), pl 17 (.bool some1), pl 18 (.int .i64 p1)] a ∧ Sep w0 B w (blk g4 24 #[.int .i64 g1, .int .i64 g2, .slice A1 g3.length c1] :: own 4 (.slice A6 own5.length c6) (vB own5) :: own 4 (.slice A7 rest1.length c7) (vB rest1) :: own 4 (.slice A8 (Int.toNat (g3.length : Int)) c8) (vB out3) :: own 4 (.slice A9 r3.length c9) (vB r3) :: own 4 (.slice A10 (Int.toNat (g3.length : Int)) c10) (vB counted3) :: own 4 (.slice A11 r4.length c11) (vB r4) :: fs) ∧ ((gameroomref_AliveOf_J12 g1 g2 g3 own5 out3 r3 r4 counted3 ok1 some1 p1)).bind φ4 = some r) ?_ ?_
                        · rintro a w ⟨hF, hS, hm⟩
                          unfold gameroomref_AliveOf_J12 at hm
                          refine seq_cut (fun a w => ∃ (counted6 : List Bool) (ok4 : Bool) (some4 : Bool), Fr 169 [pl 2 (.pointer (some ⟨g4, 0, none⟩)), pl 5 (.int .i64 (g3.length : Int)), pl 6 (.slice A6 own5.length c6), pl 7 (.slice A7 rest1.length c7), pl 8 (.slice A8 (Int.toNat (g3.length : Int)) c8), pl 9 (.bool changed2), pl 10 (.int .i64 i1), pl 11 (.slice A9 r3.length c9), pl 12 (.int .i64 good1), pl 13 (.slice A10 (Int.toNat (g3.length : Int)) c10), pl 14 (.int .i64 k1), pl 15 (.slice A11 r4.length c11), pl 16 (.bool ok4), pl 17 (.bool some4), pl 18 (.int .i64 p1)] a ∧ Sep w0 B w (blk g4 24 #[.int .i64 g1, .int .i64 g2, .slice A1 g3.length c1] :: own 4 (.slice A6 own5.length c6) (vB own5) :: own 4 (.slice A7 rest1.length c7) (vB rest1) :: own 4 (.slice A8 (Int.toNat (g3.length : Int)) c8) (vB out3) :: own 4 (.slice A9 r3.length c9) (vB r3) :: own 4 (.slice A10 (Int.toNat (g3.length : Int)) c10) (vB counted6) :: own 4 (.slice A11 r4.length c11) (vB r4) :: fs) ∧ ((gameroomref_AliveOf_J13 p1) counted6 ok4 some4).bind φ4 = some r) ?_ ?_
                          · rintro a w ⟨counted6, ok4, some4, hF, hS, hm⟩
                            unfold gameroomref_AliveOf_J13 at hm
                            refine reg1 [] [] [2, 5, 6, 7, 8, 9, 10, 11, 12, 13, 14, 15, 16, 17, 18] [pl 2 (.pointer (some ⟨g4, 0, none⟩)), pl 5 (.int .i64 (g3.length : Int)), pl 6 (.slice A6 own5.length c6), pl 7 (.slice A7 rest1.length c7), pl 8 (.slice A8 (Int.toNat (g3.length : Int)) c8), pl 9 (.bool changed2), pl 10 (.int .i64 i1), pl 11 (.slice A9 r3.length c9), pl 12 (.int .i64 good1), pl 13 (.slice A10 (Int.toNat (g3.length : Int)) c10), pl 14 (.int .i64 k1), pl 15 (.slice A11 r4.length c11), pl 16 (.bool ok4), pl 17 (.bool some4), pl 18 (.int .i64 (w64 (p1 + 1)))] hF hS Fol (by kernel_rfl) (by kernel_rfl) (by kernel_rfl) ?_ (fun a w hF hS => ?_)
                            · exact obs_nil
                            refine then_n ?_
                            rw [← hφ4] at hm
                            exact ⟨(counted6, ok4, some4, (w64 (p1 + 1))), ⟨hF.weak [2, 5, 6, 7, 8, 9, 10, 11, 12, 13, 14, 15, 16, 17, 18] (by kernel_rfl), hS⟩, hm⟩
                          · refine wpIn_block ?_
                            refine seq_cut (fun a w => ∃ (counted5 : List Bool) (ok3 : Bool) (some3 : Bool), Fr 169 [pl 2 (.pointer (some ⟨g4, 0, none⟩)), pl 5 (.int .i64 (g3.length : Int)), pl 6 (.slice A6 own5.length c6), pl 7 (.slice A7 rest1.length c7), pl 8 (.slice A8 (Int.toNat (g3.length : Int)) c8), pl 9 (.bool changed2), pl 10 (.int .i64 i1), pl 11 (.slice A9 r3.length c9), pl 12 (.int .i64 good1), pl 13 (.slice A10 (Int.toNat (g3.length : Int)) c10), pl 14 (.int .i64 k1), pl 15 (.slice A11 r4.length c11), pl 16 (.bool ok3), pl 17 (.bool some3), pl 18 (.int .i64 p1)] a ∧ Sep w0 B w (blk g4 24 #[.int .i64 g1, .int .i64 g2, .slice A1 g3.length c1] :: own 4 (.slice A6 own5.length c6) (vB own5) :: own 4 (.slice A7 rest1.length c7) (vB rest1) :: own 4 (.slice A8 (Int.toNat (g3.length : Int)) c8) (vB out3) :: own 4 (.slice A9 r3.length c9) (vB r3) :: own 4 (.slice A10 (Int.toNat (g3.length : Int)) c10) (vB counted5) :: own 4 (.slice A11 r4.length c11) (vB r4) :: fs) ∧ ((gameroomref_AliveOf_J14 g1 g2 g3 own5 out3 r4 p1) counted5 ok3 some3).bind φ4 = some r) ?_ ?_
                            · rintro a w ⟨counted5, ok3, some3, hF, hS, hm⟩
                              unfold gameroomref_AliveOf_J14 at hm
                              obtain ⟨hp11, hm⟩ := asrt_b hm
                              obtain ⟨hp12, hm⟩ := asrt_b hm
                              obtain ⟨r6, hr6, hm⟩ := call_b hm
                              refine reg [⟨true, [], vS (Instr.indexAt 86 (.slice A6 own5.length c6) (.int .i64 p1)), .pointer (some (sAddr A6 p1))⟩, ⟨false, [], vS (Instr.loadAt 4 (.pointer (some (sAddr A6 p1)))), .bool (getb own5 p1)⟩, ⟨true, [(getb own5 p1, true)], vS (Instr.indexAt 86 (.slice A8 (Int.toNat (g3.length : Int)) c8) (.int .i64 p1)), .pointer (some (sAddr A8 p1))⟩, ⟨false, [(getb own5 p1, true)], vS (Instr.loadAt 4 (.pointer (some (sAddr A8 p1)))), .bool (getb out3 p1)⟩, ⟨false, [((getb own5 p1) && (getb out3 p1), true)], vS (Instr.loadAt 24 (.pointer (some ⟨g4, 0, none⟩))), .agg #[.int .i64 g1, .int .i64 g2, .slice A1 g3.length c1]⟩, ⟨false, [((getb own5 p1) && (getb out3 p1), true)], callFunc 57 #[.agg #[.int .i64 g1, .int .i64 g2, .slice A1 g3.length c1], .int .i64 p1, .slice A11 r4.length c11], .bool r6⟩] [none, none, some (.pointer (some (sAddr A6 p1))), some (.bool (getb own5 p1)), none, none, none, some (.pointer (some (sAddr A8 p1))), some (.bool (getb out3 p1)), none, none, some (.agg #[.int .i64 g1, .int .i64 g2, .slice A1 g3.length c1]), none, none, some (.bool r6), none] [2, 5, 6, 7, 8, 9, 10, 11, 12, 13, 14, 15, 16, 17, 18, 127] [pl 2 (.pointer (some ⟨g4, 0, none⟩)), pl 5 (.int .i64 (g3.length : Int)), pl 6 (.slice A6 own5.length c6), pl 7 (.slice A7 rest1.length c7), pl 8 (.slice A8 (Int.toNat (g3.length : Int)) c8), pl 9 (.bool changed2), pl 10 (.int .i64 i1), pl 11 (.slice A9 r3.length c9), pl 12 (.int .i64 good1), pl 13 (.slice A10 (Int.toNat (g3.length : Int)) c10), pl 14 (.int .i64 k1), pl 15 (.slice A11 r4.length c11), pl 16 (.bool ok3), pl 17 (.bool some3), pl 18 (.int .i64 p1), pl 127 (.bool (((getb own5 p1) && (getb out3 p1)) && r6))] hF hS Fol (by kernel_rfl) (by kernel_rfl) (by kernel_rfl) ?_ (fun a w hF hS => ?_)
                              · exact obs_cons (ob_ix1 (f := Value.bool) (m := own5) Und86 hi4 hs4 (hS.at_ 1 rfl).rd rfl (fun _ => hp11)) <| obs_cons (ob_get1 (n := own5.length) (m := own5) Value.bool false Agg4 (fun _ hS => ⟨_, (hS.at_ 1 rfl).rd⟩) (fun _ hS => rfl) (fun _ => hp11)) <| obs_cons (ob_ix1 (f := Value.bool) (m := out3) Und86 hi4 hs4 (hS.at_ 3 rfl).rd ((hS.at_ 3 rfl).len1) (fun hy => hp12 (hy (getb own5 p1, true) (by simp)))) <| obs_cons (ob_get1 (n := (Int.toNat (g3.length : Int))) (m := out3) Value.bool false Agg4 (fun _ hS => ⟨_, (hS.at_ 3 rfl).rd⟩) (fun _ hS => ((hS.at_ 3 rfl).len1)) (fun hy => hp12 (hy (getb own5 p1, true) (by simp)))) <| obs_cons (ob_loadA (cs := #[.int .i64 g1, .int .i64 g2, .slice A1 g3.length c1]) (by kernel_rfl) (by kernel_rfl) (fun _ _ hS => (hS.at_ 0 rfl).cellsAt 0 (by rfl))) <| obs_cons (ob_call Try.func57 (by kernel_rfl) rfl (fun hy _ hS => gameroomref_besideAny_w (ite_some hr6 (by rw [show ((getb own5 p1) && (getb out3 p1)) = true from hy ((getb own5 p1) && (getb out3 p1), true) (by simp)]; try rfl)) hS (fun _ hS => (hr_g3 _ (hS.dropN 7))) _hc_g3 rfl (fun _ hS => (hS.at_ 6 rfl).rd) ((hS.at_ 6 rfl).cap1) rfl)) <| obs_nil
                              refine cond_ev (t := 127) (b := ((getb own5 p1) && (getb out3 p1)) && r6) hF (by kernel_rfl) (fun hb => ?_) (fun hb => ?_)
                              · replace hm := if_t hm hb
                                refine reg1 [] [] [2, 5, 6, 7, 8, 9, 10, 11, 12, 13, 14, 15, 16, 17, 18] [pl 2 (.pointer (some ⟨g4, 0, none⟩)), pl 5 (.int .i64 (g3.length : Int)), pl 6 (.slice A6 own5.length c6), pl 7 (.slice A7 rest1.length c7), pl 8 (.slice A8 (Int.toNat (g3.length : Int)) c8), pl 9 (.bool changed2), pl 10 (.int .i64 i1), pl 11 (.slice A9 r3.length c9), pl 12 (.int .i64 good1), pl 13 (.slice A10 (Int.toNat (g3.length : Int)) c10), pl 14 (.int .i64 k1), pl 15 (.slice A11 r4.length c11), pl 16 (.bool false), pl 17 (.bool some3), pl 18 (.int .i64 p1)] hF hS Fol (by kernel_rfl) (by kernel_rfl) (by kernel_rfl) ?_ (fun a w hF hS => ?_)
                                · exact obs_nil
                                refine block_n ?_
                                refine then_n ?_
                                exact ⟨counted5, false, some3, hF.weak [2, 5, 6, 7, 8, 9, 10, 11, 12, 13, 14, 15, 16, 17, 18] (by kernel_rfl), hS, hm⟩
                              · replace hm := if_f hm hb
                                refine wpIn_skip ?_
                                refine block_n ?_
                                refine then_n ?_
                                exact ⟨counted5, ok3, some3, hF.weak [2, 5, 6, 7, 8, 9, 10, 11, 12, 13, 14, 15, 16, 17, 18] (by kernel_rfl), hS, hm⟩
                            · obtain ⟨hp7, hm⟩ := asrt_b hm
                              refine reg [⟨true, [], vS (Instr.indexAt 86 (.slice A11 r4.length c11) (.int .i64 p1)), .pointer (some (sAddr A11 p1))⟩, ⟨false, [], vS (Instr.loadAt 4 (.pointer (some (sAddr A11 p1)))), .bool (getb r4 p1)⟩] [none, none, some (.pointer (some (sAddr A11 p1))), some (.bool (getb r4 p1))] [2, 5, 6, 7, 8, 9, 10, 11, 12, 13, 14, 15, 16, 17, 18, 84] [pl 2 (.pointer (some ⟨g4, 0, none⟩)), pl 5 (.int .i64 (g3.length : Int)), pl 6 (.slice A6 own5.length c6), pl 7 (.slice A7 rest1.length c7), pl 8 (.slice A8 (Int.toNat (g3.length : Int)) c8), pl 9 (.bool changed2), pl 10 (.int .i64 i1), pl 11 (.slice A9 r3.length c9), pl 12 (.int .i64 good1), pl 13 (.slice A10 (Int.toNat (g3.length : Int)) c10), pl 14 (.int .i64 k1), pl 15 (.slice A11 r4.length c11), pl 16 (.bool ok1), pl 17 (.bool some1), pl 18 (.int .i64 p1), pl 84 (.bool (getb r4 p1))] hF hS Fol (by kernel_rfl) (by kernel_rfl) (by kernel_rfl) ?_ (fun a w hF hS => ?_)
                              · exact obs_cons (ob_ix1 (f := Value.bool) (m := r4) Und86 hi4 hs4 (hS.at_ 6 rfl).rd rfl (fun _ => hp7)) <| obs_cons (ob_get1 (n := r4.length) (m := r4) Value.bool false Agg4 (fun _ hS => ⟨_, (hS.at_ 6 rfl).rd⟩) (fun _ hS => rfl) (fun _ => hp7)) <| obs_nil
                              refine cond_ev (t := 84) (b := getb r4 p1) hF (by kernel_rfl) (fun hb => ?_) (fun hb => ?_)
                              · replace hm := if_t hm hb
                                refine seqR ?_
                                obtain ⟨hp8, hm⟩ := asrt_b hm
                                refine at_run 3 [⟨true, [], vS (Instr.indexAt 86 (.slice A10 (Int.toNat (g3.length : Int)) c10) (.int .i64 p1)), .pointer (some (sAddr A10 p1))⟩] [none, none, some (.pointer (some (sAddr A10 p1)))] [2, 5, 6, 7, 8, 9, 10, 11, 12, 13, 14, 15, 16, 17, 18, 87] [pl 2 (.pointer (some ⟨g4, 0, none⟩)), pl 5 (.int .i64 (g3.length : Int)), pl 6 (.slice A6 own5.length c6), pl 7 (.slice A7 rest1.length c7), pl 8 (.slice A8 (Int.toNat (g3.length : Int)) c8), pl 9 (.bool changed2), pl 10 (.int .i64 i1), pl 11 (.slice A9 r3.length c9), pl 12 (.int .i64 good1), pl 13 (.slice A10 (Int.toNat (g3.length : Int)) c10), pl 14 (.int .i64 k1), pl 15 (.slice A11 r4.length c11), pl 16 (.bool ok1), pl 17 (.bool some1), pl 18 (.int .i64 p1), pl 87 (.pointer (some (sAddr A10 p1)))] hF hS (by kernel_rfl) (by kernel_rfl) ?_ (fun a w hF hS => ?_)
                                · exact obs_cons (ob_ix1 (f := Value.bool) (m := counted3) Und86 hi4 hs4 (hS.at_ 5 rfl).rd ((hS.at_ 5 rfl).len1) (fun _ => hp8)) <| obs_nil
                                obtain ⟨w, hrun, hS⟩ := run_set1 (P := Try.prog) (t := 4) (x := true) Value.bool (hS.at_ 5 rfl) hi4 hs4 rfl rfl hp8
                                refine at_skip hF (by kernel_rfl) hrun ?_
                                have hS : Sep w0 B w (blk g4 24 #[.int .i64 g1, .int .i64 g2, .slice A1 g3.length c1] :: own 4 (.slice A6 own5.length c6) (vB own5) :: own 4 (.slice A7 rest1.length c7) (vB rest1) :: own 4 (.slice A8 (Int.toNat (g3.length : Int)) c8) (vB out3) :: own 4 (.slice A9 r3.length c9) (vB r3) :: own 4 (.slice A10 (Int.toNat (g3.length : Int)) c10) (vB (counted3.set (Int.toNat p1) true)) :: own 4 (.slice A11 r4.length c11) (vB r4) :: fs) := hS
                                refine at_end [2, 5, 6, 7, 8, 9, 10, 11, 12, 13, 14, 15, 16, 17, 18] [pl 2 (.pointer (some ⟨g4, 0, none⟩)), pl 5 (.int .i64 (g3.length : Int)), pl 6 (.slice A6 own5.length c6), pl 7 (.slice A7 rest1.length c7), pl 8 (.slice A8 (Int.toNat (g3.length : Int)) c8), pl 9 (.bool changed2), pl 10 (.int .i64 i1), pl 11 (.slice A9 r3.length c9), pl 12 (.int .i64 good1), pl 13 (.slice A10 (Int.toNat (g3.length : Int)) c10), pl 14 (.int .i64 k1), pl 15 (.slice A11 r4.length c11), pl 16 (.bool ok1), pl 17 (.bool some1), pl 18 (.int .i64 p1)] hF rfl (by kernel_rfl) (fun hF => ?_)
                                refine then_n ?_
                                obtain ⟨hp9, hm⟩ := asrt_b hm
                                refine reg [⟨false, [(some1, false)], vS (Instr.loadAt 22 (.pointer (some ⟨g4, 2, none⟩))), .slice A1 g3.length c1⟩, ⟨true, [(some1, false)], vS (Instr.indexAt 22 (.slice A1 g3.length c1) (.int .i64 p1)), .pointer (some (sAddr A1 p1))⟩, ⟨false, [(some1, false)], vS (Instr.loadAt 3 (.pointer (some (sAddr A1 p1)))), .int .i64 (geti g3 p1)⟩] [none, none, none, some (.slice A1 g3.length c1), none, some (.pointer (some (sAddr A1 p1))), some (.int .i64 (geti g3 p1)), none, none, none] [2, 5, 6, 7, 8, 9, 10, 11, 12, 13, 14, 15, 16, 17, 18] [pl 2 (.pointer (some ⟨g4, 0, none⟩)), pl 5 (.int .i64 (g3.length : Int)), pl 6 (.slice A6 own5.length c6), pl 7 (.slice A7 rest1.length c7), pl 8 (.slice A8 (Int.toNat (g3.length : Int)) c8), pl 9 (.bool changed2), pl 10 (.int .i64 i1), pl 11 (.slice A9 r3.length c9), pl 12 (.int .i64 good1), pl 13 (.slice A10 (Int.toNat (g3.length : Int)) c10), pl 14 (.int .i64 k1), pl 15 (.slice A11 r4.length c11), pl 16 (.bool ok1), pl 17 (.bool (some1 || ((geti g3 p1) == 0))), pl 18 (.int .i64 p1)] hF hS Fol (by kernel_rfl) (by kernel_rfl) (by kernel_rfl) ?_ (fun a w hF hS => ?_)
                                · exact obs_cons (ob_load Agg22 (fun _ _ hS => (hS.at_ 0 rfl).cell rfl)) <| obs_cons (ob_ix1 (f := (Value.int .i64)) (m := g3) Und22 hi3 hs3 (hr_g3 _ (hS.dropN 7)) rfl (fun hy => hp9 (hy (some1, false) (by simp)))) <| obs_cons (ob_get1 (n := g3.length) (m := g3) (Value.int .i64) (0 : Int) Agg3 (fun _ hS => ⟨_, (hr_g3 _ (hS.dropN 7))⟩) (fun _ hS => rfl) (fun hy => hp9 (hy (some1, false) (by simp)))) <| obs_nil
                                obtain ⟨hp10, hm⟩ := asrt_b hm
                                obtain ⟨r5, hr5, hm⟩ := call_b hm
                                refine reg1 [⟨false, [(ok1, true)], vS (Instr.loadAt 22 (.pointer (some ⟨g4, 2, none⟩))), .slice A1 g3.length c1⟩, ⟨true, [(ok1, true)], vS (Instr.indexAt 22 (.slice A1 g3.length c1) (.int .i64 p1)), .pointer (some (sAddr A1 p1))⟩, ⟨false, [(ok1, true)], vS (Instr.loadAt 3 (.pointer (some (sAddr A1 p1)))), .int .i64 (geti g3 p1)⟩, ⟨false, [(((geti g3 p1) != 0), false), (ok1, true)], vS (Instr.loadAt 24 (.pointer (some ⟨g4, 0, none⟩))), .agg #[.int .i64 g1, .int .i64 g2, .slice A1 g3.length c1]⟩, ⟨false, [(((geti g3 p1) != 0), false), (ok1, true)], callFunc 57 #[.agg #[.int .i64 g1, .int .i64 g2, .slice A1 g3.length c1], .int .i64 p1, .slice A9 r3.length c9], .bool r5⟩] [none, none, none, some (.slice A1 g3.length c1), none, some (.pointer (some (sAddr A1 p1))), some (.int .i64 (geti g3 p1)), none, none, some (.agg #[.int .i64 g1, .int .i64 g2, .slice A1 g3.length c1]), none, none, some (.bool r5), none, none, none] [2, 5, 6, 7, 8, 9, 10, 11, 12, 13, 14, 15, 16, 17, 18] [pl 2 (.pointer (some ⟨g4, 0, none⟩)), pl 5 (.int .i64 (g3.length : Int)), pl 6 (.slice A6 own5.length c6), pl 7 (.slice A7 rest1.length c7), pl 8 (.slice A8 (Int.toNat (g3.length : Int)) c8), pl 9 (.bool changed2), pl 10 (.int .i64 i1), pl 11 (.slice A9 r3.length c9), pl 12 (.int .i64 good1), pl 13 (.slice A10 (Int.toNat (g3.length : Int)) c10), pl 14 (.int .i64 k1), pl 15 (.slice A11 r4.length c11), pl 16 (.bool (ok1 && (((geti g3 p1) != 0) || r5))), pl 17 (.bool (some1 || ((geti g3 p1) == 0))), pl 18 (.int .i64 p1)] hF hS Fol (by kernel_rfl) (by kernel_rfl) (by kernel_rfl) ?_ (fun a w hF hS => ?_)
                                · exact obs_cons (ob_load Agg22 (fun _ _ hS => (hS.at_ 0 rfl).cell rfl)) <| obs_cons (ob_ix1 (f := (Value.int .i64)) (m := g3) Und22 hi3 hs3 (hr_g3 _ (hS.dropN 7)) rfl (fun hy => hp10 (hy (ok1, true) (by simp)))) <| obs_cons (ob_get1 (n := g3.length) (m := g3) (Value.int .i64) (0 : Int) Agg3 (fun _ hS => ⟨_, (hr_g3 _ (hS.dropN 7))⟩) (fun _ hS => rfl) (fun hy => hp10 (hy (ok1, true) (by simp)))) <| obs_cons (ob_loadA (cs := #[.int .i64 g1, .int .i64 g2, .slice A1 g3.length c1]) (by kernel_rfl) (by kernel_rfl) (fun _ _ hS => (hS.at_ 0 rfl).cellsAt 0 (by rfl))) <| obs_cons (ob_call Try.func57 (by kernel_rfl) rfl (fun hy _ hS => gameroomref_besideAny_w (ite_some hr5 (by rw [show ((geti g3 p1) != 0) = false from hy (((geti g3 p1) != 0), false) (by simp), show ok1 = true from hy (ok1, true) (by simp)]; try rfl)) hS (fun _ hS => (hr_g3 _ (hS.dropN 7))) _hc_g3 rfl (fun _ hS => (hS.at_ 4 rfl).rd) ((hS.at_ 4 rfl).cap1) rfl)) <| obs_nil
                                refine then_n ?_
                                exact ⟨(counted3.set (Int.toNat p1) true), (ok1 && (((geti g3 p1) != 0) || r5)), (some1 || ((geti g3 p1) == 0)), hF.weak [2, 5, 6, 7, 8, 9, 10, 11, 12, 13, 14, 15, 16, 17, 18] (by kernel_rfl), hS, hm⟩
                              · replace hm := if_f hm hb
                                refine wpIn_skip ?_
                                refine then_n ?_
                                exact ⟨counted3, ok1, some1, hF.weak [2, 5, 6, 7, 8, 9, 10, 11, 12, 13, 14, 15, 16, 17, 18] (by kernel_rfl), hS, hm⟩
                        · refine reg [] [] [2, 5, 6, 7, 8, 9, 10, 11, 12, 13, 14, 15, 16, 17, 18, 78] [pl 2 (.pointer (some ⟨g4, 0, none⟩)), pl 5 (.int .i64 (g3.length : Int)), pl 6 (.slice A6 own5.length c6), pl 7 (.slice A7 rest1.length c7), pl 8 (.slice A8 (Int.toNat (g3.length : Int)) c8), pl 9 (.bool changed2), pl 10 (.int .i64 i1), pl 11 (.slice A9 r3.length c9), pl 12 (.int .i64 good1), pl 13 (.slice A10 (Int.toNat (g3.length : Int)) c10), pl 14 (.int .i64 k1), pl 15 (.slice A11 r4.length c11), pl 16 (.bool ok1), pl 17 (.bool some1), pl 18 (.int .i64 p1), pl 78 (.bool (decide (p1 < (g3.length : Int))))] hF hS Fol (by kernel_rfl) (by kernel_rfl) (by kernel_rfl) ?_ (fun a w hF hS => ?_)
                          · exact obs_nil
                          refine cond_ev (t := 78) (b := decide (p1 < (g3.length : Int))) hF (by kernel_rfl) (fun hb => ?_) (fun hb => ?_)
                          · replace hm := if_t hm hb
                            refine wpIn_skip ?_
                            refine then_n ?_
                            exact ⟨hF.weak [2, 5, 6, 7, 8, 9, 10, 11, 12, 13, 14, 15, 16, 17, 18] (by kernel_rfl), hS, hm⟩
                          · replace hm := if_f hm hb
                            refine wpIn_exit ?_
                            refine then_e (then_e (block_e (then_n ?_)))
                            have hS := hS.pickN 7 [0, 1, 2, 3, 4, 5] (by decide)
                            rw [← hφ4] at hm
                            replace hm := done_b hm
                            unfold gameroomref_AliveOf_K4 at hm
                            try dsimp only at hm
                            have hm : ((gameroomref_AliveOf_J11 good1 k1) counted3 ok1 some1).bind φ3 = some r := hm
                            exact ⟨counted3, ok1, some1, hF.weak [2, 5, 6, 7, 8, 9, 10, 11, 12, 13, 14, 16, 17] (by kernel_rfl), hS, hm⟩
                    · obtain ⟨hp5, hm⟩ := asrt_b hm
                      obtain ⟨hp6, hm⟩ := asrt_b hm
                      refine reg [⟨true, [], vS (Instr.indexAt 86 (.slice A7 rest1.length c7) (.int .i64 k1)), .pointer (some (sAddr A7 k1))⟩, ⟨false, [], vS (Instr.loadAt 4 (.pointer (some (sAddr A7 k1)))), .bool (getb rest1 k1)⟩, ⟨true, [(!(getb rest1 k1), false)], vS (Instr.indexAt 86 (.slice A10 (Int.toNat (g3.length : Int)) c10) (.int .i64 k1)), .pointer (some (sAddr A10 k1))⟩, ⟨false, [(!(getb rest1 k1), false)], vS (Instr.loadAt 4 (.pointer (some (sAddr A10 k1)))), .bool (getb counted1 k1)⟩] [none, none, some (.pointer (some (sAddr A7 k1))), some (.bool (getb rest1 k1)), none, none, none, none, some (.pointer (some (sAddr A10 k1))), some (.bool (getb counted1 k1)), none] [2, 5, 6, 7, 8, 9, 10, 11, 12, 13, 14, 71] [pl 2 (.pointer (some ⟨g4, 0, none⟩)), pl 5 (.int .i64 (g3.length : Int)), pl 6 (.slice A6 own5.length c6), pl 7 (.slice A7 rest1.length c7), pl 8 (.slice A8 (Int.toNat (g3.length : Int)) c8), pl 9 (.bool changed2), pl 10 (.int .i64 i1), pl 11 (.slice A9 r3.length c9), pl 12 (.int .i64 good1), pl 13 (.slice A10 (Int.toNat (g3.length : Int)) c10), pl 14 (.int .i64 k1), pl 71 (.bool ((!(getb rest1 k1)) || (getb counted1 k1)))] hF hS Fol (by kernel_rfl) (by kernel_rfl) (by kernel_rfl) ?_ (fun a w hF hS => ?_)
                      · exact obs_cons (ob_ix1 (f := Value.bool) (m := rest1) Und86 hi4 hs4 (hS.at_ 2 rfl).rd rfl (fun _ => hp5)) <| obs_cons (ob_get1 (n := rest1.length) (m := rest1) Value.bool false Agg4 (fun _ hS => ⟨_, (hS.at_ 2 rfl).rd⟩) (fun _ hS => rfl) (fun _ => hp5)) <| obs_cons (ob_ix1 (f := Value.bool) (m := counted1) Und86 hi4 hs4 (hS.at_ 5 rfl).rd ((hS.at_ 5 rfl).len1) (fun hy => hp6 (hy (!(getb rest1 k1), false) (by simp)))) <| obs_cons (ob_get1 (n := (Int.toNat (g3.length : Int))) (m := counted1) Value.bool false Agg4 (fun _ hS => ⟨_, (hS.at_ 5 rfl).rd⟩) (fun _ hS => ((hS.at_ 5 rfl).len1)) (fun hy => hp6 (hy (!(getb rest1 k1), false) (by simp)))) <| obs_nil
                      refine cond_ev (t := 71) (b := (!(getb rest1 k1)) || (getb counted1 k1)) hF (by kernel_rfl) (fun hb => ?_) (fun hb => ?_)
                      · replace hm := if_t hm hb
                        refine wpIn_exit ?_
                        refine then_e (block_e (then_n ?_))
                        exact ⟨good1, counted1, hF.weak [2, 5, 6, 7, 8, 9, 10, 11, 12, 13, 14] (by kernel_rfl), hS, hm⟩
                      · replace hm := if_f hm hb
                        refine wpIn_skip ?_
                        refine then_n ?_
                        exact ⟨hF.weak [2, 5, 6, 7, 8, 9, 10, 11, 12, 13, 14] (by kernel_rfl), hS, hm⟩
                · refine reg [] [] [2, 5, 6, 7, 8, 9, 10, 11, 12, 13, 14, 58] [pl 2 (.pointer (some ⟨g4, 0, none⟩)), pl 5 (.int .i64 (g3.length : Int)), pl 6 (.slice A6 own5.length c6), pl 7 (.slice A7 rest1.length c7), pl 8 (.slice A8 (Int.toNat (g3.length : Int)) c8), pl 9 (.bool changed2), pl 10 (.int .i64 i1), pl 11 (.slice A9 r3.length c9), pl 12 (.int .i64 good1), pl 13 (.slice A10 (Int.toNat (g3.length : Int)) c10), pl 14 (.int .i64 k1), pl 58 (.bool (decide (k1 < (g3.length : Int))))] hF hS Fol (by kernel_rfl) (by kernel_rfl) (by kernel_rfl) ?_ (fun a w hF hS => ?_)
                  · exact obs_nil
                  refine cond_ev (t := 58) (b := decide (k1 < (g3.length : Int))) hF (by kernel_rfl) (fun hb => ?_) (fun hb => ?_)
                  · replace hm := if_t hm hb
                    refine wpIn_skip ?_
                    refine then_n ?_
                    exact ⟨hF.weak [2, 5, 6, 7, 8, 9, 10, 11, 12, 13, 14] (by kernel_rfl), hS, hm⟩
                  · replace hm := if_f hm hb
                    refine wpIn_exit ?_
                    refine then_e (then_e (block_e (then_n ?_)))
                    have hS := hS.pickN 6 [0, 1, 2, 3, 4] (by decide)
                    rw [← hφ3] at hm
                    replace hm := done_b hm
                    unfold gameroomref_AliveOf_K3 at hm
                    try dsimp only at hm
                    have hm : ((gameroomref_AliveOf_J7 g3 out3 changed2 i1 r3) good1).bind φ2 = some r := hm
                    exact ⟨good1, hF.weak [2, 5, 6, 7, 8, 9, 10, 11, 12] (by kernel_rfl), hS, hm⟩
            · obtain ⟨hp2, hm⟩ := asrt_b hm
              obtain ⟨hp3, hm⟩ := asrt_b hm
              refine reg [⟨true, [], vS (Instr.indexAt 86 (.slice A6 own5.length c6) (.int .i64 i1)), .pointer (some (sAddr A6 i1))⟩, ⟨false, [], vS (Instr.loadAt 4 (.pointer (some (sAddr A6 i1)))), .bool (getb own5 i1)⟩, ⟨true, [(!(getb own5 i1), false)], vS (Instr.indexAt 86 (.slice A8 (Int.toNat (g3.length : Int)) c8) (.int .i64 i1)), .pointer (some (sAddr A8 i1))⟩, ⟨false, [(!(getb own5 i1), false)], vS (Instr.loadAt 4 (.pointer (some (sAddr A8 i1)))), .bool (getb out3 i1)⟩] [none, none, some (.pointer (some (sAddr A6 i1))), some (.bool (getb own5 i1)), none, none, none, none, some (.pointer (some (sAddr A8 i1))), some (.bool (getb out3 i1)), none] [2, 5, 6, 7, 8, 9, 10, 49] [pl 2 (.pointer (some ⟨g4, 0, none⟩)), pl 5 (.int .i64 (g3.length : Int)), pl 6 (.slice A6 own5.length c6), pl 7 (.slice A7 rest1.length c7), pl 8 (.slice A8 (Int.toNat (g3.length : Int)) c8), pl 9 (.bool changed2), pl 10 (.int .i64 i1), pl 49 (.bool ((!(getb own5 i1)) || (getb out3 i1)))] hF hS Fol (by kernel_rfl) (by kernel_rfl) (by kernel_rfl) ?_ (fun a w hF hS => ?_)
              · exact obs_cons (ob_ix1 (f := Value.bool) (m := own5) Und86 hi4 hs4 (hS.at_ 1 rfl).rd rfl (fun _ => hp2)) <| obs_cons (ob_get1 (n := own5.length) (m := own5) Value.bool false Agg4 (fun _ hS => ⟨_, (hS.at_ 1 rfl).rd⟩) (fun _ hS => rfl) (fun _ => hp2)) <| obs_cons (ob_ix1 (f := Value.bool) (m := out3) Und86 hi4 hs4 (hS.at_ 3 rfl).rd ((hS.at_ 3 rfl).len1) (fun hy => hp3 (hy (!(getb own5 i1), false) (by simp)))) <| obs_cons (ob_get1 (n := (Int.toNat (g3.length : Int))) (m := out3) Value.bool false Agg4 (fun _ hS => ⟨_, (hS.at_ 3 rfl).rd⟩) (fun _ hS => ((hS.at_ 3 rfl).len1)) (fun hy => hp3 (hy (!(getb own5 i1), false) (by simp)))) <| obs_nil
              refine cond_ev (t := 49) (b := (!(getb own5 i1)) || (getb out3 i1)) hF (by kernel_rfl) (fun hb => ?_) (fun hb => ?_)
              · replace hm := if_t hm hb
                refine wpIn_exit ?_
                refine then_e (block_e (then_n ?_))
                exact ⟨out3, changed2, hF.weak [2, 5, 6, 7, 8, 9, 10] (by kernel_rfl), hS, hm⟩
              · replace hm := if_f hm hb
                refine wpIn_skip ?_
                refine then_n ?_
                exact ⟨hF.weak [2, 5, 6, 7, 8, 9, 10] (by kernel_rfl), hS, hm⟩
        · refine reg [] [] [2, 5, 6, 7, 8, 9, 10, 36] [pl 2 (.pointer (some ⟨g4, 0, none⟩)), pl 5 (.int .i64 (g3.length : Int)), pl 6 (.slice A6 own5.length c6), pl 7 (.slice A7 rest1.length c7), pl 8 (.slice A8 (Int.toNat (g3.length : Int)) c8), pl 9 (.bool changed2), pl 10 (.int .i64 i1), pl 36 (.bool (decide (i1 < (g3.length : Int))))] hF hS Fol (by kernel_rfl) (by kernel_rfl) (by kernel_rfl) ?_ (fun a w hF hS => ?_)
          · exact obs_nil
          refine cond_ev (t := 36) (b := decide (i1 < (g3.length : Int))) hF (by kernel_rfl) (fun hb => ?_) (fun hb => ?_)
          · replace hm := if_t hm hb
            refine wpIn_skip ?_
            refine then_n ?_
            exact ⟨hF.weak [2, 5, 6, 7, 8, 9, 10] (by kernel_rfl), hS, hm⟩
          · replace hm := if_f hm hb
            refine wpIn_exit ?_
            refine then_e (then_e (block_e (block_n (then_n ?_))))
            rw [← hφ2] at hm
            replace hm := done_b hm
            unfold gameroomref_AliveOf_K2 at hm
            try dsimp only at hm
            have hm : (some (.next (out3, changed2))).bind φ1 = some r := hm
            rw [← hφ1] at hm
            exact ⟨(out3, changed2), ⟨hF.weak [2, 5, 6, 7, 8, 9] (by kernel_rfl), hS⟩, hm⟩
      · refine reg [] [] [2, 5, 6, 7, 8, 33] [pl 2 (.pointer (some ⟨g4, 0, none⟩)), pl 5 (.int .i64 (g3.length : Int)), pl 6 (.slice A6 own5.length c6), pl 7 (.slice A7 rest1.length c7), pl 8 (.slice A8 (Int.toNat (g3.length : Int)) c8), pl 33 (.bool changed1)] hF hS Fol (by kernel_rfl) (by kernel_rfl) (by kernel_rfl) ?_ (fun a w hF hS => ?_)
        · exact obs_nil
        refine cond_ev (t := 33) (b := changed1) hF (by kernel_rfl) (fun hb => ?_) (fun hb => ?_)
        · replace hm := if_t hm hb
          refine wpIn_skip ?_
          refine then_n ?_
          exact ⟨hF.weak [2, 5, 6, 7, 8] (by kernel_rfl), hS, hm⟩
        · replace hm := if_f hm hb
          refine wpIn_exit ?_
          refine then_e (then_e (block_e (then_n ?_)))
          have hS := hS.pickN 4 [1, 3] (by decide)
          rw [← hφ1] at hm
          replace hm := done_b hm
          unfold gameroomref_AliveOf_K1 at hm
          try dsimp only at hm
          have hm : ((gameroomref_AliveOf_J2 g3 own5) out1).bind some = some r := hm
          exact ⟨out1, hF.weak [5, 6, 8] (by kernel_rfl), hS, hm⟩
  · obtain ⟨r1, hr1, hm⟩ := call_b hm
    obtain ⟨r2, hr2, hm⟩ := call_b hm
    refine regMix5 [0, 1, 3, 4] [] 4 #[true, true, false, true, true, false, false, false] [⟨false, [], vS (Instr.loadAt 24 (.pointer (some ⟨g4, 0, none⟩))), .agg #[.int .i64 g1, .int .i64 g2, .slice A1 g3.length c1]⟩, ⟨false, [], vS (Instr.loadAt 24 (.pointer (some ⟨g4, 0, none⟩))), .agg #[.int .i64 g1, .int .i64 g2, .slice A1 g3.length c1]⟩] [some (.agg #[.int .i64 g1, .int .i64 g2, .slice A1 g3.length c1]), none, some (.agg #[.int .i64 g1, .int .i64 g2, .slice A1 g3.length c1]), none] [2, 5, 25, 26, 28, 29] [pl 2 (.pointer (some ⟨g4, 0, none⟩)), pl 5 (.int .i64 (g3.length : Int)), pl 25 (.agg #[.int .i64 g1, .int .i64 g2, .slice A1 g3.length c1]), pl 26 (.int .i64 who1), pl 28 (.agg #[.int .i64 g1, .int .i64 g2, .slice A1 g3.length c1]), pl 29 (.int .i64 who1)] hF hS Fol (by kernel_rfl) (by kernel_rfl) (by kernel_rfl) (by kernel_rfl) ?_ (fun a w hF hS => ?_)
    · exact obs_cons (ob_loadA (cs := #[.int .i64 g1, .int .i64 g2, .slice A1 g3.length c1]) (by kernel_rfl) (by kernel_rfl) (fun _ _ hS => (hS.at_ 0 rfl).cellsAt 0 (by rfl))) <| obs_cons (ob_loadA (cs := #[.int .i64 g1, .int .i64 g2, .slice A1 g3.length c1]) (by kernel_rfl) (by kernel_rfl) (fun _ _ hS => (hS.at_ 0 rfl).cellsAt 0 (by rfl))) <| obs_nil
    refine any_step [2] (by kernel_rfl) rfl ?_
    refine (all_cons ?_ all_nil)
    · refine any_op (listed' := #[true, true, true, true, true, false, false, false]) (by kernel_rfl) (by kernel_rfl) ?_
      refine at_call (f := 56) (args := #[.agg #[.int .i64 g1, .int .i64 g2, .slice A1 g3.length c1], .int .i64 who1, .bool false]) (d := 27) hF (by kernel_rfl) (by kernel_rfl) Try.func56 (by kernel_rfl) rfl (gameroomref_marks_w hr1 hS (fun _ hS => (hr_g3 _ (hS.dropN 1))) _hc_g3 rfl) (fun v a w hR hF => ?_)
      clear hS
      obtain ⟨A4, c4, rfl, hS⟩ := hR
      have hS : Sep w0 B w (own 4 (.slice A4 r1.length c4) (vB r1) :: blk g4 24 #[.int .i64 g1, .int .i64 g2, .slice A1 g3.length c1] :: fs) := hS
      refine any_fin rfl (hS.pickN 2 [1] (by decide)) ?_
      refine any_step [5] (by kernel_rfl) rfl ?_
      refine (all_cons ?_ all_nil)
      · refine any_op (listed' := #[true, true, true, true, true, true, false, false]) (by kernel_rfl) (by kernel_rfl) ?_
        refine at_call (f := 56) (args := #[.agg #[.int .i64 g1, .int .i64 g2, .slice A1 g3.length c1], .int .i64 who1, .bool true]) (d := 30) hF (by kernel_rfl) (by kernel_rfl) Try.func56 (by kernel_rfl) rfl (gameroomref_marks_w hr2 hS (fun _ hS => (hr_g3 _ (hS.dropN 2))) _hc_g3 rfl) (fun v a w hR hF => ?_)
        clear hS
        obtain ⟨A5, c5, rfl, hS⟩ := hR
        have hS : Sep w0 B w (own 4 (.slice A5 r2.length c5) (vB r2) :: own 4 (.slice A4 r1.length c4) (vB r1) :: blk g4 24 #[.int .i64 g1, .int .i64 g2, .slice A1 g3.length c1] :: fs) := hS
        refine any_fin rfl (hS.pickN 3 [2] (by decide)) ?_
        refine any_step [6] (by kernel_rfl) rfl ?_
        refine (all_cons ?_ all_nil)
        · refine any_op (listed' := #[true, true, true, true, true, true, true, false]) (by kernel_rfl) (by kernel_rfl) ?_
          refine at_runW 1 [] [] [2, 5, 6, 30] [pl 2 (.pointer (some ⟨g4, 0, none⟩)), pl 5 (.int .i64 (g3.length : Int)), pl 6 (.slice A4 r1.length c4), pl 30 (.slice A5 r2.length c5)] hF hS (by kernel_rfl) (by kernel_rfl) ?_ (fun a hF => ?_)
          · exact obs_nil
          refine any_finI rfl (fun h => h) ?_
          refine any_step [7] (by kernel_rfl) rfl ?_
          refine (all_cons ?_ all_nil)
          · refine any_op (listed' := #[true, true, true, true, true, true, true, true]) (by kernel_rfl) (by kernel_rfl) ?_
            refine at_runW 1 [] [] [2, 5, 6, 7] [pl 2 (.pointer (some ⟨g4, 0, none⟩)), pl 5 (.int .i64 (g3.length : Int)), pl 6 (.slice A4 r1.length c4), pl 7 (.slice A5 r2.length c5)] hF hS (by kernel_rfl) (by kernel_rfl) ?_ (fun a hF => ?_)
            · exact obs_nil
            refine any_finI rfl (fun h => h) ?_
            refine any_end (by kernel_rfl) ?_
            refine np_n ?_
            refine then_n ?_
            have hS := hS.pickN 3 [2, 1, 0] (by decide)
            exact ⟨r1, r2, A4, c4, A5, c5, hF.weak [2, 5, 6, 7] (by kernel_rfl), hS, hm⟩

noncomputable def gameroomlaw_sameInts_J4  (i1 : Int) : Option (St Int (Fl Unit Bool)) :=
  some (.next (w64 (i1 + 1)))

noncomputable def gameroomlaw_sameInts_J3  (a1 : List Int) (b1 : List Int) (i1 : Int) : Option (St Int (Fl Unit Bool)) :=
  asrt (0 ≤ i1 ∧ i1 < (a1.length : Int)) <| asrt (0 ≤ i1 ∧ i1 < (b1.length : Int)) <| if ((geti a1 i1) != (geti b1 i1)) then (some (.done (.ret false))) else ((gameroomlaw_sameInts_J4 i1))

noncomputable def gameroomlaw_sameInts_J2  : Option Bool :=
  some true

noncomputable def gameroomlaw_sameInts_K1  : (Fl Unit Bool) → Option Bool :=
  fun (x : (Fl Unit Bool)) => match x with | .go _ => gameroomlaw_sameInts_J2 | .ret x => some x

noncomputable def gameroomlaw_sameInts_L1  (a1 : List Int) (b1 : List Int) : Int → Option (St Int (Fl Unit Bool)) :=
  fun (x : Int) => match x with | i1 => if (decide (i1 < (a1.length : Int))) then ((gameroomlaw_sameInts_J3 a1 b1 i1)) else (some (.done (.go ())))

noncomputable def gameroomlaw_sameInts_J1  (a1 : List Int) (b1 : List Int) : Option Bool :=
  (loop (gameroomlaw_sameInts_L1 a1 b1) 0).bind gameroomlaw_sameInts_K1

noncomputable def gameroomlaw_sameInts_m  (a1 : List Int) (b1 : List Int) : Option Bool :=
  if ((a1.length : Int) != (b1.length : Int)) then (some false) else ((gameroomlaw_sameInts_J1 a1 b1))

set_option maxRecDepth 100000 in
set_option maxHeartbeats 4000000 in
theorem gameroomlaw_sameInts_w  {A1 : Option Addr} {c1 : Nat} {n1 : Nat} {a1 : List Int} {A2 : Option Addr} {c2 : Nat} {n2 : Nat} {b1 : List Int} {r : Bool} {w0 w : World} {B : Nat} {fs : List HP} (hm : gameroomlaw_sameInts_m a1 b1 = some r) (hS : Sep w0 B w (fs)) (hr_a1 : RdF w0 B fs A1 (vI a1)) (_hc_a1 : a1.length ≤ c1) (_hn_a1 : n1 = a1.length) (hr_b1 : RdF w0 B fs A2 (vI b1)) (_hc_b1 : b1.length ≤ c2) (_hn_b1 : n2 = b1.length) :
    Calls Try.prog 14 #[.slice A1 n1 c1, .slice A2 n2 c2] w fun e w' => e = .returned (.bool r) ∧ Sep w0 B w' (fs) := by
  obtain ⟨i3, hi3, hz3, hs3, hb3⟩ := info_parts Info3
  obtain rfl := _hn_a1
  obtain rfl := _hn_b1
  unfold gameroomlaw_sameInts_m at hm
  replace hm := start_b hm
  refine enter (l := [.slice A1 a1.length c1, .slice A2 b1.length c2]) (n := 26) Try.func14 rfl rfl (by simp) (fun a hF => ?_)
  refine reg [] [] [0, 1] [pl 0 (.slice A1 a1.length c1), pl 1 (.slice A2 b1.length c2)] hF hS Fol (by kernel_rfl) (by kernel_rfl) (by kernel_rfl) ?_ (fun a w hF hS => ?_)
  · exact obs_nil
  refine seq_cut (fun a w => Fr 26 [pl 0 (.slice A1 a1.length c1), pl 1 (.slice A2 b1.length c2)] a ∧ Sep w0 B w (fs) ∧ ((gameroomlaw_sameInts_J1 a1 b1)).bind some = some r) ?_ ?_
  · rintro a w ⟨hF, hS, hm⟩
    unfold gameroomlaw_sameInts_J1 at hm
    refine seq_cut (fun a w => Fr 26 [] a ∧ Sep w0 B w (fs) ∧ (gameroomlaw_sameInts_J2).bind some = some r) ?_ ?_
    · rintro a w ⟨hF, hS, hm⟩
      unfold gameroomlaw_sameInts_J2 at hm
      refine reg [] [] [4] [pl 4 (.bool true)] hF hS Fol (by kernel_rfl) (by kernel_rfl) (by kernel_rfl) ?_ (fun a w hF hS => ?_)
      · exact obs_nil
      refine wpIn_ret ?_
      have hm : some true = some r := hm
      obtain rfl := Option.some.inj hm
      exact retV (rs := [.tmp 4]) (vs := [.bool true]) hF rfl (rv_t (by kernel_rfl) <| rv_nil) rfl ⟨rfl, hS⟩
    · refine reg [] [] [0, 1, 5] [pl 0 (.slice A1 a1.length c1), pl 1 (.slice A2 b1.length c2), pl 5 (.int .i64 0)] hF hS Fol (by kernel_rfl) (by kernel_rfl) (by kernel_rfl) ?_ (fun a w hF hS => ?_)
      · exact obs_nil
      refine wpIn_block ?_
      refine wp_loop_model (S := Int) (R := (Fl Unit Bool)) (gameroomlaw_sameInts_L1 a1 b1) (fun x => (gameroomlaw_sameInts_K1 x).bind some) r (fun (x : Int) a w => Fr 26 [pl 0 (.slice A1 a1.length c1), pl 1 (.slice A2 b1.length c2), pl 5 (.int .i64 x)] a ∧ Sep w0 B w (fs)) (assoc_b hm) ⟨hF.weak [0, 1, 5] (by kernel_rfl), hS⟩ ?_
      clear hF hS hm
      rintro nn1 i1 a w ⟨hF, hS⟩ hm
      generalize hφ1 : stK (gameroomlaw_sameInts_L1 a1 b1) nn1 (fun x => (gameroomlaw_sameInts_K1 x).bind some) = φ1 at hm
      unfold gameroomlaw_sameInts_L1 at hm
      dsimp only at hm
      refine seq_cut (fun a w => Fr 26 [pl 0 (.slice A1 a1.length c1), pl 1 (.slice A2 b1.length c2), pl 5 (.int .i64 i1)] a ∧ Sep w0 B w (fs) ∧ ((gameroomlaw_sameInts_J3 a1 b1 i1)).bind φ1 = some r) ?_ ?_
      · rintro a w ⟨hF, hS, hm⟩
        unfold gameroomlaw_sameInts_J3 at hm
        refine seq_cut (fun a w => Fr 26 [pl 0 (.slice A1 a1.length c1), pl 1 (.slice A2 b1.length c2), pl 5 (.int .i64 i1)] a ∧ Sep w0 B w (fs) ∧ ((gameroomlaw_sameInts_J4 i1)).bind φ1 = some r) ?_ ?_
        · rintro a w ⟨hF, hS, hm⟩
          unfold gameroomlaw_sameInts_J4 at hm
          refine reg1 [] [] [0, 1, 5] [pl 0 (.slice A1 a1.length c1), pl 1 (.slice A2 b1.length c2), pl 5 (.int .i64 (w64 (i1 + 1)))] hF hS Fol (by kernel_rfl) (by kernel_rfl) (by kernel_rfl) ?_ (fun a w hF hS => ?_)
          · exact obs_nil
          refine then_n ?_
          rw [← hφ1] at hm
          exact ⟨(w64 (i1 + 1)), ⟨hF.weak [0, 1, 5] (by kernel_rfl), hS⟩, hm⟩
        · refine wpIn_block ?_
          obtain ⟨hp1, hm⟩ := asrt_b hm
          obtain ⟨hp2, hm⟩ := asrt_b hm
          refine reg [⟨true, [], vS (Instr.indexAt 22 (.slice A1 a1.length c1) (.int .i64 i1)), .pointer (some (sAddr A1 i1))⟩, ⟨false, [], vS (Instr.loadAt 3 (.pointer (some (sAddr A1 i1)))), .int .i64 (geti a1 i1)⟩, ⟨true, [], vS (Instr.indexAt 22 (.slice A2 b1.length c2) (.int .i64 i1)), .pointer (some (sAddr A2 i1))⟩, ⟨false, [], vS (Instr.loadAt 3 (.pointer (some (sAddr A2 i1)))), .int .i64 (geti b1 i1)⟩] [none, none, some (.pointer (some (sAddr A1 i1))), some (.int .i64 (geti a1 i1)), none, none, some (.pointer (some (sAddr A2 i1))), some (.int .i64 (geti b1 i1)), none] [0, 1, 5, 25] [pl 0 (.slice A1 a1.length c1), pl 1 (.slice A2 b1.length c2), pl 5 (.int .i64 i1), pl 25 (.bool ((geti a1 i1) != (geti b1 i1)))] hF hS Fol (by kernel_rfl) (by kernel_rfl) (by kernel_rfl) ?_ (fun a w hF hS => ?_)
          · exact obs_cons (ob_ix1 (f := (Value.int .i64)) (m := a1) Und22 hi3 hs3 (hr_a1 _ (hS.dropN 0)) rfl (fun _ => hp1)) <| obs_cons (ob_get1 (n := a1.length) (m := a1) (Value.int .i64) (0 : Int) Agg3 (fun _ hS => ⟨_, (hr_a1 _ (hS.dropN 0))⟩) (fun _ hS => rfl) (fun _ => hp1)) <| obs_cons (ob_ix1 (f := (Value.int .i64)) (m := b1) Und22 hi3 hs3 (hr_b1 _ (hS.dropN 0)) rfl (fun _ => hp2)) <| obs_cons (ob_get1 (n := b1.length) (m := b1) (Value.int .i64) (0 : Int) Agg3 (fun _ hS => ⟨_, (hr_b1 _ (hS.dropN 0))⟩) (fun _ hS => rfl) (fun _ => hp2)) <| obs_nil
          refine cond_ev (t := 25) (b := ((geti a1 i1) != (geti b1 i1))) hF (by kernel_rfl) (fun hb => ?_) (fun hb => ?_)
          · replace hm := if_t hm hb
            refine reg [] [] [4] [pl 4 (.bool false)] hF hS Fol (by kernel_rfl) (by kernel_rfl) (by kernel_rfl) ?_ (fun a w hF hS => ?_)
            · exact obs_nil
            refine wpIn_ret ?_
            refine block_r (then_r (then_r (block_r (then_r ?_))))
            rw [← hφ1] at hm
            replace hm := done_b hm
            unfold gameroomlaw_sameInts_K1 at hm
            try dsimp only at hm
            have hm : some false = some r := hm
            obtain rfl := Option.some.inj hm
            exact retV (rs := [.tmp 4]) (vs := [.bool false]) hF rfl (rv_t (by kernel_rfl) <| rv_nil) rfl ⟨rfl, hS⟩
          · replace hm := if_f hm hb
            refine wpIn_skip ?_
            refine block_n ?_
            refine then_n ?_
            exact ⟨hF.weak [0, 1, 5] (by kernel_rfl), hS, hm⟩
      · refine reg [] [] [0, 1, 5, 14] [pl 0 (.slice A1 a1.length c1), pl 1 (.slice A2 b1.length c2), pl 5 (.int .i64 i1), pl 14 (.bool (decide (i1 < (a1.length : Int))))] hF hS Fol (by kernel_rfl) (by kernel_rfl) (by kernel_rfl) ?_ (fun a w hF hS => ?_)
        · exact obs_nil
        refine cond_ev (t := 14) (b := decide (i1 < (a1.length : Int))) hF (by kernel_rfl) (fun hb => ?_) (fun hb => ?_)
        · replace hm := if_t hm hb
          refine wpIn_skip ?_
          refine then_n ?_
          exact ⟨hF.weak [0, 1, 5] (by kernel_rfl), hS, hm⟩
        · replace hm := if_f hm hb
          refine wpIn_exit ?_
          refine then_e (then_e (block_e (then_n ?_)))
          rw [← hφ1] at hm
          replace hm := done_b hm
          unfold gameroomlaw_sameInts_K1 at hm
          try dsimp only at hm
          have hm : (gameroomlaw_sameInts_J2).bind some = some r := hm
          exact ⟨hF.weak [] (by kernel_rfl), hS, hm⟩
  · refine reg [] [] [0, 1, 10] [pl 0 (.slice A1 a1.length c1), pl 1 (.slice A2 b1.length c2), pl 10 (.bool ((a1.length : Int) != (b1.length : Int)))] hF hS Fol (by kernel_rfl) (by kernel_rfl) (by kernel_rfl) ?_ (fun a w hF hS => ?_)
    · exact obs_nil
    refine cond_ev (t := 10) (b := ((a1.length : Int) != (b1.length : Int))) hF (by kernel_rfl) (fun hb => ?_) (fun hb => ?_)
    · replace hm := if_t hm hb
      refine reg [] [] [4] [pl 4 (.bool false)] hF hS Fol (by kernel_rfl) (by kernel_rfl) (by kernel_rfl) ?_ (fun a w hF hS => ?_)
      · exact obs_nil
      refine wpIn_ret ?_
      refine then_r ?_
      have hm : some false = some r := hm
      obtain rfl := Option.some.inj hm
      exact retV (rs := [.tmp 4]) (vs := [.bool false]) hF rfl (rv_t (by kernel_rfl) <| rv_nil) rfl ⟨rfl, hS⟩
    · replace hm := if_f hm hb
      refine wpIn_skip ?_
      refine then_n ?_
      exact ⟨hF.weak [0, 1] (by kernel_rfl), hS, hm⟩

noncomputable def gameroomlaw_StonesAreas_J4  (z1 : Bool) : Option Bool :=
  some z1

noncomputable def gameroomlaw_StonesAreas_J3  (g1 : Int) (g2 : Int) (g3 : List Int) (who1 : Int) (r4 : (List Int × Int)) : Option Bool :=
  if (r4.2 == 0) then ((gameroomref_AliveOf_m g1 g2 g3 who1).bind fun r7 => ((if (r4.2 == 0) then gameroomlaw_sameInts_m r4.1 r7 else some false)).bind fun r8 => gameroomlaw_StonesAreas_J4 ((r4.2 == 0) && r8)) else (gameroomlaw_StonesAreas_J4 ((r4.2 == 0) && false))

noncomputable def gameroomlaw_StonesAreas_J2  (g1 : Int) (g2 : Int) (g3 : List Int) (who1 : Int) (r4 : (List Int × Int)) : Option Bool :=
  if ((who1 != 1) && (who1 != 2)) then (some ((r4.2 == 4) && ((r4.1.length : Int) == 0))) else ((gameroomlaw_StonesAreas_J3 g1 g2 g3 who1 r4))

noncomputable def gameroomlaw_StonesAreas_J1  (g1 : Int) (g2 : Int) (g3 : List Int) (who1 : Int) (r2 : (Int × Int × Int × Int)) (r4 : (List Int × Int)) : Option Bool :=
  (gameroomref_AreasOf_m g1 g2 g3).bind fun r6 => asrt ((r2.2.2.2 != 0) = false → 0 ≤ (0 : Int) ∧ (0 : Int) < (r6.length : Int)) <| asrt (((r2.2.2.2 != 0) || (r2.1 != (geti r6 0))) = false → 0 ≤ (1 : Int) ∧ (1 : Int) < (r6.length : Int)) <| asrt ((((r2.2.2.2 != 0) || (r2.1 != (geti r6 0))) || (r2.2.1 != (geti r6 1))) = false → 0 ≤ (2 : Int) ∧ (2 : Int) < (r6.length : Int)) <| if ((((r2.2.2.2 != 0) || (r2.1 != (geti r6 0))) || (r2.2.1 != (geti r6 1))) || (r2.2.2.1 != (geti r6 2))) then (some false) else ((gameroomlaw_StonesAreas_J2 g1 g2 g3 who1 r4))

noncomputable def gameroomlaw_StonesAreas_m  (g1 : Int) (g2 : Int) (g3 : List Int) (who1 : Int) : Option Bool :=
  (gameroomref_GridOf_m g1 g2 g3).bind fun r1 => (stones_Areas_m r1.1 r1.2.1 r1.2.2).bind fun r2 => (gameroomref_GridOf_m g1 g2 g3).bind fun r3 => (stones_Alive_m r3.1 r3.2.1 r3.2.2 who1).bind fun r4 => (gameroomref_GridMay_m g1 g2 g3).bind fun r5 => if (!r5) then (some ((((((r2.2.2.2 == 12) && (r4.2 == 12)) && (r2.1 == 0)) && (r2.2.1 == 0)) && (r2.2.2.1 == 0)) && ((r4.1.length : Int) == 0))) else ((gameroomlaw_StonesAreas_J1 g1 g2 g3 who1 r2 r4))

set_option maxRecDepth 100000 in
set_option maxHeartbeats 4000000 in
theorem gameroomlaw_StonesAreas_w  {g1 : Int} {g2 : Int} {A1 : Option Addr} {c1 : Nat} {n1 : Nat} {g3 : List Int} {who1 : Int} {r : Bool} {w0 w : World} {B : Nat} {fs : List HP} (hm : gameroomlaw_StonesAreas_m g1 g2 g3 who1 = some r) (hS : Sep w0 B w (fs)) (hr_g3 : RdF w0 B fs A1 (vI g3)) (_hc_g3 : g3.length ≤ c1) (_hn_g3 : n1 = g3.length) :
    Calls Try.prog 3 #[.agg #[.int .i64 g1, .int .i64 g2, .slice A1 n1 c1], .int .i64 who1] w fun e w' => e = .returned (.bool r) ∧ Sep w0 B w' (fs) := by
  obtain ⟨i3, hi3, hz3, hs3, hb3⟩ := info_parts Info3
  obtain rfl := _hn_g3
  unfold gameroomlaw_StonesAreas_m at hm
  replace hm := start_b hm
  refine enter (l := [.agg #[.int .i64 g1, .int .i64 g2, .slice A1 g3.length c1], .int .i64 who1]) (n := 100) Try.func3 rfl rfl (by simp) (fun a hF => ?_)
  refine seqR ?_
  refine at_do (d := 2) (s := vS (Instr.box 24 (.agg #[.int .i64 g1, .int .i64 g2, .slice A1 g3.length c1]))) (v := .pointer (some ⟨w.heap.size, 0, none⟩)) (w' := w.alloc (.cells #[.int .i64 g1, .int .i64 g2, .slice A1 g3.length c1] 24)) hF (by kernel_rfl) (by kernel_rfl) (by kernel_rfl) (fun a hF => ?_)
  have hS : Sep w0 B (w.alloc (.cells #[.int .i64 g1, .int .i64 g2, .slice A1 g3.length c1] 24)) (blk w.heap.size 24 #[.int .i64 g1, .int .i64 g2, .slice A1 g3.length c1] :: (fs)) := hS.box 24 #[.int .i64 g1, .int .i64 g2, .slice A1 g3.length c1]
  generalize w.heap.size = g4 at hF hS
  generalize w.alloc (.cells #[.int .i64 g1, .int .i64 g2, .slice A1 g3.length c1] 24) = w at hS ⊢
  refine at_run 1 [] [] [1, 2] [pl 1 (.int .i64 who1), pl 2 (.pointer (some ⟨g4, 0, none⟩))] hF hS (by kernel_rfl) (by kernel_rfl) ?_ (fun a w hF hS => ?_)
  · exact obs_nil
  refine at_end [1, 2] [pl 1 (.int .i64 who1), pl 2 (.pointer (some ⟨g4, 0, none⟩))] hF rfl (by kernel_rfl) (fun hF => ?_)
  refine then_n ?_
  refine seqR ?_
  obtain ⟨r1, hr1, hm⟩ := call_b hm
  obtain ⟨r2, hr2, hm⟩ := call_b hm
  refine at_run 1 [⟨false, [], vS (Instr.loadAt 24 (.pointer (some ⟨g4, 0, none⟩))), .agg #[.int .i64 g1, .int .i64 g2, .slice A1 g3.length c1]⟩] [some (.agg #[.int .i64 g1, .int .i64 g2, .slice A1 g3.length c1])] [1, 2, 13] [pl 1 (.int .i64 who1), pl 2 (.pointer (some ⟨g4, 0, none⟩)), pl 13 (.agg #[.int .i64 g1, .int .i64 g2, .slice A1 g3.length c1])] hF hS (by kernel_rfl) (by kernel_rfl) ?_ (fun a w hF hS => ?_)
  · exact obs_cons (ob_loadA (cs := #[.int .i64 g1, .int .i64 g2, .slice A1 g3.length c1]) (by kernel_rfl) (by kernel_rfl) (fun _ _ hS => (hS.at_ 0 rfl).cellsAt 0 (by rfl))) <| obs_nil
  refine at_call (f := 10) (args := #[.agg #[.int .i64 g1, .int .i64 g2, .slice A1 g3.length c1]]) (d := 14) hF (by kernel_rfl) (by kernel_rfl) Try.func10 (by kernel_rfl) rfl (gameroomref_GridOf_w hr1 hS (fun _ hS => (hr_g3 _ (hS.dropN 1))) _hc_g3 rfl) (fun v a w hR hF => ?_)
  clear hS
  obtain ⟨A2, c2, rfl, hS⟩ := hR
  have hS : Sep w0 B w (own 3 (.slice A2 r1.2.2.length c2) (vI r1.2.2) :: blk g4 24 #[.int .i64 g1, .int .i64 g2, .slice A1 g3.length c1] :: fs) := hS
  refine at_run 10 [⟨false, [], callFunc 9 #[.agg #[.int .i64 r1.1, .int .i64 r1.2.1, .slice A2 r1.2.2.length c2]], .tuple #[.int .i64 r2.1, .int .i64 r2.2.1, .int .i64 r2.2.2.1, .int .i64 r2.2.2.2]⟩] [some (.tuple #[.int .i64 r2.1, .int .i64 r2.2.1, .int .i64 r2.2.2.1, .int .i64 r2.2.2.2]), none, none, none, none, none, none, none, none, none] [1, 2, 5, 6, 7, 8] [pl 1 (.int .i64 who1), pl 2 (.pointer (some ⟨g4, 0, none⟩)), pl 5 (.int .i64 r2.1), pl 6 (.int .i64 r2.2.1), pl 7 (.int .i64 r2.2.2.1), pl 8 (.int .i64 r2.2.2.2)] hF hS (by kernel_rfl) (by kernel_rfl) ?_ (fun a w hF hS => ?_)
  · exact obs_cons (ob_call Try.func9 (by kernel_rfl) rfl (fun _ _ hS => stones_Areas_w hr2 hS (fun _ hS => (hS.at_ 0 rfl).rd) ((hS.at_ 0 rfl).cap1) rfl)) <| obs_nil
  refine at_end [1, 2, 5, 6, 7, 8] [pl 1 (.int .i64 who1), pl 2 (.pointer (some ⟨g4, 0, none⟩)), pl 5 (.int .i64 r2.1), pl 6 (.int .i64 r2.2.1), pl 7 (.int .i64 r2.2.2.1), pl 8 (.int .i64 r2.2.2.2)] hF rfl (by kernel_rfl) (fun hF => ?_)
  refine then_n ?_
  refine seqR ?_
  obtain ⟨r3, hr3, hm⟩ := call_b hm
  obtain ⟨r4, hr4, hm⟩ := call_b hm
  refine at_run 1 [⟨false, [], vS (Instr.loadAt 24 (.pointer (some ⟨g4, 0, none⟩))), .agg #[.int .i64 g1, .int .i64 g2, .slice A1 g3.length c1]⟩] [some (.agg #[.int .i64 g1, .int .i64 g2, .slice A1 g3.length c1])] [1, 2, 5, 6, 7, 8, 21] [pl 1 (.int .i64 who1), pl 2 (.pointer (some ⟨g4, 0, none⟩)), pl 5 (.int .i64 r2.1), pl 6 (.int .i64 r2.2.1), pl 7 (.int .i64 r2.2.2.1), pl 8 (.int .i64 r2.2.2.2), pl 21 (.agg #[.int .i64 g1, .int .i64 g2, .slice A1 g3.length c1])] hF hS (by kernel_rfl) (by kernel_rfl) ?_ (fun a w hF hS => ?_)
  · exact obs_cons (ob_loadA (cs := #[.int .i64 g1, .int .i64 g2, .slice A1 g3.length c1]) (by kernel_rfl) (by kernel_rfl) (fun _ _ hS => (hS.at_ 1 rfl).cellsAt 0 (by rfl))) <| obs_nil
  refine at_call (f := 10) (args := #[.agg #[.int .i64 g1, .int .i64 g2, .slice A1 g3.length c1]]) (d := 22) hF (by kernel_rfl) (by kernel_rfl) Try.func10 (by kernel_rfl) rfl (gameroomref_GridOf_w hr3 hS (fun _ hS => (hr_g3 _ (hS.dropN 2))) _hc_g3 rfl) (fun v a w hR hF => ?_)
  clear hS
  obtain ⟨A3, c3, rfl, hS⟩ := hR
  have hS : Sep w0 B w (own 3 (.slice A3 r3.2.2.length c3) (vI r3.2.2) :: own 3 (.slice A2 r1.2.2.length c2) (vI r1.2.2) :: blk g4 24 #[.int .i64 g1, .int .i64 g2, .slice A1 g3.length c1] :: fs) := hS
  refine at_run 1 [] [] [1, 2, 5, 6, 7, 8, 22, 23] [pl 1 (.int .i64 who1), pl 2 (.pointer (some ⟨g4, 0, none⟩)), pl 5 (.int .i64 r2.1), pl 6 (.int .i64 r2.2.1), pl 7 (.int .i64 r2.2.2.1), pl 8 (.int .i64 r2.2.2.2), pl 22 (.agg #[.int .i64 r3.1, .int .i64 r3.2.1, .slice A3 r3.2.2.length c3]), pl 23 (.int .i64 who1)] hF hS (by kernel_rfl) (by kernel_rfl) ?_ (fun a w hF hS => ?_)
  · exact obs_nil
  refine at_call (f := 11) (args := #[.agg #[.int .i64 r3.1, .int .i64 r3.2.1, .slice A3 r3.2.2.length c3], .int .i64 who1]) (d := 24) hF (by kernel_rfl) (by kernel_rfl) Try.func11 (by kernel_rfl) rfl (stones_Alive_w hr4 hS (fun _ hS => (hS.at_ 0 rfl).rd) ((hS.at_ 0 rfl).cap1) rfl) (fun v a w hR hF => ?_)
  clear hS
  obtain ⟨A4, c4, rfl, hS⟩ := hR
  have hS : Sep w0 B w (own 3 (.slice A4 r4.1.length c4) (vI r4.1) :: own 3 (.slice A3 r3.2.2.length c3) (vI r3.2.2) :: own 3 (.slice A2 r1.2.2.length c2) (vI r1.2.2) :: blk g4 24 #[.int .i64 g1, .int .i64 g2, .slice A1 g3.length c1] :: fs) := hS
  refine at_run 5 [] [] [1, 2, 5, 6, 7, 8, 9, 10] [pl 1 (.int .i64 who1), pl 2 (.pointer (some ⟨g4, 0, none⟩)), pl 5 (.int .i64 r2.1), pl 6 (.int .i64 r2.2.1), pl 7 (.int .i64 r2.2.2.1), pl 8 (.int .i64 r2.2.2.2), pl 9 (.slice A4 r4.1.length c4), pl 10 (.int .i64 r4.2)] hF hS (by kernel_rfl) (by kernel_rfl) ?_ (fun a w hF hS => ?_)
  · exact obs_nil
  refine at_end [1, 2, 5, 6, 7, 8, 9, 10] [pl 1 (.int .i64 who1), pl 2 (.pointer (some ⟨g4, 0, none⟩)), pl 5 (.int .i64 r2.1), pl 6 (.int .i64 r2.2.1), pl 7 (.int .i64 r2.2.2.1), pl 8 (.int .i64 r2.2.2.2), pl 9 (.slice A4 r4.1.length c4), pl 10 (.int .i64 r4.2)] hF rfl (by kernel_rfl) (fun hF => ?_)
  refine then_n ?_
  refine seq_cut (fun a w => Fr 100 [pl 1 (.int .i64 who1), pl 2 (.pointer (some ⟨g4, 0, none⟩)), pl 5 (.int .i64 r2.1), pl 6 (.int .i64 r2.2.1), pl 7 (.int .i64 r2.2.2.1), pl 8 (.int .i64 r2.2.2.2), pl 9 (.slice A4 r4.1.length c4), pl 10 (.int .i64 r4.2)] a ∧ Sep w0 B w (blk g4 24 #[.int .i64 g1, .int .i64 g2, .slice A1 g3.length c1] :: own 3 (.slice A4 r4.1.length c4) (vI r4.1) :: fs) ∧ ((gameroomlaw_StonesAreas_J1 g1 g2 g3 who1 r2 r4)).bind some = some r) ?_ ?_
  · rintro a w ⟨hF, hS, hm⟩
    unfold gameroomlaw_StonesAreas_J1 at hm
    refine seqR ?_
    obtain ⟨r6, hr6, hm⟩ := call_b hm
    refine at_run 1 [⟨false, [], vS (Instr.loadAt 24 (.pointer (some ⟨g4, 0, none⟩))), .agg #[.int .i64 g1, .int .i64 g2, .slice A1 g3.length c1]⟩] [some (.agg #[.int .i64 g1, .int .i64 g2, .slice A1 g3.length c1])] [1, 2, 5, 6, 7, 8, 9, 10, 53] [pl 1 (.int .i64 who1), pl 2 (.pointer (some ⟨g4, 0, none⟩)), pl 5 (.int .i64 r2.1), pl 6 (.int .i64 r2.2.1), pl 7 (.int .i64 r2.2.2.1), pl 8 (.int .i64 r2.2.2.2), pl 9 (.slice A4 r4.1.length c4), pl 10 (.int .i64 r4.2), pl 53 (.agg #[.int .i64 g1, .int .i64 g2, .slice A1 g3.length c1])] hF hS (by kernel_rfl) (by kernel_rfl) ?_ (fun a w hF hS => ?_)
    · exact obs_cons (ob_loadA (cs := #[.int .i64 g1, .int .i64 g2, .slice A1 g3.length c1]) (by kernel_rfl) (by kernel_rfl) (fun _ _ hS => (hS.at_ 0 rfl).cellsAt 0 (by rfl))) <| obs_nil
    refine at_call (f := 13) (args := #[.agg #[.int .i64 g1, .int .i64 g2, .slice A1 g3.length c1]]) (d := 54) hF (by kernel_rfl) (by kernel_rfl) Try.func13 (by kernel_rfl) rfl (gameroomref_AreasOf_w hr6 hS (fun _ hS => (hr_g3 _ (hS.dropN 2))) _hc_g3 rfl) (fun v a w hR hF => ?_)
    clear hS
    obtain ⟨A5, c5, rfl, hS⟩ := hR
    have hS : Sep w0 B w (own 3 (.slice A5 r6.length c5) (vI r6) :: blk g4 24 #[.int .i64 g1, .int .i64 g2, .slice A1 g3.length c1] :: own 3 (.slice A4 r4.1.length c4) (vI r4.1) :: fs) := hS
    refine at_run 1 [] [] [1, 2, 5, 6, 7, 8, 9, 10, 11] [pl 1 (.int .i64 who1), pl 2 (.pointer (some ⟨g4, 0, none⟩)), pl 5 (.int .i64 r2.1), pl 6 (.int .i64 r2.2.1), pl 7 (.int .i64 r2.2.2.1), pl 8 (.int .i64 r2.2.2.2), pl 9 (.slice A4 r4.1.length c4), pl 10 (.int .i64 r4.2), pl 11 (.slice A5 r6.length c5)] hF hS (by kernel_rfl) (by kernel_rfl) ?_ (fun a w hF hS => ?_)
    · exact obs_nil
    refine at_end [1, 2, 5, 6, 7, 8, 9, 10, 11] [pl 1 (.int .i64 who1), pl 2 (.pointer (some ⟨g4, 0, none⟩)), pl 5 (.int .i64 r2.1), pl 6 (.int .i64 r2.2.1), pl 7 (.int .i64 r2.2.2.1), pl 8 (.int .i64 r2.2.2.2), pl 9 (.slice A4 r4.1.length c4), pl 10 (.int .i64 r4.2), pl 11 (.slice A5 r6.length c5)] hF rfl (by kernel_rfl) (fun hF => ?_)
    refine then_n ?_
    refine seq_cut (fun a w => Fr 100 [pl 1 (.int .i64 who1), pl 2 (.pointer (some ⟨g4, 0, none⟩)), pl 9 (.slice A4 r4.1.length c4), pl 10 (.int .i64 r4.2)] a ∧ Sep w0 B w (blk g4 24 #[.int .i64 g1, .int .i64 g2, .slice A1 g3.length c1] :: own 3 (.slice A4 r4.1.length c4) (vI r4.1) :: fs) ∧ ((gameroomlaw_StonesAreas_J2 g1 g2 g3 who1 r4)).bind some = some r) ?_ ?_
    · rintro a w ⟨hF, hS, hm⟩
      unfold gameroomlaw_StonesAreas_J2 at hm
      refine seq_cut (fun a w => Fr 100 [pl 1 (.int .i64 who1), pl 2 (.pointer (some ⟨g4, 0, none⟩)), pl 9 (.slice A4 r4.1.length c4), pl 10 (.int .i64 r4.2)] a ∧ Sep w0 B w (blk g4 24 #[.int .i64 g1, .int .i64 g2, .slice A1 g3.length c1] :: own 3 (.slice A4 r4.1.length c4) (vI r4.1) :: fs) ∧ ((gameroomlaw_StonesAreas_J3 g1 g2 g3 who1 r4)).bind some = some r) ?_ ?_
      · rintro a w ⟨hF, hS, hm⟩
        unfold gameroomlaw_StonesAreas_J3 at hm
        refine seq_cut (fun a w => ∃ (z1 : Bool), Fr 100 [pl 4 (.bool z1)] a ∧ Sep w0 B w (fs) ∧ (gameroomlaw_StonesAreas_J4 z1).bind some = some r) ?_ ?_
        · rintro a w ⟨z1, hF, hS, hm⟩
          unfold gameroomlaw_StonesAreas_J4 at hm
          refine wpIn_ret ?_
          have hm : some z1 = some r := hm
          obtain rfl := Option.some.inj hm
          exact retV (rs := [.tmp 4]) (vs := [.bool z1]) hF rfl (rv_t (by kernel_rfl) <| rv_nil) rfl ⟨rfl, hS⟩
        · refine oneR ?_
          refine at_run 6 [⟨false, [((r4.2 == 0), true)], vS (Instr.loadAt 24 (.pointer (some ⟨g4, 0, none⟩))), .agg #[.int .i64 g1, .int .i64 g2, .slice A1 g3.length c1]⟩] [none, none, none, none, some (.agg #[.int .i64 g1, .int .i64 g2, .slice A1 g3.length c1]), none] [93, 94, 95, 96] [pl 93 (.bool (r4.2 == 0)), ⟨94, [(93, true)], .slice A4 r4.1.length c4⟩, ⟨95, [(93, true)], .agg #[.int .i64 g1, .int .i64 g2, .slice A1 g3.length c1]⟩, ⟨96, [(93, true)], .int .i64 who1⟩] hF hS (by kernel_rfl) (by kernel_rfl) ?_ (fun a w hF hS => ?_)
          · exact obs_cons (ob_loadA (cs := #[.int .i64 g1, .int .i64 g2, .slice A1 g3.length c1]) (by kernel_rfl) (by kernel_rfl) (fun _ _ hS => (hS.at_ 0 rfl).cellsAt 0 (by rfl))) <| obs_nil
          rcases Bool.eq_false_or_eq_true (r4.2 == 0) with hg1 | hg1
          · replace hm := if_t hm hg1
            obtain ⟨r7, hr7, hm⟩ := call_b hm
            obtain ⟨r8, hr8, hm⟩ := call_b hm
            refine at_gcall (hs := [((r4.2 == 0), true)]) (fun y hy => by simp only [List.mem_cons, List.not_mem_nil, or_false] at hy; subst hy; first | exact hg1) (f := 15) (args := #[.agg #[.int .i64 g1, .int .i64 g2, .slice A1 g3.length c1], .int .i64 who1]) (d := 97) hF (by kernel_rfl) (by kernel_rfl) Try.func15 (by kernel_rfl) rfl (gameroomref_AliveOf_w hr7 hS (fun _ hS => (hr_g3 _ (hS.dropN 2))) _hc_g3 rfl) (fun v a w hR hF => ?_)
            clear hS
            obtain ⟨A6, c6, rfl, hS⟩ := hR
            have hS : Sep w0 B w (own 3 (.slice A6 r7.length c6) (vI r7) :: blk g4 24 #[.int .i64 g1, .int .i64 g2, .slice A1 g3.length c1] :: own 3 (.slice A4 r4.1.length c4) (vI r4.1) :: fs) := hS
            refine at_run 3 [⟨false, [((r4.2 == 0), true)], callFunc 14 #[.slice A4 r4.1.length c4, .slice A6 r7.length c6], .bool r8⟩] [some (.bool r8), none, none] [4] [pl 4 (.bool ((r4.2 == 0) && r8))] hF hS (by kernel_rfl) (by kernel_rfl) ?_ (fun a w hF hS => ?_)
            · exact obs_cons (ob_call Try.func14 (by kernel_rfl) rfl (fun hy _ hS => gameroomlaw_sameInts_w (ite_some hr8 (by rw [show (r4.2 == 0) = true from hy ((r4.2 == 0), true) (by simp)]; try rfl)) hS (fun _ hS => (hS.at_ 2 rfl).rd) ((hS.at_ 2 rfl).cap1) rfl (fun _ hS => (hS.at_ 0 rfl).rd) ((hS.at_ 0 rfl).cap1) rfl)) <| obs_nil
            refine at_end [4] [pl 4 (.bool ((r4.2 == 0) && r8))] hF rfl (by kernel_rfl) (fun hF => ?_)
            refine then_n ?_
            have hS := hS.pickN 3 [] (by decide)
            exact ⟨((r4.2 == 0) && r8), hF.weak [4] (by kernel_rfl), hS, hm⟩
          · replace hm := if_f hm hg1
            refine at_gskip (d := 97) (v := .slice none 0 0) (hs := [((r4.2 == 0), true)]) (ctx := [(93, true)]) hF (by kernel_rfl) (by kernel_rfl) (fun h => absurd (h ((r4.2 == 0), true) (by simp)) (by first | exact fun hz => Bool.noConfusion (Eq.trans (Eq.symm hg1) hz) | simp [hg1])) (fun a hF => ?_)
            refine at_run 3 [⟨false, [((r4.2 == 0), true)], callFunc 14 #[.slice A4 r4.1.length c4, .slice none 0 0], .bool false⟩] [some (.bool false), none, none] [4] [pl 4 (.bool ((r4.2 == 0) && false))] hF hS (by kernel_rfl) (by kernel_rfl) ?_ (fun a w hF hS => ?_)
            · exact obs_cons (Ob.vac (fun h => absurd (h ((r4.2 == 0), true) (by simp)) (by simp [hg1]))) <| obs_nil
            refine at_end [4] [pl 4 (.bool ((r4.2 == 0) && false))] hF rfl (by kernel_rfl) (fun hF => ?_)
            refine then_n ?_
            have hS := hS.pickN 2 [] (by decide)
            exact ⟨((r4.2 == 0) && false), hF.weak [4] (by kernel_rfl), hS, hm⟩
      · refine reg [] [] [1, 2, 9, 10, 83] [pl 1 (.int .i64 who1), pl 2 (.pointer (some ⟨g4, 0, none⟩)), pl 9 (.slice A4 r4.1.length c4), pl 10 (.int .i64 r4.2), pl 83 (.bool ((who1 != 1) && (who1 != 2)))] hF hS Fol (by kernel_rfl) (by kernel_rfl) (by kernel_rfl) ?_ (fun a w hF hS => ?_)
        · exact obs_nil
        refine cond_ev (t := 83) (b := (who1 != 1) && (who1 != 2)) hF (by kernel_rfl) (fun hb => ?_) (fun hb => ?_)
        · replace hm := if_t hm hb
          refine reg [] [] [4] [pl 4 (.bool ((r4.2 == 4) && ((r4.1.length : Int) == 0)))] hF hS Fol (by kernel_rfl) (by kernel_rfl) (by kernel_rfl) ?_ (fun a w hF hS => ?_)
          · exact obs_nil
          refine wpIn_ret ?_
          refine then_r ?_
          have hS := hS.pickN 2 [] (by decide)
          have hm : some ((r4.2 == 4) && ((r4.1.length : Int) == 0)) = some r := hm
          obtain rfl := Option.some.inj hm
          exact retV (rs := [.tmp 4]) (vs := [.bool ((r4.2 == 4) && ((r4.1.length : Int) == 0))]) hF rfl (rv_t (by kernel_rfl) <| rv_nil) rfl ⟨rfl, hS⟩
        · replace hm := if_f hm hb
          refine wpIn_skip ?_
          refine then_n ?_
          exact ⟨hF.weak [1, 2, 9, 10] (by kernel_rfl), hS, hm⟩
    · obtain ⟨hp1, hm⟩ := asrt_b hm
      obtain ⟨hp2, hm⟩ := asrt_b hm
      obtain ⟨hp3, hm⟩ := asrt_b hm
      refine reg [⟨true, [((r2.2.2.2 != 0), false)], vS (Instr.indexAt 22 (.slice A5 r6.length c5) (.int .i64 0)), .pointer (some (sAddr A5 0))⟩, ⟨false, [((r2.2.2.2 != 0), false)], vS (Instr.loadAt 3 (.pointer (some (sAddr A5 0)))), .int .i64 (geti r6 0)⟩, ⟨true, [((r2.2.2.2 != 0) || (r2.1 != (geti r6 0)), false)], vS (Instr.indexAt 22 (.slice A5 r6.length c5) (.int .i64 1)), .pointer (some (sAddr A5 1))⟩, ⟨false, [((r2.2.2.2 != 0) || (r2.1 != (geti r6 0)), false)], vS (Instr.loadAt 3 (.pointer (some (sAddr A5 1)))), .int .i64 (geti r6 1)⟩, ⟨true, [(((r2.2.2.2 != 0) || (r2.1 != (geti r6 0))) || (r2.2.1 != (geti r6 1)), false)], vS (Instr.indexAt 22 (.slice A5 r6.length c5) (.int .i64 2)), .pointer (some (sAddr A5 2))⟩, ⟨false, [(((r2.2.2.2 != 0) || (r2.1 != (geti r6 0))) || (r2.2.1 != (geti r6 1)), false)], vS (Instr.loadAt 3 (.pointer (some (sAddr A5 2)))), .int .i64 (geti r6 2)⟩] [none, none, none, none, none, some (.pointer (some (sAddr A5 0))), some (.int .i64 (geti r6 0)), none, none, none, none, none, some (.pointer (some (sAddr A5 1))), some (.int .i64 (geti r6 1)), none, none, none, none, none, some (.pointer (some (sAddr A5 2))), some (.int .i64 (geti r6 2)), none, none] [1, 2, 9, 10, 77] [pl 1 (.int .i64 who1), pl 2 (.pointer (some ⟨g4, 0, none⟩)), pl 9 (.slice A4 r4.1.length c4), pl 10 (.int .i64 r4.2), pl 77 (.bool ((((r2.2.2.2 != 0) || (r2.1 != (geti r6 0))) || (r2.2.1 != (geti r6 1))) || (r2.2.2.1 != (geti r6 2))))] hF hS Fol (by kernel_rfl) (by kernel_rfl) (by kernel_rfl) ?_ (fun a w hF hS => ?_)
      · exact obs_cons (ob_ix1 (f := (Value.int .i64)) (m := r6) Und22 hi3 hs3 (hS.at_ 0 rfl).rd rfl (fun hy => hp1 (hy ((r2.2.2.2 != 0), false) (by simp)))) <| obs_cons (ob_get1 (n := r6.length) (m := r6) (Value.int .i64) (0 : Int) Agg3 (fun _ hS => ⟨_, (hS.at_ 0 rfl).rd⟩) (fun _ hS => rfl) (fun hy => hp1 (hy ((r2.2.2.2 != 0), false) (by simp)))) <| obs_cons (ob_ix1 (f := (Value.int .i64)) (m := r6) Und22 hi3 hs3 (hS.at_ 0 rfl).rd rfl (fun hy => hp2 (hy ((r2.2.2.2 != 0) || (r2.1 != (geti r6 0)), false) (by simp)))) <| obs_cons (ob_get1 (n := r6.length) (m := r6) (Value.int .i64) (0 : Int) Agg3 (fun _ hS => ⟨_, (hS.at_ 0 rfl).rd⟩) (fun _ hS => rfl) (fun hy => hp2 (hy ((r2.2.2.2 != 0) || (r2.1 != (geti r6 0)), false) (by simp)))) <| obs_cons (ob_ix1 (f := (Value.int .i64)) (m := r6) Und22 hi3 hs3 (hS.at_ 0 rfl).rd rfl (fun hy => hp3 (hy (((r2.2.2.2 != 0) || (r2.1 != (geti r6 0))) || (r2.2.1 != (geti r6 1)), false) (by simp)))) <| obs_cons (ob_get1 (n := r6.length) (m := r6) (Value.int .i64) (0 : Int) Agg3 (fun _ hS => ⟨_, (hS.at_ 0 rfl).rd⟩) (fun _ hS => rfl) (fun hy => hp3 (hy (((r2.2.2.2 != 0) || (r2.1 != (geti r6 0))) || (r2.2.1 != (geti r6 1)), false) (by simp)))) <| obs_nil
      refine cond_ev (t := 77) (b := (((r2.2.2.2 != 0) || (r2.1 != (geti r6 0))) || (r2.2.1 != (geti r6 1))) || (r2.2.2.1 != (geti r6 2))) hF (by kernel_rfl) (fun hb => ?_) (fun hb => ?_)
      · replace hm := if_t hm hb
        refine reg [] [] [4] [pl 4 (.bool false)] hF hS Fol (by kernel_rfl) (by kernel_rfl) (by kernel_rfl) ?_ (fun a w hF hS => ?_)
        · exact obs_nil
        refine wpIn_ret ?_
        refine then_r ?_
        have hS := hS.pickN 3 [] (by decide)
        have hm : some false = some r := hm
        obtain rfl := Option.some.inj hm
        exact retV (rs := [.tmp 4]) (vs := [.bool false]) hF rfl (rv_t (by kernel_rfl) <| rv_nil) rfl ⟨rfl, hS⟩
      · replace hm := if_f hm hb
        refine wpIn_skip ?_
        refine then_n ?_
        have hS := hS.pickN 3 [1, 2] (by decide)
        exact ⟨hF.weak [1, 2, 9, 10] (by kernel_rfl), hS, hm⟩
  · obtain ⟨r5, hr5, hm⟩ := call_b hm
    refine reg [⟨false, [], vS (Instr.loadAt 24 (.pointer (some ⟨g4, 0, none⟩))), .agg #[.int .i64 g1, .int .i64 g2, .slice A1 g3.length c1]⟩, ⟨false, [], callFunc 12 #[.agg #[.int .i64 g1, .int .i64 g2, .slice A1 g3.length c1]], .bool r5⟩] [some (.agg #[.int .i64 g1, .int .i64 g2, .slice A1 g3.length c1]), some (.bool r5), none] [1, 2, 5, 6, 7, 8, 9, 10, 29] [pl 1 (.int .i64 who1), pl 2 (.pointer (some ⟨g4, 0, none⟩)), pl 5 (.int .i64 r2.1), pl 6 (.int .i64 r2.2.1), pl 7 (.int .i64 r2.2.2.1), pl 8 (.int .i64 r2.2.2.2), pl 9 (.slice A4 r4.1.length c4), pl 10 (.int .i64 r4.2), pl 29 (.bool (!r5))] hF hS Fol (by kernel_rfl) (by kernel_rfl) (by kernel_rfl) ?_ (fun a w hF hS => ?_)
    · exact obs_cons (ob_loadA (cs := #[.int .i64 g1, .int .i64 g2, .slice A1 g3.length c1]) (by kernel_rfl) (by kernel_rfl) (fun _ _ hS => (hS.at_ 3 rfl).cellsAt 0 (by rfl))) <| obs_cons (ob_call Try.func12 (by kernel_rfl) rfl (fun _ _ hS => gameroomref_GridMay_w hr5 hS (fun _ hS => (hr_g3 _ (hS.dropN 4))) _hc_g3 rfl)) <| obs_nil
    refine cond_ev (t := 29) (b := !r5) hF (by kernel_rfl) (fun hb => ?_) (fun hb => ?_)
    · replace hm := if_t hm hb
      refine reg [] [] [4] [pl 4 (.bool ((((((r2.2.2.2 == 12) && (r4.2 == 12)) && (r2.1 == 0)) && (r2.2.1 == 0)) && (r2.2.2.1 == 0)) && ((r4.1.length : Int) == 0)))] hF hS Fol (by kernel_rfl) (by kernel_rfl) (by kernel_rfl) ?_ (fun a w hF hS => ?_)
      · exact obs_nil
      refine wpIn_ret ?_
      refine then_r ?_
      have hS := hS.pickN 4 [] (by decide)
      have hm : some ((((((r2.2.2.2 == 12) && (r4.2 == 12)) && (r2.1 == 0)) && (r2.2.1 == 0)) && (r2.2.2.1 == 0)) && ((r4.1.length : Int) == 0)) = some r := hm
      obtain rfl := Option.some.inj hm
      exact retV (rs := [.tmp 4]) (vs := [.bool ((((((r2.2.2.2 == 12) && (r4.2 == 12)) && (r2.1 == 0)) && (r2.2.1 == 0)) && (r2.2.2.1 == 0)) && ((r4.1.length : Int) == 0))]) hF rfl (rv_t (by kernel_rfl) <| rv_nil) rfl ⟨rfl, hS⟩
    · replace hm := if_f hm hb
      refine wpIn_skip ?_
      refine then_n ?_
      have hS := hS.pickN 4 [3, 0] (by decide)
      exact ⟨hF.weak [1, 2, 5, 6, 7, 8, 9, 10] (by kernel_rfl), hS, hm⟩

end Go.Proofs.Ytdjjomghggplpaa
