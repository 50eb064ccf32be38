/-
  Models and walks, printed by our own program (wip/gen).
-/
import Derived.Test.YtdbdcbejmbpbmaaDoorFB
import Derived.Test.YtdbdcbejmbpbmaaDoorLibD
import Derived.Test.YtdbdcbejmbpbmaaDoorLibBg
import Derived.Test.YtdbdcbejmbpbmaaDoorLibTr
import Derived.Test.YtdbdcbejmbpbmaaDoorSX
import Derived.Test.YtdbdcbejmbpbmaaDoorSIs
import Derived.Test.YtdbdcbejmbpbmaaDoorLibDs
import Derived.Test.YtdbdcbejmbpbmaaDoorLibUv
import Derived.Test.YtdbdcbejmbpbmaaDoorSV
import Derived.Test.YtdbdcbejmbpbmaaDoorLibIr
import Derived.Test.YtdbdcbejmbpbmaaDoorLibSu
import Derived.Test.YtdbdcbejmbpbmaaDoorFM
import Derived.Test.YtdbdcbejmbpbmaaDoorLibSt
import Derived.Test.YtdbdcbejmbpbmaaDoorLibAN
import Derived.Test.YtdbdcbejmbpbmaaDoorNWFa
namespace Go.Proofs.YtdbdcbejmbpbmaaDoor
open Go Go.GL Go.RowKit

noncomputable def gameroomref_SortedWords_m  (l1 : List (List UInt8)) : Option (List (List UInt8)) :=
  (loop (gameroomref_SortedWords_L1 l1) (([] : List (List UInt8)), 0)).bind gameroomref_SortedWords_K1

set_option maxRecDepth 100000 in
set_option maxHeartbeats 4000000 in
theorem gameroomref_SortedWords_w  {A1 : Option Addr} {c1 : Nat} {n1 : Nat} {l1 : List (List UInt8)} {r : (List (List UInt8))} {w0 w : World} {B : Nat} {fs : List HP} (hm : gameroomref_SortedWords_m l1 = some r) (hS : Sep w0 B w (fs)) (hr_l1 : RdF w0 B fs A1 ((List.map strV l1))) (_hc_l1 : l1.length ≤ c1) (_hn_l1 : n1 = l1.length) :
    Calls Tryd.prog 27 #[.slice A1 n1 c1] w fun e w' => ∃ v, e = .returned v ∧ ∃ (A8 : Option Addr) (c8 : Nat), v = .slice A8 r.length c8 ∧ Sep w0 B w' (own 9 (.slice A8 r.length c8) ((List.map strV r)) :: fs) := by
  obtain ⟨i9, hi9, hz9, hs9, hb9⟩ := info_parts Info9
  obtain rfl := _hn_l1
  unfold gameroomref_SortedWords_m at hm
  replace hm := start_b hm
  refine enter (l := [.slice A1 l1.length c1]) (n := 63) Tryd.func27 rfl rfl (by simp) (fun a hF => ?_)
  refine reg [] [] [0] [pl 0 (.slice A1 l1.length c1)] hF hS Fol (by kernel_rfl) (by kernel_rfl) (by kernel_rfl) ?_ (fun a w hF hS => ?_)
  · exact obs_nil
  refine reg [] [] [0, 3] [pl 0 (.slice A1 l1.length c1), pl 3 (.slice none 0 0)] hF hS Fol (by kernel_rfl) (by kernel_rfl) (by kernel_rfl) ?_ (fun a w hF hS => ?_)
  · exact obs_nil
  refine seq_cut (fun a w => ∃ (out2 : List (List UInt8)) (A3 : Option Addr) (c3 : Nat), Fr 63 [pl 3 (.slice A3 out2.length c3)] a ∧ Sep w0 B w (own 9 (.slice A3 out2.length c3) ((List.map strV out2)) :: fs) ∧ (gameroomref_SortedWords_J1 out2).bind some = some r) ?_ ?_
  · rintro a w ⟨out2, A3, c3, hF, hS, hm⟩
    unfold gameroomref_SortedWords_J1 at hm
    refine reg [] [] [2] [pl 2 (.slice A3 out2.length c3)] hF hS Fol (by kernel_rfl) (by kernel_rfl) (by kernel_rfl) ?_ (fun a w hF hS => ?_)
    · exact obs_nil
    refine wpIn_ret ?_
    have hm : some out2 = some r := hm
    obtain rfl := Option.some.inj hm
    exact retV (rs := [.tmp 2]) (vs := [.slice A3 out2.length c3]) hF rfl (rv_t (by kernel_rfl) <| rv_nil) rfl ⟨_, rfl, A3, c3, rfl, hS⟩
  · refine reg [] [] [0, 3, 4] [pl 0 (.slice A1 l1.length c1), pl 3 (.slice none 0 0), pl 4 (.int .i64 0)] hF hS Fol (by kernel_rfl) (by kernel_rfl) (by kernel_rfl) ?_ (fun a w hF hS => ?_)
    · exact obs_nil
    refine wpIn_block ?_
    have hS : Sep w0 B w (own 9 (.slice none 0 0) ((List.map strV ([] : List (List UInt8)))) :: fs) := hS.nil 9
    have hl1 := (hS.at_ 0 rfl).len1
    have hS := (hS.at_ 0 rfl).reN hl1
    have hS : Sep w0 B w (own 9 (.slice none (([] : List (List UInt8)).length) 0) ((List.map strV ([] : List (List UInt8)))) :: fs) := hS
    have hF := hF.cast (t := 3) (v := .slice none 0 0) (v' := .slice none (([] : List (List UInt8)).length) 0) rfl rfl (congrArg (fun k => Value.slice none k 0) hl1)
    refine wp_loop_model (S := (List (List UInt8) × Int)) (R := (List (List UInt8))) (gameroomref_SortedWords_L1 l1) (fun x => (gameroomref_SortedWords_K1 x).bind some) r (fun (x : (List (List UInt8) × Int)) a w => ∃ (A2 : Option Addr) (c2 : Nat), Fr 63 [pl 0 (.slice A1 l1.length c1), pl 3 (.slice A2 x.1.length c2), pl 4 (.int .i64 x.2)] a ∧ Sep w0 B w (own 9 (.slice A2 x.1.length c2) ((List.map strV x.1)) :: fs)) (assoc_b hm) ⟨none, 0, hF.weak [0, 3, 4] (by kernel_rfl), hS⟩ ?_
    clear hF hS hm
    rintro nn1 ⟨out1, i1⟩ a w ⟨A2, c2, hF, hS⟩ hm
    generalize hφ1 : stK (gameroomref_SortedWords_L1 l1) nn1 (fun x => (gameroomref_SortedWords_K1 x).bind some) = φ1 at hm
    unfold gameroomref_SortedWords_L1 at hm
    dsimp only at hF hS hm
    refine seq_cut (fun a w => Fr 63 [pl 0 (.slice A1 l1.length c1), pl 3 (.slice A2 out1.length c2), pl 4 (.int .i64 i1)] a ∧ Sep w0 B w (own 9 (.slice A2 out1.length c2) ((List.map strV out1)) :: fs) ∧ ((gameroomref_SortedWords_J2 l1 out1 i1)).bind φ1 = some r) ?_ ?_
    · rintro a w ⟨hF, hS, hm⟩
      unfold gameroomref_SortedWords_J2 at hm
      refine seq_cut (fun a w => ∃ (out3 : List (List UInt8)) (A4 : Option Addr) (c4 : Nat), Fr 63 [pl 0 (.slice A1 l1.length c1), pl 3 (.slice A4 out3.length c4), pl 4 (.int .i64 i1)] a ∧ Sep w0 B w (own 9 (.slice A4 out3.length c4) ((List.map strV out3)) :: fs) ∧ ((gameroomref_SortedWords_J3 i1) out3).bind φ1 = some r) ?_ ?_
      · rintro a w ⟨out3, A4, c4, hF, hS, hm⟩
        unfold gameroomref_SortedWords_J3 at hm
        refine reg1 [] [] [0, 3, 4] [pl 0 (.slice A1 l1.length c1), pl 3 (.slice A4 out3.length c4), pl 4 (.int .i64 (w64 (i1 + 1)))] hF hS Fol (by kernel_rfl) (by kernel_rfl) (by kernel_rfl) ?_ (fun a w hF hS => ?_)
        · exact obs_nil
        refine then_n ?_
        rw [← hφ1] at hm
        exact ⟨(out3, (w64 (i1 + 1))), ⟨A4, c4, hF.weak [0, 3, 4] (by kernel_rfl), hS⟩, hm⟩
      · refine wpIn_block ?_
        refine reg [] [] [0, 3, 4, 5] [pl 0 (.slice A1 l1.length c1), pl 3 (.slice A2 out1.length c2), pl 4 (.int .i64 i1), pl 5 (.int .i64 0)] hF hS Fol (by kernel_rfl) (by kernel_rfl) (by kernel_rfl) ?_ (fun a w hF hS => ?_)
        · exact obs_nil
        refine seq_cut (fun a w => ∃ (k2 : Int), Fr 63 [pl 0 (.slice A1 l1.length c1), pl 3 (.slice A2 out1.length c2), pl 4 (.int .i64 i1), pl 5 (.int .i64 k2)] a ∧ Sep w0 B w (own 9 (.slice A2 out1.length c2) ((List.map strV out1)) :: fs) ∧ ((gameroomref_SortedWords_J4 l1 out1 i1) k2).bind φ1 = some r) ?_ ?_
        · rintro a w ⟨k2, hF, hS, hm⟩
          unfold gameroomref_SortedWords_J4 at hm
          refine seq_cut (fun a w => Fr 63 [pl 0 (.slice A1 l1.length c1), pl 3 (.slice A2 out1.length c2), pl 4 (.int .i64 i1), pl 5 (.int .i64 k2)] a ∧ Sep w0 B w (own 9 (.slice A2 out1.length c2) ((List.map strV out1)) :: fs) ∧ ((gameroomref_SortedWords_J6 l1 out1 i1 k2)).bind φ1 = some r) ?_ ?_
          · rintro a w ⟨hF, hS, hm⟩
            unfold gameroomref_SortedWords_J6 at hm
            refine reg [] [] [0, 3, 4, 5, 6] [pl 0 (.slice A1 l1.length c1), pl 3 (.slice A2 out1.length c2), pl 4 (.int .i64 i1), pl 5 (.int .i64 k2), pl 6 (.slice none 0 0)] hF hS Fol (by kernel_rfl) (by kernel_rfl) (by kernel_rfl) ?_ (fun a w hF hS => ?_)
            · exact obs_nil
            refine seqR ?_
            obtain ⟨hp5, hm⟩ := asrt_b hm
            obtain ⟨hp6, hm⟩ := asrt_b hm
            refine at_run 4 [⟨true, [], vS (Instr.sliceAt 40 (.slice A2 out1.length c2) none (some (.int .i64 k2)) none), .slice (cutAddr A2 c2 (0 : Int)) ((cut out1 (0 : Int) k2).length) (c2 - Int.toNat (0 : Int))⟩] [none, none, none, some (.slice (cutAddr A2 c2 (0 : Int)) ((cut out1 (0 : Int) k2).length) (c2 - Int.toNat (0 : Int)))] [0, 3, 4, 5, 45, 48] [pl 0 (.slice A1 l1.length c1), pl 3 (.slice A2 out1.length c2), pl 4 (.int .i64 i1), pl 5 (.int .i64 k2), pl 45 (.slice none 0 0), pl 48 (.slice (cutAddr A2 c2 (0 : Int)) ((cut out1 (0 : Int) k2).length) (c2 - Int.toNat (0 : Int)))] hF hS (by kernel_rfl) (by kernel_rfl) ?_ (fun a w hF hS => ?_)
            · exact obs_cons (ob_cutn (l := out1) (k := .i64) (k' := .i64) Und40 hi9 hs9 rfl (.inr ⟨rfl, rfl⟩) (.inl rfl) (fun _ => hp5) ((hS.at_ 0 rfl).cap1)) <| obs_nil
            have hS : Sep w0 B w (own 9 (.slice none 0 0) ((List.map strV ([] : List (List UInt8)))) :: own 9 (.slice A2 out1.length c2) ((List.map strV out1)) :: fs) := hS.nil 9
            obtain ⟨A5, c5, w, hrun, hS⟩ := run_appG (P := Tryd.prog) (t := 40) (m := ([] : List (List UInt8))) (ys := (cut out1 (0 : Int) k2)) (A2 := (cutAddr A2 c2 (0 : Int))) (m2 := (cut out1 (0 : Int) k2).length) (c2 := (c2 - Int.toNat (0 : Int))) strV ([] : List UInt8) 8796093022208 (hS.at_ 0 rfl) (Rd.cutF (hS.at_ 1 rfl).rd hp5 ((hS.at_ 1 rfl).cap1)) rfl 40 Und40 hi9 hz9 hs9 (by rw [hb9]; decide) (by decide) rfl (fun _ => rfl) hp6
            have hS : Sep w0 B w (own 9 (.slice A5 (([] ++ (cut out1 (0 : Int) k2)).length) c5) ((List.map strV ([] ++ (cut out1 (0 : Int) k2)))) :: own 9 (.slice A2 out1.length c2) ((List.map strV out1)) :: fs) := hS
            refine at_do (d := 49) hF (by kernel_rfl) (by kernel_rfl) hrun (fun a hF => ?_)
            refine at_run 1 [] [] [0, 3, 4, 5, 6] [pl 0 (.slice A1 l1.length c1), pl 3 (.slice A2 out1.length c2), pl 4 (.int .i64 i1), pl 5 (.int .i64 k2), pl 6 (.slice A5 (([] ++ (cut out1 (0 : Int) k2)).length) c5)] hF hS (by kernel_rfl) (by kernel_rfl) ?_ (fun a w hF hS => ?_)
            · exact obs_nil
            refine at_end [0, 3, 4, 5, 6] [pl 0 (.slice A1 l1.length c1), pl 3 (.slice A2 out1.length c2), pl 4 (.int .i64 i1), pl 5 (.int .i64 k2), pl 6 (.slice A5 (([] ++ (cut out1 (0 : Int) k2)).length) c5)] hF rfl (by kernel_rfl) (fun hF => ?_)
            refine then_n ?_
            refine seqR ?_
            obtain ⟨hp7, hm⟩ := asrt_b hm
            obtain ⟨hp8, hm⟩ := asrt_b hm
            refine at_run 5 [⟨true, [], vS (Instr.indexAt 40 (.slice A1 l1.length c1) (.int .i64 i1)), .pointer (some (sAddr A1 i1))⟩, ⟨false, [], vS (Instr.loadAt 9 (.pointer (some (sAddr A1 i1)))), strV (getd ([] : List UInt8) l1 i1)⟩] [none, none, none, some (.pointer (some (sAddr A1 i1))), some (strV (getd ([] : List UInt8) l1 i1))] [0, 3, 4, 5, 50, 54] [pl 0 (.slice A1 l1.length c1), pl 3 (.slice A2 out1.length c2), pl 4 (.int .i64 i1), pl 5 (.int .i64 k2), pl 50 (.slice A5 (([] ++ (cut out1 (0 : Int) k2)).length) c5), pl 54 (strV (getd ([] : List UInt8) l1 i1))] hF hS (by kernel_rfl) (by kernel_rfl) ?_ (fun a w hF hS => ?_)
            · exact obs_cons (ob_ix1 (f := strV) (m := l1) Und40 hi9 hs9 (hr_l1 _ (hS.dropN 2)) rfl (fun _ => hp7)) <| obs_cons (ob_get1 (n := l1.length) (m := l1) strV ([] : List UInt8) Agg9 (fun _ hS => ⟨_, (hr_l1 _ (hS.dropN 2))⟩) (fun _ hS => rfl) (fun _ => hp7)) <| obs_nil
            refine at_do (d := 55) (s := vS (Instr.buildSlice 40 1 #[(0, strV (getd ([] : List UInt8) l1 i1))])) (v := .slice (some ⟨w.heap.size, 0, none⟩) 1 1) (w' := w.alloc (.cells #[strV (getd ([] : List UInt8) l1 i1)] 9)) hF (by kernel_rfl) (by kernel_rfl) (by kernel_rfl) (fun a hF => ?_)
            have hS : Sep w0 B (w.alloc (.cells #[strV (getd ([] : List UInt8) l1 i1)] 9)) (own 9 (.slice (some (⟨w.heap.size, 0, none⟩ : Addr)) 1 1) ((List.map strV ([getd ([] : List UInt8) l1 i1] : List (List UInt8)))) :: (own 9 (.slice A5 (([] ++ (cut out1 (0 : Int) k2)).length) c5) ((List.map strV ([] ++ (cut out1 (0 : Int) k2)))) :: own 9 (.slice A2 out1.length c2) ((List.map strV out1)) :: fs)) := hS.lit 9 #[strV (getd ([] : List UInt8) l1 i1)] 1 rfl (by omega)
            generalize (some (⟨w.heap.size, 0, none⟩ : Addr)) = g1 at hF hS
            generalize w.alloc (.cells #[strV (getd ([] : List UInt8) l1 i1)] 9) = w at hS ⊢
            obtain ⟨A6, c6, w, hrun, hS⟩ := run_appG (P := Tryd.prog) (t := 40) (m := ([] ++ (cut out1 (0 : Int) k2))) (ys := ([getd ([] : List UInt8) l1 i1] : List (List UInt8))) (A2 := g1) (m2 := 1) (c2 := 1) strV ([] : List UInt8) 8796093022208 (hS.at_ 1 rfl) (hS.at_ 0 rfl).rd ((hS.at_ 0 rfl).len1) 40 Und40 hi9 hz9 hs9 (by rw [hb9]; decide) (by decide) rfl (fun _ => rfl) hp8
            have hS : Sep w0 B w (own 9 (.slice g1 1 1) ((List.map strV ([getd ([] : List UInt8) l1 i1] : List (List UInt8)))) :: own 9 (.slice A6 ((([] ++ (cut out1 (0 : Int) k2)) ++ ([getd ([] : List UInt8) l1 i1] : List (List UInt8))).length) c6) ((List.map strV (([] ++ (cut out1 (0 : Int) k2)) ++ ([getd ([] : List UInt8) l1 i1] : List (List UInt8))))) :: own 9 (.slice A2 out1.length c2) ((List.map strV out1)) :: fs) := hS
            refine at_do (d := 56) hF (by kernel_rfl) (by kernel_rfl) hrun (fun a hF => ?_)
            refine at_run 1 [] [] [0, 3, 4, 5, 6] [pl 0 (.slice A1 l1.length c1), pl 3 (.slice A2 out1.length c2), pl 4 (.int .i64 i1), pl 5 (.int .i64 k2), pl 6 (.slice A6 ((([] ++ (cut out1 (0 : Int) k2)) ++ ([getd ([] : List UInt8) l1 i1] : List (List UInt8))).length) c6)] hF hS (by kernel_rfl) (by kernel_rfl) ?_ (fun a w hF hS => ?_)
            · exact obs_nil
            refine at_end [0, 3, 4, 5, 6] [pl 0 (.slice A1 l1.length c1), pl 3 (.slice A2 out1.length c2), pl 4 (.int .i64 i1), pl 5 (.int .i64 k2), pl 6 (.slice A6 ((([] ++ (cut out1 (0 : Int) k2)) ++ ([getd ([] : List UInt8) l1 i1] : List (List UInt8))).length) c6)] hF rfl (by kernel_rfl) (fun hF => ?_)
            refine then_n ?_
            refine oneR ?_
            obtain ⟨hp9, hm⟩ := asrt_b hm
            obtain ⟨hp10, hm⟩ := asrt_b hm
            refine at_run 4 [⟨true, [], vS (Instr.sliceAt 40 (.slice A2 out1.length c2) (some (.int .i64 k2)) none none), .slice (cutAddr A2 c2 k2) ((cut out1 k2 (out1.length : Int)).length) (c2 - Int.toNat k2)⟩] [none, none, none, some (.slice (cutAddr A2 c2 k2) ((cut out1 k2 (out1.length : Int)).length) (c2 - Int.toNat k2))] [0, 4, 57, 60] [pl 0 (.slice A1 l1.length c1), pl 4 (.int .i64 i1), pl 57 (.slice A6 ((([] ++ (cut out1 (0 : Int) k2)) ++ ([getd ([] : List UInt8) l1 i1] : List (List UInt8))).length) c6), pl 60 (.slice (cutAddr A2 c2 k2) ((cut out1 k2 (out1.length : Int)).length) (c2 - Int.toNat k2))] hF hS (by kernel_rfl) (by kernel_rfl) ?_ (fun a w hF hS => ?_)
            · exact obs_cons (ob_cutn (l := out1) (k := .i64) (k' := .i64) Und40 hi9 hs9 rfl (.inl rfl) (.inr ⟨rfl, rfl⟩) (fun _ => hp9) ((hS.at_ 2 rfl).cap1)) <| obs_nil
            obtain ⟨A7, c7, w, hrun, hS⟩ := run_appG (P := Tryd.prog) (t := 40) (m := (([] ++ (cut out1 (0 : Int) k2)) ++ ([getd ([] : List UInt8) l1 i1] : List (List UInt8)))) (ys := (cut out1 k2 (out1.length : Int))) (A2 := (cutAddr A2 c2 k2)) (m2 := (cut out1 k2 (out1.length : Int)).length) (c2 := (c2 - Int.toNat k2)) strV ([] : List UInt8) 8796093022208 (hS.at_ 1 rfl) (Rd.cutF (hS.at_ 2 rfl).rd hp9 ((hS.at_ 2 rfl).cap1)) rfl 40 Und40 hi9 hz9 hs9 (by rw [hb9]; decide) (by decide) rfl (fun _ => rfl) hp10
            have hS : Sep w0 B w (own 9 (.slice g1 1 1) ((List.map strV ([getd ([] : List UInt8) l1 i1] : List (List UInt8)))) :: own 9 (.slice A7 (((([] ++ (cut out1 (0 : Int) k2)) ++ ([getd ([] : List UInt8) l1 i1] : List (List UInt8))) ++ (cut out1 k2 (out1.length : Int))).length) c7) ((List.map strV ((([] ++ (cut out1 (0 : Int) k2)) ++ ([getd ([] : List UInt8) l1 i1] : List (List UInt8))) ++ (cut out1 k2 (out1.length : Int))))) :: own 9 (.slice A2 out1.length c2) ((List.map strV out1)) :: fs) := hS
            refine at_do (d := 61) hF (by kernel_rfl) (by kernel_rfl) hrun (fun a hF => ?_)
            refine at_run 1 [] [] [0, 3, 4] [pl 0 (.slice A1 l1.length c1), pl 3 (.slice A7 (((([] ++ (cut out1 (0 : Int) k2)) ++ ([getd ([] : List UInt8) l1 i1] : List (List UInt8))) ++ (cut out1 k2 (out1.length : Int))).length) c7), pl 4 (.int .i64 i1)] hF hS (by kernel_rfl) (by kernel_rfl) ?_ (fun a w hF hS => ?_)
            · exact obs_nil
            refine at_end [0, 3, 4] [pl 0 (.slice A1 l1.length c1), pl 3 (.slice A7 (((([] ++ (cut out1 (0 : Int) k2)) ++ ([getd ([] : List UInt8) l1 i1] : List (List UInt8))) ++ (cut out1 k2 (out1.length : Int))).length) c7), pl 4 (.int .i64 i1)] hF rfl (by kernel_rfl) (fun hF => ?_)
            refine block_n ?_
            refine then_n ?_
            have hS := hS.pickN 3 [1] (by decide)
            exact ⟨((([] ++ (cut out1 (0 : Int) k2)) ++ ([getd ([] : List UInt8) l1 i1] : List (List UInt8))) ++ (cut out1 k2 (out1.length : Int))), A7, c7, hF.weak [0, 3, 4] (by kernel_rfl), hS, hm⟩
          · obtain ⟨hp3, hm⟩ := asrt_b hm
            obtain ⟨hp4, hm⟩ := asrt_b hm
            refine reg [⟨true, [(decide (k2 < (out1.length : Int)), true)], vS (Instr.indexAt 40 (.slice A2 out1.length c2) (.int .i64 k2)), .pointer (some (sAddr A2 k2))⟩, ⟨false, [(decide (k2 < (out1.length : Int)), true)], vS (Instr.loadAt 9 (.pointer (some (sAddr A2 k2)))), strV (getd ([] : List UInt8) out1 k2)⟩, ⟨true, [(decide (k2 < (out1.length : Int)), true)], vS (Instr.indexAt 40 (.slice A1 l1.length c1) (.int .i64 i1)), .pointer (some (sAddr A1 i1))⟩, ⟨false, [(decide (k2 < (out1.length : Int)), true)], vS (Instr.loadAt 9 (.pointer (some (sAddr A1 i1)))), strV (getd ([] : List UInt8) l1 i1)⟩, ⟨true, [(decide (k2 < (out1.length : Int)), true)], vS (do eqGuard .eql 9 (.tmp 38) (.tmp 42) (strV (getd ([] : List UInt8) out1 k2)) (strV (getd ([] : List UInt8) l1 i1)); binOp .eql 9 (strV (getd ([] : List UInt8) out1 k2)) (strV (getd ([] : List UInt8) l1 i1))), .bool (((getd ([] : List UInt8) out1 k2) == (getd ([] : List UInt8) l1 i1)))⟩] [none, none, none, none, none, none, none, some (.pointer (some (sAddr A2 k2))), some (strV (getd ([] : List UInt8) out1 k2)), none, none, some (.pointer (some (sAddr A1 i1))), some (strV (getd ([] : List UInt8) l1 i1)), some (.bool (((getd ([] : List UInt8) out1 k2) == (getd ([] : List UInt8) l1 i1)))), none] [0, 3, 4, 5, 44] [pl 0 (.slice A1 l1.length c1), pl 3 (.slice A2 out1.length c2), pl 4 (.int .i64 i1), pl 5 (.int .i64 k2), pl 44 (.bool ((decide (k2 < (out1.length : Int))) && ((getd ([] : List UInt8) out1 k2) == (getd ([] : List UInt8) l1 i1))))] hF hS Fol (by kernel_rfl) (by kernel_rfl) (by kernel_rfl) ?_ (fun a w hF hS => ?_)
            · exact obs_cons (ob_ix1 (f := strV) (m := out1) Und40 hi9 hs9 (hS.at_ 0 rfl).rd rfl (fun hy => hp3 (hy (decide (k2 < (out1.length : Int)), true) (by simp)))) <| obs_cons (ob_get1 (n := out1.length) (m := out1) strV ([] : List UInt8) Agg9 (fun _ hS => ⟨_, (hS.at_ 0 rfl).rd⟩) (fun _ hS => rfl) (fun hy => hp3 (hy (decide (k2 < (out1.length : Int)), true) (by simp)))) <| obs_cons (ob_ix1 (f := strV) (m := l1) Und40 hi9 hs9 (hr_l1 _ (hS.dropN 1)) rfl (fun hy => hp4 (hy (decide (k2 < (out1.length : Int)), true) (by simp)))) <| obs_cons (ob_get1 (n := l1.length) (m := l1) strV ([] : List UInt8) Agg9 (fun _ hS => ⟨_, (hr_l1 _ (hS.dropN 1))⟩) (fun _ hS => rfl) (fun hy => hp4 (hy (decide (k2 < (out1.length : Int)), true) (by simp)))) <| obs_cons (ob_seql _ _) <| obs_nil
            refine cond_ev (t := 44) (b := (decide (k2 < (out1.length : Int))) && ((getd ([] : List UInt8) out1 k2) == (getd ([] : List UInt8) l1 i1))) hF (by kernel_rfl) (fun hb => ?_) (fun hb => ?_)
            · replace hm := if_t hm hb
              refine wpIn_exit ?_
              refine then_e (block_e (then_n ?_))
              exact ⟨out1, A2, c2, hF.weak [0, 3, 4] (by kernel_rfl), hS, hm⟩
            · replace hm := if_f hm hb
              refine wpIn_skip ?_
              refine then_n ?_
              exact ⟨hF.weak [0, 3, 4, 5] (by kernel_rfl), hS, hm⟩
        · refine wpIn_block ?_
          refine wp_loop_model (S := Int) (R := Int) (gameroomref_SortedWords_L2 l1 out1 i1) (fun x => ((gameroomref_SortedWords_K2 l1 out1 i1) x).bind φ1) r (fun (x : Int) a w => Fr 63 [pl 0 (.slice A1 l1.length c1), pl 3 (.slice A2 out1.length c2), pl 4 (.int .i64 i1), pl 5 (.int .i64 x)] a ∧ Sep w0 B w (own 9 (.slice A2 out1.length c2) ((List.map strV out1)) :: fs)) (assoc_b hm) ⟨hF.weak [0, 3, 4, 5] (by kernel_rfl), hS⟩ ?_
          clear hF hS hm
          rintro nn2 k1 a w ⟨hF, hS⟩ hm
          generalize hφ2 : stK (gameroomref_SortedWords_L2 l1 out1 i1) nn2 (fun x => ((gameroomref_SortedWords_K2 l1 out1 i1) x).bind φ1) = φ2 at hm
          unfold gameroomref_SortedWords_L2 at hm
          dsimp only at hm
          refine seq_cut (fun a w => Fr 63 [pl 0 (.slice A1 l1.length c1), pl 3 (.slice A2 out1.length c2), pl 4 (.int .i64 i1), pl 5 (.int .i64 k1)] a ∧ Sep w0 B w (own 9 (.slice A2 out1.length c2) ((List.map strV out1)) :: fs) ∧ ((gameroomref_SortedWords_J5 k1)).bind φ2 = some r) ?_ ?_
          · rintro a w ⟨hF, hS, hm⟩
            unfold gameroomref_SortedWords_J5 at hm
            refine wpIn_block ?_
            refine reg1 [] [] [0, 3, 4, 5] [pl 0 (.slice A1 l1.length c1), pl 3 (.slice A2 out1.length c2), pl 4 (.int .i64 i1), pl 5 (.int .i64 (w64 (k1 + 1)))] hF hS Fol (by kernel_rfl) (by kernel_rfl) (by kernel_rfl) ?_ (fun a w hF hS => ?_)
            · exact obs_nil
            refine block_n ?_
            refine then_n ?_
            rw [← hφ2] at hm
            exact ⟨(w64 (k1 + 1)), ⟨hF.weak [0, 3, 4, 5] (by kernel_rfl), hS⟩, hm⟩
          · obtain ⟨hp1, hm⟩ := asrt_b hm
            obtain ⟨hp2, hm⟩ := asrt_b hm
            refine reg [⟨true, [(decide (k1 < (out1.length : Int)), true)], vS (Instr.indexAt 40 (.slice A2 out1.length c2) (.int .i64 k1)), .pointer (some (sAddr A2 k1))⟩, ⟨false, [(decide (k1 < (out1.length : Int)), true)], vS (Instr.loadAt 9 (.pointer (some (sAddr A2 k1)))), strV (getd ([] : List UInt8) out1 k1)⟩, ⟨true, [(decide (k1 < (out1.length : Int)), true)], vS (Instr.indexAt 40 (.slice A1 l1.length c1) (.int .i64 i1)), .pointer (some (sAddr A1 i1))⟩, ⟨false, [(decide (k1 < (out1.length : Int)), true)], vS (Instr.loadAt 9 (.pointer (some (sAddr A1 i1)))), strV (getd ([] : List UInt8) l1 i1)⟩, ⟨true, [(decide (k1 < (out1.length : Int)), true)], vS (do eqGuard .lss 9 (.tmp 21) (.tmp 25) (strV (getd ([] : List UInt8) out1 k1)) (strV (getd ([] : List UInt8) l1 i1)); binOp .lss 9 (strV (getd ([] : List UInt8) out1 k1)) (strV (getd ([] : List UInt8) l1 i1))), .bool (Op.bytesLess (getd ([] : List UInt8) out1 k1) (getd ([] : List UInt8) l1 i1))⟩] [none, none, none, none, none, none, none, some (.pointer (some (sAddr A2 k1))), some (strV (getd ([] : List UInt8) out1 k1)), none, none, some (.pointer (some (sAddr A1 i1))), some (strV (getd ([] : List UInt8) l1 i1)), some (.bool (Op.bytesLess (getd ([] : List UInt8) out1 k1) (getd ([] : List UInt8) l1 i1))), none] [0, 3, 4, 5, 27] [pl 0 (.slice A1 l1.length c1), pl 3 (.slice A2 out1.length c2), pl 4 (.int .i64 i1), pl 5 (.int .i64 k1), pl 27 (.bool ((decide (k1 < (out1.length : Int))) && (Op.bytesLess (getd ([] : List UInt8) out1 k1) (getd ([] : List UInt8) l1 i1))))] hF hS Fol (by kernel_rfl) (by kernel_rfl) (by kernel_rfl) ?_ (fun a w hF hS => ?_)
            · exact obs_cons (ob_ix1 (f := strV) (m := out1) Und40 hi9 hs9 (hS.at_ 0 rfl).rd rfl (fun hy => hp1 (hy (decide (k1 < (out1.length : Int)), true) (by simp)))) <| obs_cons (ob_get1 (n := out1.length) (m := out1) strV ([] : List UInt8) Agg9 (fun _ hS => ⟨_, (hS.at_ 0 rfl).rd⟩) (fun _ hS => rfl) (fun hy => hp1 (hy (decide (k1 < (out1.length : Int)), true) (by simp)))) <| obs_cons (ob_ix1 (f := strV) (m := l1) Und40 hi9 hs9 (hr_l1 _ (hS.dropN 1)) rfl (fun hy => hp2 (hy (decide (k1 < (out1.length : Int)), true) (by simp)))) <| obs_cons (ob_get1 (n := l1.length) (m := l1) strV ([] : List UInt8) Agg9 (fun _ hS => ⟨_, (hr_l1 _ (hS.dropN 1))⟩) (fun _ hS => rfl) (fun hy => hp2 (hy (decide (k1 < (out1.length : Int)), true) (by simp)))) <| obs_cons (ob_slss _ _) <| obs_nil
            refine cond_ev (t := 27) (b := (decide (k1 < (out1.length : Int))) && (Op.bytesLess (getd ([] : List UInt8) out1 k1) (getd ([] : List UInt8) l1 i1))) hF (by kernel_rfl) (fun hb => ?_) (fun hb => ?_)
            · replace hm := if_t hm hb
              refine wpIn_skip ?_
              refine then_n ?_
              exact ⟨hF.weak [0, 3, 4, 5] (by kernel_rfl), hS, hm⟩
            · replace hm := if_f hm hb
              refine wpIn_exit ?_
              refine then_e (then_e (block_e (then_n ?_)))
              rw [← hφ2] at hm
              replace hm := done_b hm
              unfold gameroomref_SortedWords_K2 at hm
              try dsimp only at hm
              have hm : ((gameroomref_SortedWords_J4 l1 out1 i1) k1).bind φ1 = some r := hm
              exact ⟨k1, hF.weak [0, 3, 4, 5] (by kernel_rfl), hS, hm⟩
    · refine reg [] [] [0, 3, 4, 10] [pl 0 (.slice A1 l1.length c1), pl 3 (.slice A2 out1.length c2), pl 4 (.int .i64 i1), pl 10 (.bool (decide (i1 < (l1.length : Int))))] hF hS Fol (by kernel_rfl) (by kernel_rfl) (by kernel_rfl) ?_ (fun a w hF hS => ?_)
      · exact obs_nil
      refine cond_ev (t := 10) (b := decide (i1 < (l1.length : Int))) hF (by kernel_rfl) (fun hb => ?_) (fun hb => ?_)
      · replace hm := if_t hm hb
        refine wpIn_skip ?_
        refine then_n ?_
        exact ⟨hF.weak [0, 3, 4] (by kernel_rfl), hS, hm⟩
      · replace hm := if_f hm hb
        refine wpIn_exit ?_
        refine then_e (then_e (block_e (then_n ?_)))
        rw [← hφ1] at hm
        replace hm := done_b hm
        unfold gameroomref_SortedWords_K1 at hm
        try dsimp only at hm
        have hm : (gameroomref_SortedWords_J1 out1).bind some = some r := hm
        exact ⟨out1, A2, c2, hF.weak [3] (by kernel_rfl), hS, hm⟩

noncomputable def gameroomref_HintOf_J3  (r1 : (List (List UInt8) × Bool)) (r2 : (List (List UInt8) × Bool)) (told1 : List Bool) (i1 : Int) : Option (St (List Bool × Int) (List Bool)) :=
  some (.next ((told1.set (Int.toNat i1) ((getd ([] : List UInt8) r1.1 i1) == (getd ([] : List UInt8) r2.1 i1))), (w64 (i1 + 1))))

noncomputable def gameroomref_HintOf_J2  (r1 : (List (List UInt8) × Bool)) (r2 : (List (List UInt8) × Bool)) (told1 : List Bool) (i1 : Int) : Option (St (List Bool × Int) (List Bool)) :=
  asrt (0 ≤ i1 ∧ i1 < (r1.1.length : Int)) <| asrt (0 ≤ i1 ∧ i1 < (r2.1.length : Int)) <| asrt (0 ≤ i1 ∧ i1 < (((Int.toNat (r1.1.length : Int)) : Nat) : Int)) <| (gameroomref_HintOf_J3 r1 r2 told1 i1)

noncomputable def gameroomref_HintOf_J10  (k1 : Int) (told6 : List Bool) (sign4 : List UInt8) : Option (St (List Bool × List UInt8 × Int) (List Bool × List UInt8)) :=
  some (.next (told6, sign4, (w64 (k1 + 1))))

noncomputable def gameroomref_HintOf_J9  (r1 : (List (List UInt8) × Bool)) (r2 : (List (List UInt8) × Bool)) (i2 : Int) (told4 : List Bool) (sign2 : List UInt8) (k1 : Int) : Option (St (List Bool × List UInt8 × Int) (List Bool × List UInt8)) :=
  asrt (0 ≤ k1 ∧ k1 < (((Int.toNat (r1.1.length : Int)) : Nat) : Int)) <| asrt ((!(getb told4 k1)) = true → 0 ≤ k1 ∧ k1 < (r1.1.length : Int)) <| asrt ((!(getb told4 k1)) = true → 0 ≤ i2 ∧ i2 < (r2.1.length : Int)) <| if ((!(getb told4 k1)) && ((getd ([] : List UInt8) r1.1 k1) == (getd ([] : List UInt8) r2.1 i2))) then (asrt (0 ≤ k1 ∧ k1 < (((Int.toNat (r1.1.length : Int)) : Nat) : Int)) <| (gameroomref_HintOf_J10 k1) (told4.set (Int.toNat k1) true) ([121] : List UInt8)) else ((gameroomref_HintOf_J10 k1) told4 sign2)

noncomputable def gameroomref_HintOf_L3  (r1 : (List (List UInt8) × Bool)) (r2 : (List (List UInt8) × Bool)) (i2 : Int) : (List Bool × List UInt8 × Int) → Option (St (List Bool × List UInt8 × Int) (List Bool × List UInt8)) :=
  fun (x : (List Bool × List UInt8 × Int)) => match x with | (told4, sign2, k1) => if ((decide (k1 < (r1.1.length : Int))) && (sign2 == ([46] : List UInt8))) then ((gameroomref_HintOf_J9 r1 r2 i2 told4 sign2 k1)) else (some (.done (told4, sign2)))

noncomputable def gameroomref_HintOf_J6  (i2 : Int) (told7 : List Bool) (s3 : List UInt8) : Option (St (List Bool × List UInt8 × Int) (List UInt8)) :=
  some (.next (told7, s3, (w64 (i2 + 1))))

noncomputable def gameroomref_HintOf_J8  (s1 : List UInt8) (i2 : Int) (told5 : List Bool) (sign3 : List UInt8) : Option (St (List Bool × List UInt8 × Int) (List UInt8)) :=
  asrt ((s1.length : Int) + sign3.length ≤ bigN) <| (gameroomref_HintOf_J6 i2) told5 (s1 ++ sign3)

noncomputable def gameroomref_HintOf_K3  (s1 : List UInt8) (i2 : Int) : (List Bool × List UInt8) → Option (St (List Bool × List UInt8 × Int) (List UInt8)) :=
  fun (x : (List Bool × List UInt8)) => match x with | (told5, sign3) => (gameroomref_HintOf_J8 s1 i2) told5 sign3

noncomputable def gameroomref_HintOf_J7  (r1 : (List (List UInt8) × Bool)) (r2 : (List (List UInt8) × Bool)) (told3 : List Bool) (s1 : List UInt8) (i2 : Int) (sign1 : List UInt8) : Option (St (List Bool × List UInt8 × Int) (List UInt8)) :=
  (loop (gameroomref_HintOf_L3 r1 r2 i2) (told3, sign1, 0)).bind (gameroomref_HintOf_K3 s1 i2)

noncomputable def gameroomref_HintOf_J5  (r1 : (List (List UInt8) × Bool)) (r2 : (List (List UInt8) × Bool)) (told3 : List Bool) (s1 : List UInt8) (i2 : Int) : Option (St (List Bool × List UInt8 × Int) (List UInt8)) :=
  asrt (0 ≤ i2 ∧ i2 < (r1.1.length : Int)) <| asrt (0 ≤ i2 ∧ i2 < (r2.1.length : Int)) <| if ((getd ([] : List UInt8) r1.1 i2) == (getd ([] : List UInt8) r2.1 i2)) then ((gameroomref_HintOf_J7 r1 r2 told3 s1 i2) ([103] : List UInt8)) else ((gameroomref_HintOf_J7 r1 r2 told3 s1 i2) ([46] : List UInt8))

noncomputable def gameroomref_HintOf_L2  (r1 : (List (List UInt8) × Bool)) (r2 : (List (List UInt8) × Bool)) : (List Bool × List UInt8 × Int) → Option (St (List Bool × List UInt8 × Int) (List UInt8)) :=
  fun (x : (List Bool × List UInt8 × Int)) => match x with | (told3, s1, i2) => if (decide (i2 < (r2.1.length : Int))) then ((gameroomref_HintOf_J5 r1 r2 told3 s1 i2)) else (some (.done s1))

noncomputable def gameroomref_HintOf_J4  (s2 : List UInt8) : Option (List UInt8) :=
  some s2

noncomputable def gameroomref_HintOf_K2  : (List UInt8) → Option (List UInt8) :=
  fun (x : (List UInt8)) => match x with | s2 => gameroomref_HintOf_J4 s2

noncomputable def gameroomref_HintOf_J1  (r1 : (List (List UInt8) × Bool)) (r2 : (List (List UInt8) × Bool)) (told2 : List Bool) : Option (List UInt8) :=
  (loop (gameroomref_HintOf_L2 r1 r2) (told2, ([] : List UInt8), 0)).bind gameroomref_HintOf_K2

noncomputable def gameroomref_HintOf_K1  (r1 : (List (List UInt8) × Bool)) (r2 : (List (List UInt8) × Bool)) : (List Bool) → Option (List UInt8) :=
  fun (x : (List Bool)) => match x with | told2 => (gameroomref_HintOf_J1 r1 r2) told2

noncomputable def gameroomref_HintOf_L1  (r1 : (List (List UInt8) × Bool)) (r2 : (List (List UInt8) × Bool)) : (List Bool × Int) → Option (St (List Bool × Int) (List Bool)) :=
  fun (x : (List Bool × Int)) => match x with | (told1, i1) => if (decide (i1 < (r1.1.length : Int))) then ((gameroomref_HintOf_J2 r1 r2 told1 i1)) else (some (.done told1))

noncomputable def gameroomref_HintOf_m  (secret1 : List UInt8) (guess1 : List UInt8) : Option (List UInt8) :=
  (gameroomref_lettersOf_m secret1 false).bind fun r1 => (gameroomref_lettersOf_m guess1 false).bind fun r2 => asrt ((0 : Int) ≤ (r1.1.length : Int) ∧ (r1.1.length : Int) ≤ bigN) <| (loop (gameroomref_HintOf_L1 r1 r2) ((List.replicate (Int.toNat (r1.1.length : Int)) false), 0)).bind (gameroomref_HintOf_K1 r1 r2)

set_option maxRecDepth 100000 in
set_option maxHeartbeats 4000000 in
theorem gameroomref_HintOf_w  {secret1 : List UInt8} {guess1 : List UInt8} {r : (List UInt8)} {w0 w : World} {B : Nat} {fs : List HP} (hm : gameroomref_HintOf_m secret1 guess1 = some r) (hS : Sep w0 B w (fs)) :
    Calls Tryd.prog 15 #[strV secret1, strV guess1] w fun e w' => e = .returned (strV r) ∧ Sep w0 B w' (fs) := by
  obtain ⟨i4, hi4, hz4, hs4, hb4⟩ := info_parts Info4
  obtain ⟨i9, hi9, hz9, hs9, hb9⟩ := info_parts Info9
  unfold gameroomref_HintOf_m at hm
  replace hm := start_b hm
  refine enter (l := [strV secret1, strV guess1]) (n := 94) Tryd.func15 rfl rfl (by simp) (fun a hF => ?_)
  refine reg [] [] [0, 1] [pl 0 (strV secret1), pl 1 (strV guess1)] hF hS Fol (by kernel_rfl) (by kernel_rfl) (by kernel_rfl) ?_ (fun a w hF hS => ?_)
  · exact obs_nil
  refine seqR ?_
  obtain ⟨r1, hr1, hm⟩ := call_b hm
  refine at_run 1 [] [] [1, 16] [pl 1 (strV guess1), pl 16 (strV secret1)] hF hS (by kernel_rfl) (by kernel_rfl) ?_ (fun a w hF hS => ?_)
  · exact obs_nil
  refine at_call (f := 52) (args := #[strV secret1, .bool false]) (d := 17) hF (by kernel_rfl) (by kernel_rfl) Tryd.func52 (by kernel_rfl) rfl (gameroomref_lettersOf_w hr1 hS ) (fun v a w hR hF => ?_)
  clear hS
  obtain ⟨A1, c1, rfl, hS⟩ := hR
  have hS : Sep w0 B w (own 9 (.slice A1 r1.1.length c1) ((List.map strV r1.1)) :: fs) := hS
  refine at_run 5 [] [] [1, 5] [pl 1 (strV guess1), pl 5 (.slice A1 r1.1.length c1)] hF hS (by kernel_rfl) (by kernel_rfl) ?_ (fun a w hF hS => ?_)
  · exact obs_nil
  refine at_end [1, 5] [pl 1 (strV guess1), pl 5 (.slice A1 r1.1.length c1)] hF rfl (by kernel_rfl) (fun hF => ?_)
  refine then_n ?_
  refine seqR ?_
  obtain ⟨r2, hr2, hm⟩ := call_b hm
  refine at_run 1 [] [] [5, 21] [pl 5 (.slice A1 r1.1.length c1), pl 21 (strV guess1)] hF hS (by kernel_rfl) (by kernel_rfl) ?_ (fun a w hF hS => ?_)
  · exact obs_nil
  refine at_call (f := 52) (args := #[strV guess1, .bool false]) (d := 22) hF (by kernel_rfl) (by kernel_rfl) Tryd.func52 (by kernel_rfl) rfl (gameroomref_lettersOf_w hr2 hS ) (fun v a w hR hF => ?_)
  clear hS
  obtain ⟨A2, c2, rfl, hS⟩ := hR
  have hS : Sep w0 B w (own 9 (.slice A2 r2.1.length c2) ((List.map strV r2.1)) :: own 9 (.slice A1 r1.1.length c1) ((List.map strV r1.1)) :: fs) := hS
  refine at_run 5 [] [] [5, 7] [pl 5 (.slice A1 r1.1.length c1), pl 7 (.slice A2 r2.1.length c2)] hF hS (by kernel_rfl) (by kernel_rfl) ?_ (fun a w hF hS => ?_)
  · exact obs_nil
  refine at_end [5, 7] [pl 5 (.slice A1 r1.1.length c1), pl 7 (.slice A2 r2.1.length c2)] hF rfl (by kernel_rfl) (fun hF => ?_)
  refine then_n ?_
  refine seqR ?_
  obtain ⟨hp1, hm⟩ := asrt_b hm
  refine at_run 2 [] [] [5, 7, 26] [pl 5 (.slice A1 r1.1.length c1), pl 7 (.slice A2 r2.1.length c2), pl 26 (.int .i64 (r1.1.length : Int))] hF hS (by kernel_rfl) (by kernel_rfl) ?_ (fun a w hF hS => ?_)
  · exact obs_nil
  obtain ⟨A3, c3, w, hrun, hS⟩ := run_mk1 (P := Tryd.prog) (t := 82) Value.bool false hS .i64 .i64 Und82 hi4 hz4 hs4 (by omega) rfl hp1
  have hS : Sep w0 B w (own 4 (.slice A3 (Int.toNat (r1.1.length : Int)) c3) (vB (List.replicate (Int.toNat (r1.1.length : Int)) false)) :: own 9 (.slice A2 r2.1.length c2) ((List.map strV r2.1)) :: own 9 (.slice A1 r1.1.length c1) ((List.map strV r1.1)) :: fs) := hS
  refine at_do (d := 27) hF (by kernel_rfl) (by kernel_rfl) hrun (fun a hF => ?_)
  refine at_run 1 [] [] [5, 7, 9] [pl 5 (.slice A1 r1.1.length c1), pl 7 (.slice A2 r2.1.length c2), pl 9 (.slice A3 (Int.toNat (r1.1.length : Int)) c3)] hF hS (by kernel_rfl) (by kernel_rfl) ?_ (fun a w hF hS => ?_)
  · exact obs_nil
  refine at_end [5, 7, 9] [pl 5 (.slice A1 r1.1.length c1), pl 7 (.slice A2 r2.1.length c2), pl 9 (.slice A3 (Int.toNat (r1.1.length : Int)) c3)] hF rfl (by kernel_rfl) (fun hF => ?_)
  refine then_n ?_
  refine seq_cut (fun a w => ∃ (told2 : List Bool), Fr 94 [pl 5 (.slice A1 r1.1.length c1), pl 7 (.slice A2 r2.1.length c2), pl 9 (.slice A3 (Int.toNat (r1.1.length : Int)) c3)] a ∧ Sep w0 B w (own 9 (.slice A1 r1.1.length c1) ((List.map strV r1.1)) :: own 9 (.slice A2 r2.1.length c2) ((List.map strV r2.1)) :: own 4 (.slice A3 (Int.toNat (r1.1.length : Int)) c3) (vB told2) :: fs) ∧ ((gameroomref_HintOf_J1 r1 r2) told2).bind some = some r) ?_ ?_
  · rintro a w ⟨told2, hF, hS, hm⟩
    unfold gameroomref_HintOf_J1 at hm
    refine reg [] [] [5, 7, 9, 11] [pl 5 (.slice A1 r1.1.length c1), pl 7 (.slice A2 r2.1.length c2), pl 9 (.slice A3 (Int.toNat (r1.1.length : Int)) c3), pl 11 (strV ([] : List UInt8))] hF hS Fol (by kernel_rfl) (by kernel_rfl) (by kernel_rfl) ?_ (fun a w hF hS => ?_)
    · exact obs_nil
    refine seq_cut (fun a w => ∃ (s2 : List UInt8), Fr 94 [pl 11 (strV s2)] a ∧ Sep w0 B w (fs) ∧ (gameroomref_HintOf_J4 s2).bind some = some r) ?_ ?_
    · rintro a w ⟨s2, hF, hS, hm⟩
      unfold gameroomref_HintOf_J4 at hm
      refine reg [] [] [4] [pl 4 (strV s2)] hF hS Fol (by kernel_rfl) (by kernel_rfl) (by kernel_rfl) ?_ (fun a w hF hS => ?_)
      · exact obs_nil
      refine wpIn_ret ?_
      have hm : some s2 = some r := hm
      obtain rfl := Option.some.inj hm
      exact retV (rs := [.tmp 4]) (vs := [strV s2]) hF rfl (rv_t (by kernel_rfl) <| rv_nil) rfl ⟨rfl, hS⟩
    · refine reg [] [] [5, 7, 9, 11, 12] [pl 5 (.slice A1 r1.1.length c1), pl 7 (.slice A2 r2.1.length c2), pl 9 (.slice A3 (Int.toNat (r1.1.length : Int)) c3), pl 11 (strV ([] : List UInt8)), pl 12 (.int .i64 0)] hF hS Fol (by kernel_rfl) (by kernel_rfl) (by kernel_rfl) ?_ (fun a w hF hS => ?_)
      · exact obs_nil
      refine wpIn_block ?_
      refine wp_loop_model (S := (List Bool × List UInt8 × Int)) (R := (List UInt8)) (gameroomref_HintOf_L2 r1 r2) (fun x => (gameroomref_HintOf_K2 x).bind some) r (fun (x : (List Bool × List UInt8 × Int)) a w => Fr 94 [pl 5 (.slice A1 r1.1.length c1), pl 7 (.slice A2 r2.1.length c2), pl 9 (.slice A3 (Int.toNat (r1.1.length : Int)) c3), pl 11 (strV x.2.1), pl 12 (.int .i64 x.2.2)] a ∧ Sep w0 B w (own 9 (.slice A1 r1.1.length c1) ((List.map strV r1.1)) :: own 9 (.slice A2 r2.1.length c2) ((List.map strV r2.1)) :: own 4 (.slice A3 (Int.toNat (r1.1.length : Int)) c3) (vB x.1) :: fs)) (assoc_b hm) ⟨hF.weak [5, 7, 9, 11, 12] (by kernel_rfl), hS⟩ ?_
      clear hF hS hm
      rintro nn2 ⟨told3, s1, i2⟩ a w ⟨hF, hS⟩ hm
      generalize hφ2 : stK (gameroomref_HintOf_L2 r1 r2) nn2 (fun x => (gameroomref_HintOf_K2 x).bind some) = φ2 at hm
      unfold gameroomref_HintOf_L2 at hm
      dsimp only at hF hS hm
      refine seq_cut (fun a w => Fr 94 [pl 5 (.slice A1 r1.1.length c1), pl 7 (.slice A2 r2.1.length c2), pl 9 (.slice A3 (Int.toNat (r1.1.length : Int)) c3), pl 11 (strV s1), pl 12 (.int .i64 i2)] a ∧ Sep w0 B w (own 9 (.slice A1 r1.1.length c1) ((List.map strV r1.1)) :: own 9 (.slice A2 r2.1.length c2) ((List.map strV r2.1)) :: own 4 (.slice A3 (Int.toNat (r1.1.length : Int)) c3) (vB told3) :: fs) ∧ ((gameroomref_HintOf_J5 r1 r2 told3 s1 i2)).bind φ2 = some r) ?_ ?_
      · rintro a w ⟨hF, hS, hm⟩
        unfold gameroomref_HintOf_J5 at hm
        refine seq_cut (fun a w => ∃ (told7 : List Bool) (s3 : List UInt8), Fr 94 [pl 5 (.slice A1 r1.1.length c1), pl 7 (.slice A2 r2.1.length c2), pl 9 (.slice A3 (Int.toNat (r1.1.length : Int)) c3), pl 11 (strV s3), pl 12 (.int .i64 i2)] a ∧ Sep w0 B w (own 9 (.slice A1 r1.1.length c1) ((List.map strV r1.1)) :: own 9 (.slice A2 r2.1.length c2) ((List.map strV r2.1)) :: own 4 (.slice A3 (Int.toNat (r1.1.length : Int)) c3) (vB told7) :: fs) ∧ ((gameroomref_HintOf_J6 i2) told7 s3).bind φ2 = some r) ?_ ?_
        · rintro a w ⟨told7, s3, hF, hS, hm⟩
          unfold gameroomref_HintOf_J6 at hm
          refine reg1 [] [] [5, 7, 9, 11, 12] [pl 5 (.slice A1 r1.1.length c1), pl 7 (.slice A2 r2.1.length c2), pl 9 (.slice A3 (Int.toNat (r1.1.length : Int)) c3), pl 11 (strV s3), pl 12 (.int .i64 (w64 (i2 + 1)))] hF hS Fol (by kernel_rfl) (by kernel_rfl) (by kernel_rfl) ?_ (fun a w hF hS => ?_)
          · exact obs_nil
          refine then_n ?_
          rw [← hφ2] at hm
          exact ⟨(told7, s3, (w64 (i2 + 1))), ⟨hF.weak [5, 7, 9, 11, 12] (by kernel_rfl), hS⟩, hm⟩
        · refine wpIn_block ?_
          refine reg [] [] [5, 7, 9, 11, 12, 13] [pl 5 (.slice A1 r1.1.length c1), pl 7 (.slice A2 r2.1.length c2), pl 9 (.slice A3 (Int.toNat (r1.1.length : Int)) c3), pl 11 (strV s1), pl 12 (.int .i64 i2), pl 13 (strV ([46] : List UInt8))] hF hS Fol (by kernel_rfl) (by kernel_rfl) (by kernel_rfl) ?_ (fun a w hF hS => ?_)
          · exact obs_nil
          refine seq_cut (fun a w => ∃ (sign1 : List UInt8), Fr 94 [pl 5 (.slice A1 r1.1.length c1), pl 7 (.slice A2 r2.1.length c2), pl 9 (.slice A3 (Int.toNat (r1.1.length : Int)) c3), pl 11 (strV s1), pl 12 (.int .i64 i2), pl 13 (strV sign1)] a ∧ Sep w0 B w (own 9 (.slice A1 r1.1.length c1) ((List.map strV r1.1)) :: own 9 (.slice A2 r2.1.length c2) ((List.map strV r2.1)) :: own 4 (.slice A3 (Int.toNat (r1.1.length : Int)) c3) (vB told3) :: fs) ∧ ((gameroomref_HintOf_J7 r1 r2 told3 s1 i2) sign1).bind φ2 = some r) ?_ ?_
          · rintro a w ⟨sign1, hF, hS, hm⟩
            unfold gameroomref_HintOf_J7 at hm
            refine seq_cut (fun a w => ∃ (told5 : List Bool) (sign3 : List UInt8), Fr 94 [pl 5 (.slice A1 r1.1.length c1), pl 7 (.slice A2 r2.1.length c2), pl 9 (.slice A3 (Int.toNat (r1.1.length : Int)) c3), pl 11 (strV s1), pl 12 (.int .i64 i2), pl 13 (strV sign3)] a ∧ Sep w0 B w (own 9 (.slice A1 r1.1.length c1) ((List.map strV r1.1)) :: own 9 (.slice A2 r2.1.length c2) ((List.map strV r2.1)) :: own 4 (.slice A3 (Int.toNat (r1.1.length : Int)) c3) (vB told5) :: fs) ∧ ((gameroomref_HintOf_J8 s1 i2) told5 sign3).bind φ2 = some r) ?_ ?_
            · rintro a w ⟨told5, sign3, hF, hS, hm⟩
              unfold gameroomref_HintOf_J8 at hm
              obtain ⟨hp11, hm⟩ := asrt_b hm
              refine reg1 [⟨true, [], vS (do eqGuard .add 9 (.tmp 90) (.tmp 91) (strV s1) (strV sign3); binOp .add 9 (strV s1) (strV sign3)), strV (s1 ++ sign3)⟩] [none, none, some (strV (s1 ++ sign3)), none] [5, 7, 9, 11, 12] [pl 5 (.slice A1 r1.1.length c1), pl 7 (.slice A2 r2.1.length c2), pl 9 (.slice A3 (Int.toNat (r1.1.length : Int)) c3), pl 11 (strV (s1 ++ sign3)), pl 12 (.int .i64 i2)] hF hS Fol (by kernel_rfl) (by kernel_rfl) (by kernel_rfl) ?_ (fun a w hF hS => ?_)
              · exact obs_cons (ob_sadd _ _ (fun _ => hp11)) <| obs_nil
              refine block_n ?_
              refine then_n ?_
              exact ⟨told5, (s1 ++ sign3), hF.weak [5, 7, 9, 11, 12] (by kernel_rfl), hS, hm⟩
            · refine reg [] [] [5, 7, 9, 11, 12, 13, 14] [pl 5 (.slice A1 r1.1.length c1), pl 7 (.slice A2 r2.1.length c2), pl 9 (.slice A3 (Int.toNat (r1.1.length : Int)) c3), pl 11 (strV s1), pl 12 (.int .i64 i2), pl 13 (strV sign1), pl 14 (.int .i64 0)] hF hS Fol (by kernel_rfl) (by kernel_rfl) (by kernel_rfl) ?_ (fun a w hF hS => ?_)
              · exact obs_nil
              refine wpIn_block ?_
              refine wp_loop_model (S := (List Bool × List UInt8 × Int)) (R := (List Bool × List UInt8)) (gameroomref_HintOf_L3 r1 r2 i2) (fun x => ((gameroomref_HintOf_K3 s1 i2) x).bind φ2) r (fun (x : (List Bool × List UInt8 × Int)) a w => Fr 94 [pl 5 (.slice A1 r1.1.length c1), pl 7 (.slice A2 r2.1.length c2), pl 9 (.slice A3 (Int.toNat (r1.1.length : Int)) c3), pl 11 (strV s1), pl 12 (.int .i64 i2), pl 13 (strV x.2.1), pl 14 (.int .i64 x.2.2)] a ∧ Sep w0 B w (own 9 (.slice A1 r1.1.length c1) ((List.map strV r1.1)) :: own 9 (.slice A2 r2.1.length c2) ((List.map strV r2.1)) :: own 4 (.slice A3 (Int.toNat (r1.1.length : Int)) c3) (vB x.1) :: fs)) (assoc_b hm) ⟨hF.weak [5, 7, 9, 11, 12, 13, 14] (by kernel_rfl), hS⟩ ?_
              clear hF hS hm
              rintro nn3 ⟨told4, sign2, k1⟩ a w ⟨hF, hS⟩ hm
              generalize hφ3 : stK (gameroomref_HintOf_L3 r1 r2 i2) nn3 (fun x => ((gameroomref_HintOf_K3 s1 i2) x).bind φ2) = φ3 at hm
              unfold gameroomref_HintOf_L3 at hm
              dsimp only at hF hS hm
              refine seq_cut (fun a w => Fr 94 [pl 5 (.slice A1 r1.1.length c1), pl 7 (.slice A2 r2.1.length c2), pl 9 (.slice A3 (Int.toNat (r1.1.length : Int)) c3), pl 11 (strV s1), pl 12 (.int .i64 i2), pl 13 (strV sign2), pl 14 (.int .i64 k1)] a ∧ Sep w0 B w (own 9 (.slice A1 r1.1.length c1) ((List.map strV r1.1)) :: own 9 (.slice A2 r2.1.length c2) ((List.map strV r2.1)) :: own 4 (.slice A3 (Int.toNat (r1.1.length : Int)) c3) (vB told4) :: fs) ∧ ((gameroomref_HintOf_J9 r1 r2 i2 told4 sign2 k1)).bind φ3 = some r) ?_ ?_
              · rintro a w ⟨hF, hS, hm⟩
                unfold gameroomref_HintOf_J9 at hm
                refine seq_cut (fun a w => ∃ (told6 : List Bool) (sign4 : List UInt8), Fr 94 [pl 5 (.slice A1 r1.1.length c1), pl 7 (.slice A2 r2.1.length c2), pl 9 (.slice A3 (Int.toNat (r1.1.length : Int)) c3), pl 11 (strV s1), pl 12 (.int .i64 i2), pl 13 (strV sign4), pl 14 (.int .i64 k1)] a ∧ Sep w0 B w (own 9 (.slice A1 r1.1.length c1) ((List.map strV r1.1)) :: own 9 (.slice A2 r2.1.length c2) ((List.map strV r2.1)) :: own 4 (.slice A3 (Int.toNat (r1.1.length : Int)) c3) (vB told6) :: fs) ∧ ((gameroomref_HintOf_J10 k1) told6 sign4).bind φ3 = some r) ?_ ?_
                · rintro a w ⟨told6, sign4, hF, hS, hm⟩
                  unfold gameroomref_HintOf_J10 at hm
                  refine reg1 [] [] [5, 7, 9, 11, 12, 13, 14] [pl 5 (.slice A1 r1.1.length c1), pl 7 (.slice A2 r2.1.length c2), pl 9 (.slice A3 (Int.toNat (r1.1.length : Int)) c3), pl 11 (strV s1), pl 12 (.int .i64 i2), pl 13 (strV sign4), pl 14 (.int .i64 (w64 (k1 + 1)))] hF hS Fol (by kernel_rfl) (by kernel_rfl) (by kernel_rfl) ?_ (fun a w hF hS => ?_)
                  · exact obs_nil
                  refine then_n ?_
                  rw [← hφ3] at hm
                  exact ⟨(told6, sign4, (w64 (k1 + 1))), ⟨hF.weak [5, 7, 9, 11, 12, 13, 14] (by kernel_rfl), hS⟩, hm⟩
                · refine wpIn_block ?_
                  obtain ⟨hp7, hm⟩ := asrt_b hm
                  obtain ⟨hp8, hm⟩ := asrt_b hm
                  obtain ⟨hp9, hm⟩ := asrt_b hm
                  refine reg [⟨true, [], vS (Instr.indexAt 82 (.slice A3 (Int.toNat (r1.1.length : Int)) c3) (.int .i64 k1)), .pointer (some (sAddr A3 k1))⟩, ⟨false, [], vS (Instr.loadAt 4 (.pointer (some (sAddr A3 k1)))), .bool (getb told4 k1)⟩, ⟨true, [(!(getb told4 k1), true)], vS (Instr.indexAt 40 (.slice A1 r1.1.length c1) (.int .i64 k1)), .pointer (some (sAddr A1 k1))⟩, ⟨false, [(!(getb told4 k1), true)], vS (Instr.loadAt 9 (.pointer (some (sAddr A1 k1)))), strV (getd ([] : List UInt8) r1.1 k1)⟩, ⟨true, [(!(getb told4 k1), true)], vS (Instr.indexAt 40 (.slice A2 r2.1.length c2) (.int .i64 i2)), .pointer (some (sAddr A2 i2))⟩, ⟨false, [(!(getb told4 k1), true)], vS (Instr.loadAt 9 (.pointer (some (sAddr A2 i2)))), strV (getd ([] : List UInt8) r2.1 i2)⟩, ⟨true, [(!(getb told4 k1), true)], vS (do eqGuard .eql 9 (.tmp 80) (.tmp 84) (strV (getd ([] : List UInt8) r1.1 k1)) (strV (getd ([] : List UInt8) r2.1 i2)); binOp .eql 9 (strV (getd ([] : List UInt8) r1.1 k1)) (strV (getd ([] : List UInt8) r2.1 i2))), .bool (((getd ([] : List UInt8) r1.1 k1) == (getd ([] : List UInt8) r2.1 i2)))⟩] [none, none, some (.pointer (some (sAddr A3 k1))), some (.bool (getb told4 k1)), none, none, none, none, some (.pointer (some (sAddr A1 k1))), some (strV (getd ([] : List UInt8) r1.1 k1)), none, none, some (.pointer (some (sAddr A2 i2))), some (strV (getd ([] : List UInt8) r2.1 i2)), some (.bool (((getd ([] : List UInt8) r1.1 k1) == (getd ([] : List UInt8) r2.1 i2)))), none] [5, 7, 9, 11, 12, 13, 14, 86] [pl 5 (.slice A1 r1.1.length c1), pl 7 (.slice A2 r2.1.length c2), pl 9 (.slice A3 (Int.toNat (r1.1.length : Int)) c3), pl 11 (strV s1), pl 12 (.int .i64 i2), pl 13 (strV sign2), pl 14 (.int .i64 k1), pl 86 (.bool ((!(getb told4 k1)) && ((getd ([] : List UInt8) r1.1 k1) == (getd ([] : List UInt8) r2.1 i2))))] hF hS Fol (by kernel_rfl) (by kernel_rfl) (by kernel_rfl) ?_ (fun a w hF hS => ?_)
                  · exact obs_cons (ob_ix1 (f := Value.bool) (m := told4) Und82 hi4 hs4 (hS.at_ 2 rfl).rd ((hS.at_ 2 rfl).len1) (fun _ => hp7)) <| obs_cons (ob_get1 (n := (Int.toNat (r1.1.length : Int))) (m := told4) Value.bool false Agg4 (fun _ hS => ⟨_, (hS.at_ 2 rfl).rd⟩) (fun _ hS => ((hS.at_ 2 rfl).len1)) (fun _ => hp7)) <| obs_cons (ob_ix1 (f := strV) (m := r1.1) Und40 hi9 hs9 (hS.at_ 0 rfl).rd rfl (fun hy => hp8 (hy (!(getb told4 k1), true) (by simp)))) <| obs_cons (ob_get1 (n := r1.1.length) (m := r1.1) strV ([] : List UInt8) Agg9 (fun _ hS => ⟨_, (hS.at_ 0 rfl).rd⟩) (fun _ hS => rfl) (fun hy => hp8 (hy (!(getb told4 k1), true) (by simp)))) <| obs_cons (ob_ix1 (f := strV) (m := r2.1) Und40 hi9 hs9 (hS.at_ 1 rfl).rd rfl (fun hy => hp9 (hy (!(getb told4 k1), true) (by simp)))) <| obs_cons (ob_get1 (n := r2.1.length) (m := r2.1) strV ([] : List UInt8) Agg9 (fun _ hS => ⟨_, (hS.at_ 1 rfl).rd⟩) (fun _ hS => rfl) (fun hy => hp9 (hy (!(getb told4 k1), true) (by simp)))) <| obs_cons (ob_seql _ _) <| obs_nil
                  refine cond_ev (t := 86) (b := (!(getb told4 k1)) && ((getd ([] : List UInt8) r1.1 k1) == (getd ([] : List UInt8) r2.1 i2))) hF (by kernel_rfl) (fun hb => ?_) (fun hb => ?_)
                  · replace hm := if_t hm hb
                    refine seqR ?_
                    obtain ⟨hp10, hm⟩ := asrt_b hm
                    refine at_run 3 [⟨true, [], vS (Instr.indexAt 82 (.slice A3 (Int.toNat (r1.1.length : Int)) c3) (.int .i64 k1)), .pointer (some (sAddr A3 k1))⟩] [none, none, some (.pointer (some (sAddr A3 k1)))] [5, 7, 9, 11, 12, 14, 89] [pl 5 (.slice A1 r1.1.length c1), pl 7 (.slice A2 r2.1.length c2), pl 9 (.slice A3 (Int.toNat (r1.1.length : Int)) c3), pl 11 (strV s1), pl 12 (.int .i64 i2), pl 14 (.int .i64 k1), pl 89 (.pointer (some (sAddr A3 k1)))] hF hS (by kernel_rfl) (by kernel_rfl) ?_ (fun a w hF hS => ?_)
                    · exact obs_cons (ob_ix1 (f := Value.bool) (m := told4) Und82 hi4 hs4 (hS.at_ 2 rfl).rd ((hS.at_ 2 rfl).len1) (fun _ => hp10)) <| obs_nil
                    obtain ⟨w, hrun, hS⟩ := run_set1 (P := Tryd.prog) (t := 4) (x := true) Value.bool (hS.at_ 2 rfl) hi4 hs4 rfl rfl hp10
                    refine at_skip hF (by kernel_rfl) hrun ?_
                    have hS : Sep w0 B w (own 9 (.slice A1 r1.1.length c1) ((List.map strV r1.1)) :: own 9 (.slice A2 r2.1.length c2) ((List.map strV r2.1)) :: own 4 (.slice A3 (Int.toNat (r1.1.length : Int)) c3) (vB (told4.set (Int.toNat k1) true)) :: fs) := hS
                    refine at_end [5, 7, 9, 11, 12, 14] [pl 5 (.slice A1 r1.1.length c1), pl 7 (.slice A2 r2.1.length c2), pl 9 (.slice A3 (Int.toNat (r1.1.length : Int)) c3), pl 11 (strV s1), pl 12 (.int .i64 i2), pl 14 (.int .i64 k1)] hF rfl (by kernel_rfl) (fun hF => ?_)
                    refine then_n ?_
                    refine reg1 [] [] [5, 7, 9, 11, 12, 13, 14] [pl 5 (.slice A1 r1.1.length c1), pl 7 (.slice A2 r2.1.length c2), pl 9 (.slice A3 (Int.toNat (r1.1.length : Int)) c3), pl 11 (strV s1), pl 12 (.int .i64 i2), pl 13 (strV ([121] : List UInt8)), pl 14 (.int .i64 k1)] hF hS Fol (by kernel_rfl) (by kernel_rfl) (by kernel_rfl) ?_ (fun a w hF hS => ?_)
                    · exact obs_nil
                    refine block_n ?_
                    refine then_n ?_
                    exact ⟨(told4.set (Int.toNat k1) true), ([121] : List UInt8), hF.weak [5, 7, 9, 11, 12, 13, 14] (by kernel_rfl), hS, hm⟩
                  · replace hm := if_f hm hb
                    refine wpIn_skip ?_
                    refine block_n ?_
                    refine then_n ?_
                    exact ⟨told4, sign2, hF.weak [5, 7, 9, 11, 12, 13, 14] (by kernel_rfl), hS, hm⟩
              · refine reg [⟨true, [(decide (k1 < (r1.1.length : Int)), true)], vS (do eqGuard .eql 9 (.tmp 66) (.const (strV ([46] : List UInt8))) (strV sign2) (strV ([46] : List UInt8)); binOp .eql 9 (strV sign2) (strV ([46] : List UInt8))), .bool ((sign2 == ([46] : List UInt8)))⟩] [none, none, none, none, none, none, some (.bool ((sign2 == ([46] : List UInt8)))), none] [5, 7, 9, 11, 12, 13, 14, 68] [pl 5 (.slice A1 r1.1.length c1), pl 7 (.slice A2 r2.1.length c2), pl 9 (.slice A3 (Int.toNat (r1.1.length : Int)) c3), pl 11 (strV s1), pl 12 (.int .i64 i2), pl 13 (strV sign2), pl 14 (.int .i64 k1), pl 68 (.bool ((decide (k1 < (r1.1.length : Int))) && (sign2 == ([46] : List UInt8))))] hF hS Fol (by kernel_rfl) (by kernel_rfl) (by kernel_rfl) ?_ (fun a w hF hS => ?_)
                · exact obs_cons (ob_seql _ _) <| obs_nil
                refine cond_ev (t := 68) (b := (decide (k1 < (r1.1.length : Int))) && (sign2 == ([46] : List UInt8))) hF (by kernel_rfl) (fun hb => ?_) (fun hb => ?_)
                · replace hm := if_t hm hb
                  refine wpIn_skip ?_
                  refine then_n ?_
                  exact ⟨hF.weak [5, 7, 9, 11, 12, 13, 14] (by kernel_rfl), hS, hm⟩
                · replace hm := if_f hm hb
                  refine wpIn_exit ?_
                  refine then_e (then_e (block_e (then_n ?_)))
                  rw [← hφ3] at hm
                  replace hm := done_b hm
                  unfold gameroomref_HintOf_K3 at hm
                  try dsimp only at hm
                  have hm : ((gameroomref_HintOf_J8 s1 i2) told4 sign2).bind φ2 = some r := hm
                  exact ⟨told4, sign2, hF.weak [5, 7, 9, 11, 12, 13] (by kernel_rfl), hS, hm⟩
          · obtain ⟨hp5, hm⟩ := asrt_b hm
            obtain ⟨hp6, hm⟩ := asrt_b hm
            refine reg [⟨true, [], vS (Instr.indexAt 40 (.slice A1 r1.1.length c1) (.int .i64 i2)), .pointer (some (sAddr A1 i2))⟩, ⟨false, [], vS (Instr.loadAt 9 (.pointer (some (sAddr A1 i2)))), strV (getd ([] : List UInt8) r1.1 i2)⟩, ⟨true, [], vS (Instr.indexAt 40 (.slice A2 r2.1.length c2) (.int .i64 i2)), .pointer (some (sAddr A2 i2))⟩, ⟨false, [], vS (Instr.loadAt 9 (.pointer (some (sAddr A2 i2)))), strV (getd ([] : List UInt8) r2.1 i2)⟩, ⟨true, [], vS (do eqGuard .eql 9 (.tmp 55) (.tmp 59) (strV (getd ([] : List UInt8) r1.1 i2)) (strV (getd ([] : List UInt8) r2.1 i2)); binOp .eql 9 (strV (getd ([] : List UInt8) r1.1 i2)) (strV (getd ([] : List UInt8) r2.1 i2))), .bool (((getd ([] : List UInt8) r1.1 i2) == (getd ([] : List UInt8) r2.1 i2)))⟩] [none, none, some (.pointer (some (sAddr A1 i2))), some (strV (getd ([] : List UInt8) r1.1 i2)), none, none, some (.pointer (some (sAddr A2 i2))), some (strV (getd ([] : List UInt8) r2.1 i2)), some (.bool (((getd ([] : List UInt8) r1.1 i2) == (getd ([] : List UInt8) r2.1 i2))))] [5, 7, 9, 11, 12, 13, 60] [pl 5 (.slice A1 r1.1.length c1), pl 7 (.slice A2 r2.1.length c2), pl 9 (.slice A3 (Int.toNat (r1.1.length : Int)) c3), pl 11 (strV s1), pl 12 (.int .i64 i2), pl 13 (strV ([46] : List UInt8)), pl 60 (.bool ((getd ([] : List UInt8) r1.1 i2) == (getd ([] : List UInt8) r2.1 i2)))] hF hS Fol (by kernel_rfl) (by kernel_rfl) (by kernel_rfl) ?_ (fun a w hF hS => ?_)
            · exact obs_cons (ob_ix1 (f := strV) (m := r1.1) Und40 hi9 hs9 (hS.at_ 0 rfl).rd rfl (fun _ => hp5)) <| obs_cons (ob_get1 (n := r1.1.length) (m := r1.1) strV ([] : List UInt8) Agg9 (fun _ hS => ⟨_, (hS.at_ 0 rfl).rd⟩) (fun _ hS => rfl) (fun _ => hp5)) <| obs_cons (ob_ix1 (f := strV) (m := r2.1) Und40 hi9 hs9 (hS.at_ 1 rfl).rd rfl (fun _ => hp6)) <| obs_cons (ob_get1 (n := r2.1.length) (m := r2.1) strV ([] : List UInt8) Agg9 (fun _ hS => ⟨_, (hS.at_ 1 rfl).rd⟩) (fun _ hS => rfl) (fun _ => hp6)) <| obs_cons (ob_seql _ _) <| obs_nil
            refine cond_ev (t := 60) (b := ((getd ([] : List UInt8) r1.1 i2) == (getd ([] : List UInt8) r2.1 i2))) hF (by kernel_rfl) (fun hb => ?_) (fun hb => ?_)
            · replace hm := if_t hm hb
              refine reg1 [] [] [5, 7, 9, 11, 12, 13] [pl 5 (.slice A1 r1.1.length c1), pl 7 (.slice A2 r2.1.length c2), pl 9 (.slice A3 (Int.toNat (r1.1.length : Int)) c3), pl 11 (strV s1), pl 12 (.int .i64 i2), pl 13 (strV ([103] : List UInt8))] hF hS Fol (by kernel_rfl) (by kernel_rfl) (by kernel_rfl) ?_ (fun a w hF hS => ?_)
              · exact obs_nil
              refine then_n ?_
              exact ⟨([103] : List UInt8), hF.weak [5, 7, 9, 11, 12, 13] (by kernel_rfl), hS, hm⟩
            · replace hm := if_f hm hb
              refine wpIn_skip ?_
              refine then_n ?_
              exact ⟨([46] : List UInt8), hF.weak [5, 7, 9, 11, 12, 13] (by kernel_rfl), hS, hm⟩
      · refine reg [] [] [5, 7, 9, 11, 12, 49] [pl 5 (.slice A1 r1.1.length c1), pl 7 (.slice A2 r2.1.length c2), pl 9 (.slice A3 (Int.toNat (r1.1.length : Int)) c3), pl 11 (strV s1), pl 12 (.int .i64 i2), pl 49 (.bool (decide (i2 < (r2.1.length : Int))))] hF hS Fol (by kernel_rfl) (by kernel_rfl) (by kernel_rfl) ?_ (fun a w hF hS => ?_)
        · exact obs_nil
        refine cond_ev (t := 49) (b := decide (i2 < (r2.1.length : Int))) hF (by kernel_rfl) (fun hb => ?_) (fun hb => ?_)
        · replace hm := if_t hm hb
          refine wpIn_skip ?_
          refine then_n ?_
          exact ⟨hF.weak [5, 7, 9, 11, 12] (by kernel_rfl), hS, hm⟩
        · replace hm := if_f hm hb
          refine wpIn_exit ?_
          refine then_e (then_e (block_e (then_n ?_)))
          have hS := hS.pickN 3 [] (by decide)
          rw [← hφ2] at hm
          replace hm := done_b hm
          unfold gameroomref_HintOf_K2 at hm
          try dsimp only at hm
          have hm : (gameroomref_HintOf_J4 s1).bind some = some r := hm
          exact ⟨s1, hF.weak [11] (by kernel_rfl), hS, hm⟩
  · refine reg [] [] [5, 7, 9, 10] [pl 5 (.slice A1 r1.1.length c1), pl 7 (.slice A2 r2.1.length c2), pl 9 (.slice A3 (Int.toNat (r1.1.length : Int)) c3), pl 10 (.int .i64 0)] hF hS Fol (by kernel_rfl) (by kernel_rfl) (by kernel_rfl) ?_ (fun a w hF hS => ?_)
    · exact obs_nil
    refine wpIn_block ?_
    have hS := hS.pickN 3 [2, 1, 0] (by decide)
    refine wp_loop_model (S := (List Bool × Int)) (R := (List Bool)) (gameroomref_HintOf_L1 r1 r2) (fun x => ((gameroomref_HintOf_K1 r1 r2) x).bind some) r (fun (x : (List Bool × Int)) a w => Fr 94 [pl 5 (.slice A1 r1.1.length c1), pl 7 (.slice A2 r2.1.length c2), pl 9 (.slice A3 (Int.toNat (r1.1.length : Int)) c3), pl 10 (.int .i64 x.2)] a ∧ Sep w0 B w (own 9 (.slice A1 r1.1.length c1) ((List.map strV r1.1)) :: own 9 (.slice A2 r2.1.length c2) ((List.map strV r2.1)) :: own 4 (.slice A3 (Int.toNat (r1.1.length : Int)) c3) (vB x.1) :: fs)) (assoc_b hm) ⟨hF.weak [5, 7, 9, 10] (by kernel_rfl), hS⟩ ?_
    clear hF hS hm
    rintro nn1 ⟨told1, i1⟩ a w ⟨hF, hS⟩ hm
    generalize hφ1 : stK (gameroomref_HintOf_L1 r1 r2) nn1 (fun x => ((gameroomref_HintOf_K1 r1 r2) x).bind some) = φ1 at hm
    unfold gameroomref_HintOf_L1 at hm
    dsimp only at hF hS hm
    refine seq_cut (fun a w => Fr 94 [pl 5 (.slice A1 r1.1.length c1), pl 7 (.slice A2 r2.1.length c2), pl 9 (.slice A3 (Int.toNat (r1.1.length : Int)) c3), pl 10 (.int .i64 i1)] a ∧ Sep w0 B w (own 9 (.slice A1 r1.1.length c1) ((List.map strV r1.1)) :: own 9 (.slice A2 r2.1.length c2) ((List.map strV r2.1)) :: own 4 (.slice A3 (Int.toNat (r1.1.length : Int)) c3) (vB told1) :: fs) ∧ ((gameroomref_HintOf_J2 r1 r2 told1 i1)).bind φ1 = some r) ?_ ?_
    · rintro a w ⟨hF, hS, hm⟩
      unfold gameroomref_HintOf_J2 at hm
      refine seq_cut (fun a w => Fr 94 [pl 5 (.slice A1 r1.1.length c1), pl 7 (.slice A2 r2.1.length c2), pl 9 (.slice A3 (Int.toNat (r1.1.length : Int)) c3), pl 10 (.int .i64 i1)] a ∧ Sep w0 B w (own 9 (.slice A1 r1.1.length c1) ((List.map strV r1.1)) :: own 9 (.slice A2 r2.1.length c2) ((List.map strV r2.1)) :: own 4 (.slice A3 (Int.toNat (r1.1.length : Int)) c3) (vB (told1.set (Int.toNat i1) ((getd ([] : List UInt8) r1.1 i1) == (getd ([] : List UInt8) r2.1 i1)))) :: fs) ∧ ((gameroomref_HintOf_J3 r1 r2 told1 i1)).bind φ1 = some r) ?_ ?_
      · rintro a w ⟨hF, hS, hm⟩
        unfold gameroomref_HintOf_J3 at hm
        refine reg1 [] [] [5, 7, 9, 10] [pl 5 (.slice A1 r1.1.length c1), pl 7 (.slice A2 r2.1.length c2), pl 9 (.slice A3 (Int.toNat (r1.1.length : Int)) c3), pl 10 (.int .i64 (w64 (i1 + 1)))] hF hS Fol (by kernel_rfl) (by kernel_rfl) (by kernel_rfl) ?_ (fun a w hF hS => ?_)
        · exact obs_nil
        refine then_n ?_
        rw [← hφ1] at hm
        exact ⟨((told1.set (Int.toNat i1) ((getd ([] : List UInt8) r1.1 i1) == (getd ([] : List UInt8) r2.1 i1))), (w64 (i1 + 1))), ⟨hF.weak [5, 7, 9, 10] (by kernel_rfl), hS⟩, hm⟩
      · refine wpIn_block ?_
        obtain ⟨hp2, hm⟩ := asrt_b hm
        obtain ⟨hp3, hm⟩ := asrt_b hm
        obtain ⟨hp4, hm⟩ := asrt_b hm
        refine regMix4 [0, 1, 2, 3, 4, 5, 6, 7, 8, 9, 10, 11] [12] [⟨true, [], vS (Instr.indexAt 40 (.slice A1 r1.1.length c1) (.int .i64 i1)), .pointer (some (sAddr A1 i1))⟩, ⟨false, [], vS (Instr.loadAt 9 (.pointer (some (sAddr A1 i1)))), strV (getd ([] : List UInt8) r1.1 i1)⟩, ⟨true, [], vS (Instr.indexAt 40 (.slice A2 r2.1.length c2) (.int .i64 i1)), .pointer (some (sAddr A2 i1))⟩, ⟨false, [], vS (Instr.loadAt 9 (.pointer (some (sAddr A2 i1)))), strV (getd ([] : List UInt8) r2.1 i1)⟩, ⟨true, [], vS (do eqGuard .eql 9 (.tmp 39) (.tmp 43) (strV (getd ([] : List UInt8) r1.1 i1)) (strV (getd ([] : List UInt8) r2.1 i1)); binOp .eql 9 (strV (getd ([] : List UInt8) r1.1 i1)) (strV (getd ([] : List UInt8) r2.1 i1))), .bool (((getd ([] : List UInt8) r1.1 i1) == (getd ([] : List UInt8) r2.1 i1)))⟩, ⟨true, [], vS (Instr.indexAt 82 (.slice A3 (Int.toNat (r1.1.length : Int)) c3) (.int .i64 i1)), .pointer (some (sAddr A3 i1))⟩] [none, none, none, none, some (.pointer (some (sAddr A1 i1))), some (strV (getd ([] : List UInt8) r1.1 i1)), none, none, some (.pointer (some (sAddr A2 i1))), some (strV (getd ([] : List UInt8) r2.1 i1)), some (.bool (((getd ([] : List UInt8) r1.1 i1) == (getd ([] : List UInt8) r2.1 i1)))), some (.pointer (some (sAddr A3 i1)))] [5, 7, 9, 10, 44, 45] [pl 5 (.slice A1 r1.1.length c1), pl 7 (.slice A2 r2.1.length c2), pl 9 (.slice A3 (Int.toNat (r1.1.length : Int)) c3), pl 10 (.int .i64 i1), pl 44 (.bool ((getd ([] : List UInt8) r1.1 i1) == (getd ([] : List UInt8) r2.1 i1))), pl 45 (.pointer (some (sAddr A3 i1)))] hF hS Fol (by kernel_rfl) (by kernel_rfl) (by kernel_rfl) (by kernel_rfl) (by kernel_rfl) ?_ (fun a w hF hS => ?_)
        · exact obs_cons (ob_ix1 (f := strV) (m := r1.1) Und40 hi9 hs9 (hS.at_ 0 rfl).rd rfl (fun _ => hp2)) <| obs_cons (ob_get1 (n := r1.1.length) (m := r1.1) strV ([] : List UInt8) Agg9 (fun _ hS => ⟨_, (hS.at_ 0 rfl).rd⟩) (fun _ hS => rfl) (fun _ => hp2)) <| obs_cons (ob_ix1 (f := strV) (m := r2.1) Und40 hi9 hs9 (hS.at_ 1 rfl).rd rfl (fun _ => hp3)) <| obs_cons (ob_get1 (n := r2.1.length) (m := r2.1) strV ([] : List UInt8) Agg9 (fun _ hS => ⟨_, (hS.at_ 1 rfl).rd⟩) (fun _ hS => rfl) (fun _ => hp3)) <| obs_cons (ob_seql _ _) <| obs_cons (ob_ix1 (f := Value.bool) (m := told1) Und82 hi4 hs4 (hS.at_ 2 rfl).rd ((hS.at_ 2 rfl).len1) (fun _ => hp4)) <| obs_nil
        obtain ⟨w, hrun, hS⟩ := run_set1 (P := Tryd.prog) (t := 4) (x := ((getd ([] : List UInt8) r1.1 i1) == (getd ([] : List UInt8) r2.1 i1))) Value.bool (hS.at_ 2 rfl) hi4 hs4 rfl rfl hp4
        refine at_skip hF (by kernel_rfl) hrun ?_
        have hS : Sep w0 B w (own 9 (.slice A1 r1.1.length c1) ((List.map strV r1.1)) :: own 9 (.slice A2 r2.1.length c2) ((List.map strV r2.1)) :: own 4 (.slice A3 (Int.toNat (r1.1.length : Int)) c3) (vB (told1.set (Int.toNat i1) ((getd ([] : List UInt8) r1.1 i1) == (getd ([] : List UInt8) r2.1 i1)))) :: fs) := hS
        refine at_end [5, 7, 9, 10] [pl 5 (.slice A1 r1.1.length c1), pl 7 (.slice A2 r2.1.length c2), pl 9 (.slice A3 (Int.toNat (r1.1.length : Int)) c3), pl 10 (.int .i64 i1)] hF rfl (by kernel_rfl) (fun hF => ?_)
        refine np_n ?_
        refine block_n ?_
        refine then_n ?_
        exact ⟨hF.weak [5, 7, 9, 10] (by kernel_rfl), hS, hm⟩
    · refine reg [] [] [5, 7, 9, 10, 31] [pl 5 (.slice A1 r1.1.length c1), pl 7 (.slice A2 r2.1.length c2), pl 9 (.slice A3 (Int.toNat (r1.1.length : Int)) c3), pl 10 (.int .i64 i1), pl 31 (.bool (decide (i1 < (r1.1.length : Int))))] hF hS Fol (by kernel_rfl) (by kernel_rfl) (by kernel_rfl) ?_ (fun a w hF hS => ?_)
      · exact obs_nil
      refine cond_ev (t := 31) (b := decide (i1 < (r1.1.length : Int))) hF (by kernel_rfl) (fun hb => ?_) (fun hb => ?_)
      · replace hm := if_t hm hb
        refine wpIn_skip ?_
        refine then_n ?_
        exact ⟨hF.weak [5, 7, 9, 10] (by kernel_rfl), hS, hm⟩
      · replace hm := if_f hm hb
        refine wpIn_exit ?_
        refine then_e (then_e (block_e (then_n ?_)))
        rw [← hφ1] at hm
        replace hm := done_b hm
        unfold gameroomref_HintOf_K1 at hm
        try dsimp only at hm
        have hm : ((gameroomref_HintOf_J1 r1 r2) told1).bind some = some r := hm
        exact ⟨told1, hF.weak [5, 7, 9] (by kernel_rfl), hS, hm⟩

noncomputable def gameroomref_FitsOf_J6  (k1 : Int) (ok3 : Bool) : Option (St (Bool × Int) Bool) :=
  some (.next (ok3, (w64 (k1 + 1))))

noncomputable def gameroomref_FitsOf_J5  (guesses1 : List (List UInt8)) (hints1 : List (List UInt8)) (r1 : (List (List UInt8))) (i1 : Int) (r2 : (List (List UInt8) × Bool)) (k1 : Int) : Option (St (Bool × Int) Bool) :=
  asrt (0 ≤ k1 ∧ k1 < (guesses1.length : Int)) <| (gameroomref_lettersOf_m (getd ([] : List UInt8) guesses1 k1) false).bind fun r3 => asrt (((r2.1.length : Int) == (r3.1.length : Int)) = true → 0 ≤ i1 ∧ i1 < (r1.length : Int)) <| asrt (((r2.1.length : Int) == (r3.1.length : Int)) = true → 0 ≤ k1 ∧ k1 < (guesses1.length : Int)) <| ((if ((r2.1.length : Int) == (r3.1.length : Int)) then gameroomref_HintOf_m (getd ([] : List UInt8) r1 i1) (getd ([] : List UInt8) guesses1 k1) else some ([]))).bind fun r4 => asrt (((r2.1.length : Int) == (r3.1.length : Int)) = true → 0 ≤ k1 ∧ k1 < (hints1.length : Int)) <| (gameroomref_FitsOf_J6 k1) (((r2.1.length : Int) == (r3.1.length : Int)) && (r4 == (getd ([] : List UInt8) hints1 k1)))

noncomputable def gameroomref_FitsOf_J3  (i1 : Int) (out3 : List (List UInt8)) : Option (St (List (List UInt8) × Int) (List (List UInt8))) :=
  some (.next (out3, (w64 (i1 + 1))))

noncomputable def gameroomref_FitsOf_J4  (r1 : (List (List UInt8))) (out1 : List (List UInt8)) (i1 : Int) (ok2 : Bool) : Option (St (List (List UInt8) × Int) (List (List UInt8))) :=
  if ok2 then (asrt (0 ≤ i1 ∧ i1 < (r1.length : Int)) <| asrt ((out1.length : Int) + 1 ≤ bigP) <| (gameroomref_FitsOf_J3 i1) (out1 ++ ([getd ([] : List UInt8) r1 i1] : List (List UInt8)))) else ((gameroomref_FitsOf_J3 i1) out1)

noncomputable def gameroomref_FitsOf_K2  (r1 : (List (List UInt8))) (out1 : List (List UInt8)) (i1 : Int) : Bool → Option (St (List (List UInt8) × Int) (List (List UInt8))) :=
  fun (x : Bool) => match x with | ok2 => (gameroomref_FitsOf_J4 r1 out1 i1) ok2

noncomputable def gameroomref_FitsOf_L2  (guesses1 : List (List UInt8)) (hints1 : List (List UInt8)) (r1 : (List (List UInt8))) (i1 : Int) (r2 : (List (List UInt8) × Bool)) : (Bool × Int) → Option (St (Bool × Int) Bool) :=
  fun (x : (Bool × Int)) => match x with | (ok1, k1) => if ((decide (k1 < (guesses1.length : Int))) && ok1) then ((gameroomref_FitsOf_J5 guesses1 hints1 r1 i1 r2 k1)) else (some (.done ok1))

noncomputable def gameroomref_FitsOf_J2  (guesses1 : List (List UInt8)) (hints1 : List (List UInt8)) (r1 : (List (List UInt8))) (out1 : List (List UInt8)) (i1 : Int) : Option (St (List (List UInt8) × Int) (List (List UInt8))) :=
  asrt (0 ≤ i1 ∧ i1 < (r1.length : Int)) <| (gameroomref_lettersOf_m (getd ([] : List UInt8) r1 i1) false).bind fun r2 => (loop (gameroomref_FitsOf_L2 guesses1 hints1 r1 i1 r2) (true, 0)).bind (gameroomref_FitsOf_K2 r1 out1 i1)

noncomputable def gameroomref_FitsOf_J1  (out2 : List (List UInt8)) : Option (List (List UInt8)) :=
  some out2

noncomputable def gameroomref_FitsOf_K1  : (List (List UInt8)) → Option (List (List UInt8)) :=
  fun (x : (List (List UInt8))) => match x with | out2 => gameroomref_FitsOf_J1 out2

noncomputable def gameroomref_FitsOf_L1  (guesses1 : List (List UInt8)) (hints1 : List (List UInt8)) (r1 : (List (List UInt8))) : (List (List UInt8) × Int) → Option (St (List (List UInt8) × Int) (List (List UInt8))) :=
  fun (x : (List (List UInt8) × Int)) => match x with | (out1, i1) => if (decide (i1 < (r1.length : Int))) then ((gameroomref_FitsOf_J2 guesses1 hints1 r1 out1 i1)) else (some (.done out1))

noncomputable def gameroomref_FitsOf_m  (l1 : List (List UInt8)) (guesses1 : List (List UInt8)) (hints1 : List (List UInt8)) : Option (List (List UInt8)) :=
  (gameroomref_SortedWords_m l1).bind fun r1 => (loop (gameroomref_FitsOf_L1 guesses1 hints1 r1) (([] : List (List UInt8)), 0)).bind gameroomref_FitsOf_K1

set_option maxRecDepth 100000 in
set_option maxHeartbeats 4000000 in
theorem gameroomref_FitsOf_w  {A1 : Option Addr} {c1 : Nat} {n1 : Nat} {l1 : List (List UInt8)} {A2 : Option Addr} {c2 : Nat} {n2 : Nat} {guesses1 : List (List UInt8)} {A3 : Option Addr} {c3 : Nat} {n3 : Nat} {hints1 : List (List UInt8)} {r : (List (List UInt8))} {w0 w : World} {B : Nat} {fs : List HP} (hm : gameroomref_FitsOf_m l1 guesses1 hints1 = some r) (hS : Sep w0 B w (fs)) (hr_l1 : RdF w0 B fs A1 ((List.map strV l1))) (_hc_l1 : l1.length ≤ c1) (_hn_l1 : n1 = l1.length) (hr_guesses1 : RdF w0 B fs A2 ((List.map strV guesses1))) (_hc_guesses1 : guesses1.length ≤ c2) (_hn_guesses1 : n2 = guesses1.length) (hr_hints1 : RdF w0 B fs A3 ((List.map strV hints1))) (_hc_hints1 : hints1.length ≤ c3) (_hn_hints1 : n3 = hints1.length) :
    Calls Tryd.prog 33 #[.slice A1 n1 c1, .slice A2 n2 c2, .slice A3 n3 c3] w fun e w' => ∃ v, e = .returned v ∧ ∃ (A11 : Option Addr) (c11 : Nat), v = .slice A11 r.length c11 ∧ Sep w0 B w' (own 9 (.slice A11 r.length c11) ((List.map strV r)) :: fs) := by
  obtain ⟨i9, hi9, hz9, hs9, hb9⟩ := info_parts Info9
  obtain rfl := _hn_l1
  obtain rfl := _hn_guesses1
  obtain rfl := _hn_hints1
  unfold gameroomref_FitsOf_m at hm
  replace hm := start_b hm
  refine enter (l := [.slice A1 l1.length c1, .slice A2 guesses1.length c2, .slice A3 hints1.length c3]) (n := 78) Tryd.func33 rfl rfl (by simp) (fun a hF => ?_)
  refine reg [] [] [0, 1, 2] [pl 0 (.slice A1 l1.length c1), pl 1 (.slice A2 guesses1.length c2), pl 2 (.slice A3 hints1.length c3)] hF hS Fol (by kernel_rfl) (by kernel_rfl) (by kernel_rfl) ?_ (fun a w hF hS => ?_)
  · exact obs_nil
  refine seqR ?_
  obtain ⟨r1, hr1, hm⟩ := call_b hm
  refine at_run 1 [] [] [1, 2, 15] [pl 1 (.slice A2 guesses1.length c2), pl 2 (.slice A3 hints1.length c3), pl 15 (.slice A1 l1.length c1)] hF hS (by kernel_rfl) (by kernel_rfl) ?_ (fun a w hF hS => ?_)
  · exact obs_nil
  refine at_call (f := 27) (args := #[.slice A1 l1.length c1]) (d := 16) hF (by kernel_rfl) (by kernel_rfl) Tryd.func27 (by kernel_rfl) rfl (gameroomref_SortedWords_w hr1 hS (fun _ hS => (hr_l1 _ (hS.dropN 0))) _hc_l1 rfl) (fun v a w hR hF => ?_)
  clear hS
  obtain ⟨A4, c4, rfl, hS⟩ := hR
  have hS : Sep w0 B w (own 9 (.slice A4 r1.length c4) ((List.map strV r1)) :: fs) := hS
  refine at_run 1 [] [] [0, 1, 2] [pl 0 (.slice A4 r1.length c4), pl 1 (.slice A2 guesses1.length c2), pl 2 (.slice A3 hints1.length c3)] hF hS (by kernel_rfl) (by kernel_rfl) ?_ (fun a w hF hS => ?_)
  · exact obs_nil
  refine at_end [0, 1, 2] [pl 0 (.slice A4 r1.length c4), pl 1 (.slice A2 guesses1.length c2), pl 2 (.slice A3 hints1.length c3)] hF rfl (by kernel_rfl) (fun hF => ?_)
  refine then_n ?_
  refine reg [] [] [0, 1, 2, 7] [pl 0 (.slice A4 r1.length c4), pl 1 (.slice A2 guesses1.length c2), pl 2 (.slice A3 hints1.length c3), pl 7 (.slice none 0 0)] hF hS Fol (by kernel_rfl) (by kernel_rfl) (by kernel_rfl) ?_ (fun a w hF hS => ?_)
  · exact obs_nil
  refine seq_cut (fun a w => ∃ (out2 : List (List UInt8)) (A6 : Option Addr) (c6 : Nat), Fr 78 [pl 7 (.slice A6 out2.length c6)] a ∧ Sep w0 B w (own 9 (.slice A6 out2.length c6) ((List.map strV out2)) :: fs) ∧ (gameroomref_FitsOf_J1 out2).bind some = some r) ?_ ?_
  · rintro a w ⟨out2, A6, c6, hF, hS, hm⟩
    unfold gameroomref_FitsOf_J1 at hm
    refine reg [] [] [6] [pl 6 (.slice A6 out2.length c6)] hF hS Fol (by kernel_rfl) (by kernel_rfl) (by kernel_rfl) ?_ (fun a w hF hS => ?_)
    · exact obs_nil
    refine wpIn_ret ?_
    have hm : some out2 = some r := hm
    obtain rfl := Option.some.inj hm
    exact retV (rs := [.tmp 6]) (vs := [.slice A6 out2.length c6]) hF rfl (rv_t (by kernel_rfl) <| rv_nil) rfl ⟨_, rfl, A6, c6, rfl, hS⟩
  · refine reg [] [] [0, 1, 2, 7, 8] [pl 0 (.slice A4 r1.length c4), pl 1 (.slice A2 guesses1.length c2), pl 2 (.slice A3 hints1.length c3), pl 7 (.slice none 0 0), pl 8 (.int .i64 0)] hF hS Fol (by kernel_rfl) (by kernel_rfl) (by kernel_rfl) ?_ (fun a w hF hS => ?_)
    · exact obs_nil
    refine wpIn_block ?_
    have hS : Sep w0 B w (own 9 (.slice none 0 0) ((List.map strV ([] : List (List UInt8)))) :: own 9 (.slice A4 r1.length c4) ((List.map strV r1)) :: fs) := hS.nil 9
    have hl1 := (hS.at_ 0 rfl).len1
    have hS := (hS.at_ 0 rfl).reN hl1
    have hS : Sep w0 B w (own 9 (.slice none (([] : List (List UInt8)).length) 0) ((List.map strV ([] : List (List UInt8)))) :: own 9 (.slice A4 r1.length c4) ((List.map strV r1)) :: fs) := hS
    have hF := hF.cast (t := 7) (v := .slice none 0 0) (v' := .slice none (([] : List (List UInt8)).length) 0) rfl rfl (congrArg (fun k => Value.slice none k 0) hl1)
    have hS := hS.pickN 2 [1, 0] (by decide)
    refine wp_loop_model (S := (List (List UInt8) × Int)) (R := (List (List UInt8))) (gameroomref_FitsOf_L1 guesses1 hints1 r1) (fun x => (gameroomref_FitsOf_K1 x).bind some) r (fun (x : (List (List UInt8) × Int)) a w => ∃ (A5 : Option Addr) (c5 : Nat), Fr 78 [pl 0 (.slice A4 r1.length c4), pl 1 (.slice A2 guesses1.length c2), pl 2 (.slice A3 hints1.length c3), pl 7 (.slice A5 x.1.length c5), pl 8 (.int .i64 x.2)] a ∧ Sep w0 B w (own 9 (.slice A4 r1.length c4) ((List.map strV r1)) :: own 9 (.slice A5 x.1.length c5) ((List.map strV x.1)) :: fs)) (assoc_b hm) ⟨none, 0, hF.weak [0, 1, 2, 7, 8] (by kernel_rfl), hS⟩ ?_
    clear hF hS hm
    rintro nn1 ⟨out1, i1⟩ a w ⟨A5, c5, hF, hS⟩ hm
    generalize hφ1 : stK (gameroomref_FitsOf_L1 guesses1 hints1 r1) nn1 (fun x => (gameroomref_FitsOf_K1 x).bind some) = φ1 at hm
    unfold gameroomref_FitsOf_L1 at hm
    dsimp only at hF hS hm
    refine seq_cut (fun a w => Fr 78 [pl 0 (.slice A4 r1.length c4), pl 1 (.slice A2 guesses1.length c2), pl 2 (.slice A3 hints1.length c3), pl 7 (.slice A5 out1.length c5), pl 8 (.int .i64 i1)] a ∧ Sep w0 B w (own 9 (.slice A4 r1.length c4) ((List.map strV r1)) :: own 9 (.slice A5 out1.length c5) ((List.map strV out1)) :: fs) ∧ ((gameroomref_FitsOf_J2 guesses1 hints1 r1 out1 i1)).bind φ1 = some r) ?_ ?_
    · rintro a w ⟨hF, hS, hm⟩
      unfold gameroomref_FitsOf_J2 at hm
      refine seq_cut (fun a w => ∃ (out3 : List (List UInt8)) (A10 : Option Addr) (c10 : Nat), Fr 78 [pl 0 (.slice A4 r1.length c4), pl 1 (.slice A2 guesses1.length c2), pl 2 (.slice A3 hints1.length c3), pl 7 (.slice A10 out3.length c10), pl 8 (.int .i64 i1)] a ∧ Sep w0 B w (own 9 (.slice A4 r1.length c4) ((List.map strV r1)) :: own 9 (.slice A10 out3.length c10) ((List.map strV out3)) :: fs) ∧ ((gameroomref_FitsOf_J3 i1) out3).bind φ1 = some r) ?_ ?_
      · rintro a w ⟨out3, A10, c10, hF, hS, hm⟩
        unfold gameroomref_FitsOf_J3 at hm
        refine reg1 [] [] [0, 1, 2, 7, 8] [pl 0 (.slice A4 r1.length c4), pl 1 (.slice A2 guesses1.length c2), pl 2 (.slice A3 hints1.length c3), pl 7 (.slice A10 out3.length c10), pl 8 (.int .i64 (w64 (i1 + 1)))] hF hS Fol (by kernel_rfl) (by kernel_rfl) (by kernel_rfl) ?_ (fun a w hF hS => ?_)
        · exact obs_nil
        refine then_n ?_
        rw [← hφ1] at hm
        exact ⟨(out3, (w64 (i1 + 1))), ⟨A10, c10, hF.weak [0, 1, 2, 7, 8] (by kernel_rfl), hS⟩, hm⟩
      · refine wpIn_block ?_
        refine seqR ?_
        obtain ⟨hp1, hm⟩ := asrt_b hm
        obtain ⟨r2, hr2, hm⟩ := call_b hm
        refine at_run 4 [⟨true, [], vS (Instr.indexAt 40 (.slice A4 r1.length c4) (.int .i64 i1)), .pointer (some (sAddr A4 i1))⟩, ⟨false, [], vS (Instr.loadAt 9 (.pointer (some (sAddr A4 i1)))), strV (getd ([] : List UInt8) r1 i1)⟩] [none, none, some (.pointer (some (sAddr A4 i1))), some (strV (getd ([] : List UInt8) r1 i1))] [0, 1, 2, 7, 8, 27] [pl 0 (.slice A4 r1.length c4), pl 1 (.slice A2 guesses1.length c2), pl 2 (.slice A3 hints1.length c3), pl 7 (.slice A5 out1.length c5), pl 8 (.int .i64 i1), pl 27 (strV (getd ([] : List UInt8) r1 i1))] hF hS (by kernel_rfl) (by kernel_rfl) ?_ (fun a w hF hS => ?_)
        · exact obs_cons (ob_ix1 (f := strV) (m := r1) Und40 hi9 hs9 (hS.at_ 0 rfl).rd rfl (fun _ => hp1)) <| obs_cons (ob_get1 (n := r1.length) (m := r1) strV ([] : List UInt8) Agg9 (fun _ hS => ⟨_, (hS.at_ 0 rfl).rd⟩) (fun _ hS => rfl) (fun _ => hp1)) <| obs_nil
        refine at_call (f := 52) (args := #[strV (getd ([] : List UInt8) r1 i1), .bool false]) (d := 28) hF (by kernel_rfl) (by kernel_rfl) Tryd.func52 (by kernel_rfl) rfl (gameroomref_lettersOf_w hr2 hS ) (fun v a w hR hF => ?_)
        clear hS
        obtain ⟨A7, c7, rfl, hS⟩ := hR
        have hS : Sep w0 B w (own 9 (.slice A7 r2.1.length c7) ((List.map strV r2.1)) :: own 9 (.slice A4 r1.length c4) ((List.map strV r1)) :: own 9 (.slice A5 out1.length c5) ((List.map strV out1)) :: fs) := hS
        refine at_run 5 [] [] [0, 1, 2, 7, 8, 9] [pl 0 (.slice A4 r1.length c4), pl 1 (.slice A2 guesses1.length c2), pl 2 (.slice A3 hints1.length c3), pl 7 (.slice A5 out1.length c5), pl 8 (.int .i64 i1), pl 9 (.slice A7 r2.1.length c7)] hF hS (by kernel_rfl) (by kernel_rfl) ?_ (fun a w hF hS => ?_)
        · exact obs_nil
        refine at_end [0, 1, 2, 7, 8, 9] [pl 0 (.slice A4 r1.length c4), pl 1 (.slice A2 guesses1.length c2), pl 2 (.slice A3 hints1.length c3), pl 7 (.slice A5 out1.length c5), pl 8 (.int .i64 i1), pl 9 (.slice A7 r2.1.length c7)] hF rfl (by kernel_rfl) (fun hF => ?_)
        refine then_n ?_
        refine reg [] [] [0, 1, 2, 7, 8, 9, 11] [pl 0 (.slice A4 r1.length c4), pl 1 (.slice A2 guesses1.length c2), pl 2 (.slice A3 hints1.length c3), pl 7 (.slice A5 out1.length c5), pl 8 (.int .i64 i1), pl 9 (.slice A7 r2.1.length c7), pl 11 (.bool true)] hF hS Fol (by kernel_rfl) (by kernel_rfl) (by kernel_rfl) ?_ (fun a w hF hS => ?_)
        · exact obs_nil
        refine seq_cut (fun a w => ∃ (ok2 : Bool), Fr 78 [pl 0 (.slice A4 r1.length c4), pl 1 (.slice A2 guesses1.length c2), pl 2 (.slice A3 hints1.length c3), pl 7 (.slice A5 out1.length c5), pl 8 (.int .i64 i1), pl 11 (.bool ok2)] a ∧ Sep w0 B w (own 9 (.slice A4 r1.length c4) ((List.map strV r1)) :: own 9 (.slice A5 out1.length c5) ((List.map strV out1)) :: fs) ∧ ((gameroomref_FitsOf_J4 r1 out1 i1) ok2).bind φ1 = some r) ?_ ?_
        · rintro a w ⟨ok2, hF, hS, hm⟩
          unfold gameroomref_FitsOf_J4 at hm
          refine reg [] [] [0, 1, 2, 7, 8, 69] [pl 0 (.slice A4 r1.length c4), pl 1 (.slice A2 guesses1.length c2), pl 2 (.slice A3 hints1.length c3), pl 7 (.slice A5 out1.length c5), pl 8 (.int .i64 i1), pl 69 (.bool ok2)] hF hS Fol (by kernel_rfl) (by kernel_rfl) (by kernel_rfl) ?_ (fun a w hF hS => ?_)
          · exact obs_nil
          refine cond_ev (t := 69) (b := ok2) hF (by kernel_rfl) (fun hb => ?_) (fun hb => ?_)
          · replace hm := if_t hm hb
            refine oneR ?_
            obtain ⟨hp6, hm⟩ := asrt_b hm
            obtain ⟨hp7, hm⟩ := asrt_b hm
            refine at_run 5 [⟨true, [], vS (Instr.indexAt 40 (.slice A4 r1.length c4) (.int .i64 i1)), .pointer (some (sAddr A4 i1))⟩, ⟨false, [], vS (Instr.loadAt 9 (.pointer (some (sAddr A4 i1)))), strV (getd ([] : List UInt8) r1 i1)⟩] [none, none, none, some (.pointer (some (sAddr A4 i1))), some (strV (getd ([] : List UInt8) r1 i1))] [0, 1, 2, 8, 70, 74] [pl 0 (.slice A4 r1.length c4), pl 1 (.slice A2 guesses1.length c2), pl 2 (.slice A3 hints1.length c3), pl 8 (.int .i64 i1), pl 70 (.slice A5 out1.length c5), pl 74 (strV (getd ([] : List UInt8) r1 i1))] hF hS (by kernel_rfl) (by kernel_rfl) ?_ (fun a w hF hS => ?_)
            · exact obs_cons (ob_ix1 (f := strV) (m := r1) Und40 hi9 hs9 (hS.at_ 0 rfl).rd rfl (fun _ => hp6)) <| obs_cons (ob_get1 (n := r1.length) (m := r1) strV ([] : List UInt8) Agg9 (fun _ hS => ⟨_, (hS.at_ 0 rfl).rd⟩) (fun _ hS => rfl) (fun _ => hp6)) <| obs_nil
            refine at_do (d := 75) (s := vS (Instr.buildSlice 40 1 #[(0, strV (getd ([] : List UInt8) r1 i1))])) (v := .slice (some ⟨w.heap.size, 0, none⟩) 1 1) (w' := w.alloc (.cells #[strV (getd ([] : List UInt8) r1 i1)] 9)) hF (by kernel_rfl) (by kernel_rfl) (by kernel_rfl) (fun a hF => ?_)
            have hS : Sep w0 B (w.alloc (.cells #[strV (getd ([] : List UInt8) r1 i1)] 9)) (own 9 (.slice (some (⟨w.heap.size, 0, none⟩ : Addr)) 1 1) ((List.map strV ([getd ([] : List UInt8) r1 i1] : List (List UInt8)))) :: (own 9 (.slice A4 r1.length c4) ((List.map strV r1)) :: own 9 (.slice A5 out1.length c5) ((List.map strV out1)) :: fs)) := hS.lit 9 #[strV (getd ([] : List UInt8) r1 i1)] 1 rfl (by omega)
            generalize (some (⟨w.heap.size, 0, none⟩ : Addr)) = g1 at hF hS
            generalize w.alloc (.cells #[strV (getd ([] : List UInt8) r1 i1)] 9) = w at hS ⊢
            obtain ⟨A9, c9, w, hrun, hS⟩ := run_appG (P := Tryd.prog) (t := 40) (m := out1) (ys := ([getd ([] : List UInt8) r1 i1] : List (List UInt8))) (A2 := g1) (m2 := 1) (c2 := 1) strV ([] : List UInt8) 8796093022208 (hS.at_ 2 rfl) (hS.at_ 0 rfl).rd ((hS.at_ 0 rfl).len1) 40 Und40 hi9 hz9 hs9 (by rw [hb9]; decide) (by decide) rfl (fun _ => rfl) hp7
            have hS : Sep w0 B w (own 9 (.slice g1 1 1) ((List.map strV ([getd ([] : List UInt8) r1 i1] : List (List UInt8)))) :: own 9 (.slice A4 r1.length c4) ((List.map strV r1)) :: own 9 (.slice A9 ((out1 ++ ([getd ([] : List UInt8) r1 i1] : List (List UInt8))).length) c9) ((List.map strV (out1 ++ ([getd ([] : List UInt8) r1 i1] : List (List UInt8))))) :: fs) := hS
            refine at_do (d := 76) hF (by kernel_rfl) (by kernel_rfl) hrun (fun a hF => ?_)
            refine at_run 1 [] [] [0, 1, 2, 7, 8] [pl 0 (.slice A4 r1.length c4), pl 1 (.slice A2 guesses1.length c2), pl 2 (.slice A3 hints1.length c3), pl 7 (.slice A9 ((out1 ++ ([getd ([] : List UInt8) r1 i1] : List (List UInt8))).length) c9), pl 8 (.int .i64 i1)] hF hS (by kernel_rfl) (by kernel_rfl) ?_ (fun a w hF hS => ?_)
            · exact obs_nil
            refine at_end [0, 1, 2, 7, 8] [pl 0 (.slice A4 r1.length c4), pl 1 (.slice A2 guesses1.length c2), pl 2 (.slice A3 hints1.length c3), pl 7 (.slice A9 ((out1 ++ ([getd ([] : List UInt8) r1 i1] : List (List UInt8))).length) c9), pl 8 (.int .i64 i1)] hF rfl (by kernel_rfl) (fun hF => ?_)
            refine block_n ?_
            refine then_n ?_
            have hS := hS.pickN 3 [1, 2] (by decide)
            exact ⟨(out1 ++ ([getd ([] : List UInt8) r1 i1] : List (List UInt8))), A9, c9, hF.weak [0, 1, 2, 7, 8] (by kernel_rfl), hS, hm⟩
          · replace hm := if_f hm hb
            refine wpIn_skip ?_
            refine block_n ?_
            refine then_n ?_
            exact ⟨out1, A5, c5, hF.weak [0, 1, 2, 7, 8] (by kernel_rfl), hS, hm⟩
        · refine reg [] [] [0, 1, 2, 7, 8, 9, 11, 12] [pl 0 (.slice A4 r1.length c4), pl 1 (.slice A2 guesses1.length c2), pl 2 (.slice A3 hints1.length c3), pl 7 (.slice A5 out1.length c5), pl 8 (.int .i64 i1), pl 9 (.slice A7 r2.1.length c7), pl 11 (.bool true), pl 12 (.int .i64 0)] hF hS Fol (by kernel_rfl) (by kernel_rfl) (by kernel_rfl) ?_ (fun a w hF hS => ?_)
          · exact obs_nil
          refine wpIn_block ?_
          have hS := hS.pickN 3 [1, 2, 0] (by decide)
          refine wp_loop_model (S := (Bool × Int)) (R := Bool) (gameroomref_FitsOf_L2 guesses1 hints1 r1 i1 r2) (fun x => ((gameroomref_FitsOf_K2 r1 out1 i1) x).bind φ1) r (fun (x : (Bool × Int)) a w => Fr 78 [pl 0 (.slice A4 r1.length c4), pl 1 (.slice A2 guesses1.length c2), pl 2 (.slice A3 hints1.length c3), pl 7 (.slice A5 out1.length c5), pl 8 (.int .i64 i1), pl 9 (.slice A7 r2.1.length c7), pl 11 (.bool x.1), pl 12 (.int .i64 x.2)] a ∧ Sep w0 B w (own 9 (.slice A4 r1.length c4) ((List.map strV r1)) :: own 9 (.slice A5 out1.length c5) ((List.map strV out1)) :: own 9 (.slice A7 r2.1.length c7) ((List.map strV r2.1)) :: fs)) (assoc_b hm) ⟨hF.weak [0, 1, 2, 7, 8, 9, 11, 12] (by kernel_rfl), hS⟩ ?_
          clear hF hS hm
          rintro nn2 ⟨ok1, k1⟩ a w ⟨hF, hS⟩ hm
          generalize hφ2 : stK (gameroomref_FitsOf_L2 guesses1 hints1 r1 i1 r2) nn2 (fun x => ((gameroomref_FitsOf_K2 r1 out1 i1) x).bind φ1) = φ2 at hm
          unfold gameroomref_FitsOf_L2 at hm
          dsimp only at hF hS hm
          refine seq_cut (fun a w => Fr 78 [pl 0 (.slice A4 r1.length c4), pl 1 (.slice A2 guesses1.length c2), pl 2 (.slice A3 hints1.length c3), pl 7 (.slice A5 out1.length c5), pl 8 (.int .i64 i1), pl 9 (.slice A7 r2.1.length c7), pl 12 (.int .i64 k1)] a ∧ Sep w0 B w (own 9 (.slice A4 r1.length c4) ((List.map strV r1)) :: own 9 (.slice A5 out1.length c5) ((List.map strV out1)) :: own 9 (.slice A7 r2.1.length c7) ((List.map strV r2.1)) :: fs) ∧ ((gameroomref_FitsOf_J5 guesses1 hints1 r1 i1 r2 k1)).bind φ2 = some r) ?_ ?_
          · rintro a w ⟨hF, hS, hm⟩
            unfold gameroomref_FitsOf_J5 at hm
            refine seq_cut (fun a w => ∃ (ok3 : Bool), Fr 78 [pl 0 (.slice A4 r1.length c4), pl 1 (.slice A2 guesses1.length c2), pl 2 (.slice A3 hints1.length c3), pl 7 (.slice A5 out1.length c5), pl 8 (.int .i64 i1), pl 9 (.slice A7 r2.1.length c7), pl 11 (.bool ok3), pl 12 (.int .i64 k1)] a ∧ Sep w0 B w (own 9 (.slice A4 r1.length c4) ((List.map strV r1)) :: own 9 (.slice A5 out1.length c5) ((List.map strV out1)) :: own 9 (.slice A7 r2.1.length c7) ((List.map strV r2.1)) :: fs) ∧ ((gameroomref_FitsOf_J6 k1) ok3).bind φ2 = some r) ?_ ?_
            · rintro a w ⟨ok3, hF, hS, hm⟩
              unfold gameroomref_FitsOf_J6 at hm
              refine reg1 [] [] [0, 1, 2, 7, 8, 9, 11, 12] [pl 0 (.slice A4 r1.length c4), pl 1 (.slice A2 guesses1.length c2), pl 2 (.slice A3 hints1.length c3), pl 7 (.slice A5 out1.length c5), pl 8 (.int .i64 i1), pl 9 (.slice A7 r2.1.length c7), pl 11 (.bool ok3), pl 12 (.int .i64 (w64 (k1 + 1)))] hF hS Fol (by kernel_rfl) (by kernel_rfl) (by kernel_rfl) ?_ (fun a w hF hS => ?_)
              · exact obs_nil
              refine then_n ?_
              rw [← hφ2] at hm
              exact ⟨(ok3, (w64 (k1 + 1))), ⟨hF.weak [0, 1, 2, 7, 8, 9, 11, 12] (by kernel_rfl), hS⟩, hm⟩
            · refine wpIn_block ?_
              refine seqR ?_
              obtain ⟨hp2, hm⟩ := asrt_b hm
              obtain ⟨r3, hr3, hm⟩ := call_b hm
              refine at_run 4 [⟨true, [], vS (Instr.indexAt 40 (.slice A2 guesses1.length c2) (.int .i64 k1)), .pointer (some (sAddr A2 k1))⟩, ⟨false, [], vS (Instr.loadAt 9 (.pointer (some (sAddr A2 k1)))), strV (getd ([] : List UInt8) guesses1 k1)⟩] [none, none, some (.pointer (some (sAddr A2 k1))), some (strV (getd ([] : List UInt8) guesses1 k1))] [0, 1, 2, 7, 8, 9, 12, 44] [pl 0 (.slice A4 r1.length c4), pl 1 (.slice A2 guesses1.length c2), pl 2 (.slice A3 hints1.length c3), pl 7 (.slice A5 out1.length c5), pl 8 (.int .i64 i1), pl 9 (.slice A7 r2.1.length c7), pl 12 (.int .i64 k1), pl 44 (strV (getd ([] : List UInt8) guesses1 k1))] hF hS (by kernel_rfl) (by kernel_rfl) ?_ (fun a w hF hS => ?_)
              · exact obs_cons (ob_ix1 (f := strV) (m := guesses1) Und40 hi9 hs9 (hr_guesses1 _ (hS.dropN 3)) rfl (fun _ => hp2)) <| obs_cons (ob_get1 (n := guesses1.length) (m := guesses1) strV ([] : List UInt8) Agg9 (fun _ hS => ⟨_, (hr_guesses1 _ (hS.dropN 3))⟩) (fun _ hS => rfl) (fun _ => hp2)) <| obs_nil
              refine at_call (f := 52) (args := #[strV (getd ([] : List UInt8) guesses1 k1), .bool false]) (d := 45) hF (by kernel_rfl) (by kernel_rfl) Tryd.func52 (by kernel_rfl) rfl (gameroomref_lettersOf_w hr3 hS ) (fun v a w hR hF => ?_)
              clear hS
              obtain ⟨A8, c8, rfl, hS⟩ := hR
              have hS : Sep w0 B w (own 9 (.slice A8 r3.1.length c8) ((List.map strV r3.1)) :: own 9 (.slice A4 r1.length c4) ((List.map strV r1)) :: own 9 (.slice A5 out1.length c5) ((List.map strV out1)) :: own 9 (.slice A7 r2.1.length c7) ((List.map strV r2.1)) :: fs) := hS
              refine at_run 5 [] [] [0, 1, 2, 7, 8, 9, 12, 13] [pl 0 (.slice A4 r1.length c4), pl 1 (.slice A2 guesses1.length c2), pl 2 (.slice A3 hints1.length c3), pl 7 (.slice A5 out1.length c5), pl 8 (.int .i64 i1), pl 9 (.slice A7 r2.1.length c7), pl 12 (.int .i64 k1), pl 13 (.slice A8 r3.1.length c8)] hF hS (by kernel_rfl) (by kernel_rfl) ?_ (fun a w hF hS => ?_)
              · exact obs_nil
              refine at_end [0, 1, 2, 7, 8, 9, 12, 13] [pl 0 (.slice A4 r1.length c4), pl 1 (.slice A2 guesses1.length c2), pl 2 (.slice A3 hints1.length c3), pl 7 (.slice A5 out1.length c5), pl 8 (.int .i64 i1), pl 9 (.slice A7 r2.1.length c7), pl 12 (.int .i64 k1), pl 13 (.slice A8 r3.1.length c8)] hF rfl (by kernel_rfl) (fun hF => ?_)
              refine then_n ?_
              obtain ⟨hp3, hm⟩ := asrt_b hm
              obtain ⟨hp4, hm⟩ := asrt_b hm
              obtain ⟨r4, hr4, hm⟩ := call_b hm
              obtain ⟨hp5, hm⟩ := asrt_b hm
              refine reg1 [⟨true, [(((r2.1.length : Int) == (r3.1.length : Int)), true)], vS (Instr.indexAt 40 (.slice A4 r1.length c4) (.int .i64 i1)), .pointer (some (sAddr A4 i1))⟩, ⟨false, [(((r2.1.length : Int) == (r3.1.length : Int)), true)], vS (Instr.loadAt 9 (.pointer (some (sAddr A4 i1)))), strV (getd ([] : List UInt8) r1 i1)⟩, ⟨true, [(((r2.1.length : Int) == (r3.1.length : Int)), true)], vS (Instr.indexAt 40 (.slice A2 guesses1.length c2) (.int .i64 k1)), .pointer (some (sAddr A2 k1))⟩, ⟨false, [(((r2.1.length : Int) == (r3.1.length : Int)), true)], vS (Instr.loadAt 9 (.pointer (some (sAddr A2 k1)))), strV (getd ([] : List UInt8) guesses1 k1)⟩, ⟨false, [(((r2.1.length : Int) == (r3.1.length : Int)), true)], callFunc 15 #[strV (getd ([] : List UInt8) r1 i1), strV (getd ([] : List UInt8) guesses1 k1)], strV r4⟩, ⟨true, [(((r2.1.length : Int) == (r3.1.length : Int)), true)], vS (Instr.indexAt 40 (.slice A3 hints1.length c3) (.int .i64 k1)), .pointer (some (sAddr A3 k1))⟩, ⟨false, [(((r2.1.length : Int) == (r3.1.length : Int)), true)], vS (Instr.loadAt 9 (.pointer (some (sAddr A3 k1)))), strV (getd ([] : List UInt8) hints1 k1)⟩, ⟨true, [(((r2.1.length : Int) == (r3.1.length : Int)), true)], vS (do eqGuard .eql 9 (.tmp 62) (.tmp 66) (strV r4) (strV (getd ([] : List UInt8) hints1 k1)); binOp .eql 9 (strV r4) (strV (getd ([] : List UInt8) hints1 k1))), .bool ((r4 == (getd ([] : List UInt8) hints1 k1)))⟩] [none, none, none, none, none, none, none, none, some (.pointer (some (sAddr A4 i1))), some (strV (getd ([] : List UInt8) r1 i1)), none, none, some (.pointer (some (sAddr A2 k1))), some (strV (getd ([] : List UInt8) guesses1 k1)), some (strV r4), none, none, some (.pointer (some (sAddr A3 k1))), some (strV (getd ([] : List UInt8) hints1 k1)), some (.bool ((r4 == (getd ([] : List UInt8) hints1 k1)))), none, none] [0, 1, 2, 7, 8, 9, 11, 12] [pl 0 (.slice A4 r1.length c4), pl 1 (.slice A2 guesses1.length c2), pl 2 (.slice A3 hints1.length c3), pl 7 (.slice A5 out1.length c5), pl 8 (.int .i64 i1), pl 9 (.slice A7 r2.1.length c7), pl 11 (.bool (((r2.1.length : Int) == (r3.1.length : Int)) && (r4 == (getd ([] : List UInt8) hints1 k1)))), pl 12 (.int .i64 k1)] hF hS Fol (by kernel_rfl) (by kernel_rfl) (by kernel_rfl) ?_ (fun a w hF hS => ?_)
              · exact obs_cons (ob_ix1 (f := strV) (m := r1) Und40 hi9 hs9 (hS.at_ 1 rfl).rd rfl (fun hy => hp3 (hy (((r2.1.length : Int) == (r3.1.length : Int)), true) (by simp)))) <| obs_cons (ob_get1 (n := r1.length) (m := r1) strV ([] : List UInt8) Agg9 (fun _ hS => ⟨_, (hS.at_ 1 rfl).rd⟩) (fun _ hS => rfl) (fun hy => hp3 (hy (((r2.1.length : Int) == (r3.1.length : Int)), true) (by simp)))) <| obs_cons (ob_ix1 (f := strV) (m := guesses1) Und40 hi9 hs9 (hr_guesses1 _ (hS.dropN 4)) rfl (fun hy => hp4 (hy (((r2.1.length : Int) == (r3.1.length : Int)), true) (by simp)))) <| obs_cons (ob_get1 (n := guesses1.length) (m := guesses1) strV ([] : List UInt8) Agg9 (fun _ hS => ⟨_, (hr_guesses1 _ (hS.dropN 4))⟩) (fun _ hS => rfl) (fun hy => hp4 (hy (((r2.1.length : Int) == (r3.1.length : Int)), true) (by simp)))) <| obs_cons (ob_call Tryd.func15 (by kernel_rfl) rfl (fun hy _ hS => gameroomref_HintOf_w (ite_some hr4 (by rw [show ((r2.1.length : Int) == (r3.1.length : Int)) = true from hy (((r2.1.length : Int) == (r3.1.length : Int)), true) (by simp)]; try rfl)) hS )) <| obs_cons (ob_ix1 (f := strV) (m := hints1) Und40 hi9 hs9 (hr_hints1 _ (hS.dropN 4)) rfl (fun hy => hp5 (hy (((r2.1.length : Int) == (r3.1.length : Int)), true) (by simp)))) <| obs_cons (ob_get1 (n := hints1.length) (m := hints1) strV ([] : List UInt8) Agg9 (fun _ hS => ⟨_, (hr_hints1 _ (hS.dropN 4))⟩) (fun _ hS => rfl) (fun hy => hp5 (hy (((r2.1.length : Int) == (r3.1.length : Int)), true) (by simp)))) <| obs_cons (ob_seql _ _) <| obs_nil
              refine block_n ?_
              refine then_n ?_
              have hS := hS.pickN 4 [1, 2, 3] (by decide)
              exact ⟨(((r2.1.length : Int) == (r3.1.length : Int)) && (r4 == (getd ([] : List UInt8) hints1 k1))), hF.weak [0, 1, 2, 7, 8, 9, 11, 12] (by kernel_rfl), hS, hm⟩
          · refine reg [] [] [0, 1, 2, 7, 8, 9, 11, 12, 37] [pl 0 (.slice A4 r1.length c4), pl 1 (.slice A2 guesses1.length c2), pl 2 (.slice A3 hints1.length c3), pl 7 (.slice A5 out1.length c5), pl 8 (.int .i64 i1), pl 9 (.slice A7 r2.1.length c7), pl 11 (.bool ok1), pl 12 (.int .i64 k1), pl 37 (.bool ((decide (k1 < (guesses1.length : Int))) && ok1))] hF hS Fol (by kernel_rfl) (by kernel_rfl) (by kernel_rfl) ?_ (fun a w hF hS => ?_)
            · exact obs_nil
            refine cond_ev (t := 37) (b := (decide (k1 < (guesses1.length : Int))) && ok1) hF (by kernel_rfl) (fun hb => ?_) (fun hb => ?_)
            · replace hm := if_t hm hb
              refine wpIn_skip ?_
              refine then_n ?_
              exact ⟨hF.weak [0, 1, 2, 7, 8, 9, 12] (by kernel_rfl), hS, hm⟩
            · replace hm := if_f hm hb
              refine wpIn_exit ?_
              refine then_e (then_e (block_e (then_n ?_)))
              have hS := hS.pickN 3 [0, 1] (by decide)
              rw [← hφ2] at hm
              replace hm := done_b hm
              unfold gameroomref_FitsOf_K2 at hm
              try dsimp only at hm
              have hm : ((gameroomref_FitsOf_J4 r1 out1 i1) ok1).bind φ1 = some r := hm
              exact ⟨ok1, hF.weak [0, 1, 2, 7, 8, 11] (by kernel_rfl), hS, hm⟩
    · refine reg [] [] [0, 1, 2, 7, 8, 20] [pl 0 (.slice A4 r1.length c4), pl 1 (.slice A2 guesses1.length c2), pl 2 (.slice A3 hints1.length c3), pl 7 (.slice A5 out1.length c5), pl 8 (.int .i64 i1), pl 20 (.bool (decide (i1 < (r1.length : Int))))] hF hS Fol (by kernel_rfl) (by kernel_rfl) (by kernel_rfl) ?_ (fun a w hF hS => ?_)
      · exact obs_nil
      refine cond_ev (t := 20) (b := decide (i1 < (r1.length : Int))) hF (by kernel_rfl) (fun hb => ?_) (fun hb => ?_)
      · replace hm := if_t hm hb
        refine wpIn_skip ?_
        refine then_n ?_
        exact ⟨hF.weak [0, 1, 2, 7, 8] (by kernel_rfl), hS, hm⟩
      · replace hm := if_f hm hb
        refine wpIn_exit ?_
        refine then_e (then_e (block_e (then_n ?_)))
        have hS := hS.pickN 2 [1] (by decide)
        rw [← hφ1] at hm
        replace hm := done_b hm
        unfold gameroomref_FitsOf_K1 at hm
        try dsimp only at hm
        have hm : (gameroomref_FitsOf_J1 out1).bind some = some r := hm
        exact ⟨out1, A5, c5, hF.weak [7] (by kernel_rfl), hS, hm⟩

noncomputable def gameroomref_SameTexts_J4  (i1 : Int) : Option (St Int (Fl Unit Bool)) :=
  some (.next (w64 (i1 + 1)))

noncomputable def gameroomref_SameTexts_J3  (a1 : List (List UInt8)) (b1 : List (List UInt8)) (i1 : Int) : Option (St Int (Fl Unit Bool)) :=
  asrt (0 ≤ i1 ∧ i1 < (a1.length : Int)) <| asrt (0 ≤ i1 ∧ i1 < (b1.length : Int)) <| if (!((getd ([] : List UInt8) a1 i1) == (getd ([] : List UInt8) b1 i1))) then (some (.done (.ret false))) else ((gameroomref_SameTexts_J4 i1))

noncomputable def gameroomref_SameTexts_J2  : Option Bool :=
  some true

noncomputable def gameroomref_SameTexts_K1  : (Fl Unit Bool) → Option Bool :=
  fun (x : (Fl Unit Bool)) => match x with | .go _ => gameroomref_SameTexts_J2 | .ret x => some x

noncomputable def gameroomref_SameTexts_L1  (a1 : List (List UInt8)) (b1 : List (List UInt8)) : Int → Option (St Int (Fl Unit Bool)) :=
  fun (x : Int) => match x with | i1 => if (decide (i1 < (a1.length : Int))) then ((gameroomref_SameTexts_J3 a1 b1 i1)) else (some (.done (.go ())))

noncomputable def gameroomref_SameTexts_J1  (a1 : List (List UInt8)) (b1 : List (List UInt8)) : Option Bool :=
  (loop (gameroomref_SameTexts_L1 a1 b1) 0).bind gameroomref_SameTexts_K1

noncomputable def gameroomref_SameTexts_m  (a1 : List (List UInt8)) (b1 : List (List UInt8)) : Option Bool :=
  if ((a1.length : Int) != (b1.length : Int)) then (some false) else ((gameroomref_SameTexts_J1 a1 b1))

set_option maxRecDepth 100000 in
set_option maxHeartbeats 4000000 in
theorem gameroomref_SameTexts_w  {A1 : Option Addr} {c1 : Nat} {n1 : Nat} {a1 : List (List UInt8)} {A2 : Option Addr} {c2 : Nat} {n2 : Nat} {b1 : List (List UInt8)} {r : Bool} {w0 w : World} {B : Nat} {fs : List HP} (hm : gameroomref_SameTexts_m a1 b1 = some r) (hS : Sep w0 B w (fs)) (hr_a1 : RdF w0 B fs A1 ((List.map strV a1))) (_hc_a1 : a1.length ≤ c1) (_hn_a1 : n1 = a1.length) (hr_b1 : RdF w0 B fs A2 ((List.map strV b1))) (_hc_b1 : b1.length ≤ c2) (_hn_b1 : n2 = b1.length) :
    Calls Tryd.prog 26 #[.slice A1 n1 c1, .slice A2 n2 c2] w fun e w' => e = .returned (.bool r) ∧ Sep w0 B w' (fs) := by
  obtain ⟨i9, hi9, hz9, hs9, hb9⟩ := info_parts Info9
  obtain rfl := _hn_a1
  obtain rfl := _hn_b1
  unfold gameroomref_SameTexts_m at hm
  replace hm := start_b hm
  refine enter (l := [.slice A1 a1.length c1, .slice A2 b1.length c2]) (n := 26) Tryd.func26 rfl rfl (by simp) (fun a hF => ?_)
  refine reg [] [] [0, 1] [pl 0 (.slice A1 a1.length c1), pl 1 (.slice A2 b1.length c2)] hF hS Fol (by kernel_rfl) (by kernel_rfl) (by kernel_rfl) ?_ (fun a w hF hS => ?_)
  · exact obs_nil
  refine seq_cut (fun a w => Fr 26 [pl 0 (.slice A1 a1.length c1), pl 1 (.slice A2 b1.length c2)] a ∧ Sep w0 B w (fs) ∧ ((gameroomref_SameTexts_J1 a1 b1)).bind some = some r) ?_ ?_
  · rintro a w ⟨hF, hS, hm⟩
    unfold gameroomref_SameTexts_J1 at hm
    refine seq_cut (fun a w => Fr 26 [] a ∧ Sep w0 B w (fs) ∧ (gameroomref_SameTexts_J2).bind some = some r) ?_ ?_
    · rintro a w ⟨hF, hS, hm⟩
      unfold gameroomref_SameTexts_J2 at hm
      refine reg [] [] [4] [pl 4 (.bool true)] hF hS Fol (by kernel_rfl) (by kernel_rfl) (by kernel_rfl) ?_ (fun a w hF hS => ?_)
      · exact obs_nil
      refine wpIn_ret ?_
      have hm : some true = some r := hm
      obtain rfl := Option.some.inj hm
      exact retV (rs := [.tmp 4]) (vs := [.bool true]) hF rfl (rv_t (by kernel_rfl) <| rv_nil) rfl ⟨rfl, hS⟩
    · refine reg [] [] [0, 1, 5] [pl 0 (.slice A1 a1.length c1), pl 1 (.slice A2 b1.length c2), pl 5 (.int .i64 0)] hF hS Fol (by kernel_rfl) (by kernel_rfl) (by kernel_rfl) ?_ (fun a w hF hS => ?_)
      · exact obs_nil
      refine wpIn_block ?_
      refine wp_loop_model (S := Int) (R := (Fl Unit Bool)) (gameroomref_SameTexts_L1 a1 b1) (fun x => (gameroomref_SameTexts_K1 x).bind some) r (fun (x : Int) a w => Fr 26 [pl 0 (.slice A1 a1.length c1), pl 1 (.slice A2 b1.length c2), pl 5 (.int .i64 x)] a ∧ Sep w0 B w (fs)) (assoc_b hm) ⟨hF.weak [0, 1, 5] (by kernel_rfl), hS⟩ ?_
      clear hF hS hm
      rintro nn1 i1 a w ⟨hF, hS⟩ hm
      generalize hφ1 : stK (gameroomref_SameTexts_L1 a1 b1) nn1 (fun x => (gameroomref_SameTexts_K1 x).bind some) = φ1 at hm
      unfold gameroomref_SameTexts_L1 at hm
      dsimp only at hm
      refine seq_cut (fun a w => Fr 26 [pl 0 (.slice A1 a1.length c1), pl 1 (.slice A2 b1.length c2), pl 5 (.int .i64 i1)] a ∧ Sep w0 B w (fs) ∧ ((gameroomref_SameTexts_J3 a1 b1 i1)).bind φ1 = some r) ?_ ?_
      · rintro a w ⟨hF, hS, hm⟩
        unfold gameroomref_SameTexts_J3 at hm
        refine seq_cut (fun a w => Fr 26 [pl 0 (.slice A1 a1.length c1), pl 1 (.slice A2 b1.length c2), pl 5 (.int .i64 i1)] a ∧ Sep w0 B w (fs) ∧ ((gameroomref_SameTexts_J4 i1)).bind φ1 = some r) ?_ ?_
        · rintro a w ⟨hF, hS, hm⟩
          unfold gameroomref_SameTexts_J4 at hm
          refine reg1 [] [] [0, 1, 5] [pl 0 (.slice A1 a1.length c1), pl 1 (.slice A2 b1.length c2), pl 5 (.int .i64 (w64 (i1 + 1)))] hF hS Fol (by kernel_rfl) (by kernel_rfl) (by kernel_rfl) ?_ (fun a w hF hS => ?_)
          · exact obs_nil
          refine then_n ?_
          rw [← hφ1] at hm
          exact ⟨(w64 (i1 + 1)), ⟨hF.weak [0, 1, 5] (by kernel_rfl), hS⟩, hm⟩
        · refine wpIn_block ?_
          obtain ⟨hp1, hm⟩ := asrt_b hm
          obtain ⟨hp2, hm⟩ := asrt_b hm
          refine reg [⟨true, [], vS (Instr.indexAt 40 (.slice A1 a1.length c1) (.int .i64 i1)), .pointer (some (sAddr A1 i1))⟩, ⟨false, [], vS (Instr.loadAt 9 (.pointer (some (sAddr A1 i1)))), strV (getd ([] : List UInt8) a1 i1)⟩, ⟨true, [], vS (Instr.indexAt 40 (.slice A2 b1.length c2) (.int .i64 i1)), .pointer (some (sAddr A2 i1))⟩, ⟨false, [], vS (Instr.loadAt 9 (.pointer (some (sAddr A2 i1)))), strV (getd ([] : List UInt8) b1 i1)⟩, ⟨true, [], vS (do eqGuard .neq 9 (.tmp 20) (.tmp 24) (strV (getd ([] : List UInt8) a1 i1)) (strV (getd ([] : List UInt8) b1 i1)); binOp .neq 9 (strV (getd ([] : List UInt8) a1 i1)) (strV (getd ([] : List UInt8) b1 i1))), .bool (!((getd ([] : List UInt8) a1 i1) == (getd ([] : List UInt8) b1 i1)))⟩] [none, none, some (.pointer (some (sAddr A1 i1))), some (strV (getd ([] : List UInt8) a1 i1)), none, none, some (.pointer (some (sAddr A2 i1))), some (strV (getd ([] : List UInt8) b1 i1)), some (.bool (!((getd ([] : List UInt8) a1 i1) == (getd ([] : List UInt8) b1 i1))))] [0, 1, 5, 25] [pl 0 (.slice A1 a1.length c1), pl 1 (.slice A2 b1.length c2), pl 5 (.int .i64 i1), pl 25 (.bool (!((getd ([] : List UInt8) a1 i1) == (getd ([] : List UInt8) b1 i1))))] hF hS Fol (by kernel_rfl) (by kernel_rfl) (by kernel_rfl) ?_ (fun a w hF hS => ?_)
          · exact obs_cons (ob_ix1 (f := strV) (m := a1) Und40 hi9 hs9 (hr_a1 _ (hS.dropN 0)) rfl (fun _ => hp1)) <| obs_cons (ob_get1 (n := a1.length) (m := a1) strV ([] : List UInt8) Agg9 (fun _ hS => ⟨_, (hr_a1 _ (hS.dropN 0))⟩) (fun _ hS => rfl) (fun _ => hp1)) <| obs_cons (ob_ix1 (f := strV) (m := b1) Und40 hi9 hs9 (hr_b1 _ (hS.dropN 0)) rfl (fun _ => hp2)) <| obs_cons (ob_get1 (n := b1.length) (m := b1) strV ([] : List UInt8) Agg9 (fun _ hS => ⟨_, (hr_b1 _ (hS.dropN 0))⟩) (fun _ hS => rfl) (fun _ => hp2)) <| obs_cons (ob_sneq _ _) <| obs_nil
          refine cond_ev (t := 25) (b := !((getd ([] : List UInt8) a1 i1) == (getd ([] : List UInt8) b1 i1))) hF (by kernel_rfl) (fun hb => ?_) (fun hb => ?_)
          · replace hm := if_t hm hb
            refine reg [] [] [4] [pl 4 (.bool false)] hF hS Fol (by kernel_rfl) (by kernel_rfl) (by kernel_rfl) ?_ (fun a w hF hS => ?_)
            · exact obs_nil
            refine wpIn_ret ?_
            refine block_r (then_r (then_r (block_r (then_r ?_))))
            rw [← hφ1] at hm
            replace hm := done_b hm
            unfold gameroomref_SameTexts_K1 at hm
            try dsimp only at hm
            have hm : some false = some r := hm
            obtain rfl := Option.some.inj hm
            exact retV (rs := [.tmp 4]) (vs := [.bool false]) hF rfl (rv_t (by kernel_rfl) <| rv_nil) rfl ⟨rfl, hS⟩
          · replace hm := if_f hm hb
            refine wpIn_skip ?_
            refine block_n ?_
            refine then_n ?_
            exact ⟨hF.weak [0, 1, 5] (by kernel_rfl), hS, hm⟩
      · refine reg [] [] [0, 1, 5, 14] [pl 0 (.slice A1 a1.length c1), pl 1 (.slice A2 b1.length c2), pl 5 (.int .i64 i1), pl 14 (.bool (decide (i1 < (a1.length : Int))))] hF hS Fol (by kernel_rfl) (by kernel_rfl) (by kernel_rfl) ?_ (fun a w hF hS => ?_)
        · exact obs_nil
        refine cond_ev (t := 14) (b := decide (i1 < (a1.length : Int))) hF (by kernel_rfl) (fun hb => ?_) (fun hb => ?_)
        · replace hm := if_t hm hb
          refine wpIn_skip ?_
          refine then_n ?_
          exact ⟨hF.weak [0, 1, 5] (by kernel_rfl), hS, hm⟩
        · replace hm := if_f hm hb
          refine wpIn_exit ?_
          refine then_e (then_e (block_e (then_n ?_)))
          rw [← hφ1] at hm
          replace hm := done_b hm
          unfold gameroomref_SameTexts_K1 at hm
          try dsimp only at hm
          have hm : (gameroomref_SameTexts_J2).bind some = some r := hm
          exact ⟨hF.weak [] (by kernel_rfl), hS, hm⟩
  · refine reg [] [] [0, 1, 10] [pl 0 (.slice A1 a1.length c1), pl 1 (.slice A2 b1.length c2), pl 10 (.bool ((a1.length : Int) != (b1.length : Int)))] hF hS Fol (by kernel_rfl) (by kernel_rfl) (by kernel_rfl) ?_ (fun a w hF hS => ?_)
    · exact obs_nil
    refine cond_ev (t := 10) (b := ((a1.length : Int) != (b1.length : Int))) hF (by kernel_rfl) (fun hb => ?_) (fun hb => ?_)
    · replace hm := if_t hm hb
      refine reg [] [] [4] [pl 4 (.bool false)] hF hS Fol (by kernel_rfl) (by kernel_rfl) (by kernel_rfl) ?_ (fun a w hF hS => ?_)
      · exact obs_nil
      refine wpIn_ret ?_
      refine then_r ?_
      have hm : some false = some r := hm
      obtain rfl := Option.some.inj hm
      exact retV (rs := [.tmp 4]) (vs := [.bool false]) hF rfl (rv_t (by kernel_rfl) <| rv_nil) rfl ⟨rfl, hS⟩
    · replace hm := if_f hm hb
      refine wpIn_skip ?_
      refine then_n ?_
      exact ⟨hF.weak [0, 1] (by kernel_rfl), hS, hm⟩

noncomputable def gameroomlaw_WordsFit_J4  (z1 : Bool) : Option Bool :=
  some z1

noncomputable def gameroomlaw_WordsFit_J3  (l1 : List (List UInt8)) (guesses1 : List (List UInt8)) (hints1 : List (List UInt8)) (r4 : (List (List UInt8) × Int)) : Option Bool :=
  if (r4.2 == 0) then ((gameroomref_FitsOf_m l1 guesses1 hints1).bind fun r8 => ((if (r4.2 == 0) then gameroomref_SameTexts_m r4.1 r8 else some false)).bind fun r9 => gameroomlaw_WordsFit_J4 ((r4.2 == 0) && r9)) else (gameroomlaw_WordsFit_J4 ((r4.2 == 0) && false))

noncomputable def gameroomlaw_WordsFit_J2  (l1 : List (List UInt8)) (guesses1 : List (List UInt8)) (hints1 : List (List UInt8)) (r4 : (List (List UInt8) × Int)) (no2 : Int) : Option Bool :=
  if (no2 != 0) then (some ((r4.2 == no2) && ((r4.1.length : Int) == 0))) else ((gameroomlaw_WordsFit_J3 l1 guesses1 hints1 r4))

noncomputable def gameroomlaw_WordsFit_J1  (l1 : List (List UInt8)) (guesses1 : List (List UInt8)) (hints1 : List (List UInt8)) (r4 : (List (List UInt8) × Int)) (no1 : Int) : Option Bool :=
  if (no1 == 0) then ((gameroomref_FitsMay_m guesses1 hints1).bind fun r7 => (gameroomlaw_WordsFit_J2 l1 guesses1 hints1 r4) r7) else ((gameroomlaw_WordsFit_J2 l1 guesses1 hints1 r4) no1)

noncomputable def gameroomlaw_WordsFit_m  (l1 : List (List UInt8)) (guesses1 : List (List UInt8)) (hints1 : List (List UInt8)) : Option Bool :=
  (gameroomlaw_texts_m l1).bind fun r1 => (gameroomlaw_texts_m guesses1).bind fun r2 => (gameroomlaw_texts_m hints1).bind fun r3 => (words_Fits_m r1 r2 r3).bind fun r4 => (gameroomref_WordsMay_m l1).bind fun r5 => if (r5 == 0) then ((gameroomref_WordsMay_m guesses1).bind fun r6 => (gameroomlaw_WordsFit_J1 l1 guesses1 hints1 r4) r6) else ((gameroomlaw_WordsFit_J1 l1 guesses1 hints1 r4) r5)

set_option maxRecDepth 100000 in
set_option maxHeartbeats 4000000 in
theorem gameroomlaw_WordsFit_w  {A1 : Option Addr} {c1 : Nat} {n1 : Nat} {l1 : List (List UInt8)} {A2 : Option Addr} {c2 : Nat} {n2 : Nat} {guesses1 : List (List UInt8)} {A3 : Option Addr} {c3 : Nat} {n3 : Nat} {hints1 : List (List UInt8)} {r : Bool} {w0 w : World} {B : Nat} {fs : List HP} [UTab 0 1 w0 B] (hm : gameroomlaw_WordsFit_m l1 guesses1 hints1 = some r) (hS : Sep w0 B w (fs)) (hr_l1 : RdF w0 B fs A1 ((List.map strV l1))) (_hc_l1 : l1.length ≤ c1) (_hn_l1 : n1 = l1.length) (hr_guesses1 : RdF w0 B fs A2 ((List.map strV guesses1))) (_hc_guesses1 : guesses1.length ≤ c2) (_hn_guesses1 : n2 = guesses1.length) (hr_hints1 : RdF w0 B fs A3 ((List.map strV hints1))) (_hc_hints1 : hints1.length ≤ c3) (_hn_hints1 : n3 = hints1.length) :
    Calls Tryd.prog 6 #[.slice A1 n1 c1, .slice A2 n2 c2, .slice A3 n3 c3] w fun e w' => e = .returned (.bool r) ∧ Sep w0 B w' (fs) := by
  obtain ⟨i9, hi9, hz9, hs9, hb9⟩ := info_parts Info9
  obtain rfl := _hn_l1
  obtain rfl := _hn_guesses1
  obtain rfl := _hn_hints1
  unfold gameroomlaw_WordsFit_m at hm
  replace hm := start_b hm
  refine enter (l := [.slice A1 l1.length c1, .slice A2 guesses1.length c2, .slice A3 hints1.length c3]) (n := 51) Tryd.func6 rfl rfl (by simp) (fun a hF => ?_)
  refine reg [] [] [0, 1, 2] [pl 0 (.slice A1 l1.length c1), pl 1 (.slice A2 guesses1.length c2), pl 2 (.slice A3 hints1.length c3)] hF hS Fol (by kernel_rfl) (by kernel_rfl) (by kernel_rfl) ?_ (fun a w hF hS => ?_)
  · exact obs_nil
  refine seqR ?_
  obtain ⟨r1, hr1, hm⟩ := call_b hm
  obtain ⟨r2, hr2, hm⟩ := call_b hm
  obtain ⟨r3, hr3, hm⟩ := call_b hm
  obtain ⟨r4, hr4, hm⟩ := call_b hm
  refine at_run 1 [] [] [0, 1, 2, 11] [pl 0 (.slice A1 l1.length c1), pl 1 (.slice A2 guesses1.length c2), pl 2 (.slice A3 hints1.length c3), pl 11 (.slice A1 l1.length c1)] hF hS (by kernel_rfl) (by kernel_rfl) ?_ (fun a w hF hS => ?_)
  · exact obs_nil
  refine at_call (f := 21) (args := #[.slice A1 l1.length c1]) (d := 12) hF (by kernel_rfl) (by kernel_rfl) Tryd.func21 (by kernel_rfl) rfl (gameroomlaw_texts_w hr1 hS (fun _ hS => (hr_l1 _ (hS.dropN 0))) _hc_l1 rfl) (fun v a w hR hF => ?_)
  clear hS
  obtain ⟨A4, c4, rfl, hS⟩ := hR
  have hS : Sep w0 B w (own 9 (.slice A4 r1.length c4) ((List.map strV r1)) :: fs) := hS
  refine at_run 1 [] [] [0, 1, 2, 12, 13] [pl 0 (.slice A1 l1.length c1), pl 1 (.slice A2 guesses1.length c2), pl 2 (.slice A3 hints1.length c3), pl 12 (.slice A4 r1.length c4), pl 13 (.slice A2 guesses1.length c2)] hF hS (by kernel_rfl) (by kernel_rfl) ?_ (fun a w hF hS => ?_)
  · exact obs_nil
  refine at_call (f := 21) (args := #[.slice A2 guesses1.length c2]) (d := 14) hF (by kernel_rfl) (by kernel_rfl) Tryd.func21 (by kernel_rfl) rfl (gameroomlaw_texts_w hr2 hS (fun _ hS => (hr_guesses1 _ (hS.dropN 1))) _hc_guesses1 rfl) (fun v a w hR hF => ?_)
  clear hS
  obtain ⟨A5, c5, rfl, hS⟩ := hR
  have hS : Sep w0 B w (own 9 (.slice A5 r2.length c5) ((List.map strV r2)) :: own 9 (.slice A4 r1.length c4) ((List.map strV r1)) :: fs) := hS
  refine at_run 1 [] [] [0, 1, 2, 12, 14, 15] [pl 0 (.slice A1 l1.length c1), pl 1 (.slice A2 guesses1.length c2), pl 2 (.slice A3 hints1.length c3), pl 12 (.slice A4 r1.length c4), pl 14 (.slice A5 r2.length c5), pl 15 (.slice A3 hints1.length c3)] hF hS (by kernel_rfl) (by kernel_rfl) ?_ (fun a w hF hS => ?_)
  · exact obs_nil
  refine at_call (f := 21) (args := #[.slice A3 hints1.length c3]) (d := 16) hF (by kernel_rfl) (by kernel_rfl) Tryd.func21 (by kernel_rfl) rfl (gameroomlaw_texts_w hr3 hS (fun _ hS => (hr_hints1 _ (hS.dropN 2))) _hc_hints1 rfl) (fun v a w hR hF => ?_)
  clear hS
  obtain ⟨A6, c6, rfl, hS⟩ := hR
  have hS : Sep w0 B w (own 9 (.slice A6 r3.length c6) ((List.map strV r3)) :: own 9 (.slice A5 r2.length c5) ((List.map strV r2)) :: own 9 (.slice A4 r1.length c4) ((List.map strV r1)) :: fs) := hS
  refine at_call (f := 31) (args := #[.slice A4 r1.length c4, .slice A5 r2.length c5, .slice A6 r3.length c6]) (d := 17) hF (by kernel_rfl) (by kernel_rfl) Tryd.func31 (by kernel_rfl) rfl (words_Fits_w hr4 hS (fun _ hS => (hS.at_ 2 rfl).rd) ((hS.at_ 2 rfl).cap1) rfl (fun _ hS => (hS.at_ 1 rfl).rd) ((hS.at_ 1 rfl).cap1) rfl (fun _ hS => (hS.at_ 0 rfl).rd) ((hS.at_ 0 rfl).cap1) rfl) (fun v a w hR hF => ?_)
  clear hS
  obtain ⟨A7, c7, rfl, hS⟩ := hR
  have hS : Sep w0 B w (own 9 (.slice A7 r4.1.length c7) ((List.map strV r4.1)) :: own 9 (.slice A6 r3.length c6) ((List.map strV r3)) :: own 9 (.slice A5 r2.length c5) ((List.map strV r2)) :: own 9 (.slice A4 r1.length c4) ((List.map strV r1)) :: fs) := hS
  refine at_run 5 [] [] [0, 1, 2, 7, 8] [pl 0 (.slice A1 l1.length c1), pl 1 (.slice A2 guesses1.length c2), pl 2 (.slice A3 hints1.length c3), pl 7 (.slice A7 r4.1.length c7), pl 8 (.int .i64 r4.2)] hF hS (by kernel_rfl) (by kernel_rfl) ?_ (fun a w hF hS => ?_)
  · exact obs_nil
  refine at_end [0, 1, 2, 7, 8] [pl 0 (.slice A1 l1.length c1), pl 1 (.slice A2 guesses1.length c2), pl 2 (.slice A3 hints1.length c3), pl 7 (.slice A7 r4.1.length c7), pl 8 (.int .i64 r4.2)] hF rfl (by kernel_rfl) (fun hF => ?_)
  refine then_n ?_
  obtain ⟨r5, hr5, hm⟩ := call_b hm
  refine reg [⟨false, [], callFunc 25 #[.slice A1 l1.length c1], .int .i64 r5⟩] [none, some (.int .i64 r5), none] [0, 1, 2, 7, 8, 9] [pl 0 (.slice A1 l1.length c1), pl 1 (.slice A2 guesses1.length c2), pl 2 (.slice A3 hints1.length c3), pl 7 (.slice A7 r4.1.length c7), pl 8 (.int .i64 r4.2), pl 9 (.int .i64 r5)] hF hS Fol (by kernel_rfl) (by kernel_rfl) (by kernel_rfl) ?_ (fun a w hF hS => ?_)
  · exact obs_cons (ob_call Tryd.func25 (by kernel_rfl) rfl (fun _ _ hS => gameroomref_WordsMay_w hr5 hS (fun _ hS => (hr_l1 _ (hS.dropN 4))) _hc_l1 rfl)) <| obs_nil
  refine seq_cut (fun a w => ∃ (no1 : Int), Fr 51 [pl 0 (.slice A1 l1.length c1), pl 1 (.slice A2 guesses1.length c2), pl 2 (.slice A3 hints1.length c3), pl 7 (.slice A7 r4.1.length c7), pl 8 (.int .i64 r4.2), pl 9 (.int .i64 no1)] a ∧ Sep w0 B w (own 9 (.slice A7 r4.1.length c7) ((List.map strV r4.1)) :: fs) ∧ ((gameroomlaw_WordsFit_J1 l1 guesses1 hints1 r4) no1).bind some = some r) ?_ ?_
  · rintro a w ⟨no1, hF, hS, hm⟩
    unfold gameroomlaw_WordsFit_J1 at hm
    refine seq_cut (fun a w => ∃ (no2 : Int), Fr 51 [pl 0 (.slice A1 l1.length c1), pl 1 (.slice A2 guesses1.length c2), pl 2 (.slice A3 hints1.length c3), pl 7 (.slice A7 r4.1.length c7), pl 8 (.int .i64 r4.2), pl 9 (.int .i64 no2)] a ∧ Sep w0 B w (own 9 (.slice A7 r4.1.length c7) ((List.map strV r4.1)) :: fs) ∧ ((gameroomlaw_WordsFit_J2 l1 guesses1 hints1 r4) no2).bind some = some r) ?_ ?_
    · rintro a w ⟨no2, hF, hS, hm⟩
      unfold gameroomlaw_WordsFit_J2 at hm
      refine seq_cut (fun a w => Fr 51 [pl 0 (.slice A1 l1.length c1), pl 1 (.slice A2 guesses1.length c2), pl 2 (.slice A3 hints1.length c3), pl 7 (.slice A7 r4.1.length c7), pl 8 (.int .i64 r4.2)] a ∧ Sep w0 B w (own 9 (.slice A7 r4.1.length c7) ((List.map strV r4.1)) :: fs) ∧ ((gameroomlaw_WordsFit_J3 l1 guesses1 hints1 r4)).bind some = some r) ?_ ?_
      · rintro a w ⟨hF, hS, hm⟩
        unfold gameroomlaw_WordsFit_J3 at hm
        refine seq_cut (fun a w => ∃ (z1 : Bool), Fr 51 [pl 6 (.bool z1)] a ∧ Sep w0 B w (fs) ∧ (gameroomlaw_WordsFit_J4 z1).bind some = some r) ?_ ?_
        · rintro a w ⟨z1, hF, hS, hm⟩
          unfold gameroomlaw_WordsFit_J4 at hm
          refine wpIn_ret ?_
          have hm : some z1 = some r := hm
          obtain rfl := Option.some.inj hm
          exact retV (rs := [.tmp 6]) (vs := [.bool z1]) hF rfl (rv_t (by kernel_rfl) <| rv_nil) rfl ⟨rfl, hS⟩
        · refine oneR ?_
          refine at_run 7 [] [] [43, 44, 45, 46, 47] [pl 43 (.bool (r4.2 == 0)), ⟨44, [(43, true)], .slice A7 r4.1.length c7⟩, ⟨45, [(43, true)], .slice A1 l1.length c1⟩, ⟨46, [(43, true)], .slice A2 guesses1.length c2⟩, ⟨47, [(43, true)], .slice A3 hints1.length c3⟩] hF hS (by kernel_rfl) (by kernel_rfl) ?_ (fun a w hF hS => ?_)
          · exact obs_nil
          rcases Bool.eq_false_or_eq_true (r4.2 == 0) with hg1 | hg1
          · replace hm := if_t hm hg1
            obtain ⟨r8, hr8, hm⟩ := call_b hm
            obtain ⟨r9, hr9, hm⟩ := call_b hm
            refine at_gcall (hs := [((r4.2 == 0), true)]) (fun y hy => by simp only [List.mem_cons, List.not_mem_nil, or_false] at hy; subst hy; first | exact hg1) (f := 33) (args := #[.slice A1 l1.length c1, .slice A2 guesses1.length c2, .slice A3 hints1.length c3]) (d := 48) hF (by kernel_rfl) (by kernel_rfl) Tryd.func33 (by kernel_rfl) rfl (gameroomref_FitsOf_w hr8 hS (fun _ hS => (hr_l1 _ (hS.dropN 1))) _hc_l1 rfl (fun _ hS => (hr_guesses1 _ (hS.dropN 1))) _hc_guesses1 rfl (fun _ hS => (hr_hints1 _ (hS.dropN 1))) _hc_hints1 rfl) (fun v a w hR hF => ?_)
            clear hS
            obtain ⟨A8, c8, rfl, hS⟩ := hR
            have hS : Sep w0 B w (own 9 (.slice A8 r8.length c8) ((List.map strV r8)) :: own 9 (.slice A7 r4.1.length c7) ((List.map strV r4.1)) :: fs) := hS
            refine at_run 3 [⟨false, [((r4.2 == 0), true)], callFunc 26 #[.slice A7 r4.1.length c7, .slice A8 r8.length c8], .bool r9⟩] [some (.bool r9), none, none] [6] [pl 6 (.bool ((r4.2 == 0) && r9))] hF hS (by kernel_rfl) (by kernel_rfl) ?_ (fun a w hF hS => ?_)
            · exact obs_cons (ob_call Tryd.func26 (by kernel_rfl) rfl (fun hy _ hS => gameroomref_SameTexts_w (ite_some hr9 (by rw [show (r4.2 == 0) = true from hy ((r4.2 == 0), true) (by simp)]; try rfl)) hS (fun _ hS => (hS.at_ 1 rfl).rd) ((hS.at_ 1 rfl).cap1) rfl (fun _ hS => (hS.at_ 0 rfl).rd) ((hS.at_ 0 rfl).cap1) rfl)) <| obs_nil
            refine at_end [6] [pl 6 (.bool ((r4.2 == 0) && r9))] hF rfl (by kernel_rfl) (fun hF => ?_)
            refine then_n ?_
            have hS := hS.pickN 2 [] (by decide)
            exact ⟨((r4.2 == 0) && r9), hF.weak [6] (by kernel_rfl), hS, hm⟩
          · replace hm := if_f hm hg1
            refine at_gskip (d := 48) (v := .slice none 0 0) (hs := [((r4.2 == 0), true)]) (ctx := [(43, true)]) hF (by kernel_rfl) (by kernel_rfl) (fun h => absurd (h ((r4.2 == 0), true) (by simp)) (by first | exact fun hz => Bool.noConfusion (Eq.trans (Eq.symm hg1) hz) | simp [hg1])) (fun a hF => ?_)
            refine at_run 3 [⟨false, [((r4.2 == 0), true)], callFunc 26 #[.slice A7 r4.1.length c7, .slice none 0 0], .bool false⟩] [some (.bool false), none, none] [6] [pl 6 (.bool ((r4.2 == 0) && false))] hF hS (by kernel_rfl) (by kernel_rfl) ?_ (fun a w hF hS => ?_)
            · exact obs_cons (Ob.vac (fun h => absurd (h ((r4.2 == 0), true) (by simp)) (by simp [hg1]))) <| obs_nil
            refine at_end [6] [pl 6 (.bool ((r4.2 == 0) && false))] hF rfl (by kernel_rfl) (fun hF => ?_)
            refine then_n ?_
            have hS := hS.pickN 1 [] (by decide)
            exact ⟨((r4.2 == 0) && false), hF.weak [6] (by kernel_rfl), hS, hm⟩
      · refine reg [] [] [0, 1, 2, 7, 8, 9, 32] [pl 0 (.slice A1 l1.length c1), pl 1 (.slice A2 guesses1.length c2), pl 2 (.slice A3 hints1.length c3), pl 7 (.slice A7 r4.1.length c7), pl 8 (.int .i64 r4.2), pl 9 (.int .i64 no2), pl 32 (.bool (no2 != 0))] hF hS Fol (by kernel_rfl) (by kernel_rfl) (by kernel_rfl) ?_ (fun a w hF hS => ?_)
        · exact obs_nil
        refine cond_ev (t := 32) (b := (no2 != 0)) hF (by kernel_rfl) (fun hb => ?_) (fun hb => ?_)
        · replace hm := if_t hm hb
          refine reg [] [] [6] [pl 6 (.bool ((r4.2 == no2) && ((r4.1.length : Int) == 0)))] hF hS Fol (by kernel_rfl) (by kernel_rfl) (by kernel_rfl) ?_ (fun a w hF hS => ?_)
          · exact obs_nil
          refine wpIn_ret ?_
          refine then_r ?_
          have hS := hS.pickN 1 [] (by decide)
          have hm : some ((r4.2 == no2) && ((r4.1.length : Int) == 0)) = some r := hm
          obtain rfl := Option.some.inj hm
          exact retV (rs := [.tmp 6]) (vs := [.bool ((r4.2 == no2) && ((r4.1.length : Int) == 0))]) hF rfl (rv_t (by kernel_rfl) <| rv_nil) rfl ⟨rfl, hS⟩
        · replace hm := if_f hm hb
          refine wpIn_skip ?_
          refine then_n ?_
          exact ⟨hF.weak [0, 1, 2, 7, 8] (by kernel_rfl), hS, hm⟩
    · refine reg [] [] [0, 1, 2, 7, 8, 9, 27] [pl 0 (.slice A1 l1.length c1), pl 1 (.slice A2 guesses1.length c2), pl 2 (.slice A3 hints1.length c3), pl 7 (.slice A7 r4.1.length c7), pl 8 (.int .i64 r4.2), pl 9 (.int .i64 no1), pl 27 (.bool (no1 == 0))] hF hS Fol (by kernel_rfl) (by kernel_rfl) (by kernel_rfl) ?_ (fun a w hF hS => ?_)
      · exact obs_nil
      refine cond_ev (t := 27) (b := (no1 == 0)) hF (by kernel_rfl) (fun hb => ?_) (fun hb => ?_)
      · replace hm := if_t hm hb
        obtain ⟨r7, hr7, hm⟩ := call_b hm
        refine reg1 [⟨false, [], callFunc 32 #[.slice A2 guesses1.length c2, .slice A3 hints1.length c3], .int .i64 r7⟩] [none, none, some (.int .i64 r7), none] [0, 1, 2, 7, 8, 9] [pl 0 (.slice A1 l1.length c1), pl 1 (.slice A2 guesses1.length c2), pl 2 (.slice A3 hints1.length c3), pl 7 (.slice A7 r4.1.length c7), pl 8 (.int .i64 r4.2), pl 9 (.int .i64 r7)] hF hS Fol (by kernel_rfl) (by kernel_rfl) (by kernel_rfl) ?_ (fun a w hF hS => ?_)
        · exact obs_cons (ob_call Tryd.func32 (by kernel_rfl) rfl (fun _ _ hS => gameroomref_FitsMay_w hr7 hS (fun _ hS => (hr_guesses1 _ (hS.dropN 1))) _hc_guesses1 rfl (fun _ hS => (hr_hints1 _ (hS.dropN 1))) _hc_hints1 rfl)) <| obs_nil
        refine then_n ?_
        exact ⟨r7, hF.weak [0, 1, 2, 7, 8, 9] (by kernel_rfl), hS, hm⟩
      · replace hm := if_f hm hb
        refine wpIn_skip ?_
        refine then_n ?_
        exact ⟨no1, hF.weak [0, 1, 2, 7, 8, 9] (by kernel_rfl), hS, hm⟩
  · refine reg [] [] [0, 1, 2, 7, 8, 9, 23] [pl 0 (.slice A1 l1.length c1), pl 1 (.slice A2 guesses1.length c2), pl 2 (.slice A3 hints1.length c3), pl 7 (.slice A7 r4.1.length c7), pl 8 (.int .i64 r4.2), pl 9 (.int .i64 r5), pl 23 (.bool (r5 == 0))] hF hS Fol (by kernel_rfl) (by kernel_rfl) (by kernel_rfl) ?_ (fun a w hF hS => ?_)
    · exact obs_nil
    refine cond_ev (t := 23) (b := (r5 == 0)) hF (by kernel_rfl) (fun hb => ?_) (fun hb => ?_)
    · replace hm := if_t hm hb
      obtain ⟨r6, hr6, hm⟩ := call_b hm
      refine reg1 [⟨false, [], callFunc 25 #[.slice A2 guesses1.length c2], .int .i64 r6⟩] [none, some (.int .i64 r6), none] [0, 1, 2, 7, 8, 9] [pl 0 (.slice A1 l1.length c1), pl 1 (.slice A2 guesses1.length c2), pl 2 (.slice A3 hints1.length c3), pl 7 (.slice A7 r4.1.length c7), pl 8 (.int .i64 r4.2), pl 9 (.int .i64 r6)] hF hS Fol (by kernel_rfl) (by kernel_rfl) (by kernel_rfl) ?_ (fun a w hF hS => ?_)
      · exact obs_cons (ob_call Tryd.func25 (by kernel_rfl) rfl (fun _ _ hS => gameroomref_WordsMay_w hr6 hS (fun _ hS => (hr_guesses1 _ (hS.dropN 4))) _hc_guesses1 rfl)) <| obs_nil
      refine then_n ?_
      have hS := hS.pickN 4 [0] (by decide)
      exact ⟨r6, hF.weak [0, 1, 2, 7, 8, 9] (by kernel_rfl), hS, hm⟩
    · replace hm := if_f hm hb
      refine wpIn_skip ?_
      refine then_n ?_
      have hS := hS.pickN 4 [0] (by decide)
      exact ⟨r5, hF.weak [0, 1, 2, 7, 8, 9] (by kernel_rfl), hS, hm⟩

end Go.Proofs.YtdbdcbejmbpbmaaDoor
