/-
  Models and walks, printed by our own program (wip/gen).
-/
import Derived.Test.YtnplejebgbdfpaaFB
import Derived.Test.YtnplejebgbdfpaaLibAQ
import Derived.Test.YtnplejebgbdfpaaLibAP
import Derived.Test.YtnplejebgbdfpaaLibAR
import Derived.Test.YtnplejebgbdfpaaFM
import Derived.Test.YtnplejebgbdfpaaNDSa
namespace Go.Proofs.Ytnplejebgbdfpaa
open Go Go.GL Go.RowKit

noncomputable def gameroomref_RowsOf_m (left1 : List (Int × Int)) (end1 : Int) : Option Int :=
  recM fun n => gameroomref_RowsOf_mF n left1 end1

set_option maxRecDepth 100000 in
set_option maxHeartbeats 4000000 in
theorem gameroomref_RowsOf_wB {rec_gameroomref_RowsOf : List (Int × Int) → Int → Option Int} (ih_gameroomref_RowsOf : ∀ {A1 : Option Addr} {c1 : Nat} {n1 : Nat} {left1 : List (Int × Int)} {end1 : Int} {r : Int} {w0 w : World} {B : Nat} {fs : List HP} (_ : rec_gameroomref_RowsOf left1 end1 = some r) (_ : Sep w0 B w (fs)) (hr_left1 : RdF w0 B fs A1 ((List.flatMap enc102 left1))) (_hc_left1 : left1.length ≤ c1) (_hn_left1 : n1 = left1.length), Calls Try.prog 41 #[.slice A1 n1 c1, .int .i64 end1] w fun e w' => e = .returned (.int .i64 r) ∧ Sep w0 B w' (fs)) {A1 : Option Addr} {c1 : Nat} {n1 : Nat} {left1 : List (Int × Int)} {end1 : Int} {r : Int} {w0 w : World} {B : Nat} {fs : List HP} (hm : gameroomref_RowsOf_B rec_gameroomref_RowsOf left1 end1 = some r) (hS : Sep w0 B w (fs)) (hr_left1 : RdF w0 B fs A1 ((List.flatMap enc102 left1))) (_hc_left1 : left1.length ≤ c1) (_hn_left1 : n1 = left1.length) :
    Calls Try.prog 41 #[.slice A1 n1 c1, .int .i64 end1] w fun e w' => e = .returned (.int .i64 r) ∧ Sep w0 B w' (fs) := by
  obtain ⟨i102, hi102, hz102, hs102, hb102⟩ := info_parts Info102
  obtain rfl := _hn_left1
  unfold gameroomref_RowsOf_B at hm
  replace hm := start_b hm
  refine enter (l := [.slice A1 left1.length c1, .int .i64 end1]) (n := 85) Try.func41 rfl rfl (by simp) (fun a hF => ?_)
  refine reg [] [] [0, 1] [pl 0 (.slice A1 left1.length c1), pl 1 (.int .i64 end1)] hF hS Fol (by kernel_rfl) (by kernel_rfl) (by kernel_rfl) ?_ (fun a w hF hS => ?_)
  · exact obs_nil
  refine seq_cut (fun a w => Fr 85 [pl 0 (.slice A1 left1.length c1), pl 1 (.int .i64 end1)] a ∧ Sep w0 B w (fs) ∧ ((gameroomref_RowsOf_J1 rec_gameroomref_RowsOf left1 end1)).bind some = some r) ?_ ?_
  · rintro a w ⟨hF, hS, hm⟩
    unfold gameroomref_RowsOf_J1 at hm
    refine reg [] [] [0, 1, 5] [pl 0 (.slice A1 left1.length c1), pl 1 (.int .i64 end1), pl 5 (.int .i64 0)] hF hS Fol (by kernel_rfl) (by kernel_rfl) (by kernel_rfl) ?_ (fun a w hF hS => ?_)
    · exact obs_nil
    refine reg [] [] [0, 1, 5, 6] [pl 0 (.slice A1 left1.length c1), pl 1 (.int .i64 end1), pl 5 (.int .i64 0), pl 6 (.slice none 0 0)] hF hS Fol (by kernel_rfl) (by kernel_rfl) (by kernel_rfl) ?_ (fun a w hF hS => ?_)
    · exact obs_nil
    refine seq_cut (fun a w => ∃ (n3 : Int), Fr 85 [pl 5 (.int .i64 n3)] a ∧ Sep w0 B w (fs) ∧ (gameroomref_RowsOf_J2 n3).bind some = some r) ?_ ?_
    · rintro a w ⟨n3, hF, hS, hm⟩
      unfold gameroomref_RowsOf_J2 at hm
      refine reg [] [] [4] [pl 4 (.int .i64 n3)] hF hS Fol (by kernel_rfl) (by kernel_rfl) (by kernel_rfl) ?_ (fun a w hF hS => ?_)
      · exact obs_nil
      refine wp_ret ?_
      have hm : some n3 = some r := hm
      obtain rfl := Option.some.inj hm
      exact retV (rs := [.tmp 4]) (vs := [.int .i64 n3]) hF rfl (rv_t (by kernel_rfl) <| rv_nil) rfl ⟨rfl, hS⟩
    · refine reg [] [] [0, 1, 5, 6, 7] [pl 0 (.slice A1 left1.length c1), pl 1 (.int .i64 end1), pl 5 (.int .i64 0), pl 6 (.slice none 0 0), pl 7 (.int .i64 0)] hF hS Fol (by kernel_rfl) (by kernel_rfl) (by kernel_rfl) ?_ (fun a w hF hS => ?_)
      · exact obs_nil
      refine wp_block ?_
      have hS : Sep w0 B w (ownK 102 2 none 0 0 (List.flatMap enc102 ([] : List (Int × Int))) :: fs) := hS.nilK 102 2 enc102
      have hl1 := (hS.at_ 0 rfl).lenK encK102
      have hS := (hS.at_ 0 rfl).reNK hl1
      have hS : Sep w0 B w (ownK 102 2 none (([] : List (Int × Int)).length) 0 (List.flatMap enc102 ([] : List (Int × Int))) :: fs) := hS
      have hF := hF.cast (t := 6) (v := .slice none 0 0) (v' := .slice none (([] : List (Int × Int)).length) 0) rfl rfl (congrArg (fun k => Value.slice none k 0) hl1)
      refine wp_loop_model (S := (Int × List (Int × Int) × Int)) (R := Int) (gameroomref_RowsOf_L1 rec_gameroomref_RowsOf left1 end1) (fun x => (gameroomref_RowsOf_K1 x).bind some) r (fun (x : (Int × List (Int × Int) × Int)) a w => ∃ (A2 : Option Addr) (c2 : Nat), Fr 85 [pl 0 (.slice A1 left1.length c1), pl 1 (.int .i64 end1), pl 5 (.int .i64 x.1), pl 6 (.slice A2 x.2.1.length c2), pl 7 (.int .i64 x.2.2)] a ∧ Sep w0 B w (ownK 102 2 A2 x.2.1.length c2 (List.flatMap enc102 x.2.1) :: fs)) (assoc_b hm) ⟨none, 0, hF.weak [0, 1, 5, 6, 7] (by kernel_rfl), hS⟩ ?_
      clear hF hS hm
      rintro nn1 ⟨n2, tried1, i1⟩ a w ⟨A2, c2, hF, hS⟩ hm
      generalize hφ1 : stK (gameroomref_RowsOf_L1 rec_gameroomref_RowsOf left1 end1) nn1 (fun x => (gameroomref_RowsOf_K1 x).bind some) = φ1 at hm
      unfold gameroomref_RowsOf_L1 at hm
      dsimp only at hF hS hm
      refine seq_cut (fun a w => Fr 85 [pl 0 (.slice A1 left1.length c1), pl 1 (.int .i64 end1), pl 5 (.int .i64 n2), pl 6 (.slice A2 tried1.length c2), pl 7 (.int .i64 i1)] a ∧ Sep w0 B w (ownK 102 2 A2 tried1.length c2 (List.flatMap enc102 tried1) :: fs) ∧ ((gameroomref_RowsOf_J3 rec_gameroomref_RowsOf left1 end1 n2 tried1 i1)).bind φ1 = some r) ?_ ?_
      · rintro a w ⟨hF, hS, hm⟩
        unfold gameroomref_RowsOf_J3 at hm
        refine seq_cut (fun a w => ∃ (n5 : Int) (tried3 : List (Int × Int)) (A6 : Option Addr) (c6 : Nat), Fr 85 [pl 0 (.slice A1 left1.length c1), pl 1 (.int .i64 end1), pl 5 (.int .i64 n5), pl 6 (.slice A6 tried3.length c6), pl 7 (.int .i64 i1)] a ∧ Sep w0 B w (ownK 102 2 A6 tried3.length c6 (List.flatMap enc102 tried3) :: fs) ∧ ((gameroomref_RowsOf_J4 i1) n5 tried3).bind φ1 = some r) ?_ ?_
        · rintro a w ⟨n5, tried3, A6, c6, hF, hS, hm⟩
          unfold gameroomref_RowsOf_J4 at hm
          refine reg1 [] [] [0, 1, 5, 6, 7] [pl 0 (.slice A1 left1.length c1), pl 1 (.int .i64 end1), pl 5 (.int .i64 n5), pl 6 (.slice A6 tried3.length c6), pl 7 (.int .i64 (w64 (i1 + 1)))] hF hS Fol (by kernel_rfl) (by kernel_rfl) (by kernel_rfl) ?_ (fun a w hF hS => ?_)
          · exact obs_nil
          refine then_n ?_
          rw [← hφ1] at hm
          exact ⟨(n5, tried3, (w64 (i1 + 1))), ⟨A6, c6, hF.weak [0, 1, 5, 6, 7] (by kernel_rfl), hS⟩, hm⟩
        · refine wp_block ?_
          refine reg [] [] [0, 1, 5, 6, 7, 8] [pl 0 (.slice A1 left1.length c1), pl 1 (.int .i64 end1), pl 5 (.int .i64 n2), pl 6 (.slice A2 tried1.length c2), pl 7 (.int .i64 i1), pl 8 (.slice none 0 0)] hF hS Fol (by kernel_rfl) (by kernel_rfl) (by kernel_rfl) ?_ (fun a w hF hS => ?_)
          · exact obs_nil
          refine seqR ?_
          obtain ⟨hp1, hm⟩ := asrt_b hm
          obtain ⟨hp2, hm⟩ := asrt_b hm
          refine at_run 4 [⟨true, [], vS (Instr.sliceAt 61 (.slice A1 left1.length c1) none (some (.int .i64 i1)) none), .slice (cutAddrK A1 2 c1 (0 : Int)) ((cut left1 (0 : Int) i1).length) (c1 - Int.toNat (0 : Int))⟩] [none, none, none, some (.slice (cutAddrK A1 2 c1 (0 : Int)) ((cut left1 (0 : Int) i1).length) (c1 - Int.toNat (0 : Int)))] [0, 1, 5, 6, 7, 22, 25] [pl 0 (.slice A1 left1.length c1), pl 1 (.int .i64 end1), pl 5 (.int .i64 n2), pl 6 (.slice A2 tried1.length c2), pl 7 (.int .i64 i1), pl 22 (.slice none 0 0), pl 25 (.slice (cutAddrK A1 2 c1 (0 : Int)) ((cut left1 (0 : Int) i1).length) (c1 - Int.toNat (0 : Int)))] hF hS (by kernel_rfl) (by kernel_rfl) ?_ (fun a w hF hS => ?_)
          · exact obs_cons (ob_cutnK (l := left1) (k := .i64) (k' := .i64) Und61 hi102 hs102 rfl (.inr ⟨rfl, rfl⟩) (.inl rfl) (fun _ => hp1) _hc_left1) <| obs_nil
          have hS : Sep w0 B w (ownK 102 2 none 0 0 (List.flatMap enc102 ([] : List (Int × Int))) :: ownK 102 2 A2 tried1.length c2 (List.flatMap enc102 tried1) :: fs) := hS.nilK 102 2 enc102
          obtain ⟨A3, c3, w, hrun, hS⟩ := run_appK2 (P := Try.prog) (t := 61) (m := ([] : List (Int × Int))) (ys := (cut left1 (0 : Int) i1)) (A2 := (cutAddrK A1 2 c1 (0 : Int))) (m2 := (cut left1 (0 : Int) i1).length) (c2 := (c1 - Int.toNat (0 : Int))) encK102 (hS.at_ 0 rfl) (Rd.cutK encK102 (hr_left1 _ (hS.dropN 2)) hp1 _hc_left1) rfl 61 Und61 hi102 hz102 hs102 rfl (by omega) hp2
          have hS : Sep w0 B w (ownK 102 2 A3 ((([] : List (Int × Int)) ++ (cut left1 (0 : Int) i1)).length) c3 (List.flatMap enc102 (([] : List (Int × Int)) ++ (cut left1 (0 : Int) i1))) :: ownK 102 2 A2 tried1.length c2 (List.flatMap enc102 tried1) :: fs) := hS
          refine at_do (d := 26) hF (by kernel_rfl) (by kernel_rfl) hrun (fun a hF => ?_)
          refine at_run 1 [] [] [0, 1, 5, 6, 7, 8] [pl 0 (.slice A1 left1.length c1), pl 1 (.int .i64 end1), pl 5 (.int .i64 n2), pl 6 (.slice A2 tried1.length c2), pl 7 (.int .i64 i1), pl 8 (.slice A3 ((([] : List (Int × Int)) ++ (cut left1 (0 : Int) i1)).length) c3)] hF hS (by kernel_rfl) (by kernel_rfl) ?_ (fun a w hF hS => ?_)
          · exact obs_nil
          refine at_end [0, 1, 5, 6, 7, 8] [pl 0 (.slice A1 left1.length c1), pl 1 (.int .i64 end1), pl 5 (.int .i64 n2), pl 6 (.slice A2 tried1.length c2), pl 7 (.int .i64 i1), pl 8 (.slice A3 ((([] : List (Int × Int)) ++ (cut left1 (0 : Int) i1)).length) c3)] hF rfl (by kernel_rfl) (fun hF => ?_)
          refine then_n ?_
          refine seqR ?_
          obtain ⟨hp3, hm⟩ := asrt_b hm
          obtain ⟨hp4, hm⟩ := asrt_b hm
          refine at_run 5 [⟨true, [], vS (Instr.sliceAt 61 (.slice A1 left1.length c1) (some (.int .i64 (w64 (i1 + 1)))) none none), .slice (cutAddrK A1 2 c1 (w64 (i1 + 1))) ((cut left1 (w64 (i1 + 1)) (left1.length : Int)).length) (c1 - Int.toNat (w64 (i1 + 1)))⟩] [none, none, none, none, some (.slice (cutAddrK A1 2 c1 (w64 (i1 + 1))) ((cut left1 (w64 (i1 + 1)) (left1.length : Int)).length) (c1 - Int.toNat (w64 (i1 + 1))))] [0, 1, 5, 6, 7, 27, 31] [pl 0 (.slice A1 left1.length c1), pl 1 (.int .i64 end1), pl 5 (.int .i64 n2), pl 6 (.slice A2 tried1.length c2), pl 7 (.int .i64 i1), pl 27 (.slice A3 ((([] : List (Int × Int)) ++ (cut left1 (0 : Int) i1)).length) c3), pl 31 (.slice (cutAddrK A1 2 c1 (w64 (i1 + 1))) ((cut left1 (w64 (i1 + 1)) (left1.length : Int)).length) (c1 - Int.toNat (w64 (i1 + 1))))] hF hS (by kernel_rfl) (by kernel_rfl) ?_ (fun a w hF hS => ?_)
          · exact obs_cons (ob_cutnK (l := left1) (k := .i64) (k' := .i64) Und61 hi102 hs102 rfl (.inl rfl) (.inr ⟨rfl, rfl⟩) (fun _ => hp3) _hc_left1) <| obs_nil
          obtain ⟨A4, c4, w, hrun, hS⟩ := run_appK2 (P := Try.prog) (t := 61) (m := (([] : List (Int × Int)) ++ (cut left1 (0 : Int) i1))) (ys := (cut left1 (w64 (i1 + 1)) (left1.length : Int))) (A2 := (cutAddrK A1 2 c1 (w64 (i1 + 1)))) (m2 := (cut left1 (w64 (i1 + 1)) (left1.length : Int)).length) (c2 := (c1 - Int.toNat (w64 (i1 + 1)))) encK102 (hS.at_ 0 rfl) (Rd.cutK encK102 (hr_left1 _ (hS.dropN 2)) hp3 _hc_left1) rfl 61 Und61 hi102 hz102 hs102 rfl (by omega) hp4
          have hS : Sep w0 B w (ownK 102 2 A4 (((([] : List (Int × Int)) ++ (cut left1 (0 : Int) i1)) ++ (cut left1 (w64 (i1 + 1)) (left1.length : Int))).length) c4 (List.flatMap enc102 ((([] : List (Int × Int)) ++ (cut left1 (0 : Int) i1)) ++ (cut left1 (w64 (i1 + 1)) (left1.length : Int)))) :: ownK 102 2 A2 tried1.length c2 (List.flatMap enc102 tried1) :: fs) := hS
          refine at_do (d := 32) hF (by kernel_rfl) (by kernel_rfl) hrun (fun a hF => ?_)
          refine at_run 1 [] [] [0, 1, 5, 6, 7, 8] [pl 0 (.slice A1 left1.length c1), pl 1 (.int .i64 end1), pl 5 (.int .i64 n2), pl 6 (.slice A2 tried1.length c2), pl 7 (.int .i64 i1), pl 8 (.slice A4 (((([] : List (Int × Int)) ++ (cut left1 (0 : Int) i1)) ++ (cut left1 (w64 (i1 + 1)) (left1.length : Int))).length) c4)] hF hS (by kernel_rfl) (by kernel_rfl) ?_ (fun a w hF hS => ?_)
          · exact obs_nil
          refine at_end [0, 1, 5, 6, 7, 8] [pl 0 (.slice A1 left1.length c1), pl 1 (.int .i64 end1), pl 5 (.int .i64 n2), pl 6 (.slice A2 tried1.length c2), pl 7 (.int .i64 i1), pl 8 (.slice A4 (((([] : List (Int × Int)) ++ (cut left1 (0 : Int) i1)) ++ (cut left1 (w64 (i1 + 1)) (left1.length : Int))).length) c4)] hF rfl (by kernel_rfl) (fun hF => ?_)
          refine then_n ?_
          refine reg [] [] [0, 1, 5, 6, 7, 8, 9] [pl 0 (.slice A1 left1.length c1), pl 1 (.int .i64 end1), pl 5 (.int .i64 n2), pl 6 (.slice A2 tried1.length c2), pl 7 (.int .i64 i1), pl 8 (.slice A4 (((([] : List (Int × Int)) ++ (cut left1 (0 : Int) i1)) ++ (cut left1 (w64 (i1 + 1)) (left1.length : Int))).length) c4), pl 9 (.int .i64 0)] hF hS Fol (by kernel_rfl) (by kernel_rfl) (by kernel_rfl) ?_ (fun a w hF hS => ?_)
          · exact obs_nil
          refine wp_block ?_
          have hS := hS.pickN 2 [1, 0] (by decide)
          refine wp_loop_model (S := (Int × List (Int × Int) × Int)) (R := (Int × List (Int × Int))) (gameroomref_RowsOf_L2 rec_gameroomref_RowsOf left1 end1 i1) (fun x => ((gameroomref_RowsOf_K2 i1) x).bind φ1) r (fun (x : (Int × List (Int × Int) × Int)) a w => ∃ (A5 : Option Addr) (c5 : Nat), Fr 85 [pl 0 (.slice A1 left1.length c1), pl 1 (.int .i64 end1), pl 5 (.int .i64 x.1), pl 6 (.slice A5 x.2.1.length c5), pl 7 (.int .i64 i1), pl 8 (.slice A4 (((([] : List (Int × Int)) ++ (cut left1 (0 : Int) i1)) ++ (cut left1 (w64 (i1 + 1)) (left1.length : Int))).length) c4), pl 9 (.int .i64 x.2.2)] a ∧ Sep w0 B w (ownK 102 2 A5 x.2.1.length c5 (List.flatMap enc102 x.2.1) :: ownK 102 2 A4 (((([] : List (Int × Int)) ++ (cut left1 (0 : Int) i1)) ++ (cut left1 (w64 (i1 + 1)) (left1.length : Int))).length) c4 (List.flatMap enc102 ((([] : List (Int × Int)) ++ (cut left1 (0 : Int) i1)) ++ (cut left1 (w64 (i1 + 1)) (left1.length : Int)))) :: fs)) (assoc_b hm) ⟨A2, c2, hF.weak [0, 1, 5, 6, 7, 8, 9] (by kernel_rfl), hS⟩ ?_
          clear hF hS hm
          rintro nn2 ⟨n4, tried2, way1⟩ a w ⟨A5, c5, hF, hS⟩ hm
          generalize hφ2 : stK (gameroomref_RowsOf_L2 rec_gameroomref_RowsOf left1 end1 i1) nn2 (fun x => ((gameroomref_RowsOf_K2 i1) x).bind φ1) = φ2 at hm
          unfold gameroomref_RowsOf_L2 at hm
          dsimp only at hF hS hm
          refine seq_cut (fun a w => Fr 85 [pl 0 (.slice A1 left1.length c1), pl 1 (.int .i64 end1), pl 5 (.int .i64 n4), pl 6 (.slice A5 tried2.length c5), pl 7 (.int .i64 i1), pl 8 (.slice A4 (((([] : List (Int × Int)) ++ (cut left1 (0 : Int) i1)) ++ (cut left1 (w64 (i1 + 1)) (left1.length : Int))).length) c4), pl 9 (.int .i64 way1)] a ∧ Sep w0 B w (ownK 102 2 A5 tried2.length c5 (List.flatMap enc102 tried2) :: ownK 102 2 A4 (((([] : List (Int × Int)) ++ (cut left1 (0 : Int) i1)) ++ (cut left1 (w64 (i1 + 1)) (left1.length : Int))).length) c4 (List.flatMap enc102 ((([] : List (Int × Int)) ++ (cut left1 (0 : Int) i1)) ++ (cut left1 (w64 (i1 + 1)) (left1.length : Int)))) :: fs) ∧ ((gameroomref_RowsOf_J5 rec_gameroomref_RowsOf left1 end1 i1 n4 tried2 way1)).bind φ2 = some r) ?_ ?_
          · rintro a w ⟨hF, hS, hm⟩
            unfold gameroomref_RowsOf_J5 at hm
            refine seq_cut (fun a w => ∃ (n6 : Int) (tried4 : List (Int × Int)) (A7 : Option Addr) (c7 : Nat), Fr 85 [pl 0 (.slice A1 left1.length c1), pl 1 (.int .i64 end1), pl 5 (.int .i64 n6), pl 6 (.slice A7 tried4.length c7), pl 7 (.int .i64 i1), pl 8 (.slice A4 (((([] : List (Int × Int)) ++ (cut left1 (0 : Int) i1)) ++ (cut left1 (w64 (i1 + 1)) (left1.length : Int))).length) c4), pl 9 (.int .i64 way1)] a ∧ Sep w0 B w (ownK 102 2 A7 tried4.length c7 (List.flatMap enc102 tried4) :: ownK 102 2 A4 (((([] : List (Int × Int)) ++ (cut left1 (0 : Int) i1)) ++ (cut left1 (w64 (i1 + 1)) (left1.length : Int))).length) c4 (List.flatMap enc102 ((([] : List (Int × Int)) ++ (cut left1 (0 : Int) i1)) ++ (cut left1 (w64 (i1 + 1)) (left1.length : Int)))) :: fs) ∧ ((gameroomref_RowsOf_J6 way1) n6 tried4).bind φ2 = some r) ?_ ?_
            · rintro a w ⟨n6, tried4, A7, c7, hF, hS, hm⟩
              unfold gameroomref_RowsOf_J6 at hm
              refine reg1 [] [] [0, 1, 5, 6, 7, 8, 9] [pl 0 (.slice A1 left1.length c1), pl 1 (.int .i64 end1), pl 5 (.int .i64 n6), pl 6 (.slice A7 tried4.length c7), pl 7 (.int .i64 i1), pl 8 (.slice A4 (((([] : List (Int × Int)) ++ (cut left1 (0 : Int) i1)) ++ (cut left1 (w64 (i1 + 1)) (left1.length : Int))).length) c4), pl 9 (.int .i64 (w64 (way1 + 1)))] hF hS Fol (by kernel_rfl) (by kernel_rfl) (by kernel_rfl) ?_ (fun a w hF hS => ?_)
              · exact obs_nil
              refine then_n ?_
              rw [← hφ2] at hm
              exact ⟨(n6, tried4, (w64 (way1 + 1))), ⟨A7, c7, hF.weak [0, 1, 5, 6, 7, 8, 9] (by kernel_rfl), hS⟩, hm⟩
            · refine wp_block ?_
              refine seqR ?_
              obtain ⟨hp5, hm⟩ := asrt_b hm
              refine at_run 4 [⟨true, [], vS (Instr.indexAt 61 (.slice A1 left1.length c1) (.int .i64 i1)), .pointer (some (sAddrK A1 2 i1))⟩, ⟨false, [], vS (Instr.loadAt 102 (.pointer (some (sAddrK A1 2 i1)))), .agg #[.int .i64 ((getd ((0, 0) : (Int × Int)) left1 i1).1), .int .i64 ((getd ((0, 0) : (Int × Int)) left1 i1).2)]⟩] [none, none, some (.pointer (some (sAddrK A1 2 i1))), some (.agg #[.int .i64 ((getd ((0, 0) : (Int × Int)) left1 i1).1), .int .i64 ((getd ((0, 0) : (Int × Int)) left1 i1).2)])] [0, 1, 5, 6, 7, 8, 9, 40] [pl 0 (.slice A1 left1.length c1), pl 1 (.int .i64 end1), pl 5 (.int .i64 n4), pl 6 (.slice A5 tried2.length c5), pl 7 (.int .i64 i1), pl 8 (.slice A4 (((([] : List (Int × Int)) ++ (cut left1 (0 : Int) i1)) ++ (cut left1 (w64 (i1 + 1)) (left1.length : Int))).length) c4), pl 9 (.int .i64 way1), pl 40 (.agg #[.int .i64 ((getd ((0, 0) : (Int × Int)) left1 i1).1), .int .i64 ((getd ((0, 0) : (Int × Int)) left1 i1).2)])] hF hS (by kernel_rfl) (by kernel_rfl) ?_ (fun a w hF hS => ?_)
              · exact obs_cons (ob_ixK (m := left1) encK102 Und61 hi102 hs102 (hr_left1 _ (hS.dropN 2)) rfl (fun _ => hp5)) <| obs_cons (ob_getK (n := left1.length) (m := left1) encK102 ((0, 0) : (Int × Int)) (by kernel_rfl) (by kernel_rfl) (fun _ hS => ⟨_, (hr_left1 _ (hS.dropN 2))⟩) (fun _ hS => rfl) (fun _ => hp5)) <| obs_nil
              refine at_do (d := 10) (s := vS (Instr.alloc 102 true (.tuple #[]))) (v := .pointer (some ⟨w.heap.size, 0, none⟩)) (w' := w.alloc (.cells #[.int .i64 0, .int .i64 0] 102)) hF (by kernel_rfl) (by kernel_rfl) (by kernel_rfl) (fun a hF => ?_)
              have hS : Sep w0 B (w.alloc (.cells #[.int .i64 0, .int .i64 0] 102)) (blk w.heap.size 102 #[.int .i64 0, .int .i64 0] :: (ownK 102 2 A5 tried2.length c5 (List.flatMap enc102 tried2) :: ownK 102 2 A4 (((([] : List (Int × Int)) ++ (cut left1 (0 : Int) i1)) ++ (cut left1 (w64 (i1 + 1)) (left1.length : Int))).length) c4 (List.flatMap enc102 ((([] : List (Int × Int)) ++ (cut left1 (0 : Int) i1)) ++ (cut left1 (w64 (i1 + 1)) (left1.length : Int)))) :: fs)) := hS.box 102 #[.int .i64 0, .int .i64 0]
              generalize w.heap.size = g1 at hF hS
              generalize w.alloc (.cells #[.int .i64 0, .int .i64 0] 102) = w at hS ⊢
              obtain ⟨w, hrun, hS⟩ := run_putA (P := Try.prog) (t := 102) (us := #[.int .i64 ((getd ((0, 0) : (Int × Int)) left1 i1).1), .int .i64 ((getd ((0, 0) : (Int × Int)) left1 i1).2)]) (o := 0) (hS.at_ 0 rfl) (by kernel_rfl) (all_one (by kernel_rfl)) (Nat.le_of_ble_eq_true (by kernel_rfl))
              refine at_skip hF (by kernel_rfl) hrun ?_
              have hS : Sep w0 B w (blk g1 102 #[.int .i64 ((getd ((0, 0) : (Int × Int)) left1 i1).1), .int .i64 ((getd ((0, 0) : (Int × Int)) left1 i1).2)] :: ownK 102 2 A5 tried2.length c5 (List.flatMap enc102 tried2) :: ownK 102 2 A4 (((([] : List (Int × Int)) ++ (cut left1 (0 : Int) i1)) ++ (cut left1 (w64 (i1 + 1)) (left1.length : Int))).length) c4 (List.flatMap enc102 ((([] : List (Int × Int)) ++ (cut left1 (0 : Int) i1)) ++ (cut left1 (w64 (i1 + 1)) (left1.length : Int)))) :: fs) := hS
              refine at_end [0, 1, 5, 6, 7, 8, 9, 10] [pl 0 (.slice A1 left1.length c1), pl 1 (.int .i64 end1), pl 5 (.int .i64 n4), pl 6 (.slice A5 tried2.length c5), pl 7 (.int .i64 i1), pl 8 (.slice A4 (((([] : List (Int × Int)) ++ (cut left1 (0 : Int) i1)) ++ (cut left1 (w64 (i1 + 1)) (left1.length : Int))).length) c4), pl 9 (.int .i64 way1), pl 10 (.pointer (some ⟨g1, 0, none⟩))] hF rfl (by kernel_rfl) (fun hF => ?_)
              refine then_n ?_
              refine seq_cut (fun a w => ∃ (p1 : Int) (p2 : Int), Fr 85 [pl 0 (.slice A1 left1.length c1), pl 1 (.int .i64 end1), pl 5 (.int .i64 n4), pl 6 (.slice A5 tried2.length c5), pl 7 (.int .i64 i1), pl 8 (.slice A4 (((([] : List (Int × Int)) ++ (cut left1 (0 : Int) i1)) ++ (cut left1 (w64 (i1 + 1)) (left1.length : Int))).length) c4), pl 9 (.int .i64 way1), pl 10 (.pointer (some ⟨g1, 0, none⟩))] a ∧ Sep w0 B w (ownK 102 2 A5 tried2.length c5 (List.flatMap enc102 tried2) :: ownK 102 2 A4 (((([] : List (Int × Int)) ++ (cut left1 (0 : Int) i1)) ++ (cut left1 (w64 (i1 + 1)) (left1.length : Int))).length) c4 (List.flatMap enc102 ((([] : List (Int × Int)) ++ (cut left1 (0 : Int) i1)) ++ (cut left1 (w64 (i1 + 1)) (left1.length : Int)))) :: blk g1 102 #[.int .i64 p1, .int .i64 p2] :: fs) ∧ ((gameroomref_RowsOf_J7 rec_gameroomref_RowsOf left1 end1 i1 n4 tried2 way1) p1 p2).bind φ2 = some r) ?_ ?_
              · rintro a w ⟨p1, p2, hF, hS, hm⟩
                unfold gameroomref_RowsOf_J7 at hm
                refine reg [] [] [0, 1, 5, 6, 7, 8, 9, 10, 11] [pl 0 (.slice A1 left1.length c1), pl 1 (.int .i64 end1), pl 5 (.int .i64 n4), pl 6 (.slice A5 tried2.length c5), pl 7 (.int .i64 i1), pl 8 (.slice A4 (((([] : List (Int × Int)) ++ (cut left1 (0 : Int) i1)) ++ (cut left1 (w64 (i1 + 1)) (left1.length : Int))).length) c4), pl 9 (.int .i64 way1), pl 10 (.pointer (some ⟨g1, 0, none⟩)), pl 11 (.bool false)] hF hS Fol (by kernel_rfl) (by kernel_rfl) (by kernel_rfl) ?_ (fun a w hF hS => ?_)
                · exact obs_nil
                refine seq_cut (fun a w => ∃ (known2 : Bool), Fr 85 [pl 0 (.slice A1 left1.length c1), pl 1 (.int .i64 end1), pl 5 (.int .i64 n4), pl 6 (.slice A5 tried2.length c5), pl 7 (.int .i64 i1), pl 8 (.slice A4 (((([] : List (Int × Int)) ++ (cut left1 (0 : Int) i1)) ++ (cut left1 (w64 (i1 + 1)) (left1.length : Int))).length) c4), pl 9 (.int .i64 way1), pl 10 (.pointer (some ⟨g1, 0, none⟩)), pl 11 (.bool known2)] a ∧ Sep w0 B w (ownK 102 2 A5 tried2.length c5 (List.flatMap enc102 tried2) :: ownK 102 2 A4 (((([] : List (Int × Int)) ++ (cut left1 (0 : Int) i1)) ++ (cut left1 (w64 (i1 + 1)) (left1.length : Int))).length) c4 (List.flatMap enc102 ((([] : List (Int × Int)) ++ (cut left1 (0 : Int) i1)) ++ (cut left1 (w64 (i1 + 1)) (left1.length : Int)))) :: blk g1 102 #[.int .i64 p1, .int .i64 p2] :: fs) ∧ ((gameroomref_RowsOf_J8 rec_gameroomref_RowsOf left1 end1 i1 n4 tried2 way1 p1 p2) known2).bind φ2 = some r) ?_ ?_
                · rintro a w ⟨known2, hF, hS, hm⟩
                  unfold gameroomref_RowsOf_J8 at hm
                  refine seq_cut (fun a w => Fr 85 [pl 0 (.slice A1 left1.length c1), pl 1 (.int .i64 end1), pl 5 (.int .i64 n4), pl 6 (.slice A5 tried2.length c5), pl 7 (.int .i64 i1), pl 8 (.slice A4 (((([] : List (Int × Int)) ++ (cut left1 (0 : Int) i1)) ++ (cut left1 (w64 (i1 + 1)) (left1.length : Int))).length) c4), pl 9 (.int .i64 way1), pl 10 (.pointer (some ⟨g1, 0, none⟩))] a ∧ Sep w0 B w (ownK 102 2 A5 tried2.length c5 (List.flatMap enc102 tried2) :: ownK 102 2 A4 (((([] : List (Int × Int)) ++ (cut left1 (0 : Int) i1)) ++ (cut left1 (w64 (i1 + 1)) (left1.length : Int))).length) c4 (List.flatMap enc102 ((([] : List (Int × Int)) ++ (cut left1 (0 : Int) i1)) ++ (cut left1 (w64 (i1 + 1)) (left1.length : Int)))) :: blk g1 102 #[.int .i64 p1, .int .i64 p2] :: fs) ∧ ((gameroomref_RowsOf_J11 rec_gameroomref_RowsOf left1 i1 n4 tried2 way1 p1 p2)).bind φ2 = some r) ?_ ?_
                  · rintro a w ⟨hF, hS, hm⟩
                    unfold gameroomref_RowsOf_J11 at hm
                    refine seqR ?_
                    obtain ⟨hp7, hm⟩ := asrt_b hm
                    refine at_run 2 [⟨false, [], vS (Instr.loadAt 102 (.pointer (some ⟨g1, 0, none⟩))), .agg #[.int .i64 p1, .int .i64 p2]⟩] [none, some (.agg #[.int .i64 p1, .int .i64 p2])] [0, 1, 5, 7, 8, 9, 10, 74, 75] [pl 0 (.slice A1 left1.length c1), pl 1 (.int .i64 end1), pl 5 (.int .i64 n4), pl 7 (.int .i64 i1), pl 8 (.slice A4 (((([] : List (Int × Int)) ++ (cut left1 (0 : Int) i1)) ++ (cut left1 (w64 (i1 + 1)) (left1.length : Int))).length) c4), pl 9 (.int .i64 way1), pl 10 (.pointer (some ⟨g1, 0, none⟩)), pl 74 (.slice A5 tried2.length c5), pl 75 (.agg #[.int .i64 p1, .int .i64 p2])] hF hS (by kernel_rfl) (by kernel_rfl) ?_ (fun a w hF hS => ?_)
                    · exact obs_cons (ob_loadA (cs := #[.int .i64 p1, .int .i64 p2]) (by kernel_rfl) (by kernel_rfl) (fun _ _ hS => (hS.at_ 2 rfl).cellsAt 0 (by rfl))) <| obs_nil
                    refine at_do (d := 76) (s := vS (Instr.buildSlice 61 1 #[(0, .agg #[.int .i64 p1, .int .i64 p2])])) (v := .slice (some ⟨w.heap.size, 0, none⟩) 1 1) (w' := w.alloc (.cells #[.int .i64 p1, .int .i64 p2] 102)) hF (by kernel_rfl) (by kernel_rfl) (by kernel_rfl) (fun a hF => ?_)
                    have hS : Sep w0 B (w.alloc (.cells #[.int .i64 p1, .int .i64 p2] 102)) (ownK 102 2 (some (⟨w.heap.size, 0, none⟩ : Addr)) 1 1 (List.flatMap enc102 ([(p1, p2)] : List (Int × Int))) :: (ownK 102 2 A5 tried2.length c5 (List.flatMap enc102 tried2) :: ownK 102 2 A4 (((([] : List (Int × Int)) ++ (cut left1 (0 : Int) i1)) ++ (cut left1 (w64 (i1 + 1)) (left1.length : Int))).length) c4 (List.flatMap enc102 ((([] : List (Int × Int)) ++ (cut left1 (0 : Int) i1)) ++ (cut left1 (w64 (i1 + 1)) (left1.length : Int)))) :: blk g1 102 #[.int .i64 p1, .int .i64 p2] :: fs)) := hS.litK 102 2 #[.int .i64 p1, .int .i64 p2] 1 rfl (by omega)
                    generalize (some (⟨w.heap.size, 0, none⟩ : Addr)) = g2 at hF hS
                    generalize w.alloc (.cells #[.int .i64 p1, .int .i64 p2] 102) = w at hS ⊢
                    obtain ⟨A8, c8, w, hrun, hS⟩ := run_appK2 (P := Try.prog) (t := 61) (m := tried2) (ys := ([(p1, p2)] : List (Int × Int))) (A2 := g2) (m2 := 1) (c2 := 1) encK102 (hS.at_ 1 rfl) (hS.at_ 0 rfl).rdK ((hS.at_ 0 rfl).lenK encK102) 61 Und61 hi102 hz102 hs102 rfl (by omega) hp7
                    have hS : Sep w0 B w (ownK 102 2 g2 1 1 (List.flatMap enc102 ([(p1, p2)] : List (Int × Int))) :: ownK 102 2 A8 ((tried2 ++ ([(p1, p2)] : List (Int × Int))).length) c8 (List.flatMap enc102 (tried2 ++ ([(p1, p2)] : List (Int × Int)))) :: ownK 102 2 A4 (((([] : List (Int × Int)) ++ (cut left1 (0 : Int) i1)) ++ (cut left1 (w64 (i1 + 1)) (left1.length : Int))).length) c4 (List.flatMap enc102 ((([] : List (Int × Int)) ++ (cut left1 (0 : Int) i1)) ++ (cut left1 (w64 (i1 + 1)) (left1.length : Int)))) :: blk g1 102 #[.int .i64 p1, .int .i64 p2] :: fs) := hS
                    refine at_do (d := 77) hF (by kernel_rfl) (by kernel_rfl) hrun (fun a hF => ?_)
                    refine at_run 1 [] [] [0, 1, 5, 6, 7, 8, 9, 10] [pl 0 (.slice A1 left1.length c1), pl 1 (.int .i64 end1), pl 5 (.int .i64 n4), pl 6 (.slice A8 ((tried2 ++ ([(p1, p2)] : List (Int × Int))).length) c8), pl 7 (.int .i64 i1), pl 8 (.slice A4 (((([] : List (Int × Int)) ++ (cut left1 (0 : Int) i1)) ++ (cut left1 (w64 (i1 + 1)) (left1.length : Int))).length) c4), pl 9 (.int .i64 way1), pl 10 (.pointer (some ⟨g1, 0, none⟩))] hF hS (by kernel_rfl) (by kernel_rfl) ?_ (fun a w hF hS => ?_)
                    · exact obs_nil
                    refine at_end [0, 1, 5, 6, 7, 8, 9, 10] [pl 0 (.slice A1 left1.length c1), pl 1 (.int .i64 end1), pl 5 (.int .i64 n4), pl 6 (.slice A8 ((tried2 ++ ([(p1, p2)] : List (Int × Int))).length) c8), pl 7 (.int .i64 i1), pl 8 (.slice A4 (((([] : List (Int × Int)) ++ (cut left1 (0 : Int) i1)) ++ (cut left1 (w64 (i1 + 1)) (left1.length : Int))).length) c4), pl 9 (.int .i64 way1), pl 10 (.pointer (some ⟨g1, 0, none⟩))] hF rfl (by kernel_rfl) (fun hF => ?_)
                    refine then_n ?_
                    obtain ⟨r1, hr1, hm⟩ := call_b hm
                    refine reg1 [⟨false, [], vS (Instr.loadAt 3 (.pointer (some ⟨g1, 1, none⟩))), .int .i64 p2⟩, ⟨false, [], callFunc 41 #[.slice A4 (((([] : List (Int × Int)) ++ (cut left1 (0 : Int) i1)) ++ (cut left1 (w64 (i1 + 1)) (left1.length : Int))).length) c4, .int .i64 p2], .int .i64 r1⟩] [none, none, none, some (.int .i64 p2), some (.int .i64 r1), none, none] [0, 1, 5, 6, 7, 8, 9] [pl 0 (.slice A1 left1.length c1), pl 1 (.int .i64 end1), pl 5 (.int .i64 (w64 (n4 + r1))), pl 6 (.slice A8 ((tried2 ++ ([(p1, p2)] : List (Int × Int))).length) c8), pl 7 (.int .i64 i1), pl 8 (.slice A4 (((([] : List (Int × Int)) ++ (cut left1 (0 : Int) i1)) ++ (cut left1 (w64 (i1 + 1)) (left1.length : Int))).length) c4), pl 9 (.int .i64 way1)] hF hS Fol (by kernel_rfl) (by kernel_rfl) (by kernel_rfl) ?_ (fun a w hF hS => ?_)
                    · exact obs_cons (ob_load Agg3 (fun _ _ hS => (hS.at_ 3 rfl).cell rfl)) <| obs_cons (ob_call Try.func41 (by kernel_rfl) rfl (fun _ _ hS => ih_gameroomref_RowsOf hr1 hS (fun _ hS => (hS.at_ 2 rfl).rdK) ((hS.at_ 2 rfl).capK encK102) rfl)) <| obs_nil
                    refine block_n ?_
                    refine then_n ?_
                    have hS := hS.pickN 4 [1, 2] (by decide)
                    exact ⟨(w64 (n4 + r1)), (tried2 ++ ([(p1, p2)] : List (Int × Int))), A8, c8, hF.weak [0, 1, 5, 6, 7, 8, 9] (by kernel_rfl), hS, hm⟩
                  · refine reg [⟨false, [(decide ((0 : Int) ≤ end1), true), (known2, false)], vS (Instr.loadAt 3 (.pointer (some ⟨g1, 0, none⟩))), .int .i64 p1⟩] [none, none, none, none, none, none, some (.int .i64 p1), none, none, none, none] [0, 1, 5, 6, 7, 8, 9, 10, 73] [pl 0 (.slice A1 left1.length c1), pl 1 (.int .i64 end1), pl 5 (.int .i64 n4), pl 6 (.slice A5 tried2.length c5), pl 7 (.int .i64 i1), pl 8 (.slice A4 (((([] : List (Int × Int)) ++ (cut left1 (0 : Int) i1)) ++ (cut left1 (w64 (i1 + 1)) (left1.length : Int))).length) c4), pl 9 (.int .i64 way1), pl 10 (.pointer (some ⟨g1, 0, none⟩)), pl 73 (.bool (known2 || ((decide ((0 : Int) ≤ end1)) && (p1 != end1))))] hF hS Fol (by kernel_rfl) (by kernel_rfl) (by kernel_rfl) ?_ (fun a w hF hS => ?_)
                    · exact obs_cons (ob_load Agg3 (fun _ _ hS => (hS.at_ 2 rfl).cell rfl)) <| obs_nil
                    refine cond_ev (t := 73) (b := known2 || ((decide ((0 : Int) ≤ end1)) && (p1 != end1))) hF (by kernel_rfl) (fun hb => ?_) (fun hb => ?_)
                    · replace hm := if_t hm hb
                      refine wp_exit ?_
                      refine then_e (block_e (then_n ?_))
                      have hS := hS.pickN 3 [0, 1] (by decide)
                      exact ⟨n4, tried2, A5, c5, hF.weak [0, 1, 5, 6, 7, 8, 9] (by kernel_rfl), hS, hm⟩
                    · replace hm := if_f hm hb
                      refine wp_skip ?_
                      refine then_n ?_
                      exact ⟨hF.weak [0, 1, 5, 6, 7, 8, 9, 10] (by kernel_rfl), hS, hm⟩
                · refine reg [] [] [0, 1, 5, 6, 7, 8, 9, 10, 11, 12] [pl 0 (.slice A1 left1.length c1), pl 1 (.int .i64 end1), pl 5 (.int .i64 n4), pl 6 (.slice A5 tried2.length c5), pl 7 (.int .i64 i1), pl 8 (.slice A4 (((([] : List (Int × Int)) ++ (cut left1 (0 : Int) i1)) ++ (cut left1 (w64 (i1 + 1)) (left1.length : Int))).length) c4), pl 9 (.int .i64 way1), pl 10 (.pointer (some ⟨g1, 0, none⟩)), pl 11 (.bool false), pl 12 (.int .i64 0)] hF hS Fol (by kernel_rfl) (by kernel_rfl) (by kernel_rfl) ?_ (fun a w hF hS => ?_)
                  · exact obs_nil
                  refine wp_block ?_
                  refine wp_loop_model (S := (Bool × Int)) (R := Bool) (gameroomref_RowsOf_L3 tried2 p1 p2) (fun x => ((gameroomref_RowsOf_K3 rec_gameroomref_RowsOf left1 end1 i1 n4 tried2 way1 p1 p2) x).bind φ2) r (fun (x : (Bool × Int)) a w => Fr 85 [pl 0 (.slice A1 left1.length c1), pl 1 (.int .i64 end1), pl 5 (.int .i64 n4), pl 6 (.slice A5 tried2.length c5), pl 7 (.int .i64 i1), pl 8 (.slice A4 (((([] : List (Int × Int)) ++ (cut left1 (0 : Int) i1)) ++ (cut left1 (w64 (i1 + 1)) (left1.length : Int))).length) c4), pl 9 (.int .i64 way1), pl 10 (.pointer (some ⟨g1, 0, none⟩)), pl 11 (.bool x.1), pl 12 (.int .i64 x.2)] a ∧ Sep w0 B w (ownK 102 2 A5 tried2.length c5 (List.flatMap enc102 tried2) :: ownK 102 2 A4 (((([] : List (Int × Int)) ++ (cut left1 (0 : Int) i1)) ++ (cut left1 (w64 (i1 + 1)) (left1.length : Int))).length) c4 (List.flatMap enc102 ((([] : List (Int × Int)) ++ (cut left1 (0 : Int) i1)) ++ (cut left1 (w64 (i1 + 1)) (left1.length : Int)))) :: blk g1 102 #[.int .i64 p1, .int .i64 p2] :: fs)) (assoc_b hm) ⟨hF.weak [0, 1, 5, 6, 7, 8, 9, 10, 11, 12] (by kernel_rfl), hS⟩ ?_
                  clear hF hS hm
                  rintro nn3 ⟨known1, k1⟩ a w ⟨hF, hS⟩ hm
                  generalize hφ3 : stK (gameroomref_RowsOf_L3 tried2 p1 p2) nn3 (fun x => ((gameroomref_RowsOf_K3 rec_gameroomref_RowsOf left1 end1 i1 n4 tried2 way1 p1 p2) x).bind φ2) = φ3 at hm
                  unfold gameroomref_RowsOf_L3 at hm
                  dsimp only at hF hS hm
                  refine seq_cut (fun a w => Fr 85 [pl 0 (.slice A1 left1.length c1), pl 1 (.int .i64 end1), pl 5 (.int .i64 n4), pl 6 (.slice A5 tried2.length c5), pl 7 (.int .i64 i1), pl 8 (.slice A4 (((([] : List (Int × Int)) ++ (cut left1 (0 : Int) i1)) ++ (cut left1 (w64 (i1 + 1)) (left1.length : Int))).length) c4), pl 9 (.int .i64 way1), pl 10 (.pointer (some ⟨g1, 0, none⟩)), pl 11 (.bool known1), pl 12 (.int .i64 k1)] a ∧ Sep w0 B w (ownK 102 2 A5 tried2.length c5 (List.flatMap enc102 tried2) :: ownK 102 2 A4 (((([] : List (Int × Int)) ++ (cut left1 (0 : Int) i1)) ++ (cut left1 (w64 (i1 + 1)) (left1.length : Int))).length) c4 (List.flatMap enc102 ((([] : List (Int × Int)) ++ (cut left1 (0 : Int) i1)) ++ (cut left1 (w64 (i1 + 1)) (left1.length : Int)))) :: blk g1 102 #[.int .i64 p1, .int .i64 p2] :: fs) ∧ ((gameroomref_RowsOf_J9 tried2 p1 p2 known1 k1)).bind φ3 = some r) ?_ ?_
                  · rintro a w ⟨hF, hS, hm⟩
                    unfold gameroomref_RowsOf_J9 at hm
                    refine seq_cut (fun a w => Fr 85 [pl 0 (.slice A1 left1.length c1), pl 1 (.int .i64 end1), pl 5 (.int .i64 n4), pl 6 (.slice A5 tried2.length c5), pl 7 (.int .i64 i1), pl 8 (.slice A4 (((([] : List (Int × Int)) ++ (cut left1 (0 : Int) i1)) ++ (cut left1 (w64 (i1 + 1)) (left1.length : Int))).length) c4), pl 9 (.int .i64 way1), pl 10 (.pointer (some ⟨g1, 0, none⟩)), pl 11 (.bool (known1 || ((((getd ((0, 0) : (Int × Int)) tried2 k1).1) == p1) && (((getd ((0, 0) : (Int × Int)) tried2 k1).2) == p2)))), pl 12 (.int .i64 k1)] a ∧ Sep w0 B w (ownK 102 2 A5 tried2.length c5 (List.flatMap enc102 tried2) :: ownK 102 2 A4 (((([] : List (Int × Int)) ++ (cut left1 (0 : Int) i1)) ++ (cut left1 (w64 (i1 + 1)) (left1.length : Int))).length) c4 (List.flatMap enc102 ((([] : List (Int × Int)) ++ (cut left1 (0 : Int) i1)) ++ (cut left1 (w64 (i1 + 1)) (left1.length : Int)))) :: blk g1 102 #[.int .i64 p1, .int .i64 p2] :: fs) ∧ ((gameroomref_RowsOf_J10 tried2 p1 p2 known1 k1)).bind φ3 = some r) ?_ ?_
                    · rintro a w ⟨hF, hS, hm⟩
                      unfold gameroomref_RowsOf_J10 at hm
                      refine reg1 [] [] [0, 1, 5, 6, 7, 8, 9, 10, 11, 12] [pl 0 (.slice A1 left1.length c1), pl 1 (.int .i64 end1), pl 5 (.int .i64 n4), pl 6 (.slice A5 tried2.length c5), pl 7 (.int .i64 i1), pl 8 (.slice A4 (((([] : List (Int × Int)) ++ (cut left1 (0 : Int) i1)) ++ (cut left1 (w64 (i1 + 1)) (left1.length : Int))).length) c4), pl 9 (.int .i64 way1), pl 10 (.pointer (some ⟨g1, 0, none⟩)), pl 11 (.bool (known1 || ((((getd ((0, 0) : (Int × Int)) tried2 k1).1) == p1) && (((getd ((0, 0) : (Int × Int)) tried2 k1).2) == p2)))), pl 12 (.int .i64 (w64 (k1 + 1)))] hF hS Fol (by kernel_rfl) (by kernel_rfl) (by kernel_rfl) ?_ (fun a w hF hS => ?_)
                      · exact obs_nil
                      refine then_n ?_
                      rw [← hφ3] at hm
                      exact ⟨((known1 || ((((getd ((0, 0) : (Int × Int)) tried2 k1).1) == p1) && (((getd ((0, 0) : (Int × Int)) tried2 k1).2) == p2))), (w64 (k1 + 1))), ⟨hF.weak [0, 1, 5, 6, 7, 8, 9, 10, 11, 12] (by kernel_rfl), hS⟩, hm⟩
                    · refine wp_block ?_
                      obtain ⟨hp6, hm⟩ := asrt_b hm
                      refine reg1 [⟨true, [(known1, false)], vS (Instr.indexAt 61 (.slice A5 tried2.length c5) (.int .i64 k1)), .pointer (some (sAddrK A5 2 k1))⟩, ⟨false, [(known1, false)], vS (Instr.loadAt 102 (.pointer (some (sAddrK A5 2 k1)))), .agg #[.int .i64 ((getd ((0, 0) : (Int × Int)) tried2 k1).1), .int .i64 ((getd ((0, 0) : (Int × Int)) tried2 k1).2)]⟩, ⟨false, [(known1, false)], vS (Instr.loadAt 102 (.pointer (some ⟨g1, 0, none⟩))), .agg #[.int .i64 p1, .int .i64 p2]⟩, ⟨true, [(known1, false)], vS (do eqGuard .eql 102 (.tmp 59) (.tmp 60) (.agg #[.int .i64 ((getd ((0, 0) : (Int × Int)) tried2 k1).1), .int .i64 ((getd ((0, 0) : (Int × Int)) tried2 k1).2)]) (.agg #[.int .i64 p1, .int .i64 p2]); binOp .eql 102 (.agg #[.int .i64 ((getd ((0, 0) : (Int × Int)) tried2 k1).1), .int .i64 ((getd ((0, 0) : (Int × Int)) tried2 k1).2)]) (.agg #[.int .i64 p1, .int .i64 p2])), .bool (((((getd ((0, 0) : (Int × Int)) tried2 k1).1) == p1) && (((getd ((0, 0) : (Int × Int)) tried2 k1).2) == p2)))⟩] [none, none, none, none, some (.pointer (some (sAddrK A5 2 k1))), some (.agg #[.int .i64 ((getd ((0, 0) : (Int × Int)) tried2 k1).1), .int .i64 ((getd ((0, 0) : (Int × Int)) tried2 k1).2)]), some (.agg #[.int .i64 p1, .int .i64 p2]), some (.bool (((((getd ((0, 0) : (Int × Int)) tried2 k1).1) == p1) && (((getd ((0, 0) : (Int × Int)) tried2 k1).2) == p2)))), none, none] [0, 1, 5, 6, 7, 8, 9, 10, 11, 12] [pl 0 (.slice A1 left1.length c1), pl 1 (.int .i64 end1), pl 5 (.int .i64 n4), pl 6 (.slice A5 tried2.length c5), pl 7 (.int .i64 i1), pl 8 (.slice A4 (((([] : List (Int × Int)) ++ (cut left1 (0 : Int) i1)) ++ (cut left1 (w64 (i1 + 1)) (left1.length : Int))).length) c4), pl 9 (.int .i64 way1), pl 10 (.pointer (some ⟨g1, 0, none⟩)), pl 11 (.bool (known1 || ((((getd ((0, 0) : (Int × Int)) tried2 k1).1) == p1) && (((getd ((0, 0) : (Int × Int)) tried2 k1).2) == p2)))), pl 12 (.int .i64 k1)] hF hS Fol (by kernel_rfl) (by kernel_rfl) (by kernel_rfl) ?_ (fun a w hF hS => ?_)
                      · exact obs_cons (ob_ixK (m := tried2) encK102 Und61 hi102 hs102 (hS.at_ 0 rfl).rdK rfl (fun hy => hp6 (hy (known1, false) (by simp)))) <| obs_cons (ob_getK (n := tried2.length) (m := tried2) encK102 ((0, 0) : (Int × Int)) (by kernel_rfl) (by kernel_rfl) (fun _ hS => ⟨_, (hS.at_ 0 rfl).rdK⟩) (fun _ hS => rfl) (fun hy => hp6 (hy (known1, false) (by simp)))) <| obs_cons (ob_loadA (cs := #[.int .i64 p1, .int .i64 p2]) (by kernel_rfl) (by kernel_rfl) (fun _ _ hS => (hS.at_ 2 rfl).cellsAt 0 (by rfl))) <| obs_cons (ob_eql rfl (by kernel_rfl) (fun w => Eql102 w)) <| obs_nil
                      refine block_n ?_
                      refine then_n ?_
                      exact ⟨hF.weak [0, 1, 5, 6, 7, 8, 9, 10, 11, 12] (by kernel_rfl), hS, hm⟩
                  · refine reg [] [] [0, 1, 5, 6, 7, 8, 9, 10, 11, 12, 51] [pl 0 (.slice A1 left1.length c1), pl 1 (.int .i64 end1), pl 5 (.int .i64 n4), pl 6 (.slice A5 tried2.length c5), pl 7 (.int .i64 i1), pl 8 (.slice A4 (((([] : List (Int × Int)) ++ (cut left1 (0 : Int) i1)) ++ (cut left1 (w64 (i1 + 1)) (left1.length : Int))).length) c4), pl 9 (.int .i64 way1), pl 10 (.pointer (some ⟨g1, 0, none⟩)), pl 11 (.bool known1), pl 12 (.int .i64 k1), pl 51 (.bool (decide (k1 < (tried2.length : Int))))] hF hS Fol (by kernel_rfl) (by kernel_rfl) (by kernel_rfl) ?_ (fun a w hF hS => ?_)
                    · exact obs_nil
                    refine cond_ev (t := 51) (b := decide (k1 < (tried2.length : Int))) hF (by kernel_rfl) (fun hb => ?_) (fun hb => ?_)
                    · replace hm := if_t hm hb
                      refine wp_skip ?_
                      refine then_n ?_
                      exact ⟨hF.weak [0, 1, 5, 6, 7, 8, 9, 10, 11, 12] (by kernel_rfl), hS, hm⟩
                    · replace hm := if_f hm hb
                      refine wp_exit ?_
                      refine then_e (then_e (block_e (then_n ?_)))
                      rw [← hφ3] at hm
                      replace hm := done_b hm
                      unfold gameroomref_RowsOf_K3 at hm
                      try dsimp only at hm
                      have hm : ((gameroomref_RowsOf_J8 rec_gameroomref_RowsOf left1 end1 i1 n4 tried2 way1 p1 p2) known1).bind φ2 = some r := hm
                      exact ⟨known1, hF.weak [0, 1, 5, 6, 7, 8, 9, 10, 11] (by kernel_rfl), hS, hm⟩
              · refine reg [] [] [0, 1, 5, 6, 7, 8, 9, 10, 42] [pl 0 (.slice A1 left1.length c1), pl 1 (.int .i64 end1), pl 5 (.int .i64 n4), pl 6 (.slice A5 tried2.length c5), pl 7 (.int .i64 i1), pl 8 (.slice A4 (((([] : List (Int × Int)) ++ (cut left1 (0 : Int) i1)) ++ (cut left1 (w64 (i1 + 1)) (left1.length : Int))).length) c4), pl 9 (.int .i64 way1), pl 10 (.pointer (some ⟨g1, 0, none⟩)), pl 42 (.bool (way1 == 1))] hF hS Fol (by kernel_rfl) (by kernel_rfl) (by kernel_rfl) ?_ (fun a w hF hS => ?_)
                · exact obs_nil
                refine cond_ev (t := 42) (b := (way1 == 1)) hF (by kernel_rfl) (fun hb => ?_) (fun hb => ?_)
                · replace hm := if_t hm hb
                  refine oneR ?_
                  refine at_run 5 [⟨false, [], vS (Instr.loadAt 3 (.pointer (some ⟨g1, 1, none⟩))), .int .i64 ((getd ((0, 0) : (Int × Int)) left1 i1).2)⟩, ⟨false, [], vS (Instr.loadAt 3 (.pointer (some ⟨g1, 0, none⟩))), .int .i64 ((getd ((0, 0) : (Int × Int)) left1 i1).1)⟩] [none, some (.int .i64 ((getd ((0, 0) : (Int × Int)) left1 i1).2)), none, some (.int .i64 ((getd ((0, 0) : (Int × Int)) left1 i1).1)), none] [0, 1, 5, 6, 7, 8, 9, 10, 47] [pl 0 (.slice A1 left1.length c1), pl 1 (.int .i64 end1), pl 5 (.int .i64 n4), pl 6 (.slice A5 tried2.length c5), pl 7 (.int .i64 i1), pl 8 (.slice A4 (((([] : List (Int × Int)) ++ (cut left1 (0 : Int) i1)) ++ (cut left1 (w64 (i1 + 1)) (left1.length : Int))).length) c4), pl 9 (.int .i64 way1), pl 10 (.pointer (some ⟨g1, 0, none⟩)), pl 47 (.agg #[.int .i64 ((getd ((0, 0) : (Int × Int)) left1 i1).2), .int .i64 ((getd ((0, 0) : (Int × Int)) left1 i1).1)])] hF hS (by kernel_rfl) (by kernel_rfl) ?_ (fun a w hF hS => ?_)
                  · exact obs_cons (ob_load Agg3 (fun _ _ hS => (hS.at_ 0 rfl).cell rfl)) <| obs_cons (ob_load Agg3 (fun _ _ hS => (hS.at_ 0 rfl).cell rfl)) <| obs_nil
                  obtain ⟨w, hrun, hS⟩ := run_putA (P := Try.prog) (t := 102) (us := #[.int .i64 ((getd ((0, 0) : (Int × Int)) left1 i1).2), .int .i64 ((getd ((0, 0) : (Int × Int)) left1 i1).1)]) (o := 0) (hS.at_ 0 rfl) (by kernel_rfl) (all_one (by kernel_rfl)) (Nat.le_of_ble_eq_true (by kernel_rfl))
                  refine at_skip hF (by kernel_rfl) hrun ?_
                  have hS : Sep w0 B w (blk g1 102 #[.int .i64 ((getd ((0, 0) : (Int × Int)) left1 i1).2), .int .i64 ((getd ((0, 0) : (Int × Int)) left1 i1).1)] :: ownK 102 2 A5 tried2.length c5 (List.flatMap enc102 tried2) :: ownK 102 2 A4 (((([] : List (Int × Int)) ++ (cut left1 (0 : Int) i1)) ++ (cut left1 (w64 (i1 + 1)) (left1.length : Int))).length) c4 (List.flatMap enc102 ((([] : List (Int × Int)) ++ (cut left1 (0 : Int) i1)) ++ (cut left1 (w64 (i1 + 1)) (left1.length : Int)))) :: fs) := hS
                  refine at_end [0, 1, 5, 6, 7, 8, 9, 10] [pl 0 (.slice A1 left1.length c1), pl 1 (.int .i64 end1), pl 5 (.int .i64 n4), pl 6 (.slice A5 tried2.length c5), pl 7 (.int .i64 i1), pl 8 (.slice A4 (((([] : List (Int × Int)) ++ (cut left1 (0 : Int) i1)) ++ (cut left1 (w64 (i1 + 1)) (left1.length : Int))).length) c4), pl 9 (.int .i64 way1), pl 10 (.pointer (some ⟨g1, 0, none⟩))] hF rfl (by kernel_rfl) (fun hF => ?_)
                  refine then_n ?_
                  have hS := hS.pickN 3 [1, 2, 0] (by decide)
                  exact ⟨((getd ((0, 0) : (Int × Int)) left1 i1).2), ((getd ((0, 0) : (Int × Int)) left1 i1).1), hF.weak [0, 1, 5, 6, 7, 8, 9, 10] (by kernel_rfl), hS, hm⟩
                · replace hm := if_f hm hb
                  refine wp_skip ?_
                  refine then_n ?_
                  have hS := hS.pickN 3 [1, 2, 0] (by decide)
                  exact ⟨((getd ((0, 0) : (Int × Int)) left1 i1).1), ((getd ((0, 0) : (Int × Int)) left1 i1).2), hF.weak [0, 1, 5, 6, 7, 8, 9, 10] (by kernel_rfl), hS, hm⟩
          · refine reg [] [] [0, 1, 5, 6, 7, 8, 9, 34] [pl 0 (.slice A1 left1.length c1), pl 1 (.int .i64 end1), pl 5 (.int .i64 n4), pl 6 (.slice A5 tried2.length c5), pl 7 (.int .i64 i1), pl 8 (.slice A4 (((([] : List (Int × Int)) ++ (cut left1 (0 : Int) i1)) ++ (cut left1 (w64 (i1 + 1)) (left1.length : Int))).length) c4), pl 9 (.int .i64 way1), pl 34 (.bool (decide (way1 < 2)))] hF hS Fol (by kernel_rfl) (by kernel_rfl) (by kernel_rfl) ?_ (fun a w hF hS => ?_)
            · exact obs_nil
            refine cond_ev (t := 34) (b := decide (way1 < 2)) hF (by kernel_rfl) (fun hb => ?_) (fun hb => ?_)
            · replace hm := if_t hm hb
              refine wp_skip ?_
              refine then_n ?_
              exact ⟨hF.weak [0, 1, 5, 6, 7, 8, 9] (by kernel_rfl), hS, hm⟩
            · replace hm := if_f hm hb
              refine wp_exit ?_
              refine then_e (then_e (block_e (block_n (then_n ?_))))
              have hS := hS.pickN 2 [0] (by decide)
              rw [← hφ2] at hm
              replace hm := done_b hm
              unfold gameroomref_RowsOf_K2 at hm
              try dsimp only at hm
              have hm : ((gameroomref_RowsOf_J4 i1) n4 tried2).bind φ1 = some r := hm
              exact ⟨n4, tried2, A5, c5, hF.weak [0, 1, 5, 6, 7] (by kernel_rfl), hS, hm⟩
      · refine reg [] [] [0, 1, 5, 6, 7, 19] [pl 0 (.slice A1 left1.length c1), pl 1 (.int .i64 end1), pl 5 (.int .i64 n2), pl 6 (.slice A2 tried1.length c2), pl 7 (.int .i64 i1), pl 19 (.bool (decide (i1 < (left1.length : Int))))] hF hS Fol (by kernel_rfl) (by kernel_rfl) (by kernel_rfl) ?_ (fun a w hF hS => ?_)
        · exact obs_nil
        refine cond_ev (t := 19) (b := decide (i1 < (left1.length : Int))) hF (by kernel_rfl) (fun hb => ?_) (fun hb => ?_)
        · replace hm := if_t hm hb
          refine wp_skip ?_
          refine then_n ?_
          exact ⟨hF.weak [0, 1, 5, 6, 7] (by kernel_rfl), hS, hm⟩
        · replace hm := if_f hm hb
          refine wp_exit ?_
          refine then_e (then_e (block_e (then_n ?_)))
          have hS := hS.pickN 1 [] (by decide)
          rw [← hφ1] at hm
          replace hm := done_b hm
          unfold gameroomref_RowsOf_K1 at hm
          try dsimp only at hm
          have hm : (gameroomref_RowsOf_J2 n2).bind some = some r := hm
          exact ⟨n2, hF.weak [5] (by kernel_rfl), hS, hm⟩
  · refine reg [] [] [0, 1, 15] [pl 0 (.slice A1 left1.length c1), pl 1 (.int .i64 end1), pl 15 (.bool ((left1.length : Int) == 0))] hF hS Fol (by kernel_rfl) (by kernel_rfl) (by kernel_rfl) ?_ (fun a w hF hS => ?_)
    · exact obs_nil
    refine cond_ev (t := 15) (b := ((left1.length : Int) == 0)) hF (by kernel_rfl) (fun hb => ?_) (fun hb => ?_)
    · replace hm := if_t hm hb
      refine reg [] [] [4] [pl 4 (.int .i64 1)] hF hS Fol (by kernel_rfl) (by kernel_rfl) (by kernel_rfl) ?_ (fun a w hF hS => ?_)
      · exact obs_nil
      refine wp_ret ?_
      refine then_r ?_
      have hm : some 1 = some r := hm
      obtain rfl := Option.some.inj hm
      exact retV (rs := [.tmp 4]) (vs := [.int .i64 1]) hF rfl (rv_t (by kernel_rfl) <| rv_nil) rfl ⟨rfl, hS⟩
    · replace hm := if_f hm hb
      refine wp_skip ?_
      refine then_n ?_
      exact ⟨hF.weak [0, 1] (by kernel_rfl), hS, hm⟩

theorem gameroomref_RowsOf_w {A1 : Option Addr} {c1 : Nat} {n1 : Nat} {left1 : List (Int × Int)} {end1 : Int} {r : Int} {w0 w : World} {B : Nat} {fs : List HP} (hm : gameroomref_RowsOf_m left1 end1 = some r) (hS : Sep w0 B w (fs)) (hr_left1 : RdF w0 B fs A1 ((List.flatMap enc102 left1))) (_hc_left1 : left1.length ≤ c1) (_hn_left1 : n1 = left1.length) :
    Calls Try.prog 41 #[.slice A1 n1 c1, .int .i64 end1] w fun e w' => e = .returned (.int .i64 r) ∧ Sep w0 B w' (fs) := by
  have key : ∀ (n : Nat) {A1 : Option Addr} {c1 : Nat} {n1 : Nat} {left1 : List (Int × Int)} {end1 : Int} {r : Int} {w0 w : World} {B : Nat} {fs : List HP} (_ : gameroomref_RowsOf_mF n left1 end1 = some r) (_ : Sep w0 B w (fs)) (hr_left1 : RdF w0 B fs A1 ((List.flatMap enc102 left1))) (_hc_left1 : left1.length ≤ c1) (_hn_left1 : n1 = left1.length), Calls Try.prog 41 #[.slice A1 n1 c1, .int .i64 end1] w fun e w' => e = .returned (.int .i64 r) ∧ Sep w0 B w' (fs) := by
    intro n
    induction n with
    | zero => intros; rename_i hm0 _ _ _ _; cases hm0
    | succ n ih => intros; rename_i hm0 hS0 h0 h1 h2; exact gameroomref_RowsOf_wB (rec_gameroomref_RowsOf := gameroomref_RowsOf_mF n) (fun hm hS h0 h1 h2 => ih hm hS h0 h1 h2) hm0 hS0 h0 h1 h2
  obtain ⟨n, hn⟩ := recM_some hm
  exact key n hn hS hr_left1 _hc_left1 _hn_left1

set_option maxRecDepth 100000 in
theorem gameroomref_RowsOf_J11_le_gameroomref_RowsOf {rec_gameroomref_RowsOf1 rec_gameroomref_RowsOf2 : List (Int × Int) → Int → Option Int} (h_rec_gameroomref_RowsOf : ∀ a0 a1, Le (rec_gameroomref_RowsOf1 a0 a1) (rec_gameroomref_RowsOf2 a0 a1)) (left1 : List (Int × Int)) (i1 : Int) (n4 : Int) (tried2 : List (Int × Int)) (way1 : Int) (p1 : Int) (p2 : Int) : Le (gameroomref_RowsOf_J11 rec_gameroomref_RowsOf1 left1 i1 n4 tried2 way1 p1 p2) (gameroomref_RowsOf_J11 rec_gameroomref_RowsOf2 left1 i1 n4 tried2 way1 p1 p2) := by
  unfold gameroomref_RowsOf_J11
  repeat' (first | with_reducible exact Le.refl _ | with_reducible exact h_rec_gameroomref_RowsOf _ _ | with_reducible refine Le.asrt ?_ | with_reducible refine Le.ite ?_ ?_ | refine Le.bind ?_ (fun _ => ?_) | refine Le.loop2 (fun _ => ?_) | refine Le.elim2 (fun _ => ?_) (fun _ => ?_))

set_option maxRecDepth 100000 in
theorem gameroomref_RowsOf_J8_le_gameroomref_RowsOf {rec_gameroomref_RowsOf1 rec_gameroomref_RowsOf2 : List (Int × Int) → Int → Option Int} (h_rec_gameroomref_RowsOf : ∀ a0 a1, Le (rec_gameroomref_RowsOf1 a0 a1) (rec_gameroomref_RowsOf2 a0 a1)) (left1 : List (Int × Int)) (end1 : Int) (i1 : Int) (n4 : Int) (tried2 : List (Int × Int)) (way1 : Int) (p1 : Int) (p2 : Int) (known2 : Bool) : Le (gameroomref_RowsOf_J8 rec_gameroomref_RowsOf1 left1 end1 i1 n4 tried2 way1 p1 p2 known2) (gameroomref_RowsOf_J8 rec_gameroomref_RowsOf2 left1 end1 i1 n4 tried2 way1 p1 p2 known2) := by
  unfold gameroomref_RowsOf_J8
  repeat' (first | with_reducible exact Le.refl _ | with_reducible exact h_rec_gameroomref_RowsOf _ _ | with_reducible exact gameroomref_RowsOf_J11_le_gameroomref_RowsOf h_rec_gameroomref_RowsOf _ _ _ _ _ _ _ | with_reducible refine Le.asrt ?_ | with_reducible refine Le.ite ?_ ?_ | refine Le.bind ?_ (fun _ => ?_) | refine Le.loop2 (fun _ => ?_) | refine Le.elim2 (fun _ => ?_) (fun _ => ?_))

set_option maxRecDepth 100000 in
theorem gameroomref_RowsOf_K3_le_gameroomref_RowsOf {rec_gameroomref_RowsOf1 rec_gameroomref_RowsOf2 : List (Int × Int) → Int → Option Int} (h_rec_gameroomref_RowsOf : ∀ a0 a1, Le (rec_gameroomref_RowsOf1 a0 a1) (rec_gameroomref_RowsOf2 a0 a1)) (left1 : List (Int × Int)) (end1 : Int) (i1 : Int) (n4 : Int) (tried2 : List (Int × Int)) (way1 : Int) (p1 : Int) (p2 : Int) (x : Bool) : Le (gameroomref_RowsOf_K3 rec_gameroomref_RowsOf1 left1 end1 i1 n4 tried2 way1 p1 p2 x) (gameroomref_RowsOf_K3 rec_gameroomref_RowsOf2 left1 end1 i1 n4 tried2 way1 p1 p2 x) := by
  rcases x with known2
  all_goals
    unfold gameroomref_RowsOf_K3
    try dsimp only
    repeat' (first | with_reducible exact Le.refl _ | with_reducible exact h_rec_gameroomref_RowsOf _ _ | with_reducible exact gameroomref_RowsOf_J8_le_gameroomref_RowsOf h_rec_gameroomref_RowsOf _ _ _ _ _ _ _ _ _ | with_reducible refine Le.asrt ?_ | with_reducible refine Le.ite ?_ ?_ | refine Le.bind ?_ (fun _ => ?_) | refine Le.loop2 (fun _ => ?_) | refine Le.elim2 (fun _ => ?_) (fun _ => ?_))

set_option maxRecDepth 100000 in
theorem gameroomref_RowsOf_J7_le_gameroomref_RowsOf {rec_gameroomref_RowsOf1 rec_gameroomref_RowsOf2 : List (Int × Int) → Int → Option Int} (h_rec_gameroomref_RowsOf : ∀ a0 a1, Le (rec_gameroomref_RowsOf1 a0 a1) (rec_gameroomref_RowsOf2 a0 a1)) (left1 : List (Int × Int)) (end1 : Int) (i1 : Int) (n4 : Int) (tried2 : List (Int × Int)) (way1 : Int) (p1 : Int) (p2 : Int) : Le (gameroomref_RowsOf_J7 rec_gameroomref_RowsOf1 left1 end1 i1 n4 tried2 way1 p1 p2) (gameroomref_RowsOf_J7 rec_gameroomref_RowsOf2 left1 end1 i1 n4 tried2 way1 p1 p2) := by
  unfold gameroomref_RowsOf_J7
  repeat' (first | with_reducible exact Le.refl _ | with_reducible exact h_rec_gameroomref_RowsOf _ _ | with_reducible exact gameroomref_RowsOf_K3_le_gameroomref_RowsOf h_rec_gameroomref_RowsOf _ _ _ _ _ _ _ _ _ | with_reducible refine Le.asrt ?_ | with_reducible refine Le.ite ?_ ?_ | refine Le.bind ?_ (fun _ => ?_) | refine Le.loop2 (fun _ => ?_) | refine Le.elim2 (fun _ => ?_) (fun _ => ?_))

set_option maxRecDepth 100000 in
theorem gameroomref_RowsOf_J5_le_gameroomref_RowsOf {rec_gameroomref_RowsOf1 rec_gameroomref_RowsOf2 : List (Int × Int) → Int → Option Int} (h_rec_gameroomref_RowsOf : ∀ a0 a1, Le (rec_gameroomref_RowsOf1 a0 a1) (rec_gameroomref_RowsOf2 a0 a1)) (left1 : List (Int × Int)) (end1 : Int) (i1 : Int) (n4 : Int) (tried2 : List (Int × Int)) (way1 : Int) : Le (gameroomref_RowsOf_J5 rec_gameroomref_RowsOf1 left1 end1 i1 n4 tried2 way1) (gameroomref_RowsOf_J5 rec_gameroomref_RowsOf2 left1 end1 i1 n4 tried2 way1) := by
  unfold gameroomref_RowsOf_J5
  repeat' (first | with_reducible exact Le.refl _ | with_reducible exact h_rec_gameroomref_RowsOf _ _ | with_reducible exact gameroomref_RowsOf_J7_le_gameroomref_RowsOf h_rec_gameroomref_RowsOf _ _ _ _ _ _ _ _ | with_reducible refine Le.asrt ?_ | with_reducible refine Le.ite ?_ ?_ | refine Le.bind ?_ (fun _ => ?_) | refine Le.loop2 (fun _ => ?_) | refine Le.elim2 (fun _ => ?_) (fun _ => ?_))

set_option maxRecDepth 100000 in
theorem gameroomref_RowsOf_L2_le_gameroomref_RowsOf {rec_gameroomref_RowsOf1 rec_gameroomref_RowsOf2 : List (Int × Int) → Int → Option Int} (h_rec_gameroomref_RowsOf : ∀ a0 a1, Le (rec_gameroomref_RowsOf1 a0 a1) (rec_gameroomref_RowsOf2 a0 a1)) (left1 : List (Int × Int)) (end1 : Int) (i1 : Int) (x : (Int × List (Int × Int) × Int)) : Le (gameroomref_RowsOf_L2 rec_gameroomref_RowsOf1 left1 end1 i1 x) (gameroomref_RowsOf_L2 rec_gameroomref_RowsOf2 left1 end1 i1 x) := by
  rcases x with ⟨n4, tried2, way1⟩
  all_goals
    unfold gameroomref_RowsOf_L2
    try dsimp only
    repeat' (first | with_reducible exact Le.refl _ | with_reducible exact h_rec_gameroomref_RowsOf _ _ | with_reducible exact gameroomref_RowsOf_J5_le_gameroomref_RowsOf h_rec_gameroomref_RowsOf _ _ _ _ _ _ | with_reducible refine Le.asrt ?_ | with_reducible refine Le.ite ?_ ?_ | refine Le.bind ?_ (fun _ => ?_) | refine Le.loop2 (fun _ => ?_) | refine Le.elim2 (fun _ => ?_) (fun _ => ?_))

set_option maxRecDepth 100000 in
theorem gameroomref_RowsOf_J3_le_gameroomref_RowsOf {rec_gameroomref_RowsOf1 rec_gameroomref_RowsOf2 : List (Int × Int) → Int → Option Int} (h_rec_gameroomref_RowsOf : ∀ a0 a1, Le (rec_gameroomref_RowsOf1 a0 a1) (rec_gameroomref_RowsOf2 a0 a1)) (left1 : List (Int × Int)) (end1 : Int) (n2 : Int) (tried1 : List (Int × Int)) (i1 : Int) : Le (gameroomref_RowsOf_J3 rec_gameroomref_RowsOf1 left1 end1 n2 tried1 i1) (gameroomref_RowsOf_J3 rec_gameroomref_RowsOf2 left1 end1 n2 tried1 i1) := by
  unfold gameroomref_RowsOf_J3
  repeat' (first | with_reducible exact Le.refl _ | with_reducible exact h_rec_gameroomref_RowsOf _ _ | with_reducible exact gameroomref_RowsOf_L2_le_gameroomref_RowsOf h_rec_gameroomref_RowsOf _ _ _ _ | with_reducible refine Le.asrt ?_ | with_reducible refine Le.ite ?_ ?_ | refine Le.bind ?_ (fun _ => ?_) | refine Le.loop2 (fun _ => ?_) | refine Le.elim2 (fun _ => ?_) (fun _ => ?_))

set_option maxRecDepth 100000 in
theorem gameroomref_RowsOf_L1_le_gameroomref_RowsOf {rec_gameroomref_RowsOf1 rec_gameroomref_RowsOf2 : List (Int × Int) → Int → Option Int} (h_rec_gameroomref_RowsOf : ∀ a0 a1, Le (rec_gameroomref_RowsOf1 a0 a1) (rec_gameroomref_RowsOf2 a0 a1)) (left1 : List (Int × Int)) (end1 : Int) (x : (Int × List (Int × Int) × Int)) : Le (gameroomref_RowsOf_L1 rec_gameroomref_RowsOf1 left1 end1 x) (gameroomref_RowsOf_L1 rec_gameroomref_RowsOf2 left1 end1 x) := by
  rcases x with ⟨n2, tried1, i1⟩
  all_goals
    unfold gameroomref_RowsOf_L1
    try dsimp only
    repeat' (first | with_reducible exact Le.refl _ | with_reducible exact h_rec_gameroomref_RowsOf _ _ | with_reducible exact gameroomref_RowsOf_J3_le_gameroomref_RowsOf h_rec_gameroomref_RowsOf _ _ _ _ _ | with_reducible refine Le.asrt ?_ | with_reducible refine Le.ite ?_ ?_ | refine Le.bind ?_ (fun _ => ?_) | refine Le.loop2 (fun _ => ?_) | refine Le.elim2 (fun _ => ?_) (fun _ => ?_))

set_option maxRecDepth 100000 in
theorem gameroomref_RowsOf_J1_le_gameroomref_RowsOf {rec_gameroomref_RowsOf1 rec_gameroomref_RowsOf2 : List (Int × Int) → Int → Option Int} (h_rec_gameroomref_RowsOf : ∀ a0 a1, Le (rec_gameroomref_RowsOf1 a0 a1) (rec_gameroomref_RowsOf2 a0 a1)) (left1 : List (Int × Int)) (end1 : Int) : Le (gameroomref_RowsOf_J1 rec_gameroomref_RowsOf1 left1 end1) (gameroomref_RowsOf_J1 rec_gameroomref_RowsOf2 left1 end1) := by
  unfold gameroomref_RowsOf_J1
  repeat' (first | with_reducible exact Le.refl _ | with_reducible exact h_rec_gameroomref_RowsOf _ _ | with_reducible exact gameroomref_RowsOf_L1_le_gameroomref_RowsOf h_rec_gameroomref_RowsOf _ _ _ | with_reducible refine Le.asrt ?_ | with_reducible refine Le.ite ?_ ?_ | refine Le.bind ?_ (fun _ => ?_) | refine Le.loop2 (fun _ => ?_) | refine Le.elim2 (fun _ => ?_) (fun _ => ?_))

set_option maxRecDepth 100000 in
theorem gameroomref_RowsOf_B_le {rec_gameroomref_RowsOf1 rec_gameroomref_RowsOf2 : List (Int × Int) → Int → Option Int} (h_rec_gameroomref_RowsOf : ∀ a0 a1, Le (rec_gameroomref_RowsOf1 a0 a1) (rec_gameroomref_RowsOf2 a0 a1)) (left1 : List (Int × Int)) (end1 : Int) : Le (gameroomref_RowsOf_B rec_gameroomref_RowsOf1 left1 end1) (gameroomref_RowsOf_B rec_gameroomref_RowsOf2 left1 end1) := by
  unfold gameroomref_RowsOf_B
  repeat' (first | with_reducible exact Le.refl _ | with_reducible exact h_rec_gameroomref_RowsOf _ _ | with_reducible exact gameroomref_RowsOf_J1_le_gameroomref_RowsOf h_rec_gameroomref_RowsOf _ _ | with_reducible refine Le.asrt ?_ | with_reducible refine Le.ite ?_ ?_ | refine Le.bind ?_ (fun _ => ?_) | refine Le.loop2 (fun _ => ?_) | refine Le.elim2 (fun _ => ?_) (fun _ => ?_))

set_option maxRecDepth 100000 in
theorem gameroomref_RowsOf_mF_le : ∀ (n : Nat) (left1 : List (Int × Int)) (end1 : Int), Le (gameroomref_RowsOf_mF n left1 end1) (gameroomref_RowsOf_mF (n + 1) left1 end1)
  | 0, _, _ => fun _ h => by cases h
  | n + 1, _, _ => gameroomref_RowsOf_B_le (fun a0 a1 => gameroomref_RowsOf_mF_le n a0 a1) _ _

set_option maxRecDepth 100000 in
theorem gameroomref_RowsOf_m_of (N : Nat) (left1 : List (Int × Int)) (end1 : Int) {r : Int} (h : gameroomref_RowsOf_mF N left1 end1 = some r) : gameroomref_RowsOf_m left1 end1 = some r :=
  recM_mono (fun n => gameroomref_RowsOf_mF_le n _ _) h

noncomputable def gameroomlaw_DominoSets_J4 (l1 : List (Int × Int)) (r3 : (Int × Int)) : Option Bool :=
  ((if (r3.2 == 0) then gameroomref_RowsOf_m l1 (-1) else some 0)).bind fun r8 => some ((r3.2 == 0) && (r3.1 == r8))

noncomputable def gameroomlaw_DominoSets_J3 (l1 : List (Int × Int)) (r3 : (Int × Int)) : Option Bool :=
  (gameroomref_PiecesMay_m l1).bind fun r7 => if (!r7) then (some ((r3.2 == 3) && (r3.1 == 0))) else ((gameroomlaw_DominoSets_J4 l1 r3))

noncomputable def gameroomlaw_DominoSets_J1 (l1 : List (Int × Int)) (r3 : (Int × Int)) : Option Bool :=
  if (decide ((7 : Int) < (l1.length : Int))) then (some ((r3.2 == 2) && (r3.1 == 0))) else ((gameroomlaw_DominoSets_J3 l1 r3))

noncomputable def gameroomlaw_DominoSets_J2 (l1 : List (Int × Int)) (r3 : (Int × Int)) (z1 : Bool) : Option Bool :=
  if z1 then (some false) else ((gameroomlaw_DominoSets_J1 l1 r3))

noncomputable def gameroomlaw_DominoSets_m (most1 : Int) (l1 : List (Int × Int)) : Option Bool :=
  (domino_Set_m most1).bind fun r1 => (gameroomlaw_pieces_m l1).bind fun r2 => (domino_Rows_m r2).bind fun r3 => if ((decide (most1 < 0)) || (decide ((9 : Int) < most1))) then (if ((r1.2 != 3) || (decide ((0 : Int) < (r1.1.length : Int)))) then (some false) else ((gameroomlaw_DominoSets_J1 l1 r3))) else (if (r1.2 != 0) then (((if (!(r1.2 != 0)) then gameroomlaw_samePieces_m r1.1 ([] : List (Int × Int)) else some false)).bind fun r4 => (gameroomlaw_DominoSets_J2 l1 r3) ((r1.2 != 0) || (!r4))) else ((gameroomref_SetOf_m most1).bind fun r5 => ((if (!(r1.2 != 0)) then gameroomlaw_samePieces_m r1.1 r5 else some false)).bind fun r6 => (gameroomlaw_DominoSets_J2 l1 r3) ((r1.2 != 0) || (!r6))))

set_option maxRecDepth 100000 in
set_option maxHeartbeats 4000000 in
theorem gameroomlaw_DominoSets_w {most1 : Int} {A1 : Option Addr} {c1 : Nat} {n1 : Nat} {l1 : List (Int × Int)} {r : Bool} {w0 w : World} {B : Nat} {fs : List HP} (hm : gameroomlaw_DominoSets_m most1 l1 = some r) (hS : Sep w0 B w (fs)) (hr_l1 : RdF w0 B fs A1 ((List.flatMap enc102 l1))) (_hc_l1 : l1.length ≤ c1) (_hn_l1 : n1 = l1.length) :
    Calls Try.prog 11 #[.int .i64 most1, .slice A1 n1 c1] w fun e w' => e = .returned (.bool r) ∧ Sep w0 B w' (fs) := by
  obtain ⟨i102, hi102, hz102, hs102, hb102⟩ := info_parts Info102
  obtain rfl := _hn_l1
  unfold gameroomlaw_DominoSets_m at hm
  replace hm := start_b hm
  refine enter (l := [.int .i64 most1, .slice A1 l1.length c1]) (n := 68) Try.func11 rfl rfl (by simp) (fun a hF => ?_)
  refine reg [] [] [0, 1] [pl 0 (.int .i64 most1), pl 1 (.slice A1 l1.length c1)] hF hS Fol (by kernel_rfl) (by kernel_rfl) (by kernel_rfl) ?_ (fun a w hF hS => ?_)
  · exact obs_nil
  refine seqR ?_
  obtain ⟨r1, hr1, hm⟩ := call_b hm
  refine at_run 1 [] [] [0, 1, 10] [pl 0 (.int .i64 most1), pl 1 (.slice A1 l1.length c1), pl 10 (.int .i64 most1)] hF hS (by kernel_rfl) (by kernel_rfl) ?_ (fun a w hF hS => ?_)
  · exact obs_nil
  refine at_call (f := 35) (args := #[.int .i64 most1]) (d := 11) hF (by kernel_rfl) (by kernel_rfl) Try.func35 (by kernel_rfl) rfl (domino_Set_w hr1 hS ) (fun v a w hR hF => ?_)
  clear hS
  obtain ⟨A2, c2, rfl, hS⟩ := hR
  have hS : Sep w0 B w (ownK 102 2 A2 r1.1.length c2 (List.flatMap enc102 r1.1) :: fs) := hS
  refine at_run 5 [] [] [0, 1, 5, 6] [pl 0 (.int .i64 most1), pl 1 (.slice A1 l1.length c1), pl 5 (.slice A2 r1.1.length c2), pl 6 (.int .i64 r1.2)] hF hS (by kernel_rfl) (by kernel_rfl) ?_ (fun a w hF hS => ?_)
  · exact obs_nil
  refine at_end [0, 1, 5, 6] [pl 0 (.int .i64 most1), pl 1 (.slice A1 l1.length c1), pl 5 (.slice A2 r1.1.length c2), pl 6 (.int .i64 r1.2)] hF rfl (by kernel_rfl) (fun hF => ?_)
  refine then_n ?_
  refine seqR ?_
  obtain ⟨r2, hr2, hm⟩ := call_b hm
  obtain ⟨r3, hr3, hm⟩ := call_b hm
  refine at_run 1 [] [] [0, 1, 5, 6, 15] [pl 0 (.int .i64 most1), pl 1 (.slice A1 l1.length c1), pl 5 (.slice A2 r1.1.length c2), pl 6 (.int .i64 r1.2), pl 15 (.slice A1 l1.length c1)] hF hS (by kernel_rfl) (by kernel_rfl) ?_ (fun a w hF hS => ?_)
  · exact obs_nil
  refine at_call (f := 37) (args := #[.slice A1 l1.length c1]) (d := 16) hF (by kernel_rfl) (by kernel_rfl) Try.func37 (by kernel_rfl) rfl (gameroomlaw_pieces_w hr2 hS (fun _ hS => (hr_l1 _ (hS.dropN 1))) _hc_l1 rfl) (fun v a w hR hF => ?_)
  clear hS
  obtain ⟨A3, c3, rfl, hS⟩ := hR
  have hS : Sep w0 B w (ownK 102 2 A3 r2.length c3 (List.flatMap enc102 r2) :: ownK 102 2 A2 r1.1.length c2 (List.flatMap enc102 r1.1) :: fs) := hS
  refine at_run 6 [⟨false, [], callFunc 36 #[.slice A3 r2.length c3], .tuple #[.int .i64 r3.1, .int .i64 r3.2]⟩] [some (.tuple #[.int .i64 r3.1, .int .i64 r3.2]), none, none, none, none, none] [0, 1, 5, 6, 7, 8] [pl 0 (.int .i64 most1), pl 1 (.slice A1 l1.length c1), pl 5 (.slice A2 r1.1.length c2), pl 6 (.int .i64 r1.2), pl 7 (.int .i64 r3.1), pl 8 (.int .i64 r3.2)] hF hS (by kernel_rfl) (by kernel_rfl) ?_ (fun a w hF hS => ?_)
  · exact obs_cons (ob_call Try.func36 (by kernel_rfl) rfl (fun _ _ hS => domino_Rows_w hr3 hS (fun _ hS => (hS.at_ 0 rfl).rdK) ((hS.at_ 0 rfl).capK encK102) rfl)) <| obs_nil
  refine at_end [0, 1, 5, 6, 7, 8] [pl 0 (.int .i64 most1), pl 1 (.slice A1 l1.length c1), pl 5 (.slice A2 r1.1.length c2), pl 6 (.int .i64 r1.2), pl 7 (.int .i64 r3.1), pl 8 (.int .i64 r3.2)] hF rfl (by kernel_rfl) (fun hF => ?_)
  refine then_n ?_
  refine seq_cut (fun a w => Fr 68 [pl 1 (.slice A1 l1.length c1), pl 7 (.int .i64 r3.1), pl 8 (.int .i64 r3.2)] a ∧ Sep w0 B w (fs) ∧ ((gameroomlaw_DominoSets_J1 l1 r3)).bind some = some r) ?_ ?_
  · rintro a w ⟨hF, hS, hm⟩
    unfold gameroomlaw_DominoSets_J1 at hm
    refine seq_cut (fun a w => Fr 68 [pl 1 (.slice A1 l1.length c1), pl 7 (.int .i64 r3.1), pl 8 (.int .i64 r3.2)] a ∧ Sep w0 B w (fs) ∧ ((gameroomlaw_DominoSets_J3 l1 r3)).bind some = some r) ?_ ?_
    · rintro a w ⟨hF, hS, hm⟩
      unfold gameroomlaw_DominoSets_J3 at hm
      refine seq_cut (fun a w => Fr 68 [pl 1 (.slice A1 l1.length c1), pl 7 (.int .i64 r3.1), pl 8 (.int .i64 r3.2)] a ∧ Sep w0 B w (fs) ∧ ((gameroomlaw_DominoSets_J4 l1 r3)).bind some = some r) ?_ ?_
      · rintro a w ⟨hF, hS, hm⟩
        unfold gameroomlaw_DominoSets_J4 at hm
        obtain ⟨r8, hr8, hm⟩ := call_b hm
        refine reg [⟨false, [((r3.2 == 0), true)], callFunc 41 #[.slice A1 l1.length c1, .int .i64 (-1)], .int .i64 r8⟩] [none, none, none, none, none, some (.int .i64 r8), none, none, none] [4] [pl 4 (.bool ((r3.2 == 0) && (r3.1 == r8)))] hF hS Fol (by kernel_rfl) (by kernel_rfl) (by kernel_rfl) ?_ (fun a w hF hS => ?_)
        · exact obs_cons (ob_call Try.func41 (by kernel_rfl) rfl (fun hy _ hS => gameroomref_RowsOf_w (ite_some hr8 (by rw [show (r3.2 == 0) = true from hy ((r3.2 == 0), true) (by simp)]; try rfl)) hS (fun _ hS => (hr_l1 _ (hS.dropN 0))) _hc_l1 rfl)) <| obs_nil
        refine wp_ret ?_
        have hm : some ((r3.2 == 0) && (r3.1 == r8)) = some r := hm
        obtain rfl := Option.some.inj hm
        exact retV (rs := [.tmp 4]) (vs := [.bool ((r3.2 == 0) && (r3.1 == r8))]) hF rfl (rv_t (by kernel_rfl) <| rv_nil) rfl ⟨rfl, hS⟩
      · obtain ⟨r7, hr7, hm⟩ := call_b hm
        refine reg [⟨false, [], callFunc 40 #[.slice A1 l1.length c1], .bool r7⟩] [none, some (.bool r7), none] [1, 7, 8, 53] [pl 1 (.slice A1 l1.length c1), pl 7 (.int .i64 r3.1), pl 8 (.int .i64 r3.2), pl 53 (.bool (!r7))] hF hS Fol (by kernel_rfl) (by kernel_rfl) (by kernel_rfl) ?_ (fun a w hF hS => ?_)
        · exact obs_cons (ob_call Try.func40 (by kernel_rfl) rfl (fun _ _ hS => gameroomref_PiecesMay_w hr7 hS (fun _ hS => (hr_l1 _ (hS.dropN 0))) _hc_l1 rfl)) <| obs_nil
        refine cond_ev (t := 53) (b := !r7) hF (by kernel_rfl) (fun hb => ?_) (fun hb => ?_)
        · replace hm := if_t hm hb
          refine reg [] [] [4] [pl 4 (.bool ((r3.2 == 3) && (r3.1 == 0)))] hF hS Fol (by kernel_rfl) (by kernel_rfl) (by kernel_rfl) ?_ (fun a w hF hS => ?_)
          · exact obs_nil
          refine wp_ret ?_
          refine then_r ?_
          have hm : some ((r3.2 == 3) && (r3.1 == 0)) = some r := hm
          obtain rfl := Option.some.inj hm
          exact retV (rs := [.tmp 4]) (vs := [.bool ((r3.2 == 3) && (r3.1 == 0))]) hF rfl (rv_t (by kernel_rfl) <| rv_nil) rfl ⟨rfl, hS⟩
        · replace hm := if_f hm hb
          refine wp_skip ?_
          refine then_n ?_
          exact ⟨hF.weak [1, 7, 8] (by kernel_rfl), hS, hm⟩
    · refine reg [] [] [1, 7, 8, 44] [pl 1 (.slice A1 l1.length c1), pl 7 (.int .i64 r3.1), pl 8 (.int .i64 r3.2), pl 44 (.bool (decide ((7 : Int) < (l1.length : Int))))] hF hS Fol (by kernel_rfl) (by kernel_rfl) (by kernel_rfl) ?_ (fun a w hF hS => ?_)
      · exact obs_nil
      refine cond_ev (t := 44) (b := decide ((7 : Int) < (l1.length : Int))) hF (by kernel_rfl) (fun hb => ?_) (fun hb => ?_)
      · replace hm := if_t hm hb
        refine reg [] [] [4] [pl 4 (.bool ((r3.2 == 2) && (r3.1 == 0)))] hF hS Fol (by kernel_rfl) (by kernel_rfl) (by kernel_rfl) ?_ (fun a w hF hS => ?_)
        · exact obs_nil
        refine wp_ret ?_
        refine then_r ?_
        have hm : some ((r3.2 == 2) && (r3.1 == 0)) = some r := hm
        obtain rfl := Option.some.inj hm
        exact retV (rs := [.tmp 4]) (vs := [.bool ((r3.2 == 2) && (r3.1 == 0))]) hF rfl (rv_t (by kernel_rfl) <| rv_nil) rfl ⟨rfl, hS⟩
      · replace hm := if_f hm hb
        refine wp_skip ?_
        refine then_n ?_
        exact ⟨hF.weak [1, 7, 8] (by kernel_rfl), hS, hm⟩
  · refine reg [] [] [0, 1, 5, 6, 7, 8, 25] [pl 0 (.int .i64 most1), pl 1 (.slice A1 l1.length c1), pl 5 (.slice A2 r1.1.length c2), pl 6 (.int .i64 r1.2), pl 7 (.int .i64 r3.1), pl 8 (.int .i64 r3.2), pl 25 (.bool ((decide (most1 < 0)) || (decide ((9 : Int) < most1))))] hF hS Fol (by kernel_rfl) (by kernel_rfl) (by kernel_rfl) ?_ (fun a w hF hS => ?_)
    · exact obs_nil
    refine cond_ev (t := 25) (b := (decide (most1 < 0)) || (decide ((9 : Int) < most1))) hF (by kernel_rfl) (fun hb => ?_) (fun hb => ?_)
    · replace hm := if_t hm hb
      refine reg [] [] [1, 7, 8, 32] [pl 1 (.slice A1 l1.length c1), pl 7 (.int .i64 r3.1), pl 8 (.int .i64 r3.2), pl 32 (.bool ((r1.2 != 3) || (decide ((0 : Int) < (r1.1.length : Int)))))] hF hS Fol (by kernel_rfl) (by kernel_rfl) (by kernel_rfl) ?_ (fun a w hF hS => ?_)
      · exact obs_nil
      refine cond_ev (t := 32) (b := (r1.2 != 3) || (decide ((0 : Int) < (r1.1.length : Int)))) hF (by kernel_rfl) (fun hb => ?_) (fun hb => ?_)
      · replace hm := if_t hm hb
        refine reg [] [] [4] [pl 4 (.bool false)] hF hS Fol (by kernel_rfl) (by kernel_rfl) (by kernel_rfl) ?_ (fun a w hF hS => ?_)
        · exact obs_nil
        refine wp_ret ?_
        refine then_r ?_
        have hS := hS.pickN 2 [] (by decide)
        have hm : some false = some r := hm
        obtain rfl := Option.some.inj hm
        exact retV (rs := [.tmp 4]) (vs := [.bool false]) hF rfl (rv_t (by kernel_rfl) <| rv_nil) rfl ⟨rfl, hS⟩
      · replace hm := if_f hm hb
        refine wp_skip ?_
        refine then_n ?_
        have hS := hS.pickN 2 [] (by decide)
        exact ⟨hF.weak [1, 7, 8] (by kernel_rfl), hS, hm⟩
    · replace hm := if_f hm hb
      refine seq_cut (fun a w => ∃ (z1 : Bool), Fr 68 [pl 1 (.slice A1 l1.length c1), pl 7 (.int .i64 r3.1), pl 8 (.int .i64 r3.2), pl 41 (.bool z1)] a ∧ Sep w0 B w (fs) ∧ ((gameroomlaw_DominoSets_J2 l1 r3) z1).bind some = some r) ?_ ?_
      · rintro a w ⟨z1, hF, hS, hm⟩
        unfold gameroomlaw_DominoSets_J2 at hm
        refine cond_ev (t := 41) (b := z1) hF (by kernel_rfl) (fun hb => ?_) (fun hb => ?_)
        · replace hm := if_t hm hb
          refine reg [] [] [4] [pl 4 (.bool false)] hF hS Fol (by kernel_rfl) (by kernel_rfl) (by kernel_rfl) ?_ (fun a w hF hS => ?_)
          · exact obs_nil
          refine wp_ret ?_
          refine then_r ?_
          have hm : some false = some r := hm
          obtain rfl := Option.some.inj hm
          exact retV (rs := [.tmp 4]) (vs := [.bool false]) hF rfl (rv_t (by kernel_rfl) <| rv_nil) rfl ⟨rfl, hS⟩
        · replace hm := if_f hm hb
          refine wp_skip ?_
          refine then_n ?_
          exact ⟨hF.weak [1, 7, 8] (by kernel_rfl), hS, hm⟩
      · refine oneR ?_
        refine at_run 5 [] [] [1, 7, 8, 35, 36, 37] [pl 1 (.slice A1 l1.length c1), pl 7 (.int .i64 r3.1), pl 8 (.int .i64 r3.2), pl 35 (.bool (r1.2 != 0)), ⟨36, [(35, false)], .slice A2 r1.1.length c2⟩, ⟨37, [(35, false)], .int .i64 most1⟩] hF hS (by kernel_rfl) (by kernel_rfl) ?_ (fun a w hF hS => ?_)
        · exact obs_nil
        rcases Bool.eq_false_or_eq_true (r1.2 != 0) with hg1 | hg1
        · replace hm := if_t hm hg1
          obtain ⟨r4, hr4, hm⟩ := call_b hm
          refine at_gskip (d := 38) (v := .slice none 0 0) (hs := [((r1.2 != 0), false)]) (ctx := [(35, false)]) hF (by kernel_rfl) (by kernel_rfl) (fun h => absurd (h ((r1.2 != 0), false) (by simp)) (by simp [hg1])) (fun a hF => ?_)
          refine at_run 3 [⟨false, [((r1.2 != 0), false)], callFunc 38 #[.slice A2 r1.1.length c2, .slice none 0 0], .bool r4⟩] [some (.bool r4), none, none] [1, 7, 8, 41] [pl 1 (.slice A1 l1.length c1), pl 7 (.int .i64 r3.1), pl 8 (.int .i64 r3.2), pl 41 (.bool ((r1.2 != 0) || (!r4)))] hF hS (by kernel_rfl) (by kernel_rfl) ?_ (fun a w hF hS => ?_)
          · exact obs_cons (Ob.vac (fun h => absurd (h ((r1.2 != 0), false) (by simp)) (by simp [hg1]))) <| obs_nil
          refine at_end [1, 7, 8, 41] [pl 1 (.slice A1 l1.length c1), pl 7 (.int .i64 r3.1), pl 8 (.int .i64 r3.2), pl 41 (.bool ((r1.2 != 0) || (!r4)))] hF rfl (by kernel_rfl) (fun hF => ?_)
          refine then_n ?_
          have hS := hS.pickN 2 [] (by decide)
          exact ⟨((r1.2 != 0) || (!r4)), hF.weak [1, 7, 8, 41] (by kernel_rfl), hS, hm⟩
        · replace hm := if_f hm hg1
          obtain ⟨r5, hr5, hm⟩ := call_b hm
          obtain ⟨r6, hr6, hm⟩ := call_b hm
          refine at_gcall (hs := [((r1.2 != 0), false)]) (fun y hy => by simp only [List.mem_cons, List.not_mem_nil, or_false] at hy; subst hy; first | exact hg1) (f := 39) (args := #[.int .i64 most1]) (d := 38) hF (by kernel_rfl) (by kernel_rfl) Try.func39 (by kernel_rfl) rfl (gameroomref_SetOf_w hr5 hS ) (fun v a w hR hF => ?_)
          clear hS
          obtain ⟨A4, c4, rfl, hS⟩ := hR
          have hS : Sep w0 B w (ownK 102 2 A4 r5.length c4 (List.flatMap enc102 r5) :: ownK 102 2 A3 r2.length c3 (List.flatMap enc102 r2) :: ownK 102 2 A2 r1.1.length c2 (List.flatMap enc102 r1.1) :: fs) := hS
          refine at_run 3 [⟨false, [((r1.2 != 0), false)], callFunc 38 #[.slice A2 r1.1.length c2, .slice A4 r5.length c4], .bool r6⟩] [some (.bool r6), none, none] [1, 7, 8, 41] [pl 1 (.slice A1 l1.length c1), pl 7 (.int .i64 r3.1), pl 8 (.int .i64 r3.2), pl 41 (.bool ((r1.2 != 0) || (!r6)))] hF hS (by kernel_rfl) (by kernel_rfl) ?_ (fun a w hF hS => ?_)
          · exact obs_cons (ob_call Try.func38 (by kernel_rfl) rfl (fun hy _ hS => gameroomlaw_samePieces_w (ite_some hr6 (by rw [show (r1.2 != 0) = false from hy ((r1.2 != 0), false) (by simp)]; try rfl)) hS (fun _ hS => (hS.at_ 2 rfl).rdK) ((hS.at_ 2 rfl).capK encK102) rfl (fun _ hS => (hS.at_ 0 rfl).rdK) ((hS.at_ 0 rfl).capK encK102) rfl)) <| obs_nil
          refine at_end [1, 7, 8, 41] [pl 1 (.slice A1 l1.length c1), pl 7 (.int .i64 r3.1), pl 8 (.int .i64 r3.2), pl 41 (.bool ((r1.2 != 0) || (!r6)))] hF rfl (by kernel_rfl) (fun hF => ?_)
          refine then_n ?_
          have hS := hS.pickN 3 [] (by decide)
          exact ⟨((r1.2 != 0) || (!r6)), hF.weak [1, 7, 8, 41] (by kernel_rfl), hS, hm⟩

end Go.Proofs.Ytnplejebgbdfpaa
