/-
  Models and walks, printed by our own program (wip/gen).
-/
import Derived.Test.YtbmhcapeikebgaaFB
import Derived.Test.YtbmhcapeikebgaaFM
import Derived.Test.YtbmhcapeikebgaaNGRa
namespace Go.Proofs.Ytbmhcapeikebgaa
open Go Go.GL Go.RowKit

noncomputable def gameroomref_known_least_m (rec_gameroomref_known_of : List (List Int) → List Int → List Int → Option (Int × List (List Int) × List Int)) (k_men1 : List (List Int)) (k_mean1 : List Int) (men1 : List Int) (pips1 : List Int) : Option (Int × List (List Int) × List Int) :=
  recM fun n => gameroomref_known_least_mF rec_gameroomref_known_of n k_men1 k_mean1 men1 pips1

set_option maxRecDepth 100000 in
set_option maxHeartbeats 4000000 in
theorem gameroomref_known_least_wB {rec_gameroomref_known_of : List (List Int) → List Int → List Int → Option (Int × List (List Int) × List Int)} (ih_gameroomref_known_of : ∀ {g1 : Nat} {A1 : Option Addr} {c1 : Nat} {n1 : Nat} {hd1 : List Hd} {k_men1 : List (List Int)} {A2 : Option Addr} {c2 : Nat} {n2 : Nat} {k_mean1 : List Int} {A3 : Option Addr} {c3 : Nat} {n3 : Nat} {men1 : List Int} {r : (Int × List (List Int) × List Int)} {w0 w : World} {B : Nat} {fs : List HP} (_ : rec_gameroomref_known_of k_men1 k_mean1 men1 = some r) (_ : Sep w0 B w (blk g1 140 #[.slice A1 n1 c1, .slice A2 n2 c2] :: rows 40 3 (.slice A1 n1 c1) hd1 k_men1 :: own 3 (.slice A2 n2 c2) (vI k_mean1) :: fs)) (hr_men1 : RdF w0 B fs A3 (vI men1)) (_hc_men1 : men1.length ≤ c3) (_hn_men1 : n3 = men1.length), Calls Try.prog 97 #[.pointer (some ⟨g1, 0, none⟩), .slice A3 n3 c3] w fun e w' => ∃ v, e = .returned v ∧ ∃ (A4 : Option Addr) (c4 : Nat) (hd2 : List Hd) (A5 : Option Addr) (c5 : Nat), v = .int .i64 r.1 ∧ Sep w0 B w' (blk g1 140 #[.slice A4 r.2.1.length c4, .slice A5 r.2.2.length c5] :: rows 40 3 (.slice A4 r.2.1.length c4) hd2 r.2.1 :: own 3 (.slice A5 r.2.2.length c5) (vI r.2.2) :: fs)) {rec_gameroomref_known_least : List (List Int) → List Int → List Int → List Int → Option (Int × List (List Int) × List Int)} (ih_gameroomref_known_least : ∀ {g1 : Nat} {A1 : Option Addr} {c1 : Nat} {n1 : Nat} {hd1 : List Hd} {k_men1 : List (List Int)} {A2 : Option Addr} {c2 : Nat} {n2 : Nat} {k_mean1 : List Int} {A3 : Option Addr} {c3 : Nat} {n3 : Nat} {men1 : List Int} {A4 : Option Addr} {c4 : Nat} {n4 : Nat} {pips1 : List Int} {r : (Int × List (List Int) × List Int)} {w0 w : World} {B : Nat} {fs : List HP} (_ : rec_gameroomref_known_least k_men1 k_mean1 men1 pips1 = some r) (_ : Sep w0 B w (blk g1 140 #[.slice A1 n1 c1, .slice A2 n2 c2] :: rows 40 3 (.slice A1 n1 c1) hd1 k_men1 :: own 3 (.slice A2 n2 c2) (vI k_mean1) :: fs)) (hr_men1 : RdF w0 B fs A3 (vI men1)) (_hc_men1 : men1.length ≤ c3) (_hn_men1 : n3 = men1.length) (hr_pips1 : RdF w0 B fs A4 (vI pips1)) (_hc_pips1 : pips1.length ≤ c4) (_hn_pips1 : n4 = pips1.length), Calls Try.prog 138 #[.pointer (some ⟨g1, 0, none⟩), .slice A3 n3 c3, .slice A4 n4 c4] w fun e w' => ∃ v, e = .returned v ∧ ∃ (A5 : Option Addr) (c5 : Nat) (hd2 : List Hd) (A6 : Option Addr) (c6 : Nat), v = .int .i64 r.1 ∧ Sep w0 B w' (blk g1 140 #[.slice A5 r.2.1.length c5, .slice A6 r.2.2.length c6] :: rows 40 3 (.slice A5 r.2.1.length c5) hd2 r.2.1 :: own 3 (.slice A6 r.2.2.length c6) (vI r.2.2) :: fs)) {g1 : Nat} {A1 : Option Addr} {c1 : Nat} {n1 : Nat} {hd1 : List Hd} {k_men1 : List (List Int)} {A2 : Option Addr} {c2 : Nat} {n2 : Nat} {k_mean1 : List Int} {A3 : Option Addr} {c3 : Nat} {n3 : Nat} {men1 : List Int} {A4 : Option Addr} {c4 : Nat} {n4 : Nat} {pips1 : List Int} {r : (Int × List (List Int) × List Int)} {w0 w : World} {B : Nat} {fs : List HP} (hm : gameroomref_known_least_B rec_gameroomref_known_of rec_gameroomref_known_least k_men1 k_mean1 men1 pips1 = some r) (hS : Sep w0 B w (blk g1 140 #[.slice A1 n1 c1, .slice A2 n2 c2] :: rows 40 3 (.slice A1 n1 c1) hd1 k_men1 :: own 3 (.slice A2 n2 c2) (vI k_mean1) :: fs)) (hr_men1 : RdF w0 B fs A3 (vI men1)) (_hc_men1 : men1.length ≤ c3) (_hn_men1 : n3 = men1.length) (hr_pips1 : RdF w0 B fs A4 (vI pips1)) (_hc_pips1 : pips1.length ≤ c4) (_hn_pips1 : n4 = pips1.length) :
    Calls Try.prog 138 #[.pointer (some ⟨g1, 0, none⟩), .slice A3 n3 c3, .slice A4 n4 c4] w fun e w' => ∃ v, e = .returned v ∧ ∃ (A5 : Option Addr) (c5 : Nat) (hd2 : List Hd) (A6 : Option Addr) (c6 : Nat), v = .int .i64 r.1 ∧ Sep w0 B w' (blk g1 140 #[.slice A5 r.2.1.length c5, .slice A6 r.2.2.length c6] :: rows 40 3 (.slice A5 r.2.1.length c5) hd2 r.2.1 :: own 3 (.slice A6 r.2.2.length c6) (vI r.2.2) :: fs) := by
  obtain ⟨i3, hi3, hz3, hs3, hb3⟩ := info_parts Info3
  obtain rfl := (hS.at_ 1 rfl).lenR
  obtain rfl := (hS.at_ 2 rfl).len1
  obtain rfl := _hn_men1
  obtain rfl := _hn_pips1
  unfold gameroomref_known_least_B at hm
  replace hm := start_b hm
  refine enter (l := [.pointer (some ⟨g1, 0, none⟩), .slice A3 men1.length c3, .slice A4 pips1.length c4]) (n := 94) Try.func138 rfl rfl (by simp) (fun a hF => ?_)
  refine reg [] [] [0, 1, 2] [pl 0 (.pointer (some ⟨g1, 0, none⟩)), pl 1 (.slice A3 men1.length c3), pl 2 (.slice A4 pips1.length c4)] hF hS Fol (by kernel_rfl) (by kernel_rfl) (by kernel_rfl) ?_ (fun a w hF hS => ?_)
  · exact obs_nil
  refine reg [] [] [0, 1, 2, 7] [pl 0 (.pointer (some ⟨g1, 0, none⟩)), pl 1 (.slice A3 men1.length c3), pl 2 (.slice A4 pips1.length c4), pl 7 (.int .i64 (-1))] hF hS Fol (by kernel_rfl) (by kernel_rfl) (by kernel_rfl) ?_ (fun a w hF hS => ?_)
  · exact obs_nil
  refine seq_cut (fun a w => ∃ (far2 : Int), Fr 94 [pl 0 (.pointer (some ⟨g1, 0, none⟩)), pl 1 (.slice A3 men1.length c3), pl 2 (.slice A4 pips1.length c4), pl 7 (.int .i64 far2)] a ∧ Sep w0 B w (blk g1 140 #[.slice A1 k_men1.length c1, .slice A2 k_mean1.length c2] :: rows 40 3 (.slice A1 k_men1.length c1) hd1 k_men1 :: own 3 (.slice A2 k_mean1.length c2) (vI k_mean1) :: fs) ∧ ((gameroomref_known_least_J1 rec_gameroomref_known_of rec_gameroomref_known_least k_men1 k_mean1 men1 pips1) far2).bind some = some r) ?_ ?_
  · rintro a w ⟨far2, hF, hS, hm⟩
    unfold gameroomref_known_least_J1 at hm
    refine seq_cut (fun a w => Fr 94 [pl 0 (.pointer (some ⟨g1, 0, none⟩)), pl 1 (.slice A3 men1.length c3), pl 2 (.slice A4 pips1.length c4), pl 7 (.int .i64 far2)] a ∧ Sep w0 B w (blk g1 140 #[.slice A1 k_men1.length c1, .slice A2 k_mean1.length c2] :: rows 40 3 (.slice A1 k_men1.length c1) hd1 k_men1 :: own 3 (.slice A2 k_mean1.length c2) (vI k_mean1) :: fs) ∧ ((gameroomref_known_least_J4 rec_gameroomref_known_least k_men1 k_mean1 men1 pips1 far2)).bind some = some r) ?_ ?_
    · rintro a w ⟨hF, hS, hm⟩
      unfold gameroomref_known_least_J4 at hm
      refine reg [] [] [0, 1, 2, 7, 9] [pl 0 (.pointer (some ⟨g1, 0, none⟩)), pl 1 (.slice A3 men1.length c3), pl 2 (.slice A4 pips1.length c4), pl 7 (.int .i64 far2), pl 9 (.int .i64 (-1))] hF hS Fol (by kernel_rfl) (by kernel_rfl) (by kernel_rfl) ?_ (fun a w hF hS => ?_)
      · exact obs_nil
      refine seq_cut (fun a w => ∃ (best2 : Int) (k5 : List (List Int)) (k6 : List Int) (A11 : Option Addr) (c11 : Nat) (hd5 : List Hd) (A12 : Option Addr) (c12 : Nat), Fr 94 [pl 9 (.int .i64 best2)] a ∧ Sep w0 B w (blk g1 140 #[.slice A11 k5.length c11, .slice A12 k6.length c12] :: rows 40 3 (.slice A11 k5.length c11) hd5 k5 :: own 3 (.slice A12 k6.length c12) (vI k6) :: fs) ∧ (gameroomref_known_least_J5 best2 k5 k6).bind some = some r) ?_ ?_
      · rintro a w ⟨best2, k5, k6, A11, c11, hd5, A12, c12, hF, hS, hm⟩
        unfold gameroomref_known_least_J5 at hm
        refine reg [] [] [6] [pl 6 (.int .i64 best2)] hF hS Fol (by kernel_rfl) (by kernel_rfl) (by kernel_rfl) ?_ (fun a w hF hS => ?_)
        · exact obs_nil
        refine wpIn_ret ?_
        have hm : some (best2, k5, k6) = some r := hm
        obtain rfl := Option.some.inj hm
        exact retV (rs := [.tmp 6]) (vs := [.int .i64 best2]) hF rfl (rv_t (by kernel_rfl) <| rv_nil) rfl ⟨_, rfl, A11, c11, hd5, A12, c12, rfl, hS⟩
      · refine reg [] [] [0, 1, 2, 7, 9, 10] [pl 0 (.pointer (some ⟨g1, 0, none⟩)), pl 1 (.slice A3 men1.length c3), pl 2 (.slice A4 pips1.length c4), pl 7 (.int .i64 far2), pl 9 (.int .i64 (-1)), pl 10 (.int .i64 0)] hF hS Fol (by kernel_rfl) (by kernel_rfl) (by kernel_rfl) ?_ (fun a w hF hS => ?_)
        · exact obs_nil
        refine wpIn_block ?_
        refine wp_loop_model (S := (List (List Int) × List Int × Int × Int)) (R := (Int × List (List Int) × List Int)) (gameroomref_known_least_L2 rec_gameroomref_known_least men1 pips1 far2) (fun x => (gameroomref_known_least_K2 x).bind some) r (fun (x : (List (List Int) × List Int × Int × Int)) a w => ∃ (A9 : Option Addr) (c9 : Nat) (hd4 : List Hd) (A10 : Option Addr) (c10 : Nat), Fr 94 [pl 0 (.pointer (some ⟨g1, 0, none⟩)), pl 1 (.slice A3 men1.length c3), pl 2 (.slice A4 pips1.length c4), pl 7 (.int .i64 far2), pl 9 (.int .i64 x.2.2.1), pl 10 (.int .i64 x.2.2.2)] a ∧ Sep w0 B w (blk g1 140 #[.slice A9 x.1.length c9, .slice A10 x.2.1.length c10] :: rows 40 3 (.slice A9 x.1.length c9) hd4 x.1 :: own 3 (.slice A10 x.2.1.length c10) (vI x.2.1) :: fs)) (assoc_b hm) ⟨A1, c1, hd1, A2, c2, hF.weak [0, 1, 2, 7, 9, 10] (by kernel_rfl), hS⟩ ?_
        clear hF hS hm
        rintro nn2 ⟨k3, k4, best1, i2⟩ a w ⟨A9, c9, hd4, A10, c10, hF, hS⟩ hm
        generalize hφ2 : stK (gameroomref_known_least_L2 rec_gameroomref_known_least men1 pips1 far2) nn2 (fun x => (gameroomref_known_least_K2 x).bind some) = φ2 at hm
        unfold gameroomref_known_least_L2 at hm
        dsimp only at hF hS hm
        refine seq_cut (fun a w => Fr 94 [pl 0 (.pointer (some ⟨g1, 0, none⟩)), pl 1 (.slice A3 men1.length c3), pl 2 (.slice A4 pips1.length c4), pl 7 (.int .i64 far2), pl 9 (.int .i64 best1), pl 10 (.int .i64 i2)] a ∧ Sep w0 B w (blk g1 140 #[.slice A9 k3.length c9, .slice A10 k4.length c10] :: rows 40 3 (.slice A9 k3.length c9) hd4 k3 :: own 3 (.slice A10 k4.length c10) (vI k4) :: fs) ∧ ((gameroomref_known_least_J6 rec_gameroomref_known_least men1 pips1 far2 k3 k4 best1 i2)).bind φ2 = some r) ?_ ?_
        · rintro a w ⟨hF, hS, hm⟩
          unfold gameroomref_known_least_J6 at hm
          refine seq_cut (fun a w => ∃ (k7 : List (List Int)) (k8 : List Int) (best3 : Int) (A13 : Option Addr) (c13 : Nat) (hd6 : List Hd) (A14 : Option Addr) (c14 : Nat), Fr 94 [pl 0 (.pointer (some ⟨g1, 0, none⟩)), pl 1 (.slice A3 men1.length c3), pl 2 (.slice A4 pips1.length c4), pl 7 (.int .i64 far2), pl 9 (.int .i64 best3), pl 10 (.int .i64 i2)] a ∧ Sep w0 B w (blk g1 140 #[.slice A13 k7.length c13, .slice A14 k8.length c14] :: rows 40 3 (.slice A13 k7.length c13) hd6 k7 :: own 3 (.slice A14 k8.length c14) (vI k8) :: fs) ∧ ((gameroomref_known_least_J7 i2) k7 k8 best3).bind φ2 = some r) ?_ ?_
          · rintro a w ⟨k7, k8, best3, A13, c13, hd6, A14, c14, hF, hS, hm⟩
            unfold gameroomref_known_least_J7 at hm
            refine reg1 [] [] [0, 1, 2, 7, 9, 10] [pl 0 (.pointer (some ⟨g1, 0, none⟩)), pl 1 (.slice A3 men1.length c3), pl 2 (.slice A4 pips1.length c4), pl 7 (.int .i64 far2), pl 9 (.int .i64 best3), pl 10 (.int .i64 (w64 (i2 + 1)))] hF hS Fol (by kernel_rfl) (by kernel_rfl) (by kernel_rfl) ?_ (fun a w hF hS => ?_)
            · exact obs_nil
            refine then_n ?_
            rw [← hφ2] at hm
            exact ⟨(k7, k8, best3, (w64 (i2 + 1))), ⟨A13, c13, hd6, A14, c14, hF.weak [0, 1, 2, 7, 9, 10] (by kernel_rfl), hS⟩, hm⟩
          · refine wpIn_block ?_
            refine seq_cut (fun a w => Fr 94 [pl 0 (.pointer (some ⟨g1, 0, none⟩)), pl 1 (.slice A3 men1.length c3), pl 2 (.slice A4 pips1.length c4), pl 7 (.int .i64 far2), pl 9 (.int .i64 best1), pl 10 (.int .i64 i2)] a ∧ Sep w0 B w (blk g1 140 #[.slice A9 k3.length c9, .slice A10 k4.length c10] :: rows 40 3 (.slice A9 k3.length c9) hd4 k3 :: own 3 (.slice A10 k4.length c10) (vI k4) :: fs) ∧ ((gameroomref_known_least_J8 rec_gameroomref_known_least men1 pips1 k3 k4 best1 i2)).bind φ2 = some r) ?_ ?_
            · rintro a w ⟨hF, hS, hm⟩
              unfold gameroomref_known_least_J8 at hm
              refine seqR ?_
              obtain ⟨r2, hr2, hm⟩ := call_b hm
              refine at_run 1 [] [] [0, 1, 2, 7, 9, 10, 56] [pl 0 (.pointer (some ⟨g1, 0, none⟩)), pl 1 (.slice A3 men1.length c3), pl 2 (.slice A4 pips1.length c4), pl 7 (.int .i64 far2), pl 9 (.int .i64 best1), pl 10 (.int .i64 i2), pl 56 (.slice A3 men1.length c3)] hF hS (by kernel_rfl) (by kernel_rfl) ?_ (fun a w hF hS => ?_)
              · exact obs_nil
              refine at_call (f := 93) (args := #[.slice A3 men1.length c3]) (d := 57) hF (by kernel_rfl) (by kernel_rfl) Try.func93 (by kernel_rfl) rfl (gameroomref_Ints_w hr2 hS (fun _ hS => (hr_men1 _ (hS.dropN 3))) _hc_men1 rfl) (fun v a w hR hF => ?_)
              clear hS
              obtain ⟨A15, c15, rfl, hS⟩ := hR
              have hS : Sep w0 B w (own 3 (.slice A15 r2.length c15) (vI r2) :: blk g1 140 #[.slice A9 k3.length c9, .slice A10 k4.length c10] :: rows 40 3 (.slice A9 k3.length c9) hd4 k3 :: own 3 (.slice A10 k4.length c10) (vI k4) :: fs) := hS
              refine at_run 1 [] [] [0, 1, 2, 7, 9, 10, 11] [pl 0 (.pointer (some ⟨g1, 0, none⟩)), pl 1 (.slice A3 men1.length c3), pl 2 (.slice A4 pips1.length c4), pl 7 (.int .i64 far2), pl 9 (.int .i64 best1), pl 10 (.int .i64 i2), pl 11 (.slice A15 r2.length c15)] hF hS (by kernel_rfl) (by kernel_rfl) ?_ (fun a w hF hS => ?_)
              · exact obs_nil
              refine at_end [0, 1, 2, 7, 9, 10, 11] [pl 0 (.pointer (some ⟨g1, 0, none⟩)), pl 1 (.slice A3 men1.length c3), pl 2 (.slice A4 pips1.length c4), pl 7 (.int .i64 far2), pl 9 (.int .i64 best1), pl 10 (.int .i64 i2), pl 11 (.slice A15 r2.length c15)] hF rfl (by kernel_rfl) (fun hF => ?_)
              refine then_n ?_
              refine seqR ?_
              obtain ⟨hp4, hm⟩ := asrt_b hm
              obtain ⟨hp5, hm⟩ := asrt_b hm
              refine at_run 6 [⟨true, [], vS (Instr.indexAt 40 (.slice A15 r2.length c15) (.int .i64 i2)), .pointer (some (sAddr A15 i2))⟩, ⟨false, [], vS (Instr.loadAt 3 (.pointer (some (sAddr A15 i2)))), .int .i64 (geti r2 i2)⟩, ⟨true, [], vS (Instr.indexAt 40 (.slice A15 r2.length c15) (.int .i64 i2)), .pointer (some (sAddr A15 i2))⟩] [none, none, some (.pointer (some (sAddr A15 i2))), some (.int .i64 (geti r2 i2)), none, some (.pointer (some (sAddr A15 i2)))] [0, 1, 2, 7, 9, 10, 11, 62, 63] [pl 0 (.pointer (some ⟨g1, 0, none⟩)), pl 1 (.slice A3 men1.length c3), pl 2 (.slice A4 pips1.length c4), pl 7 (.int .i64 far2), pl 9 (.int .i64 best1), pl 10 (.int .i64 i2), pl 11 (.slice A15 r2.length c15), pl 62 (.int .i64 (w64 ((geti r2 i2) - 1))), pl 63 (.pointer (some (sAddr A15 i2)))] hF hS (by kernel_rfl) (by kernel_rfl) ?_ (fun a w hF hS => ?_)
              · exact obs_cons (ob_ix1 (f := (Value.int .i64)) (m := r2) Und40 hi3 hs3 (hS.at_ 0 rfl).rd rfl (fun _ => hp4)) <| obs_cons (ob_get1 (n := r2.length) (m := r2) (Value.int .i64) (0 : Int) Agg3 (fun _ hS => ⟨_, (hS.at_ 0 rfl).rd⟩) (fun _ hS => rfl) (fun _ => hp4)) <| obs_cons (ob_ix1 (f := (Value.int .i64)) (m := r2) Und40 hi3 hs3 (hS.at_ 0 rfl).rd rfl (fun _ => hp5)) <| obs_nil
              obtain ⟨w, hrun, hS⟩ := run_set1 (P := Try.prog) (t := 3) (x := (w64 ((geti r2 i2) - 1))) (Value.int .i64) (hS.at_ 0 rfl) hi3 hs3 rfl rfl hp5
              refine at_skip hF (by kernel_rfl) hrun ?_
              have hS : Sep w0 B w (own 3 (.slice A15 r2.length c15) (vI (r2.set (Int.toNat i2) (w64 ((geti r2 i2) - 1)))) :: blk g1 140 #[.slice A9 k3.length c9, .slice A10 k4.length c10] :: rows 40 3 (.slice A9 k3.length c9) hd4 k3 :: own 3 (.slice A10 k4.length c10) (vI k4) :: fs) := hS
              refine at_end [0, 1, 2, 7, 9, 10, 11] [pl 0 (.pointer (some ⟨g1, 0, none⟩)), pl 1 (.slice A3 men1.length c3), pl 2 (.slice A4 pips1.length c4), pl 7 (.int .i64 far2), pl 9 (.int .i64 best1), pl 10 (.int .i64 i2), pl 11 (.slice A15 r2.length c15)] hF rfl (by kernel_rfl) (fun hF => ?_)
              refine then_n ?_
              refine seq_cut (fun a w => ∃ (next1 : List Int), Fr 94 [pl 0 (.pointer (some ⟨g1, 0, none⟩)), pl 1 (.slice A3 men1.length c3), pl 2 (.slice A4 pips1.length c4), pl 7 (.int .i64 far2), pl 9 (.int .i64 best1), pl 10 (.int .i64 i2), pl 11 (.slice A15 r2.length c15)] a ∧ Sep w0 B w (blk g1 140 #[.slice A9 k3.length c9, .slice A10 k4.length c10] :: rows 40 3 (.slice A9 k3.length c9) hd4 k3 :: own 3 (.slice A10 k4.length c10) (vI k4) :: own 3 (.slice A15 r2.length c15) (vI next1) :: fs) ∧ ((gameroomref_known_least_J9 rec_gameroomref_known_least pips1 k3 k4 best1 i2) next1).bind φ2 = some r) ?_ ?_
              · rintro a w ⟨next1, hF, hS, hm⟩
                unfold gameroomref_known_least_J9 at hm
                refine seqR ?_
                obtain ⟨hp10, hm⟩ := asrt_b hm
                obtain ⟨r3, hr3, hm⟩ := call_b hm
                refine at_run 4 [⟨true, [], vS (Instr.sliceAt 40 (.slice A4 pips1.length c4) (some (.int .i64 (1 : Int))) none none), .slice (cutAddr A4 c4 (1 : Int)) ((cut pips1 (1 : Int) (pips1.length : Int)).length) (c4 - Int.toNat (1 : Int))⟩] [none, none, none, some (.slice (cutAddr A4 c4 (1 : Int)) ((cut pips1 (1 : Int) (pips1.length : Int)).length) (c4 - Int.toNat (1 : Int)))] [0, 1, 2, 7, 9, 10, 80, 81, 83] [pl 0 (.pointer (some ⟨g1, 0, none⟩)), pl 1 (.slice A3 men1.length c3), pl 2 (.slice A4 pips1.length c4), pl 7 (.int .i64 far2), pl 9 (.int .i64 best1), pl 10 (.int .i64 i2), pl 80 (.pointer (some ⟨g1, 0, none⟩)), pl 81 (.slice A15 r2.length c15), pl 83 (.slice (cutAddr A4 c4 (1 : Int)) ((cut pips1 (1 : Int) (pips1.length : Int)).length) (c4 - Int.toNat (1 : Int)))] hF hS (by kernel_rfl) (by kernel_rfl) ?_ (fun a w hF hS => ?_)
                · exact obs_cons (ob_cutn (l := pips1) (k := .i64) (k' := .i64) Und40 hi3 hs3 rfl (.inl rfl) (.inr ⟨rfl, rfl⟩) (fun _ => hp10) _hc_pips1) <| obs_nil
                refine at_call (f := 138) (args := #[.pointer (some ⟨g1, 0, none⟩), .slice A15 r2.length c15, .slice (cutAddr A4 c4 (1 : Int)) ((cut pips1 (1 : Int) (pips1.length : Int)).length) (c4 - Int.toNat (1 : Int))]) (d := 84) hF (by kernel_rfl) (by kernel_rfl) Try.func138 (by kernel_rfl) rfl (ih_gameroomref_known_least hr3 hS (fun _ hS => (hS.at_ 0 rfl).rd) (((hS.dropN 3).at_ 0 rfl).cap1) (((hS.dropN 3).at_ 0 rfl).len1) (fun _ hS => (Rd.cutF (hr_pips1 _ (hS.dropN 1)) hp10 _hc_pips1)) (cap_cut hp10 _hc_pips1) rfl) (fun v a w hR hF => ?_)
                clear hS
                obtain ⟨A16, c16, hd7, A17, c17, rfl, hS⟩ := hR
                have hS : Sep w0 B w (blk g1 140 #[.slice A16 r3.2.1.length c16, .slice A17 r3.2.2.length c17] :: rows 40 3 (.slice A16 r3.2.1.length c16) hd7 r3.2.1 :: own 3 (.slice A17 r3.2.2.length c17) (vI r3.2.2) :: own 3 (.slice A15 r2.length c15) (vI next1) :: fs) := hS
                refine at_run 1 [] [] [0, 1, 2, 7, 9, 10, 12] [pl 0 (.pointer (some ⟨g1, 0, none⟩)), pl 1 (.slice A3 men1.length c3), pl 2 (.slice A4 pips1.length c4), pl 7 (.int .i64 far2), pl 9 (.int .i64 best1), pl 10 (.int .i64 i2), pl 12 (.int .i64 r3.1)] hF hS (by kernel_rfl) (by kernel_rfl) ?_ (fun a w hF hS => ?_)
                · exact obs_nil
                refine at_end [0, 1, 2, 7, 9, 10, 12] [pl 0 (.pointer (some ⟨g1, 0, none⟩)), pl 1 (.slice A3 men1.length c3), pl 2 (.slice A4 pips1.length c4), pl 7 (.int .i64 far2), pl 9 (.int .i64 best1), pl 10 (.int .i64 i2), pl 12 (.int .i64 r3.1)] hF rfl (by kernel_rfl) (fun hF => ?_)
                refine then_n ?_
                refine reg [] [] [0, 1, 2, 7, 9, 10, 12, 91] [pl 0 (.pointer (some ⟨g1, 0, none⟩)), pl 1 (.slice A3 men1.length c3), pl 2 (.slice A4 pips1.length c4), pl 7 (.int .i64 far2), pl 9 (.int .i64 best1), pl 10 (.int .i64 i2), pl 12 (.int .i64 r3.1), pl 91 (.bool ((decide (best1 < 0)) || (decide (r3.1 < best1))))] hF hS Fol (by kernel_rfl) (by kernel_rfl) (by kernel_rfl) ?_ (fun a w hF hS => ?_)
                · exact obs_nil
                refine cond_ev (t := 91) (b := (decide (best1 < 0)) || (decide (r3.1 < best1))) hF (by kernel_rfl) (fun hb => ?_) (fun hb => ?_)
                · replace hm := if_t hm hb
                  refine reg1 [] [] [0, 1, 2, 7, 9, 10] [pl 0 (.pointer (some ⟨g1, 0, none⟩)), pl 1 (.slice A3 men1.length c3), pl 2 (.slice A4 pips1.length c4), pl 7 (.int .i64 far2), pl 9 (.int .i64 r3.1), pl 10 (.int .i64 i2)] hF hS Fol (by kernel_rfl) (by kernel_rfl) (by kernel_rfl) ?_ (fun a w hF hS => ?_)
                  · exact obs_nil
                  refine block_n ?_
                  refine then_n ?_
                  have hS := hS.pickN 4 [0, 1, 2] (by decide)
                  exact ⟨r3.2.1, r3.2.2, r3.1, A16, c16, hd7, A17, c17, hF.weak [0, 1, 2, 7, 9, 10] (by kernel_rfl), hS, hm⟩
                · replace hm := if_f hm hb
                  refine wpIn_skip ?_
                  refine block_n ?_
                  refine then_n ?_
                  have hS := hS.pickN 4 [0, 1, 2] (by decide)
                  exact ⟨r3.2.1, r3.2.2, best1, A16, c16, hd7, A17, c17, hF.weak [0, 1, 2, 7, 9, 10] (by kernel_rfl), hS, hm⟩
              · obtain ⟨hp6, hm⟩ := asrt_b hm
                refine reg [⟨true, [], vS (Instr.indexAt 40 (.slice A4 pips1.length c4) (.int .i64 0)), .pointer (some (sAddr A4 0))⟩, ⟨false, [], vS (Instr.loadAt 3 (.pointer (some (sAddr A4 0)))), .int .i64 (geti pips1 0)⟩] [none, none, some (.pointer (some (sAddr A4 0))), some (.int .i64 (geti pips1 0)), none, none] [0, 1, 2, 7, 9, 10, 11, 69] [pl 0 (.pointer (some ⟨g1, 0, none⟩)), pl 1 (.slice A3 men1.length c3), pl 2 (.slice A4 pips1.length c4), pl 7 (.int .i64 far2), pl 9 (.int .i64 best1), pl 10 (.int .i64 i2), pl 11 (.slice A15 r2.length c15), pl 69 (.bool (decide ((0 : Int) ≤ (w64 (i2 - (geti pips1 0))))))] hF hS Fol (by kernel_rfl) (by kernel_rfl) (by kernel_rfl) ?_ (fun a w hF hS => ?_)
                · exact obs_cons (ob_ix1 (f := (Value.int .i64)) (m := pips1) Und40 hi3 hs3 (hr_pips1 _ (hS.dropN 4)) rfl (fun _ => hp6)) <| obs_cons (ob_get1 (n := pips1.length) (m := pips1) (Value.int .i64) (0 : Int) Agg3 (fun _ hS => ⟨_, (hr_pips1 _ (hS.dropN 4))⟩) (fun _ hS => rfl) (fun _ => hp6)) <| obs_nil
                refine cond_ev (t := 69) (b := decide ((0 : Int) ≤ (w64 (i2 - (geti pips1 0))))) hF (by kernel_rfl) (fun hb => ?_) (fun hb => ?_)
                · replace hm := if_t hm hb
                  refine oneR ?_
                  obtain ⟨hp7, hm⟩ := asrt_b hm
                  obtain ⟨hp8, hm⟩ := asrt_b hm
                  obtain ⟨hp9, hm⟩ := asrt_b hm
                  refine at_run 10 [⟨true, [], vS (Instr.indexAt 40 (.slice A4 pips1.length c4) (.int .i64 0)), .pointer (some (sAddr A4 0))⟩, ⟨false, [], vS (Instr.loadAt 3 (.pointer (some (sAddr A4 0)))), .int .i64 (geti pips1 0)⟩, ⟨true, [], vS (Instr.indexAt 40 (.slice A15 r2.length c15) (.int .i64 (w64 (i2 - (geti pips1 0))))), .pointer (some (sAddr A15 (w64 (i2 - (geti pips1 0)))))⟩, ⟨false, [], vS (Instr.loadAt 3 (.pointer (some (sAddr A15 (w64 (i2 - (geti pips1 0))))))), .int .i64 (geti (r2.set (Int.toNat i2) (w64 ((geti r2 i2) - 1))) (w64 (i2 - (geti pips1 0))))⟩, ⟨true, [], vS (Instr.indexAt 40 (.slice A15 r2.length c15) (.int .i64 (w64 (i2 - (geti pips1 0))))), .pointer (some (sAddr A15 (w64 (i2 - (geti pips1 0)))))⟩] [none, none, none, some (.pointer (some (sAddr A4 0))), some (.int .i64 (geti pips1 0)), none, some (.pointer (some (sAddr A15 (w64 (i2 - (geti pips1 0)))))), some (.int .i64 (geti (r2.set (Int.toNat i2) (w64 ((geti r2 i2) - 1))) (w64 (i2 - (geti pips1 0))))), none, some (.pointer (some (sAddr A15 (w64 (i2 - (geti pips1 0))))))] [0, 1, 2, 7, 9, 10, 11, 78, 79] [pl 0 (.pointer (some ⟨g1, 0, none⟩)), pl 1 (.slice A3 men1.length c3), pl 2 (.slice A4 pips1.length c4), pl 7 (.int .i64 far2), pl 9 (.int .i64 best1), pl 10 (.int .i64 i2), pl 11 (.slice A15 r2.length c15), pl 78 (.int .i64 (w64 ((geti (r2.set (Int.toNat i2) (w64 ((geti r2 i2) - 1))) (w64 (i2 - (geti pips1 0)))) + 1))), pl 79 (.pointer (some (sAddr A15 (w64 (i2 - (geti pips1 0))))))] hF hS (by kernel_rfl) (by kernel_rfl) ?_ (fun a w hF hS => ?_)
                  · exact obs_cons (ob_ix1 (f := (Value.int .i64)) (m := pips1) Und40 hi3 hs3 (hr_pips1 _ (hS.dropN 4)) rfl (fun _ => hp7)) <| obs_cons (ob_get1 (n := pips1.length) (m := pips1) (Value.int .i64) (0 : Int) Agg3 (fun _ hS => ⟨_, (hr_pips1 _ (hS.dropN 4))⟩) (fun _ hS => rfl) (fun _ => hp7)) <| obs_cons (ob_ix1 (f := (Value.int .i64)) (m := (r2.set (Int.toNat i2) (w64 ((geti r2 i2) - 1)))) Und40 hi3 hs3 (hS.at_ 0 rfl).rd ((hS.at_ 0 rfl).len1) (fun _ => hp8)) <| obs_cons (ob_get1 (n := r2.length) (m := (r2.set (Int.toNat i2) (w64 ((geti r2 i2) - 1)))) (Value.int .i64) (0 : Int) Agg3 (fun _ hS => ⟨_, (hS.at_ 0 rfl).rd⟩) (fun _ hS => ((hS.at_ 0 rfl).len1)) (fun _ => hp8)) <| obs_cons (ob_ix1 (f := (Value.int .i64)) (m := (r2.set (Int.toNat i2) (w64 ((geti r2 i2) - 1)))) Und40 hi3 hs3 (hS.at_ 0 rfl).rd ((hS.at_ 0 rfl).len1) (fun _ => hp9)) <| obs_nil
                  obtain ⟨w, hrun, hS⟩ := run_set1 (P := Try.prog) (t := 3) (x := (w64 ((geti (r2.set (Int.toNat i2) (w64 ((geti r2 i2) - 1))) (w64 (i2 - (geti pips1 0)))) + 1))) (Value.int .i64) (hS.at_ 0 rfl) hi3 hs3 rfl rfl hp9
                  refine at_skip hF (by kernel_rfl) hrun ?_
                  have hS : Sep w0 B w (own 3 (.slice A15 r2.length c15) (vI ((r2.set (Int.toNat i2) (w64 ((geti r2 i2) - 1))).set (Int.toNat (w64 (i2 - (geti pips1 0)))) (w64 ((geti (r2.set (Int.toNat i2) (w64 ((geti r2 i2) - 1))) (w64 (i2 - (geti pips1 0)))) + 1)))) :: blk g1 140 #[.slice A9 k3.length c9, .slice A10 k4.length c10] :: rows 40 3 (.slice A9 k3.length c9) hd4 k3 :: own 3 (.slice A10 k4.length c10) (vI k4) :: fs) := hS
                  refine at_end [0, 1, 2, 7, 9, 10, 11] [pl 0 (.pointer (some ⟨g1, 0, none⟩)), pl 1 (.slice A3 men1.length c3), pl 2 (.slice A4 pips1.length c4), pl 7 (.int .i64 far2), pl 9 (.int .i64 best1), pl 10 (.int .i64 i2), pl 11 (.slice A15 r2.length c15)] hF rfl (by kernel_rfl) (fun hF => ?_)
                  refine then_n ?_
                  have hS := hS.pickN 4 [1, 2, 3, 0] (by decide)
                  exact ⟨((r2.set (Int.toNat i2) (w64 ((geti r2 i2) - 1))).set (Int.toNat (w64 (i2 - (geti pips1 0)))) (w64 ((geti (r2.set (Int.toNat i2) (w64 ((geti r2 i2) - 1))) (w64 (i2 - (geti pips1 0)))) + 1))), hF.weak [0, 1, 2, 7, 9, 10, 11] (by kernel_rfl), hS, hm⟩
                · replace hm := if_f hm hb
                  refine wpIn_skip ?_
                  refine then_n ?_
                  have hS := hS.pickN 4 [1, 2, 3, 0] (by decide)
                  exact ⟨(r2.set (Int.toNat i2) (w64 ((geti r2 i2) - 1))), hF.weak [0, 1, 2, 7, 9, 10, 11] (by kernel_rfl), hS, hm⟩
            · obtain ⟨hp2, hm⟩ := asrt_b hm
              obtain ⟨hp3, hm⟩ := asrt_b hm
              refine reg [⟨true, [], vS (Instr.indexAt 40 (.slice A3 men1.length c3) (.int .i64 i2)), .pointer (some (sAddr A3 i2))⟩, ⟨false, [], vS (Instr.loadAt 3 (.pointer (some (sAddr A3 i2)))), .int .i64 (geti men1 i2)⟩, ⟨true, [(((geti men1 i2) == 0), false)], vS (Instr.indexAt 40 (.slice A4 pips1.length c4) (.int .i64 0)), .pointer (some (sAddr A4 0))⟩, ⟨false, [(((geti men1 i2) == 0), false)], vS (Instr.loadAt 3 (.pointer (some (sAddr A4 0)))), .int .i64 (geti pips1 0)⟩] [none, none, some (.pointer (some (sAddr A3 i2))), some (.int .i64 (geti men1 i2)), none, none, none, none, none, some (.pointer (some (sAddr A4 0))), some (.int .i64 (geti pips1 0)), none, none, none, none, none, none, none] [0, 1, 2, 7, 9, 10, 55] [pl 0 (.pointer (some ⟨g1, 0, none⟩)), pl 1 (.slice A3 men1.length c3), pl 2 (.slice A4 pips1.length c4), pl 7 (.int .i64 far2), pl 9 (.int .i64 best1), pl 10 (.int .i64 i2), pl 55 (.bool (((geti men1 i2) == 0) || ((decide ((w64 (i2 + 1)) < (geti pips1 0))) && (i2 != far2))))] hF hS Fol (by kernel_rfl) (by kernel_rfl) (by kernel_rfl) ?_ (fun a w hF hS => ?_)
              · exact obs_cons (ob_ix1 (f := (Value.int .i64)) (m := men1) Und40 hi3 hs3 (hr_men1 _ (hS.dropN 3)) rfl (fun _ => hp2)) <| obs_cons (ob_get1 (n := men1.length) (m := men1) (Value.int .i64) (0 : Int) Agg3 (fun _ hS => ⟨_, (hr_men1 _ (hS.dropN 3))⟩) (fun _ hS => rfl) (fun _ => hp2)) <| obs_cons (ob_ix1 (f := (Value.int .i64)) (m := pips1) Und40 hi3 hs3 (hr_pips1 _ (hS.dropN 3)) rfl (fun hy => hp3 (hy (((geti men1 i2) == 0), false) (by simp)))) <| obs_cons (ob_get1 (n := pips1.length) (m := pips1) (Value.int .i64) (0 : Int) Agg3 (fun _ hS => ⟨_, (hr_pips1 _ (hS.dropN 3))⟩) (fun _ hS => rfl) (fun hy => hp3 (hy (((geti men1 i2) == 0), false) (by simp)))) <| obs_nil
              refine cond_ev (t := 55) (b := ((geti men1 i2) == 0) || ((decide ((w64 (i2 + 1)) < (geti pips1 0))) && (i2 != far2))) hF (by kernel_rfl) (fun hb => ?_) (fun hb => ?_)
              · replace hm := if_t hm hb
                refine wpIn_exit ?_
                refine then_e (block_e (then_n ?_))
                exact ⟨k3, k4, best1, A9, c9, hd4, A10, c10, hF.weak [0, 1, 2, 7, 9, 10] (by kernel_rfl), hS, hm⟩
              · replace hm := if_f hm hb
                refine wpIn_skip ?_
                refine then_n ?_
                exact ⟨hF.weak [0, 1, 2, 7, 9, 10] (by kernel_rfl), hS, hm⟩
        · refine reg [] [] [0, 1, 2, 7, 9, 10, 35] [pl 0 (.pointer (some ⟨g1, 0, none⟩)), pl 1 (.slice A3 men1.length c3), pl 2 (.slice A4 pips1.length c4), pl 7 (.int .i64 far2), pl 9 (.int .i64 best1), pl 10 (.int .i64 i2), pl 35 (.bool (decide (i2 ≤ far2)))] hF hS Fol (by kernel_rfl) (by kernel_rfl) (by kernel_rfl) ?_ (fun a w hF hS => ?_)
          · exact obs_nil
          refine cond_ev (t := 35) (b := decide (i2 ≤ far2)) hF (by kernel_rfl) (fun hb => ?_) (fun hb => ?_)
          · replace hm := if_t hm hb
            refine wpIn_skip ?_
            refine then_n ?_
            exact ⟨hF.weak [0, 1, 2, 7, 9, 10] (by kernel_rfl), hS, hm⟩
          · replace hm := if_f hm hb
            refine wpIn_exit ?_
            refine then_e (then_e (block_e (then_n ?_)))
            rw [← hφ2] at hm
            replace hm := done_b hm
            unfold gameroomref_known_least_K2 at hm
            try dsimp only at hm
            have hm : (gameroomref_known_least_J5 best1 k3 k4).bind some = some r := hm
            exact ⟨best1, k3, k4, A9, c9, hd4, A10, c10, hF.weak [9] (by kernel_rfl), hS, hm⟩
    · refine reg [] [] [0, 1, 2, 7, 29] [pl 0 (.pointer (some ⟨g1, 0, none⟩)), pl 1 (.slice A3 men1.length c3), pl 2 (.slice A4 pips1.length c4), pl 7 (.int .i64 far2), pl 29 (.bool ((decide (far2 < 0)) || ((pips1.length : Int) == 0)))] hF hS Fol (by kernel_rfl) (by kernel_rfl) (by kernel_rfl) ?_ (fun a w hF hS => ?_)
      · exact obs_nil
      refine cond_ev (t := 29) (b := (decide (far2 < 0)) || ((pips1.length : Int) == 0)) hF (by kernel_rfl) (fun hb => ?_) (fun hb => ?_)
      · replace hm := if_t hm hb
        refine seqR ?_
        obtain ⟨r1, hr1, hm⟩ := call_b hm
        refine at_run 2 [] [] [30, 31] [pl 30 (.pointer (some ⟨g1, 0, none⟩)), pl 31 (.slice A3 men1.length c3)] hF hS (by kernel_rfl) (by kernel_rfl) ?_ (fun a w hF hS => ?_)
        · exact obs_nil
        refine at_call (f := 97) (args := #[.pointer (some ⟨g1, 0, none⟩), .slice A3 men1.length c3]) (d := 32) hF (by kernel_rfl) (by kernel_rfl) Try.func97 (by kernel_rfl) rfl (ih_gameroomref_known_of hr1 hS (fun _ hS => (hr_men1 _ (hS.dropN 0))) _hc_men1 rfl) (fun v a w hR hF => ?_)
        clear hS
        obtain ⟨A7, c7, hd3, A8, c8, rfl, hS⟩ := hR
        have hS : Sep w0 B w (blk g1 140 #[.slice A7 r1.2.1.length c7, .slice A8 r1.2.2.length c8] :: rows 40 3 (.slice A7 r1.2.1.length c7) hd3 r1.2.1 :: own 3 (.slice A8 r1.2.2.length c8) (vI r1.2.2) :: fs) := hS
        refine at_run 1 [] [] [6] [pl 6 (.int .i64 r1.1)] hF hS (by kernel_rfl) (by kernel_rfl) ?_ (fun a w hF hS => ?_)
        · exact obs_nil
        refine at_end [6] [pl 6 (.int .i64 r1.1)] hF rfl (by kernel_rfl) (fun hF => ?_)
        refine then_n ?_
        refine wpIn_ret ?_
        refine then_r ?_
        have hm : some (r1.1, r1.2.1, r1.2.2) = some r := hm
        obtain rfl := Option.some.inj hm
        exact retV (rs := [.tmp 6]) (vs := [.int .i64 r1.1]) hF rfl (rv_t (by kernel_rfl) <| rv_nil) rfl ⟨_, rfl, A7, c7, hd3, A8, c8, rfl, hS⟩
      · replace hm := if_f hm hb
        refine wpIn_skip ?_
        refine then_n ?_
        exact ⟨hF.weak [0, 1, 2, 7] (by kernel_rfl), hS, hm⟩
  · refine reg [] [] [0, 1, 2, 7, 8] [pl 0 (.pointer (some ⟨g1, 0, none⟩)), pl 1 (.slice A3 men1.length c3), pl 2 (.slice A4 pips1.length c4), pl 7 (.int .i64 (-1)), pl 8 (.int .i64 0)] hF hS Fol (by kernel_rfl) (by kernel_rfl) (by kernel_rfl) ?_ (fun a w hF hS => ?_)
    · exact obs_nil
    refine wpIn_block ?_
    refine wp_loop_model (S := (Int × Int)) (R := Int) (gameroomref_known_least_L1 men1) (fun x => ((gameroomref_known_least_K1 rec_gameroomref_known_of rec_gameroomref_known_least k_men1 k_mean1 men1 pips1) x).bind some) r (fun (x : (Int × Int)) a w => Fr 94 [pl 0 (.pointer (some ⟨g1, 0, none⟩)), pl 1 (.slice A3 men1.length c3), pl 2 (.slice A4 pips1.length c4), pl 7 (.int .i64 x.1), pl 8 (.int .i64 x.2)] a ∧ Sep w0 B w (blk g1 140 #[.slice A1 k_men1.length c1, .slice A2 k_mean1.length c2] :: rows 40 3 (.slice A1 k_men1.length c1) hd1 k_men1 :: own 3 (.slice A2 k_mean1.length c2) (vI k_mean1) :: fs)) (assoc_b hm) ⟨hF.weak [0, 1, 2, 7, 8] (by kernel_rfl), hS⟩ ?_
    clear hF hS hm
    rintro nn1 ⟨far1, i1⟩ a w ⟨hF, hS⟩ hm
    generalize hφ1 : stK (gameroomref_known_least_L1 men1) nn1 (fun x => ((gameroomref_known_least_K1 rec_gameroomref_known_of rec_gameroomref_known_least k_men1 k_mean1 men1 pips1) x).bind some) = φ1 at hm
    unfold gameroomref_known_least_L1 at hm
    dsimp only at hF hS hm
    refine seq_cut (fun a w => Fr 94 [pl 0 (.pointer (some ⟨g1, 0, none⟩)), pl 1 (.slice A3 men1.length c3), pl 2 (.slice A4 pips1.length c4), pl 7 (.int .i64 far1), pl 8 (.int .i64 i1)] a ∧ Sep w0 B w (blk g1 140 #[.slice A1 k_men1.length c1, .slice A2 k_mean1.length c2] :: rows 40 3 (.slice A1 k_men1.length c1) hd1 k_men1 :: own 3 (.slice A2 k_mean1.length c2) (vI k_mean1) :: fs) ∧ ((gameroomref_known_least_J2 men1 far1 i1)).bind φ1 = some r) ?_ ?_
    · rintro a w ⟨hF, hS, hm⟩
      unfold gameroomref_known_least_J2 at hm
      refine seq_cut (fun a w => ∃ (far3 : Int), Fr 94 [pl 0 (.pointer (some ⟨g1, 0, none⟩)), pl 1 (.slice A3 men1.length c3), pl 2 (.slice A4 pips1.length c4), pl 7 (.int .i64 far3), pl 8 (.int .i64 i1)] a ∧ Sep w0 B w (blk g1 140 #[.slice A1 k_men1.length c1, .slice A2 k_mean1.length c2] :: rows 40 3 (.slice A1 k_men1.length c1) hd1 k_men1 :: own 3 (.slice A2 k_mean1.length c2) (vI k_mean1) :: fs) ∧ ((gameroomref_known_least_J3 i1) far3).bind φ1 = some r) ?_ ?_
      · rintro a w ⟨far3, hF, hS, hm⟩
        unfold gameroomref_known_least_J3 at hm
        refine reg1 [] [] [0, 1, 2, 7, 8] [pl 0 (.pointer (some ⟨g1, 0, none⟩)), pl 1 (.slice A3 men1.length c3), pl 2 (.slice A4 pips1.length c4), pl 7 (.int .i64 far3), pl 8 (.int .i64 (w64 (i1 + 1)))] hF hS Fol (by kernel_rfl) (by kernel_rfl) (by kernel_rfl) ?_ (fun a w hF hS => ?_)
        · exact obs_nil
        refine then_n ?_
        rw [← hφ1] at hm
        exact ⟨(far3, (w64 (i1 + 1))), ⟨hF.weak [0, 1, 2, 7, 8] (by kernel_rfl), hS⟩, hm⟩
      · refine wpIn_block ?_
        obtain ⟨hp1, hm⟩ := asrt_b hm
        refine reg [⟨true, [], vS (Instr.indexAt 40 (.slice A3 men1.length c3) (.int .i64 i1)), .pointer (some (sAddr A3 i1))⟩, ⟨false, [], vS (Instr.loadAt 3 (.pointer (some (sAddr A3 i1)))), .int .i64 (geti men1 i1)⟩] [none, none, some (.pointer (some (sAddr A3 i1))), some (.int .i64 (geti men1 i1)), none] [0, 1, 2, 7, 8, 21] [pl 0 (.pointer (some ⟨g1, 0, none⟩)), pl 1 (.slice A3 men1.length c3), pl 2 (.slice A4 pips1.length c4), pl 7 (.int .i64 far1), pl 8 (.int .i64 i1), pl 21 (.bool (decide ((0 : Int) < (geti men1 i1))))] hF hS Fol (by kernel_rfl) (by kernel_rfl) (by kernel_rfl) ?_ (fun a w hF hS => ?_)
        · exact obs_cons (ob_ix1 (f := (Value.int .i64)) (m := men1) Und40 hi3 hs3 (hr_men1 _ (hS.dropN 3)) rfl (fun _ => hp1)) <| obs_cons (ob_get1 (n := men1.length) (m := men1) (Value.int .i64) (0 : Int) Agg3 (fun _ hS => ⟨_, (hr_men1 _ (hS.dropN 3))⟩) (fun _ hS => rfl) (fun _ => hp1)) <| obs_nil
        refine cond_ev (t := 21) (b := decide ((0 : Int) < (geti men1 i1))) hF (by kernel_rfl) (fun hb => ?_) (fun hb => ?_)
        · replace hm := if_t hm hb
          refine reg1 [] [] [0, 1, 2, 7, 8] [pl 0 (.pointer (some ⟨g1, 0, none⟩)), pl 1 (.slice A3 men1.length c3), pl 2 (.slice A4 pips1.length c4), pl 7 (.int .i64 i1), pl 8 (.int .i64 i1)] hF hS Fol (by kernel_rfl) (by kernel_rfl) (by kernel_rfl) ?_ (fun a w hF hS => ?_)
          · exact obs_nil
          refine block_n ?_
          refine then_n ?_
          exact ⟨i1, hF.weak [0, 1, 2, 7, 8] (by kernel_rfl), hS, hm⟩
        · replace hm := if_f hm hb
          refine wpIn_skip ?_
          refine block_n ?_
          refine then_n ?_
          exact ⟨far1, hF.weak [0, 1, 2, 7, 8] (by kernel_rfl), hS, hm⟩
    · refine reg [] [] [0, 1, 2, 7, 8, 14] [pl 0 (.pointer (some ⟨g1, 0, none⟩)), pl 1 (.slice A3 men1.length c3), pl 2 (.slice A4 pips1.length c4), pl 7 (.int .i64 far1), pl 8 (.int .i64 i1), pl 14 (.bool (decide (i1 < 6)))] hF hS Fol (by kernel_rfl) (by kernel_rfl) (by kernel_rfl) ?_ (fun a w hF hS => ?_)
      · exact obs_nil
      refine cond_ev (t := 14) (b := decide (i1 < 6)) hF (by kernel_rfl) (fun hb => ?_) (fun hb => ?_)
      · replace hm := if_t hm hb
        refine wpIn_skip ?_
        refine then_n ?_
        exact ⟨hF.weak [0, 1, 2, 7, 8] (by kernel_rfl), hS, hm⟩
      · replace hm := if_f hm hb
        refine wpIn_exit ?_
        refine then_e (then_e (block_e (then_n ?_)))
        rw [← hφ1] at hm
        replace hm := done_b hm
        unfold gameroomref_known_least_K1 at hm
        try dsimp only at hm
        have hm : ((gameroomref_known_least_J1 rec_gameroomref_known_of rec_gameroomref_known_least k_men1 k_mean1 men1 pips1) far1).bind some = some r := hm
        exact ⟨far1, hF.weak [0, 1, 2, 7] (by kernel_rfl), hS, hm⟩

theorem gameroomref_known_least_w {rec_gameroomref_known_of : List (List Int) → List Int → List Int → Option (Int × List (List Int) × List Int)} (ih_gameroomref_known_of : ∀ {g1 : Nat} {A1 : Option Addr} {c1 : Nat} {n1 : Nat} {hd1 : List Hd} {k_men1 : List (List Int)} {A2 : Option Addr} {c2 : Nat} {n2 : Nat} {k_mean1 : List Int} {A3 : Option Addr} {c3 : Nat} {n3 : Nat} {men1 : List Int} {r : (Int × List (List Int) × List Int)} {w0 w : World} {B : Nat} {fs : List HP} (_ : rec_gameroomref_known_of k_men1 k_mean1 men1 = some r) (_ : Sep w0 B w (blk g1 140 #[.slice A1 n1 c1, .slice A2 n2 c2] :: rows 40 3 (.slice A1 n1 c1) hd1 k_men1 :: own 3 (.slice A2 n2 c2) (vI k_mean1) :: fs)) (hr_men1 : RdF w0 B fs A3 (vI men1)) (_hc_men1 : men1.length ≤ c3) (_hn_men1 : n3 = men1.length), Calls Try.prog 97 #[.pointer (some ⟨g1, 0, none⟩), .slice A3 n3 c3] w fun e w' => ∃ v, e = .returned v ∧ ∃ (A4 : Option Addr) (c4 : Nat) (hd2 : List Hd) (A5 : Option Addr) (c5 : Nat), v = .int .i64 r.1 ∧ Sep w0 B w' (blk g1 140 #[.slice A4 r.2.1.length c4, .slice A5 r.2.2.length c5] :: rows 40 3 (.slice A4 r.2.1.length c4) hd2 r.2.1 :: own 3 (.slice A5 r.2.2.length c5) (vI r.2.2) :: fs)) {g1 : Nat} {A1 : Option Addr} {c1 : Nat} {n1 : Nat} {hd1 : List Hd} {k_men1 : List (List Int)} {A2 : Option Addr} {c2 : Nat} {n2 : Nat} {k_mean1 : List Int} {A3 : Option Addr} {c3 : Nat} {n3 : Nat} {men1 : List Int} {A4 : Option Addr} {c4 : Nat} {n4 : Nat} {pips1 : List Int} {r : (Int × List (List Int) × List Int)} {w0 w : World} {B : Nat} {fs : List HP} (hm : gameroomref_known_least_m rec_gameroomref_known_of k_men1 k_mean1 men1 pips1 = some r) (hS : Sep w0 B w (blk g1 140 #[.slice A1 n1 c1, .slice A2 n2 c2] :: rows 40 3 (.slice A1 n1 c1) hd1 k_men1 :: own 3 (.slice A2 n2 c2) (vI k_mean1) :: fs)) (hr_men1 : RdF w0 B fs A3 (vI men1)) (_hc_men1 : men1.length ≤ c3) (_hn_men1 : n3 = men1.length) (hr_pips1 : RdF w0 B fs A4 (vI pips1)) (_hc_pips1 : pips1.length ≤ c4) (_hn_pips1 : n4 = pips1.length) :
    Calls Try.prog 138 #[.pointer (some ⟨g1, 0, none⟩), .slice A3 n3 c3, .slice A4 n4 c4] w fun e w' => ∃ v, e = .returned v ∧ ∃ (A5 : Option Addr) (c5 : Nat) (hd2 : List Hd) (A6 : Option Addr) (c6 : Nat), v = .int .i64 r.1 ∧ Sep w0 B w' (blk g1 140 #[.slice A5 r.2.1.length c5, .slice A6 r.2.2.length c6] :: rows 40 3 (.slice A5 r.2.1.length c5) hd2 r.2.1 :: own 3 (.slice A6 r.2.2.length c6) (vI r.2.2) :: fs) := by
  have key : ∀ (n : Nat) {g1 : Nat} {A1 : Option Addr} {c1 : Nat} {n1 : Nat} {hd1 : List Hd} {k_men1 : List (List Int)} {A2 : Option Addr} {c2 : Nat} {n2 : Nat} {k_mean1 : List Int} {A3 : Option Addr} {c3 : Nat} {n3 : Nat} {men1 : List Int} {A4 : Option Addr} {c4 : Nat} {n4 : Nat} {pips1 : List Int} {r : (Int × List (List Int) × List Int)} {w0 w : World} {B : Nat} {fs : List HP} (_ : gameroomref_known_least_mF rec_gameroomref_known_of n k_men1 k_mean1 men1 pips1 = some r) (_ : Sep w0 B w (blk g1 140 #[.slice A1 n1 c1, .slice A2 n2 c2] :: rows 40 3 (.slice A1 n1 c1) hd1 k_men1 :: own 3 (.slice A2 n2 c2) (vI k_mean1) :: fs)) (hr_men1 : RdF w0 B fs A3 (vI men1)) (_hc_men1 : men1.length ≤ c3) (_hn_men1 : n3 = men1.length) (hr_pips1 : RdF w0 B fs A4 (vI pips1)) (_hc_pips1 : pips1.length ≤ c4) (_hn_pips1 : n4 = pips1.length), Calls Try.prog 138 #[.pointer (some ⟨g1, 0, none⟩), .slice A3 n3 c3, .slice A4 n4 c4] w fun e w' => ∃ v, e = .returned v ∧ ∃ (A5 : Option Addr) (c5 : Nat) (hd2 : List Hd) (A6 : Option Addr) (c6 : Nat), v = .int .i64 r.1 ∧ Sep w0 B w' (blk g1 140 #[.slice A5 r.2.1.length c5, .slice A6 r.2.2.length c6] :: rows 40 3 (.slice A5 r.2.1.length c5) hd2 r.2.1 :: own 3 (.slice A6 r.2.2.length c6) (vI r.2.2) :: fs) := by
    intro n
    induction n with
    | zero => intros; rename_i hm0 _ _ _ _ _ _ _; cases hm0
    | succ n ih => intros; rename_i hm0 hS0 h0 h1 h2 h3 h4 h5; exact gameroomref_known_least_wB ih_gameroomref_known_of (rec_gameroomref_known_least := gameroomref_known_least_mF rec_gameroomref_known_of n) (fun hm hS h0 h1 h2 h3 h4 h5 => ih hm hS h0 h1 h2 h3 h4 h5) hm0 hS0 h0 h1 h2 h3 h4 h5
  obtain ⟨n, hn⟩ := recM_some hm
  exact key n hn hS hr_men1 _hc_men1 _hn_men1 hr_pips1 _hc_pips1 _hn_pips1

set_option maxRecDepth 100000 in
theorem gameroomref_known_least_J9_le_gameroomref_known_least {rec_gameroomref_known_least1 rec_gameroomref_known_least2 : List (List Int) → List Int → List Int → List Int → Option (Int × List (List Int) × List Int)} (h_rec_gameroomref_known_least : ∀ a0 a1 a2 a3, Le (rec_gameroomref_known_least1 a0 a1 a2 a3) (rec_gameroomref_known_least2 a0 a1 a2 a3)) (pips1 : List Int) (k3 : List (List Int)) (k4 : List Int) (best1 : Int) (i2 : Int) (next1 : List Int) : Le (gameroomref_known_least_J9 rec_gameroomref_known_least1 pips1 k3 k4 best1 i2 next1) (gameroomref_known_least_J9 rec_gameroomref_known_least2 pips1 k3 k4 best1 i2 next1) := by
  unfold gameroomref_known_least_J9
  repeat' (first | with_reducible exact Le.refl _ | with_reducible exact h_rec_gameroomref_known_least _ _ _ _ | with_reducible refine Le.asrt ?_ | with_reducible refine Le.ite ?_ ?_ | refine Le.bind ?_ (fun _ => ?_) | refine Le.loop2 (fun _ => ?_) | refine Le.elim2 (fun _ => ?_) (fun _ => ?_))

set_option maxRecDepth 100000 in
theorem gameroomref_known_least_J8_le_gameroomref_known_least {rec_gameroomref_known_least1 rec_gameroomref_known_least2 : List (List Int) → List Int → List Int → List Int → Option (Int × List (List Int) × List Int)} (h_rec_gameroomref_known_least : ∀ a0 a1 a2 a3, Le (rec_gameroomref_known_least1 a0 a1 a2 a3) (rec_gameroomref_known_least2 a0 a1 a2 a3)) (men1 : List Int) (pips1 : List Int) (k3 : List (List Int)) (k4 : List Int) (best1 : Int) (i2 : Int) : Le (gameroomref_known_least_J8 rec_gameroomref_known_least1 men1 pips1 k3 k4 best1 i2) (gameroomref_known_least_J8 rec_gameroomref_known_least2 men1 pips1 k3 k4 best1 i2) := by
  unfold gameroomref_known_least_J8
  repeat' (first | with_reducible exact Le.refl _ | with_reducible exact h_rec_gameroomref_known_least _ _ _ _ | with_reducible exact gameroomref_known_least_J9_le_gameroomref_known_least h_rec_gameroomref_known_least _ _ _ _ _ _ | with_reducible refine Le.asrt ?_ | with_reducible refine Le.ite ?_ ?_ | refine Le.bind ?_ (fun _ => ?_) | refine Le.loop2 (fun _ => ?_) | refine Le.elim2 (fun _ => ?_) (fun _ => ?_))

set_option maxRecDepth 100000 in
theorem gameroomref_known_least_J6_le_gameroomref_known_least {rec_gameroomref_known_least1 rec_gameroomref_known_least2 : List (List Int) → List Int → List Int → List Int → Option (Int × List (List Int) × List Int)} (h_rec_gameroomref_known_least : ∀ a0 a1 a2 a3, Le (rec_gameroomref_known_least1 a0 a1 a2 a3) (rec_gameroomref_known_least2 a0 a1 a2 a3)) (men1 : List Int) (pips1 : List Int) (far2 : Int) (k3 : List (List Int)) (k4 : List Int) (best1 : Int) (i2 : Int) : Le (gameroomref_known_least_J6 rec_gameroomref_known_least1 men1 pips1 far2 k3 k4 best1 i2) (gameroomref_known_least_J6 rec_gameroomref_known_least2 men1 pips1 far2 k3 k4 best1 i2) := by
  unfold gameroomref_known_least_J6
  repeat' (first | with_reducible exact Le.refl _ | with_reducible exact h_rec_gameroomref_known_least _ _ _ _ | with_reducible exact gameroomref_known_least_J8_le_gameroomref_known_least h_rec_gameroomref_known_least _ _ _ _ _ _ | with_reducible refine Le.asrt ?_ | with_reducible refine Le.ite ?_ ?_ | refine Le.bind ?_ (fun _ => ?_) | refine Le.loop2 (fun _ => ?_) | refine Le.elim2 (fun _ => ?_) (fun _ => ?_))

set_option maxRecDepth 100000 in
theorem gameroomref_known_least_L2_le_gameroomref_known_least {rec_gameroomref_known_least1 rec_gameroomref_known_least2 : List (List Int) → List Int → List Int → List Int → Option (Int × List (List Int) × List Int)} (h_rec_gameroomref_known_least : ∀ a0 a1 a2 a3, Le (rec_gameroomref_known_least1 a0 a1 a2 a3) (rec_gameroomref_known_least2 a0 a1 a2 a3)) (men1 : List Int) (pips1 : List Int) (far2 : Int) (x : (List (List Int) × List Int × Int × Int)) : Le (gameroomref_known_least_L2 rec_gameroomref_known_least1 men1 pips1 far2 x) (gameroomref_known_least_L2 rec_gameroomref_known_least2 men1 pips1 far2 x) := by
  rcases x with ⟨k3, k4, best1, i2⟩
  all_goals
    unfold gameroomref_known_least_L2
    try dsimp only
    repeat' (first | with_reducible exact Le.refl _ | with_reducible exact h_rec_gameroomref_known_least _ _ _ _ | with_reducible exact gameroomref_known_least_J6_le_gameroomref_known_least h_rec_gameroomref_known_least _ _ _ _ _ _ _ | with_reducible refine Le.asrt ?_ | with_reducible refine Le.ite ?_ ?_ | refine Le.bind ?_ (fun _ => ?_) | refine Le.loop2 (fun _ => ?_) | refine Le.elim2 (fun _ => ?_) (fun _ => ?_))

set_option maxRecDepth 100000 in
theorem gameroomref_known_least_J4_le_gameroomref_known_least {rec_gameroomref_known_least1 rec_gameroomref_known_least2 : List (List Int) → List Int → List Int → List Int → Option (Int × List (List Int) × List Int)} (h_rec_gameroomref_known_least : ∀ a0 a1 a2 a3, Le (rec_gameroomref_known_least1 a0 a1 a2 a3) (rec_gameroomref_known_least2 a0 a1 a2 a3)) (k_men1 : List (List Int)) (k_mean1 : List Int) (men1 : List Int) (pips1 : List Int) (far2 : Int) : Le (gameroomref_known_least_J4 rec_gameroomref_known_least1 k_men1 k_mean1 men1 pips1 far2) (gameroomref_known_least_J4 rec_gameroomref_known_least2 k_men1 k_mean1 men1 pips1 far2) := by
  unfold gameroomref_known_least_J4
  repeat' (first | with_reducible exact Le.refl _ | with_reducible exact h_rec_gameroomref_known_least _ _ _ _ | with_reducible exact gameroomref_known_least_L2_le_gameroomref_known_least h_rec_gameroomref_known_least _ _ _ _ | with_reducible refine Le.asrt ?_ | with_reducible refine Le.ite ?_ ?_ | refine Le.bind ?_ (fun _ => ?_) | refine Le.loop2 (fun _ => ?_) | refine Le.elim2 (fun _ => ?_) (fun _ => ?_))

set_option maxRecDepth 100000 in
theorem gameroomref_known_least_J1_le_gameroomref_known_least {rec_gameroomref_known_least1 rec_gameroomref_known_least2 : List (List Int) → List Int → List Int → List Int → Option (Int × List (List Int) × List Int)} (h_rec_gameroomref_known_least : ∀ a0 a1 a2 a3, Le (rec_gameroomref_known_least1 a0 a1 a2 a3) (rec_gameroomref_known_least2 a0 a1 a2 a3)) (rec_gameroomref_known_of : List (List Int) → List Int → List Int → Option (Int × List (List Int) × List Int)) (k_men1 : List (List Int)) (k_mean1 : List Int) (men1 : List Int) (pips1 : List Int) (far2 : Int) : Le (gameroomref_known_least_J1 rec_gameroomref_known_of rec_gameroomref_known_least1 k_men1 k_mean1 men1 pips1 far2) (gameroomref_known_least_J1 rec_gameroomref_known_of rec_gameroomref_known_least2 k_men1 k_mean1 men1 pips1 far2) := by
  unfold gameroomref_known_least_J1
  repeat' (first | with_reducible exact Le.refl _ | with_reducible exact h_rec_gameroomref_known_least _ _ _ _ | with_reducible exact gameroomref_known_least_J4_le_gameroomref_known_least h_rec_gameroomref_known_least _ _ _ _ _ | with_reducible refine Le.asrt ?_ | with_reducible refine Le.ite ?_ ?_ | refine Le.bind ?_ (fun _ => ?_) | refine Le.loop2 (fun _ => ?_) | refine Le.elim2 (fun _ => ?_) (fun _ => ?_))

set_option maxRecDepth 100000 in
theorem gameroomref_known_least_K1_le_gameroomref_known_least {rec_gameroomref_known_least1 rec_gameroomref_known_least2 : List (List Int) → List Int → List Int → List Int → Option (Int × List (List Int) × List Int)} (h_rec_gameroomref_known_least : ∀ a0 a1 a2 a3, Le (rec_gameroomref_known_least1 a0 a1 a2 a3) (rec_gameroomref_known_least2 a0 a1 a2 a3)) (rec_gameroomref_known_of : List (List Int) → List Int → List Int → Option (Int × List (List Int) × List Int)) (k_men1 : List (List Int)) (k_mean1 : List Int) (men1 : List Int) (pips1 : List Int) (x : Int) : Le (gameroomref_known_least_K1 rec_gameroomref_known_of rec_gameroomref_known_least1 k_men1 k_mean1 men1 pips1 x) (gameroomref_known_least_K1 rec_gameroomref_known_of rec_gameroomref_known_least2 k_men1 k_mean1 men1 pips1 x) := by
  rcases x with far2
  all_goals
    unfold gameroomref_known_least_K1
    try dsimp only
    repeat' (first | with_reducible exact Le.refl _ | with_reducible exact h_rec_gameroomref_known_least _ _ _ _ | with_reducible exact gameroomref_known_least_J1_le_gameroomref_known_least h_rec_gameroomref_known_least _ _ _ _ _ _ | with_reducible refine Le.asrt ?_ | with_reducible refine Le.ite ?_ ?_ | refine Le.bind ?_ (fun _ => ?_) | refine Le.loop2 (fun _ => ?_) | refine Le.elim2 (fun _ => ?_) (fun _ => ?_))

set_option maxRecDepth 100000 in
theorem gameroomref_known_least_B_le (rec_gameroomref_known_of : List (List Int) → List Int → List Int → Option (Int × List (List Int) × List Int)) {rec_gameroomref_known_least1 rec_gameroomref_known_least2 : List (List Int) → List Int → List Int → List Int → Option (Int × List (List Int) × List Int)} (h_rec_gameroomref_known_least : ∀ a0 a1 a2 a3, Le (rec_gameroomref_known_least1 a0 a1 a2 a3) (rec_gameroomref_known_least2 a0 a1 a2 a3)) (k_men1 : List (List Int)) (k_mean1 : List Int) (men1 : List Int) (pips1 : List Int) : Le (gameroomref_known_least_B rec_gameroomref_known_of rec_gameroomref_known_least1 k_men1 k_mean1 men1 pips1) (gameroomref_known_least_B rec_gameroomref_known_of rec_gameroomref_known_least2 k_men1 k_mean1 men1 pips1) := by
  unfold gameroomref_known_least_B
  repeat' (first | with_reducible exact Le.refl _ | with_reducible exact h_rec_gameroomref_known_least _ _ _ _ | with_reducible exact gameroomref_known_least_K1_le_gameroomref_known_least h_rec_gameroomref_known_least _ _ _ _ _ _ | with_reducible refine Le.asrt ?_ | with_reducible refine Le.ite ?_ ?_ | refine Le.bind ?_ (fun _ => ?_) | refine Le.loop2 (fun _ => ?_) | refine Le.elim2 (fun _ => ?_) (fun _ => ?_))

set_option maxRecDepth 100000 in
theorem gameroomref_known_least_mF_le (rec_gameroomref_known_of : List (List Int) → List Int → List Int → Option (Int × List (List Int) × List Int)) : ∀ (n : Nat) (k_men1 : List (List Int)) (k_mean1 : List Int) (men1 : List Int) (pips1 : List Int), Le (gameroomref_known_least_mF rec_gameroomref_known_of n k_men1 k_mean1 men1 pips1) (gameroomref_known_least_mF rec_gameroomref_known_of (n + 1) k_men1 k_mean1 men1 pips1)
  | 0, _, _, _, _ => fun _ h => by cases h
  | n + 1, _, _, _, _ => gameroomref_known_least_B_le rec_gameroomref_known_of (fun a0 a1 a2 a3 => gameroomref_known_least_mF_le rec_gameroomref_known_of n a0 a1 a2 a3) _ _ _ _

set_option maxRecDepth 100000 in
theorem gameroomref_known_least_J1_le_gameroomref_known_of {rec_gameroomref_known_of1 rec_gameroomref_known_of2 : List (List Int) → List Int → List Int → Option (Int × List (List Int) × List Int)} (h_rec_gameroomref_known_of : ∀ a0 a1 a2, Le (rec_gameroomref_known_of1 a0 a1 a2) (rec_gameroomref_known_of2 a0 a1 a2)) (rec_gameroomref_known_least : List (List Int) → List Int → List Int → List Int → Option (Int × List (List Int) × List Int)) (k_men1 : List (List Int)) (k_mean1 : List Int) (men1 : List Int) (pips1 : List Int) (far2 : Int) : Le (gameroomref_known_least_J1 rec_gameroomref_known_of1 rec_gameroomref_known_least k_men1 k_mean1 men1 pips1 far2) (gameroomref_known_least_J1 rec_gameroomref_known_of2 rec_gameroomref_known_least k_men1 k_mean1 men1 pips1 far2) := by
  unfold gameroomref_known_least_J1
  repeat' (first | with_reducible exact Le.refl _ | with_reducible exact h_rec_gameroomref_known_of _ _ _ | with_reducible refine Le.asrt ?_ | with_reducible refine Le.ite ?_ ?_ | refine Le.bind ?_ (fun _ => ?_) | refine Le.loop2 (fun _ => ?_) | refine Le.elim2 (fun _ => ?_) (fun _ => ?_))

set_option maxRecDepth 100000 in
theorem gameroomref_known_least_K1_le_gameroomref_known_of {rec_gameroomref_known_of1 rec_gameroomref_known_of2 : List (List Int) → List Int → List Int → Option (Int × List (List Int) × List Int)} (h_rec_gameroomref_known_of : ∀ a0 a1 a2, Le (rec_gameroomref_known_of1 a0 a1 a2) (rec_gameroomref_known_of2 a0 a1 a2)) (rec_gameroomref_known_least : List (List Int) → List Int → List Int → List Int → Option (Int × List (List Int) × List Int)) (k_men1 : List (List Int)) (k_mean1 : List Int) (men1 : List Int) (pips1 : List Int) (x : Int) : Le (gameroomref_known_least_K1 rec_gameroomref_known_of1 rec_gameroomref_known_least k_men1 k_mean1 men1 pips1 x) (gameroomref_known_least_K1 rec_gameroomref_known_of2 rec_gameroomref_known_least k_men1 k_mean1 men1 pips1 x) := by
  rcases x with far2
  all_goals
    unfold gameroomref_known_least_K1
    try dsimp only
    repeat' (first | with_reducible exact Le.refl _ | with_reducible exact h_rec_gameroomref_known_of _ _ _ | with_reducible exact gameroomref_known_least_J1_le_gameroomref_known_of h_rec_gameroomref_known_of _ _ _ _ _ _ | with_reducible refine Le.asrt ?_ | with_reducible refine Le.ite ?_ ?_ | refine Le.bind ?_ (fun _ => ?_) | refine Le.loop2 (fun _ => ?_) | refine Le.elim2 (fun _ => ?_) (fun _ => ?_))

set_option maxRecDepth 100000 in
theorem gameroomref_known_least_B_le_gameroomref_known_of {rec_gameroomref_known_of1 rec_gameroomref_known_of2 : List (List Int) → List Int → List Int → Option (Int × List (List Int) × List Int)} (h_rec_gameroomref_known_of : ∀ a0 a1 a2, Le (rec_gameroomref_known_of1 a0 a1 a2) (rec_gameroomref_known_of2 a0 a1 a2)) (rec_gameroomref_known_least : List (List Int) → List Int → List Int → List Int → Option (Int × List (List Int) × List Int)) (k_men1 : List (List Int)) (k_mean1 : List Int) (men1 : List Int) (pips1 : List Int) : Le (gameroomref_known_least_B rec_gameroomref_known_of1 rec_gameroomref_known_least k_men1 k_mean1 men1 pips1) (gameroomref_known_least_B rec_gameroomref_known_of2 rec_gameroomref_known_least k_men1 k_mean1 men1 pips1) := by
  unfold gameroomref_known_least_B
  repeat' (first | with_reducible exact Le.refl _ | with_reducible exact h_rec_gameroomref_known_of _ _ _ | with_reducible exact gameroomref_known_least_K1_le_gameroomref_known_of h_rec_gameroomref_known_of _ _ _ _ _ _ | with_reducible refine Le.asrt ?_ | with_reducible refine Le.ite ?_ ?_ | refine Le.bind ?_ (fun _ => ?_) | refine Le.loop2 (fun _ => ?_) | refine Le.elim2 (fun _ => ?_) (fun _ => ?_))

set_option maxRecDepth 100000 in
theorem gameroomref_known_least_mF_le_gameroomref_known_of {rec_gameroomref_known_of1 rec_gameroomref_known_of2 : List (List Int) → List Int → List Int → Option (Int × List (List Int) × List Int)} (h_rec_gameroomref_known_of : ∀ a0 a1 a2, Le (rec_gameroomref_known_of1 a0 a1 a2) (rec_gameroomref_known_of2 a0 a1 a2)) : ∀ (n : Nat) (k_men1 : List (List Int)) (k_mean1 : List Int) (men1 : List Int) (pips1 : List Int), Le (gameroomref_known_least_mF rec_gameroomref_known_of1 n k_men1 k_mean1 men1 pips1) (gameroomref_known_least_mF rec_gameroomref_known_of2 n k_men1 k_mean1 men1 pips1)
  | 0, _, _, _, _ => fun _ h => by cases h
  | n + 1, _, _, _, _ => Le.trans' (gameroomref_known_least_B_le_gameroomref_known_of h_rec_gameroomref_known_of _ _ _ _ _) (gameroomref_known_least_B_le _ (fun a0 a1 a2 a3 => gameroomref_known_least_mF_le_gameroomref_known_of h_rec_gameroomref_known_of n a0 a1 a2 a3) _ _ _ _)

set_option maxRecDepth 100000 in
theorem gameroomref_known_least_m_le_gameroomref_known_of {rec_gameroomref_known_of1 rec_gameroomref_known_of2 : List (List Int) → List Int → List Int → Option (Int × List (List Int) × List Int)} (h_rec_gameroomref_known_of : ∀ a0 a1 a2, Le (rec_gameroomref_known_of1 a0 a1 a2) (rec_gameroomref_known_of2 a0 a1 a2)) (k_men1 : List (List Int)) (k_mean1 : List Int) (men1 : List Int) (pips1 : List Int) : Le (gameroomref_known_least_m rec_gameroomref_known_of1 k_men1 k_mean1 men1 pips1) (gameroomref_known_least_m rec_gameroomref_known_of2 k_men1 k_mean1 men1 pips1) :=
  recM_le (fun n => gameroomref_known_least_mF_le_gameroomref_known_of h_rec_gameroomref_known_of n k_men1 k_mean1 men1 pips1) (fun n => gameroomref_known_least_mF_le _ n k_men1 k_mean1 men1 pips1)

noncomputable def gameroomref_known_of_J3  (men1 : List Int) (left1 : Int) (i1 : Int) : Option (St (Int × Int) Int) :=
  some (.next ((w64 (left1 + (geti men1 i1))), (w64 (i1 + 1))))

noncomputable def gameroomref_known_of_J2  (men1 : List Int) (left1 : Int) (i1 : Int) : Option (St (Int × Int) Int) :=
  asrt (0 ≤ i1 ∧ i1 < (men1.length : Int)) <| (gameroomref_known_of_J3 men1 left1 i1)

noncomputable def gameroomref_known_of_J7  (i2 : Int) : Option (St Int (Fl Unit (Int × List (List Int) × List Int))) :=
  some (.next (w64 (i2 + 1)))

noncomputable def gameroomref_known_of_J6  (k_men1 : List (List Int)) (k_mean1 : List Int) (men1 : List Int) (i2 : Int) : Option (St Int (Fl Unit (Int × List (List Int) × List Int))) :=
  asrt (0 ≤ i2 ∧ i2 < (k_men1.length : Int)) <| (gameroomref_sameInts_m (geti2 k_men1 i2) men1).bind fun r1 => if r1 then (asrt (0 ≤ i2 ∧ i2 < (k_mean1.length : Int)) <| some (.done (.ret ((geti k_mean1 i2), k_men1, k_mean1)))) else ((gameroomref_known_of_J7 i2))

noncomputable def gameroomref_known_of_L2  (k_men1 : List (List Int)) (k_mean1 : List Int) (men1 : List Int) : Int → Option (St Int (Fl Unit (Int × List (List Int) × List Int))) :=
  fun (x : Int) => match x with | i2 => if (decide (i2 < (k_men1.length : Int))) then ((gameroomref_known_of_J6 k_men1 k_mean1 men1 i2)) else (some (.done (.go ())))

noncomputable def gameroomref_known_of_J12  (y1 : Int) (k11 : List (List Int)) (k12 : List Int) (sum5 : Int) : Option (St (List (List Int) × List Int × Int × Int) (List (List Int) × List Int × Int)) :=
  some (.next (k11, k12, sum5, (w64 (y1 + 1))))

noncomputable def gameroomref_known_of_J14  (sum3 : Int) (y1 : Int) (r4 : (Int × List (List Int) × List Int)) (a1 : Int) : Option (St (List (List Int) × List Int × Int × Int) (List (List Int) × List Int × Int)) :=
  (gameroomref_known_of_J12 y1) r4.2.1 r4.2.2 (w64 (sum3 + a1))

noncomputable def gameroomref_known_of_J13  (rec_gameroomref_known_of : List (List Int) → List Int → List Int → Option (Int × List (List Int) × List Int)) (men1 : List Int) (x1 : Int) (k7 : List (List Int)) (k8 : List Int) (sum3 : Int) (y1 : Int) : Option (St (List (List Int) × List Int × Int × Int) (List (List Int) × List Int × Int)) :=
  ((gameroomref_known_least_m rec_gameroomref_known_of) k7 k8 men1 ([x1, y1] : List Int)).bind fun r3 => ((gameroomref_known_least_m rec_gameroomref_known_of) r3.2.1 r3.2.2 men1 ([y1, x1] : List Int)).bind fun r4 => if (decide (r4.1 < r3.1)) then ((gameroomref_known_of_J14 sum3 y1 r4) r4.1) else ((gameroomref_known_of_J14 sum3 y1 r4) r3.1)

noncomputable def gameroomref_known_of_J11  (rec_gameroomref_known_of : List (List Int) → List Int → List Int → Option (Int × List (List Int) × List Int)) (men1 : List Int) (x1 : Int) (k7 : List (List Int)) (k8 : List Int) (sum3 : Int) (y1 : Int) : Option (St (List (List Int) × List Int × Int × Int) (List (List Int) × List Int × Int)) :=
  if (x1 == y1) then (((gameroomref_known_least_m rec_gameroomref_known_of) k7 k8 men1 ([x1, x1, x1, x1] : List Int)).bind fun r2 => (gameroomref_known_of_J12 y1) r2.2.1 r2.2.2 (w64 (sum3 + r2.1))) else ((gameroomref_known_of_J13 rec_gameroomref_known_of men1 x1 k7 k8 sum3 y1))

noncomputable def gameroomref_known_of_L4  (rec_gameroomref_known_of : List (List Int) → List Int → List Int → Option (Int × List (List Int) × List Int)) (men1 : List Int) (x1 : Int) : (List (List Int) × List Int × Int × Int) → Option (St (List (List Int) × List Int × Int × Int) (List (List Int) × List Int × Int)) :=
  fun (x : (List (List Int) × List Int × Int × Int)) => match x with | (k7, k8, sum3, y1) => if (decide (y1 ≤ 6)) then ((gameroomref_known_of_J11 rec_gameroomref_known_of men1 x1 k7 k8 sum3 y1)) else (some (.done (k7, k8, sum3)))

noncomputable def gameroomref_known_of_J10  (x1 : Int) (k9 : List (List Int)) (k10 : List Int) (sum4 : Int) : Option (St (List (List Int) × List Int × Int × Int) (List (List Int) × List Int × Int)) :=
  some (.next (k9, k10, sum4, (w64 (x1 + 1))))

noncomputable def gameroomref_known_of_K4  (x1 : Int) : (List (List Int) × List Int × Int) → Option (St (List (List Int) × List Int × Int × Int) (List (List Int) × List Int × Int)) :=
  fun (x : (List (List Int) × List Int × Int)) => match x with | (k9, k10, sum4) => (gameroomref_known_of_J10 x1) k9 k10 sum4

noncomputable def gameroomref_known_of_J9  (rec_gameroomref_known_of : List (List Int) → List Int → List Int → Option (Int × List (List Int) × List Int)) (men1 : List Int) (k3 : List (List Int)) (k4 : List Int) (sum1 : Int) (x1 : Int) : Option (St (List (List Int) × List Int × Int × Int) (List (List Int) × List Int × Int)) :=
  (loop (gameroomref_known_of_L4 rec_gameroomref_known_of men1 x1) (k3, k4, sum1, 1)).bind (gameroomref_known_of_K4 x1)

noncomputable def gameroomref_known_of_L3  (rec_gameroomref_known_of : List (List Int) → List Int → List Int → Option (Int × List (List Int) × List Int)) (men1 : List Int) : (List (List Int) × List Int × Int × Int) → Option (St (List (List Int) × List Int × Int × Int) (List (List Int) × List Int × Int)) :=
  fun (x : (List (List Int) × List Int × Int × Int)) => match x with | (k3, k4, sum1, x1) => if (decide (x1 ≤ 6)) then ((gameroomref_known_of_J9 rec_gameroomref_known_of men1 k3 k4 sum1 x1)) else (some (.done (k3, k4, sum1)))

noncomputable def gameroomref_known_of_J15  (k6 : List Int) (sum2 : Int) (k13 : List (List Int)) : Option (Int × List (List Int) × List Int) :=
  asrt ((k6.length : Int) + 1 ≤ bigN) <| some ((w64 (78364164096 + (w64 (Int.tdiv sum2 36)))), k13, (k6 ++ ([w64 (78364164096 + (w64 (Int.tdiv sum2 36)))] : List Int)))

noncomputable def gameroomref_known_of_J8  (men1 : List Int) (k5 : List (List Int)) (k6 : List Int) (sum2 : Int) : Option (Int × List (List Int) × List Int) :=
  (gameroomref_Ints_m men1).bind fun r5 => asrt (((k5.length : Int) : Int) + 1 ≤ bigR) <| (gameroomref_known_of_J15 k6 sum2) (k5 ++ [r5])

noncomputable def gameroomref_known_of_K3  (men1 : List Int) : (List (List Int) × List Int × Int) → Option (Int × List (List Int) × List Int) :=
  fun (x : (List (List Int) × List Int × Int)) => match x with | (k5, k6, sum2) => (gameroomref_known_of_J8 men1) k5 k6 sum2

noncomputable def gameroomref_known_of_J5  (rec_gameroomref_known_of : List (List Int) → List Int → List Int → Option (Int × List (List Int) × List Int)) (k_men1 : List (List Int)) (k_mean1 : List Int) (men1 : List Int) : Option (Int × List (List Int) × List Int) :=
  (loop (gameroomref_known_of_L3 rec_gameroomref_known_of men1) (k_men1, k_mean1, 0, 1)).bind (gameroomref_known_of_K3 men1)

noncomputable def gameroomref_known_of_K2  (rec_gameroomref_known_of : List (List Int) → List Int → List Int → Option (Int × List (List Int) × List Int)) (k_men1 : List (List Int)) (k_mean1 : List Int) (men1 : List Int) : (Fl Unit (Int × List (List Int) × List Int)) → Option (Int × List (List Int) × List Int) :=
  fun (x : (Fl Unit (Int × List (List Int) × List Int))) => match x with | .go _ => (gameroomref_known_of_J5 rec_gameroomref_known_of k_men1 k_mean1 men1) | .ret x => some x

noncomputable def gameroomref_known_of_J4  (rec_gameroomref_known_of : List (List Int) → List Int → List Int → Option (Int × List (List Int) × List Int)) (k_men1 : List (List Int)) (k_mean1 : List Int) (men1 : List Int) : Option (Int × List (List Int) × List Int) :=
  (loop (gameroomref_known_of_L2 k_men1 k_mean1 men1) 0).bind (gameroomref_known_of_K2 rec_gameroomref_known_of k_men1 k_mean1 men1)

noncomputable def gameroomref_known_of_J1  (rec_gameroomref_known_of : List (List Int) → List Int → List Int → Option (Int × List (List Int) × List Int)) (k_men1 : List (List Int)) (k_mean1 : List Int) (men1 : List Int) (left2 : Int) : Option (Int × List (List Int) × List Int) :=
  if (left2 == 0) then (some (0, k_men1, k_mean1)) else ((gameroomref_known_of_J4 rec_gameroomref_known_of k_men1 k_mean1 men1))

noncomputable def gameroomref_known_of_K1  (rec_gameroomref_known_of : List (List Int) → List Int → List Int → Option (Int × List (List Int) × List Int)) (k_men1 : List (List Int)) (k_mean1 : List Int) (men1 : List Int) : Int → Option (Int × List (List Int) × List Int) :=
  fun (x : Int) => match x with | left2 => (gameroomref_known_of_J1 rec_gameroomref_known_of k_men1 k_mean1 men1) left2

noncomputable def gameroomref_known_of_L1  (men1 : List Int) : (Int × Int) → Option (St (Int × Int) Int) :=
  fun (x : (Int × Int)) => match x with | (left1, i1) => if (decide (i1 < 6)) then ((gameroomref_known_of_J2 men1 left1 i1)) else (some (.done left1))

noncomputable def gameroomref_known_of_B (rec_gameroomref_known_of : List (List Int) → List Int → List Int → Option (Int × List (List Int) × List Int)) (k_men1 : List (List Int)) (k_mean1 : List Int) (men1 : List Int) : Option (Int × List (List Int) × List Int) :=
  (loop (gameroomref_known_of_L1 men1) (0, 0)).bind (gameroomref_known_of_K1 rec_gameroomref_known_of k_men1 k_mean1 men1)

noncomputable def gameroomref_known_of_mF : Nat → List (List Int) → List Int → List Int → Option (Int × List (List Int) × List Int)
  | 0 => fun _ _ _ => none
  | n + 1 => fun k_men1 k_mean1 men1 => gameroomref_known_of_B (gameroomref_known_of_mF n) k_men1 k_mean1 men1

noncomputable def gameroomref_known_of_m (k_men1 : List (List Int)) (k_mean1 : List Int) (men1 : List Int) : Option (Int × List (List Int) × List Int) :=
  recM fun n => gameroomref_known_of_mF n k_men1 k_mean1 men1

set_option maxRecDepth 100000 in
set_option maxHeartbeats 4000000 in
theorem gameroomref_known_of_wB {rec_gameroomref_known_of : List (List Int) → List Int → List Int → Option (Int × List (List Int) × List Int)} (ih_gameroomref_known_of : ∀ {g1 : Nat} {A1 : Option Addr} {c1 : Nat} {n1 : Nat} {hd1 : List Hd} {k_men1 : List (List Int)} {A2 : Option Addr} {c2 : Nat} {n2 : Nat} {k_mean1 : List Int} {A3 : Option Addr} {c3 : Nat} {n3 : Nat} {men1 : List Int} {r : (Int × List (List Int) × List Int)} {w0 w : World} {B : Nat} {fs : List HP} (_ : rec_gameroomref_known_of k_men1 k_mean1 men1 = some r) (_ : Sep w0 B w (blk g1 140 #[.slice A1 n1 c1, .slice A2 n2 c2] :: rows 40 3 (.slice A1 n1 c1) hd1 k_men1 :: own 3 (.slice A2 n2 c2) (vI k_mean1) :: fs)) (hr_men1 : RdF w0 B fs A3 (vI men1)) (_hc_men1 : men1.length ≤ c3) (_hn_men1 : n3 = men1.length), Calls Try.prog 97 #[.pointer (some ⟨g1, 0, none⟩), .slice A3 n3 c3] w fun e w' => ∃ v, e = .returned v ∧ ∃ (A4 : Option Addr) (c4 : Nat) (hd2 : List Hd) (A5 : Option Addr) (c5 : Nat), v = .int .i64 r.1 ∧ Sep w0 B w' (blk g1 140 #[.slice A4 r.2.1.length c4, .slice A5 r.2.2.length c5] :: rows 40 3 (.slice A4 r.2.1.length c4) hd2 r.2.1 :: own 3 (.slice A5 r.2.2.length c5) (vI r.2.2) :: fs)) {g1 : Nat} {A1 : Option Addr} {c1 : Nat} {n1 : Nat} {hd1 : List Hd} {k_men1 : List (List Int)} {A2 : Option Addr} {c2 : Nat} {n2 : Nat} {k_mean1 : List Int} {A3 : Option Addr} {c3 : Nat} {n3 : Nat} {men1 : List Int} {r : (Int × List (List Int) × List Int)} {w0 w : World} {B : Nat} {fs : List HP} (hm : gameroomref_known_of_B rec_gameroomref_known_of k_men1 k_mean1 men1 = some r) (hS : Sep w0 B w (blk g1 140 #[.slice A1 n1 c1, .slice A2 n2 c2] :: rows 40 3 (.slice A1 n1 c1) hd1 k_men1 :: own 3 (.slice A2 n2 c2) (vI k_mean1) :: fs)) (hr_men1 : RdF w0 B fs A3 (vI men1)) (_hc_men1 : men1.length ≤ c3) (_hn_men1 : n3 = men1.length) :
    Calls Try.prog 97 #[.pointer (some ⟨g1, 0, none⟩), .slice A3 n3 c3] w fun e w' => ∃ v, e = .returned v ∧ ∃ (A4 : Option Addr) (c4 : Nat) (hd2 : List Hd) (A5 : Option Addr) (c5 : Nat), v = .int .i64 r.1 ∧ Sep w0 B w' (blk g1 140 #[.slice A4 r.2.1.length c4, .slice A5 r.2.2.length c5] :: rows 40 3 (.slice A4 r.2.1.length c4) hd2 r.2.1 :: own 3 (.slice A5 r.2.2.length c5) (vI r.2.2) :: fs) := by
  obtain ⟨i3, hi3, hz3, hs3, hb3⟩ := info_parts Info3
  obtain ⟨i40, hi40, hz40, hs40, hb40⟩ := info_parts Info40
  obtain ⟨i125, hi125, hz125, hs125, hb125⟩ := info_parts Info125
  obtain rfl := (hS.at_ 1 rfl).lenR
  obtain rfl := (hS.at_ 2 rfl).len1
  obtain rfl := _hn_men1
  unfold gameroomref_known_of_B at hm
  replace hm := start_b hm
  refine enter (l := [.pointer (some ⟨g1, 0, none⟩), .slice A3 men1.length c3]) (n := 116) Try.func97 rfl rfl (by simp) (fun a hF => ?_)
  refine reg [] [] [0, 1] [pl 0 (.pointer (some ⟨g1, 0, none⟩)), pl 1 (.slice A3 men1.length c3)] hF hS Fol (by kernel_rfl) (by kernel_rfl) (by kernel_rfl) ?_ (fun a w hF hS => ?_)
  · exact obs_nil
  refine reg [] [] [0, 1, 5] [pl 0 (.pointer (some ⟨g1, 0, none⟩)), pl 1 (.slice A3 men1.length c3), pl 5 (.int .i64 0)] hF hS Fol (by kernel_rfl) (by kernel_rfl) (by kernel_rfl) ?_ (fun a w hF hS => ?_)
  · exact obs_nil
  refine seq_cut (fun a w => ∃ (left2 : Int), Fr 116 [pl 0 (.pointer (some ⟨g1, 0, none⟩)), pl 1 (.slice A3 men1.length c3), pl 5 (.int .i64 left2)] a ∧ Sep w0 B w (blk g1 140 #[.slice A1 k_men1.length c1, .slice A2 k_mean1.length c2] :: rows 40 3 (.slice A1 k_men1.length c1) hd1 k_men1 :: own 3 (.slice A2 k_mean1.length c2) (vI k_mean1) :: fs) ∧ ((gameroomref_known_of_J1 rec_gameroomref_known_of k_men1 k_mean1 men1) left2).bind some = some r) ?_ ?_
  · rintro a w ⟨left2, hF, hS, hm⟩
    unfold gameroomref_known_of_J1 at hm
    refine seq_cut (fun a w => Fr 116 [pl 0 (.pointer (some ⟨g1, 0, none⟩)), pl 1 (.slice A3 men1.length c3)] a ∧ Sep w0 B w (blk g1 140 #[.slice A1 k_men1.length c1, .slice A2 k_mean1.length c2] :: rows 40 3 (.slice A1 k_men1.length c1) hd1 k_men1 :: own 3 (.slice A2 k_mean1.length c2) (vI k_mean1) :: fs) ∧ ((gameroomref_known_of_J4 rec_gameroomref_known_of k_men1 k_mean1 men1)).bind some = some r) ?_ ?_
    · rintro a w ⟨hF, hS, hm⟩
      unfold gameroomref_known_of_J4 at hm
      refine seq_cut (fun a w => Fr 116 [pl 0 (.pointer (some ⟨g1, 0, none⟩)), pl 1 (.slice A3 men1.length c3)] a ∧ Sep w0 B w (blk g1 140 #[.slice A1 k_men1.length c1, .slice A2 k_mean1.length c2] :: rows 40 3 (.slice A1 k_men1.length c1) hd1 k_men1 :: own 3 (.slice A2 k_mean1.length c2) (vI k_mean1) :: fs) ∧ ((gameroomref_known_of_J5 rec_gameroomref_known_of k_men1 k_mean1 men1)).bind some = some r) ?_ ?_
      · rintro a w ⟨hF, hS, hm⟩
        unfold gameroomref_known_of_J5 at hm
        refine reg [] [] [0, 1, 8] [pl 0 (.pointer (some ⟨g1, 0, none⟩)), pl 1 (.slice A3 men1.length c3), pl 8 (.int .i64 0)] hF hS Fol (by kernel_rfl) (by kernel_rfl) (by kernel_rfl) ?_ (fun a w hF hS => ?_)
        · exact obs_nil
        refine seq_cut (fun a w => ∃ (k5 : List (List Int)) (k6 : List Int) (sum2 : Int) (A8 : Option Addr) (c8 : Nat) (hd4 : List Hd) (A9 : Option Addr) (c9 : Nat), Fr 116 [pl 0 (.pointer (some ⟨g1, 0, none⟩)), pl 1 (.slice A3 men1.length c3), pl 8 (.int .i64 sum2)] a ∧ Sep w0 B w (blk g1 140 #[.slice A8 k5.length c8, .slice A9 k6.length c9] :: rows 40 3 (.slice A8 k5.length c8) hd4 k5 :: own 3 (.slice A9 k6.length c9) (vI k6) :: fs) ∧ ((gameroomref_known_of_J8 men1) k5 k6 sum2).bind some = some r) ?_ ?_
        · rintro a w ⟨k5, k6, sum2, A8, c8, hd4, A9, c9, hF, hS, hm⟩
          unfold gameroomref_known_of_J8 at hm
          refine reg [] [] [0, 1, 13] [pl 0 (.pointer (some ⟨g1, 0, none⟩)), pl 1 (.slice A3 men1.length c3), pl 13 (.int .i64 (w64 (78364164096 + (w64 (Int.tdiv sum2 36)))))] hF hS Fol (by kernel_rfl) (by kernel_rfl) (by kernel_rfl) ?_ (fun a w hF hS => ?_)
          · exact obs_nil
          refine seq_cut (fun a w => ∃ (k13 : List (List Int)) (A25 : Option Addr) (c25 : Nat) (hd11 : List Hd), Fr 116 [pl 0 (.pointer (some ⟨g1, 0, none⟩)), pl 13 (.int .i64 (w64 (78364164096 + (w64 (Int.tdiv sum2 36)))))] a ∧ Sep w0 B w (blk g1 140 #[.slice A25 k13.length c25, .slice A9 k6.length c9] :: rows 40 3 (.slice A25 k13.length c25) hd11 k13 :: own 3 (.slice A9 k6.length c9) (vI k6) :: fs) ∧ ((gameroomref_known_of_J15 k6 sum2) k13).bind some = some r) ?_ ?_
          · rintro a w ⟨k13, A25, c25, hd11, hF, hS, hm⟩
            unfold gameroomref_known_of_J15 at hm
            refine seqR ?_
            obtain ⟨hp5, hm⟩ := asrt_b hm
            refine at_run 6 [⟨false, [], vS (Instr.loadAt 40 (.pointer (some ⟨g1, 1, none⟩))), .slice A9 k6.length c9⟩] [none, none, none, none, some (.slice A9 k6.length c9), none] [13, 105, 109, 110] [pl 13 (.int .i64 (w64 (78364164096 + (w64 (Int.tdiv sum2 36))))), pl 105 (.pointer (some ⟨g1, 0, none⟩)), pl 109 (.slice A9 k6.length c9), pl 110 (.int .i64 (w64 (78364164096 + (w64 (Int.tdiv sum2 36)))))] hF hS (by kernel_rfl) (by kernel_rfl) ?_ (fun a w hF hS => ?_)
            · exact obs_cons (ob_load Agg40 (fun _ _ hS => (hS.at_ 0 rfl).cell rfl)) <| obs_nil
            refine at_do (d := 111) (s := vS (Instr.buildSlice 40 1 #[(0, .int .i64 (w64 (78364164096 + (w64 (Int.tdiv sum2 36)))))])) (v := .slice (some ⟨w.heap.size, 0, none⟩) 1 1) (w' := w.alloc (.cells #[.int .i64 (w64 (78364164096 + (w64 (Int.tdiv sum2 36))))] 3)) hF (by kernel_rfl) (by kernel_rfl) (by kernel_rfl) (fun a hF => ?_)
            have hS : Sep w0 B (w.alloc (.cells #[.int .i64 (w64 (78364164096 + (w64 (Int.tdiv sum2 36))))] 3)) (own 3 (.slice (some (⟨w.heap.size, 0, none⟩ : Addr)) 1 1) (vI ([w64 (78364164096 + (w64 (Int.tdiv sum2 36)))] : List Int)) :: (blk g1 140 #[.slice A25 k13.length c25, .slice A9 k6.length c9] :: rows 40 3 (.slice A25 k13.length c25) hd11 k13 :: own 3 (.slice A9 k6.length c9) (vI k6) :: fs)) := hS.lit 3 #[.int .i64 (w64 (78364164096 + (w64 (Int.tdiv sum2 36))))] 1 rfl (by omega)
            generalize (some (⟨w.heap.size, 0, none⟩ : Addr)) = g6 at hF hS
            generalize w.alloc (.cells #[.int .i64 (w64 (78364164096 + (w64 (Int.tdiv sum2 36))))] 3) = w at hS ⊢
            obtain ⟨A26, c26, w, hrun, hS⟩ := run_app1 (P := Try.prog) (t := 40) (m := k6) (ys := ([w64 (78364164096 + (w64 (Int.tdiv sum2 36)))] : List Int)) (A2 := g6) (m2 := 1) (c2 := 1) (Value.int .i64) (0 : Int) (hS.at_ 3 rfl) (hS.at_ 0 rfl).rd ((hS.at_ 0 rfl).len1) 40 Und40 hi3 hz3 hs3 (by omega) rfl (fun _ => rfl) hp5
            have hS : Sep w0 B w (own 3 (.slice g6 1 1) (vI ([w64 (78364164096 + (w64 (Int.tdiv sum2 36)))] : List Int)) :: blk g1 140 #[.slice A25 k13.length c25, .slice A9 k6.length c9] :: rows 40 3 (.slice A25 k13.length c25) hd11 k13 :: own 3 (.slice A26 ((k6 ++ ([w64 (78364164096 + (w64 (Int.tdiv sum2 36)))] : List Int)).length) c26) (vI (k6 ++ ([w64 (78364164096 + (w64 (Int.tdiv sum2 36)))] : List Int))) :: fs) := hS
            refine at_do (d := 112) hF (by kernel_rfl) (by kernel_rfl) hrun (fun a hF => ?_)
            refine at_run 2 [] [] [13, 112, 114] [pl 13 (.int .i64 (w64 (78364164096 + (w64 (Int.tdiv sum2 36))))), pl 112 (.slice A26 ((k6 ++ ([w64 (78364164096 + (w64 (Int.tdiv sum2 36)))] : List Int)).length) c26), pl 114 (.pointer (some ⟨g1, 1, none⟩))] hF hS (by kernel_rfl) (by kernel_rfl) ?_ (fun a w hF hS => ?_)
            · exact obs_nil
            obtain ⟨w, hrun, hS⟩ := run_put (P := Try.prog) (t := 40) (u := .slice A26 ((k6 ++ ([w64 (78364164096 + (w64 (Int.tdiv sum2 36)))] : List Int)).length) c26) (i := 1) (hS.at_ 1 rfl) hi40 hs40 rfl (Nat.lt_of_lt_of_eq (Nat.lt_of_succ_le (Nat.le_of_ble_eq_true (by kernel_rfl))) rfl)
            refine at_skip hF (by kernel_rfl) hrun ?_
            have hS : Sep w0 B w (own 3 (.slice g6 1 1) (vI ([w64 (78364164096 + (w64 (Int.tdiv sum2 36)))] : List Int)) :: blk g1 140 #[.slice A25 k13.length c25, .slice A26 ((k6 ++ ([w64 (78364164096 + (w64 (Int.tdiv sum2 36)))] : List Int)).length) c26] :: rows 40 3 (.slice A25 k13.length c25) hd11 k13 :: own 3 (.slice A26 ((k6 ++ ([w64 (78364164096 + (w64 (Int.tdiv sum2 36)))] : List Int)).length) c26) (vI (k6 ++ ([w64 (78364164096 + (w64 (Int.tdiv sum2 36)))] : List Int))) :: fs) := hS
            refine at_end [13] [pl 13 (.int .i64 (w64 (78364164096 + (w64 (Int.tdiv sum2 36)))))] hF rfl (by kernel_rfl) (fun hF => ?_)
            refine then_n ?_
            refine reg [] [] [4] [pl 4 (.int .i64 (w64 (78364164096 + (w64 (Int.tdiv sum2 36)))))] hF hS Fol (by kernel_rfl) (by kernel_rfl) (by kernel_rfl) ?_ (fun a w hF hS => ?_)
            · exact obs_nil
            refine wpIn_ret ?_
            have hS := hS.pickN 4 [1, 2, 3] (by decide)
            have hm : some ((w64 (78364164096 + (w64 (Int.tdiv sum2 36)))), k13, (k6 ++ ([w64 (78364164096 + (w64 (Int.tdiv sum2 36)))] : List Int))) = some r := hm
            obtain rfl := Option.some.inj hm
            exact retV (rs := [.tmp 4]) (vs := [.int .i64 (w64 (78364164096 + (w64 (Int.tdiv sum2 36))))]) hF rfl (rv_t (by kernel_rfl) <| rv_nil) rfl ⟨_, rfl, A25, c25, hd11, A26, c26, rfl, hS⟩
          · obtain ⟨r5, hr5, hm⟩ := call_b hm
            obtain ⟨hp4, hm⟩ := asrt_b hm
            refine regMix5 [0, 1, 2, 3, 4, 5] [8, 11] 6 #[true, true, true, true, true, true, false, false, false, false, false, false] [⟨false, [], vS (Instr.loadAt 125 (.pointer (some ⟨g1, 0, none⟩))), .slice A8 k5.length c8⟩] [none, none, none, none, some (.slice A8 k5.length c8), none] [0, 13, 94, 98, 99] [pl 0 (.pointer (some ⟨g1, 0, none⟩)), pl 13 (.int .i64 (w64 (78364164096 + (w64 (Int.tdiv sum2 36))))), pl 94 (.pointer (some ⟨g1, 0, none⟩)), pl 98 (.slice A8 k5.length c8), pl 99 (.slice A3 men1.length c3)] hF hS Fol (by kernel_rfl) (by kernel_rfl) (by kernel_rfl) (by kernel_rfl) ?_ (fun a w hF hS => ?_)
            · exact obs_cons (ob_load Agg125 (fun _ _ hS => (hS.at_ 0 rfl).cell rfl)) <| obs_nil
            refine any_step [6] (by kernel_rfl) rfl ?_
            refine (all_cons ?_ all_nil)
            · refine any_op (listed' := #[true, true, true, true, true, true, true, false, false, false, false, false]) (by kernel_rfl) (by kernel_rfl) ?_
              refine at_call (f := 93) (args := #[.slice A3 men1.length c3]) (d := 100) hF (by kernel_rfl) (by kernel_rfl) Try.func93 (by kernel_rfl) rfl (gameroomref_Ints_w hr5 hS (fun _ hS => (hr_men1 _ (hS.dropN 3))) _hc_men1 rfl) (fun v a w hR hF => ?_)
              clear hS
              obtain ⟨A24, c24, rfl, hS⟩ := hR
              have hS : Sep w0 B w (own 3 (.slice A24 r5.length c24) (vI r5) :: blk g1 140 #[.slice A8 k5.length c8, .slice A9 k6.length c9] :: rows 40 3 (.slice A8 k5.length c8) hd4 k5 :: own 3 (.slice A9 k6.length c9) (vI k6) :: fs) := hS
              refine any_fin rfl (hS.pickN 4 [1, 2, 3] (by decide)) ?_
              refine any_step [7] (by kernel_rfl) rfl ?_
              refine (all_cons ?_ all_nil)
              · refine any_op (listed' := #[true, true, true, true, true, true, true, true, false, false, false, false]) (by kernel_rfl) (by kernel_rfl) ?_
                refine at_do (d := 101) (s := vS (Instr.buildSlice 125 1 #[(0, .slice A24 r5.length c24)])) (v := .slice (some ⟨w.heap.size, 0, none⟩) 1 1) (w' := w.alloc (.cells #[.slice A24 r5.length c24] 40)) hF (by kernel_rfl) (by kernel_rfl) (by kernel_rfl) (fun a hF => ?_)
                have hS : Sep w0 B (w.alloc (.cells #[.slice A24 r5.length c24] 40)) (own 40 (.slice (some (⟨w.heap.size, 0, none⟩ : Addr)) 1 1) [.slice A24 r5.length c24] :: (own 3 (.slice A24 r5.length c24) (vI r5) :: blk g1 140 #[.slice A8 k5.length c8, .slice A9 k6.length c9] :: rows 40 3 (.slice A8 k5.length c8) hd4 k5 :: own 3 (.slice A9 k6.length c9) (vI k6) :: fs)) := hS.lit 40 #[.slice A24 r5.length c24] 1 rfl (by omega)
                generalize (some (⟨w.heap.size, 0, none⟩ : Addr)) = g5 at hF hS
                generalize w.alloc (.cells #[.slice A24 r5.length c24] 40) = w at hS ⊢
                refine any_fin rfl (hS.pickN 5 [2, 3, 4] (by decide)) ?_
                refine any_step [8] (by kernel_rfl) rfl ?_
                refine (all_cons ?_ all_nil)
                · refine any_op (listed' := #[true, true, true, true, true, true, true, true, true, false, false, false]) (by kernel_rfl) (by kernel_rfl) ?_
                  have hS := hS.pickN 5 [1, 0, 2, 3, 4] (by decide)
                  have hS : Sep w0 B w (own 3 (.slice A24 r5.length c24) (vI r5) :: own 40 (.slice g5 1 1) [.slice A24 r5.length c24] :: blk g1 140 #[.slice A8 k5.length c8, .slice A9 k6.length c9] :: rows 40 3 (.slice A8 k5.length c8) hd4 k5 :: own 3 (.slice A9 k6.length c9) (vI k6) :: fs) := hS
                  obtain ⟨A23, c23, w, hrun, hS⟩ := run_appRow (P := Try.prog) (t := 125) (A2 := g5) (c2 := 1) (hS.at2 2 rfl) (hS.at_ 1 rfl).rd 125 Und125 hi40 hz40 hs40 hb40 hp4
                  have hS : Sep w0 B w (own 40 (.slice g5 1 1) [.slice A24 r5.length c24] :: blk g1 140 #[.slice A8 k5.length c8, .slice A9 k6.length c9] :: rows 40 3 (.slice A23 ((k5 ++ [r5]).length) c23) (hd4 ++ [(A24, c24)]) (k5 ++ [r5]) :: own 3 (.slice A9 k6.length c9) (vI k6) :: fs) := hS
                  refine at_do (d := 102) hF (by kernel_rfl) (by kernel_rfl) hrun (fun a hF => ?_)
                  refine any_finE rfl (by decide) ?_
                  refine any_step [9] (by kernel_rfl) rfl ?_
                  refine (all_cons ?_ all_nil)
                  · refine any_op (listed' := #[true, true, true, true, true, true, true, true, true, true, false, false]) (by kernel_rfl) (by kernel_rfl) ?_
                    refine at_runW 1 [] [] [0, 13, 102, 103] [pl 0 (.pointer (some ⟨g1, 0, none⟩)), pl 13 (.int .i64 (w64 (78364164096 + (w64 (Int.tdiv sum2 36))))), pl 102 (.slice A23 ((k5 ++ [r5]).length) c23), pl 103 (.pointer (some ⟨g1, 0, none⟩))] hF hS (by kernel_rfl) (by kernel_rfl) ?_ (fun a hF => ?_)
                    · exact obs_nil
                    refine any_finI rfl (fun h => h) ?_
                    refine any_step [10] (by kernel_rfl) rfl ?_
                    refine (all_cons ?_ all_nil)
                    · refine any_op (listed' := #[true, true, true, true, true, true, true, true, true, true, true, false]) (by kernel_rfl) (by kernel_rfl) ?_
                      refine at_runW 1 [] [] [0, 13, 102, 104] [pl 0 (.pointer (some ⟨g1, 0, none⟩)), pl 13 (.int .i64 (w64 (78364164096 + (w64 (Int.tdiv sum2 36))))), pl 102 (.slice A23 ((k5 ++ [r5]).length) c23), pl 104 (.pointer (some ⟨g1, 0, none⟩))] hF hS (by kernel_rfl) (by kernel_rfl) ?_ (fun a hF => ?_)
                      · exact obs_nil
                      refine any_finI rfl (fun h => h) ?_
                      refine any_step [11] (by kernel_rfl) rfl ?_
                      refine (all_cons ?_ all_nil)
                      · refine any_op (listed' := #[true, true, true, true, true, true, true, true, true, true, true, true]) (by kernel_rfl) (by kernel_rfl) ?_
                        obtain ⟨w, hrun, hS⟩ := run_put (P := Try.prog) (t := 125) (u := .slice A23 ((k5 ++ [r5]).length) c23) (i := 0) (hS.at_ 1 rfl) hi125 hs125 rfl (Nat.lt_of_lt_of_eq (Nat.lt_of_succ_le (Nat.le_of_ble_eq_true (by kernel_rfl))) rfl)
                        refine at_skip hF (by kernel_rfl) hrun ?_
                        have hS : Sep w0 B w (own 40 (.slice g5 1 1) [.slice A24 r5.length c24] :: blk g1 140 #[.slice A23 ((k5 ++ [r5]).length) c23, .slice A9 k6.length c9] :: rows 40 3 (.slice A23 ((k5 ++ [r5]).length) c23) (hd4 ++ [(A24, c24)]) (k5 ++ [r5]) :: own 3 (.slice A9 k6.length c9) (vI k6) :: fs) := hS
                        refine any_finE rfl (by decide) ?_
                        refine any_end (by kernel_rfl) ?_
                        refine np_n ?_
                        refine then_n ?_
                        have hS := hS.pickN 4 [1, 2, 3] (by decide)
                        exact ⟨(k5 ++ [r5]), A23, c23, (hd4 ++ [(A24, c24)]), hF.weak [0, 13] (by kernel_rfl), hS, hm⟩
        · refine reg [] [] [0, 1, 8, 9] [pl 0 (.pointer (some ⟨g1, 0, none⟩)), pl 1 (.slice A3 men1.length c3), pl 8 (.int .i64 0), pl 9 (.int .i64 1)] hF hS Fol (by kernel_rfl) (by kernel_rfl) (by kernel_rfl) ?_ (fun a w hF hS => ?_)
          · exact obs_nil
          refine wpIn_block ?_
          refine wp_loop_model (S := (List (List Int) × List Int × Int × Int)) (R := (List (List Int) × List Int × Int)) (gameroomref_known_of_L3 rec_gameroomref_known_of men1) (fun x => ((gameroomref_known_of_K3 men1) x).bind some) r (fun (x : (List (List Int) × List Int × Int × Int)) a w => ∃ (A6 : Option Addr) (c6 : Nat) (hd3 : List Hd) (A7 : Option Addr) (c7 : Nat), Fr 116 [pl 0 (.pointer (some ⟨g1, 0, none⟩)), pl 1 (.slice A3 men1.length c3), pl 8 (.int .i64 x.2.2.1), pl 9 (.int .i64 x.2.2.2)] a ∧ Sep w0 B w (blk g1 140 #[.slice A6 x.1.length c6, .slice A7 x.2.1.length c7] :: rows 40 3 (.slice A6 x.1.length c6) hd3 x.1 :: own 3 (.slice A7 x.2.1.length c7) (vI x.2.1) :: fs)) (assoc_b hm) ⟨A1, c1, hd1, A2, c2, hF.weak [0, 1, 8, 9] (by kernel_rfl), hS⟩ ?_
          clear hF hS hm
          rintro nn3 ⟨k3, k4, sum1, x1⟩ a w ⟨A6, c6, hd3, A7, c7, hF, hS⟩ hm
          generalize hφ3 : stK (gameroomref_known_of_L3 rec_gameroomref_known_of men1) nn3 (fun x => ((gameroomref_known_of_K3 men1) x).bind some) = φ3 at hm
          unfold gameroomref_known_of_L3 at hm
          dsimp only at hF hS hm
          refine seq_cut (fun a w => Fr 116 [pl 0 (.pointer (some ⟨g1, 0, none⟩)), pl 1 (.slice A3 men1.length c3), pl 8 (.int .i64 sum1), pl 9 (.int .i64 x1)] a ∧ Sep w0 B w (blk g1 140 #[.slice A6 k3.length c6, .slice A7 k4.length c7] :: rows 40 3 (.slice A6 k3.length c6) hd3 k3 :: own 3 (.slice A7 k4.length c7) (vI k4) :: fs) ∧ ((gameroomref_known_of_J9 rec_gameroomref_known_of men1 k3 k4 sum1 x1)).bind φ3 = some r) ?_ ?_
          · rintro a w ⟨hF, hS, hm⟩
            unfold gameroomref_known_of_J9 at hm
            refine seq_cut (fun a w => ∃ (k9 : List (List Int)) (k10 : List Int) (sum4 : Int) (A12 : Option Addr) (c12 : Nat) (hd6 : List Hd) (A13 : Option Addr) (c13 : Nat), Fr 116 [pl 0 (.pointer (some ⟨g1, 0, none⟩)), pl 1 (.slice A3 men1.length c3), pl 8 (.int .i64 sum4), pl 9 (.int .i64 x1)] a ∧ Sep w0 B w (blk g1 140 #[.slice A12 k9.length c12, .slice A13 k10.length c13] :: rows 40 3 (.slice A12 k9.length c12) hd6 k9 :: own 3 (.slice A13 k10.length c13) (vI k10) :: fs) ∧ ((gameroomref_known_of_J10 x1) k9 k10 sum4).bind φ3 = some r) ?_ ?_
            · rintro a w ⟨k9, k10, sum4, A12, c12, hd6, A13, c13, hF, hS, hm⟩
              unfold gameroomref_known_of_J10 at hm
              refine reg1 [] [] [0, 1, 8, 9] [pl 0 (.pointer (some ⟨g1, 0, none⟩)), pl 1 (.slice A3 men1.length c3), pl 8 (.int .i64 sum4), pl 9 (.int .i64 (w64 (x1 + 1)))] hF hS Fol (by kernel_rfl) (by kernel_rfl) (by kernel_rfl) ?_ (fun a w hF hS => ?_)
              · exact obs_nil
              refine then_n ?_
              rw [← hφ3] at hm
              exact ⟨(k9, k10, sum4, (w64 (x1 + 1))), ⟨A12, c12, hd6, A13, c13, hF.weak [0, 1, 8, 9] (by kernel_rfl), hS⟩, hm⟩
            · refine wpIn_block ?_
              refine reg [] [] [0, 1, 8, 9, 10] [pl 0 (.pointer (some ⟨g1, 0, none⟩)), pl 1 (.slice A3 men1.length c3), pl 8 (.int .i64 sum1), pl 9 (.int .i64 x1), pl 10 (.int .i64 1)] hF hS Fol (by kernel_rfl) (by kernel_rfl) (by kernel_rfl) ?_ (fun a w hF hS => ?_)
              · exact obs_nil
              refine wpIn_block ?_
              refine wp_loop_model (S := (List (List Int) × List Int × Int × Int)) (R := (List (List Int) × List Int × Int)) (gameroomref_known_of_L4 rec_gameroomref_known_of men1 x1) (fun x => ((gameroomref_known_of_K4 x1) x).bind φ3) r (fun (x : (List (List Int) × List Int × Int × Int)) a w => ∃ (A10 : Option Addr) (c10 : Nat) (hd5 : List Hd) (A11 : Option Addr) (c11 : Nat), Fr 116 [pl 0 (.pointer (some ⟨g1, 0, none⟩)), pl 1 (.slice A3 men1.length c3), pl 8 (.int .i64 x.2.2.1), pl 9 (.int .i64 x1), pl 10 (.int .i64 x.2.2.2)] a ∧ Sep w0 B w (blk g1 140 #[.slice A10 x.1.length c10, .slice A11 x.2.1.length c11] :: rows 40 3 (.slice A10 x.1.length c10) hd5 x.1 :: own 3 (.slice A11 x.2.1.length c11) (vI x.2.1) :: fs)) (assoc_b hm) ⟨A6, c6, hd3, A7, c7, hF.weak [0, 1, 8, 9, 10] (by kernel_rfl), hS⟩ ?_
              clear hF hS hm
              rintro nn4 ⟨k7, k8, sum3, y1⟩ a w ⟨A10, c10, hd5, A11, c11, hF, hS⟩ hm
              generalize hφ4 : stK (gameroomref_known_of_L4 rec_gameroomref_known_of men1 x1) nn4 (fun x => ((gameroomref_known_of_K4 x1) x).bind φ3) = φ4 at hm
              unfold gameroomref_known_of_L4 at hm
              dsimp only at hF hS hm
              refine seq_cut (fun a w => Fr 116 [pl 0 (.pointer (some ⟨g1, 0, none⟩)), pl 1 (.slice A3 men1.length c3), pl 8 (.int .i64 sum3), pl 9 (.int .i64 x1), pl 10 (.int .i64 y1)] a ∧ Sep w0 B w (blk g1 140 #[.slice A10 k7.length c10, .slice A11 k8.length c11] :: rows 40 3 (.slice A10 k7.length c10) hd5 k7 :: own 3 (.slice A11 k8.length c11) (vI k8) :: fs) ∧ ((gameroomref_known_of_J11 rec_gameroomref_known_of men1 x1 k7 k8 sum3 y1)).bind φ4 = some r) ?_ ?_
              · rintro a w ⟨hF, hS, hm⟩
                unfold gameroomref_known_of_J11 at hm
                refine seq_cut (fun a w => ∃ (k11 : List (List Int)) (k12 : List Int) (sum5 : Int) (A16 : Option Addr) (c16 : Nat) (hd8 : List Hd) (A17 : Option Addr) (c17 : Nat), Fr 116 [pl 0 (.pointer (some ⟨g1, 0, none⟩)), pl 1 (.slice A3 men1.length c3), pl 8 (.int .i64 sum5), pl 9 (.int .i64 x1), pl 10 (.int .i64 y1)] a ∧ Sep w0 B w (blk g1 140 #[.slice A16 k11.length c16, .slice A17 k12.length c17] :: rows 40 3 (.slice A16 k11.length c16) hd8 k11 :: own 3 (.slice A17 k12.length c17) (vI k12) :: fs) ∧ ((gameroomref_known_of_J12 y1) k11 k12 sum5).bind φ4 = some r) ?_ ?_
                · rintro a w ⟨k11, k12, sum5, A16, c16, hd8, A17, c17, hF, hS, hm⟩
                  unfold gameroomref_known_of_J12 at hm
                  refine reg1 [] [] [0, 1, 8, 9, 10] [pl 0 (.pointer (some ⟨g1, 0, none⟩)), pl 1 (.slice A3 men1.length c3), pl 8 (.int .i64 sum5), pl 9 (.int .i64 x1), pl 10 (.int .i64 (w64 (y1 + 1)))] hF hS Fol (by kernel_rfl) (by kernel_rfl) (by kernel_rfl) ?_ (fun a w hF hS => ?_)
                  · exact obs_nil
                  refine then_n ?_
                  rw [← hφ4] at hm
                  exact ⟨(k11, k12, sum5, (w64 (y1 + 1))), ⟨A16, c16, hd8, A17, c17, hF.weak [0, 1, 8, 9, 10] (by kernel_rfl), hS⟩, hm⟩
                · refine wpIn_block ?_
                  refine seq_cut (fun a w => Fr 116 [pl 0 (.pointer (some ⟨g1, 0, none⟩)), pl 1 (.slice A3 men1.length c3), pl 8 (.int .i64 sum3), pl 9 (.int .i64 x1), pl 10 (.int .i64 y1)] a ∧ Sep w0 B w (blk g1 140 #[.slice A10 k7.length c10, .slice A11 k8.length c11] :: rows 40 3 (.slice A10 k7.length c10) hd5 k7 :: own 3 (.slice A11 k8.length c11) (vI k8) :: fs) ∧ ((gameroomref_known_of_J13 rec_gameroomref_known_of men1 x1 k7 k8 sum3 y1)).bind φ4 = some r) ?_ ?_
                  · rintro a w ⟨hF, hS, hm⟩
                    unfold gameroomref_known_of_J13 at hm
                    refine seqR ?_
                    obtain ⟨r3, hr3, hm⟩ := call_b hm
                    obtain ⟨r4, hr4, hm⟩ := call_b hm
                    refine at_run 4 [] [] [0, 1, 8, 9, 10, 72, 73, 74, 75] [pl 0 (.pointer (some ⟨g1, 0, none⟩)), pl 1 (.slice A3 men1.length c3), pl 8 (.int .i64 sum3), pl 9 (.int .i64 x1), pl 10 (.int .i64 y1), pl 72 (.pointer (some ⟨g1, 0, none⟩)), pl 73 (.slice A3 men1.length c3), pl 74 (.int .i64 x1), pl 75 (.int .i64 y1)] hF hS (by kernel_rfl) (by kernel_rfl) ?_ (fun a w hF hS => ?_)
                    · exact obs_nil
                    refine at_do (d := 76) (s := vS (Instr.buildSlice 40 2 #[(0, .int .i64 x1), (1, .int .i64 y1)])) (v := .slice (some ⟨w.heap.size, 0, none⟩) 2 2) (w' := w.alloc (.cells #[.int .i64 x1, .int .i64 y1] 3)) hF (by kernel_rfl) (by kernel_rfl) (by kernel_rfl) (fun a hF => ?_)
                    have hS : Sep w0 B (w.alloc (.cells #[.int .i64 x1, .int .i64 y1] 3)) (own 3 (.slice (some (⟨w.heap.size, 0, none⟩ : Addr)) 2 2) (vI ([x1, y1] : List Int)) :: (blk g1 140 #[.slice A10 k7.length c10, .slice A11 k8.length c11] :: rows 40 3 (.slice A10 k7.length c10) hd5 k7 :: own 3 (.slice A11 k8.length c11) (vI k8) :: fs)) := hS.lit 3 #[.int .i64 x1, .int .i64 y1] 2 rfl (by omega)
                    generalize (some (⟨w.heap.size, 0, none⟩ : Addr)) = g3 at hF hS
                    generalize w.alloc (.cells #[.int .i64 x1, .int .i64 y1] 3) = w at hS ⊢
                    have hS : Sep w0 B w (blk g1 140 #[.slice A10 k7.length c10, .slice A11 k8.length c11] :: rows 40 3 (.slice A10 k7.length c10) hd5 k7 :: own 3 (.slice A11 k8.length c11) (vI k8) :: own 3 (.slice g3 2 2) (vI ([x1, y1] : List Int)) :: fs) := hS.pickN 4 [1, 2, 3, 0] (by decide)
                    refine at_call (f := 138) (args := #[.pointer (some ⟨g1, 0, none⟩), .slice A3 men1.length c3, .slice g3 2 2]) (d := 77) hF (by kernel_rfl) (by kernel_rfl) Try.func138 (by kernel_rfl) rfl (gameroomref_known_least_w ih_gameroomref_known_of hr3 hS (fun _ hS => (hr_men1 _ (hS.dropN 1))) _hc_men1 rfl (fun _ hS => (hS.at_ 0 rfl).rd) (((hS.dropN 3).at_ 0 rfl).cap1) (((hS.dropN 3).at_ 0 rfl).len1)) (fun v a w hR hF => ?_)
                    clear hS
                    obtain ⟨A18, c18, hd9, A19, c19, rfl, hS⟩ := hR
                    have hS : Sep w0 B w (blk g1 140 #[.slice A18 r3.2.1.length c18, .slice A19 r3.2.2.length c19] :: rows 40 3 (.slice A18 r3.2.1.length c18) hd9 r3.2.1 :: own 3 (.slice A19 r3.2.2.length c19) (vI r3.2.2) :: own 3 (.slice g3 2 2) (vI ([x1, y1] : List Int)) :: fs) := hS
                    refine at_run 4 [] [] [0, 1, 8, 9, 10, 77, 78, 79, 80, 81] [pl 0 (.pointer (some ⟨g1, 0, none⟩)), pl 1 (.slice A3 men1.length c3), pl 8 (.int .i64 sum3), pl 9 (.int .i64 x1), pl 10 (.int .i64 y1), pl 77 (.int .i64 r3.1), pl 78 (.pointer (some ⟨g1, 0, none⟩)), pl 79 (.slice A3 men1.length c3), pl 80 (.int .i64 y1), pl 81 (.int .i64 x1)] hF hS (by kernel_rfl) (by kernel_rfl) ?_ (fun a w hF hS => ?_)
                    · exact obs_nil
                    refine at_do (d := 82) (s := vS (Instr.buildSlice 40 2 #[(0, .int .i64 y1), (1, .int .i64 x1)])) (v := .slice (some ⟨w.heap.size, 0, none⟩) 2 2) (w' := w.alloc (.cells #[.int .i64 y1, .int .i64 x1] 3)) hF (by kernel_rfl) (by kernel_rfl) (by kernel_rfl) (fun a hF => ?_)
                    have hS : Sep w0 B (w.alloc (.cells #[.int .i64 y1, .int .i64 x1] 3)) (own 3 (.slice (some (⟨w.heap.size, 0, none⟩ : Addr)) 2 2) (vI ([y1, x1] : List Int)) :: (blk g1 140 #[.slice A18 r3.2.1.length c18, .slice A19 r3.2.2.length c19] :: rows 40 3 (.slice A18 r3.2.1.length c18) hd9 r3.2.1 :: own 3 (.slice A19 r3.2.2.length c19) (vI r3.2.2) :: own 3 (.slice g3 2 2) (vI ([x1, y1] : List Int)) :: fs)) := hS.lit 3 #[.int .i64 y1, .int .i64 x1] 2 rfl (by omega)
                    generalize (some (⟨w.heap.size, 0, none⟩ : Addr)) = g4 at hF hS
                    generalize w.alloc (.cells #[.int .i64 y1, .int .i64 x1] 3) = w at hS ⊢
                    have hS : Sep w0 B w (blk g1 140 #[.slice A18 r3.2.1.length c18, .slice A19 r3.2.2.length c19] :: rows 40 3 (.slice A18 r3.2.1.length c18) hd9 r3.2.1 :: own 3 (.slice A19 r3.2.2.length c19) (vI r3.2.2) :: own 3 (.slice g4 2 2) (vI ([y1, x1] : List Int)) :: own 3 (.slice g3 2 2) (vI ([x1, y1] : List Int)) :: fs) := hS.pickN 5 [1, 2, 3, 0, 4] (by decide)
                    refine at_call (f := 138) (args := #[.pointer (some ⟨g1, 0, none⟩), .slice A3 men1.length c3, .slice g4 2 2]) (d := 83) hF (by kernel_rfl) (by kernel_rfl) Try.func138 (by kernel_rfl) rfl (gameroomref_known_least_w ih_gameroomref_known_of hr4 hS (fun _ hS => (hr_men1 _ (hS.dropN 2))) _hc_men1 rfl (fun _ hS => (hS.at_ 0 rfl).rd) (((hS.dropN 3).at_ 0 rfl).cap1) (((hS.dropN 3).at_ 0 rfl).len1)) (fun v a w hR hF => ?_)
                    clear hS
                    obtain ⟨A20, c20, hd10, A21, c21, rfl, hS⟩ := hR
                    have hS : Sep w0 B w (blk g1 140 #[.slice A20 r4.2.1.length c20, .slice A21 r4.2.2.length c21] :: rows 40 3 (.slice A20 r4.2.1.length c20) hd10 r4.2.1 :: own 3 (.slice A21 r4.2.2.length c21) (vI r4.2.2) :: own 3 (.slice g4 2 2) (vI ([y1, x1] : List Int)) :: own 3 (.slice g3 2 2) (vI ([x1, y1] : List Int)) :: fs) := hS
                    refine at_run 2 [] [] [0, 1, 8, 9, 10, 11, 12] [pl 0 (.pointer (some ⟨g1, 0, none⟩)), pl 1 (.slice A3 men1.length c3), pl 8 (.int .i64 sum3), pl 9 (.int .i64 x1), pl 10 (.int .i64 y1), pl 11 (.int .i64 r3.1), pl 12 (.int .i64 r4.1)] hF hS (by kernel_rfl) (by kernel_rfl) ?_ (fun a w hF hS => ?_)
                    · exact obs_nil
                    refine at_end [0, 1, 8, 9, 10, 11, 12] [pl 0 (.pointer (some ⟨g1, 0, none⟩)), pl 1 (.slice A3 men1.length c3), pl 8 (.int .i64 sum3), pl 9 (.int .i64 x1), pl 10 (.int .i64 y1), pl 11 (.int .i64 r3.1), pl 12 (.int .i64 r4.1)] hF rfl (by kernel_rfl) (fun hF => ?_)
                    refine then_n ?_
                    refine seq_cut (fun a w => ∃ (a1 : Int), Fr 116 [pl 0 (.pointer (some ⟨g1, 0, none⟩)), pl 1 (.slice A3 men1.length c3), pl 8 (.int .i64 sum3), pl 9 (.int .i64 x1), pl 10 (.int .i64 y1), pl 11 (.int .i64 a1)] a ∧ Sep w0 B w (blk g1 140 #[.slice A20 r4.2.1.length c20, .slice A21 r4.2.2.length c21] :: rows 40 3 (.slice A20 r4.2.1.length c20) hd10 r4.2.1 :: own 3 (.slice A21 r4.2.2.length c21) (vI r4.2.2) :: fs) ∧ ((gameroomref_known_of_J14 sum3 y1 r4) a1).bind φ4 = some r) ?_ ?_
                    · rintro a w ⟨a1, hF, hS, hm⟩
                      unfold gameroomref_known_of_J14 at hm
                      refine reg1 [] [] [0, 1, 8, 9, 10] [pl 0 (.pointer (some ⟨g1, 0, none⟩)), pl 1 (.slice A3 men1.length c3), pl 8 (.int .i64 (w64 (sum3 + a1))), pl 9 (.int .i64 x1), pl 10 (.int .i64 y1)] hF hS Fol (by kernel_rfl) (by kernel_rfl) (by kernel_rfl) ?_ (fun a w hF hS => ?_)
                      · exact obs_nil
                      refine block_n ?_
                      refine then_n ?_
                      exact ⟨r4.2.1, r4.2.2, (w64 (sum3 + a1)), A20, c20, hd10, A21, c21, hF.weak [0, 1, 8, 9, 10] (by kernel_rfl), hS, hm⟩
                    · refine reg [] [] [0, 1, 8, 9, 10, 11, 12, 86] [pl 0 (.pointer (some ⟨g1, 0, none⟩)), pl 1 (.slice A3 men1.length c3), pl 8 (.int .i64 sum3), pl 9 (.int .i64 x1), pl 10 (.int .i64 y1), pl 11 (.int .i64 r3.1), pl 12 (.int .i64 r4.1), pl 86 (.bool (decide (r4.1 < r3.1)))] hF hS Fol (by kernel_rfl) (by kernel_rfl) (by kernel_rfl) ?_ (fun a w hF hS => ?_)
                      · exact obs_nil
                      refine cond_ev (t := 86) (b := decide (r4.1 < r3.1)) hF (by kernel_rfl) (fun hb => ?_) (fun hb => ?_)
                      · replace hm := if_t hm hb
                        refine reg1 [] [] [0, 1, 8, 9, 10, 11] [pl 0 (.pointer (some ⟨g1, 0, none⟩)), pl 1 (.slice A3 men1.length c3), pl 8 (.int .i64 sum3), pl 9 (.int .i64 x1), pl 10 (.int .i64 y1), pl 11 (.int .i64 r4.1)] hF hS Fol (by kernel_rfl) (by kernel_rfl) (by kernel_rfl) ?_ (fun a w hF hS => ?_)
                        · exact obs_nil
                        refine then_n ?_
                        have hS := hS.pickN 5 [0, 1, 2] (by decide)
                        exact ⟨r4.1, hF.weak [0, 1, 8, 9, 10, 11] (by kernel_rfl), hS, hm⟩
                      · replace hm := if_f hm hb
                        refine wpIn_skip ?_
                        refine then_n ?_
                        have hS := hS.pickN 5 [0, 1, 2] (by decide)
                        exact ⟨r3.1, hF.weak [0, 1, 8, 9, 10, 11] (by kernel_rfl), hS, hm⟩
                  · refine reg [] [] [0, 1, 8, 9, 10, 61] [pl 0 (.pointer (some ⟨g1, 0, none⟩)), pl 1 (.slice A3 men1.length c3), pl 8 (.int .i64 sum3), pl 9 (.int .i64 x1), pl 10 (.int .i64 y1), pl 61 (.bool (x1 == y1))] hF hS Fol (by kernel_rfl) (by kernel_rfl) (by kernel_rfl) ?_ (fun a w hF hS => ?_)
                    · exact obs_nil
                    refine cond_ev (t := 61) (b := (x1 == y1)) hF (by kernel_rfl) (fun hb => ?_) (fun hb => ?_)
                    · replace hm := if_t hm hb
                      refine seqR ?_
                      obtain ⟨r2, hr2, hm⟩ := call_b hm
                      refine at_run 7 [] [] [0, 1, 9, 10, 62, 63, 64, 65, 66, 67, 68] [pl 0 (.pointer (some ⟨g1, 0, none⟩)), pl 1 (.slice A3 men1.length c3), pl 9 (.int .i64 x1), pl 10 (.int .i64 y1), pl 62 (.int .i64 sum3), pl 63 (.pointer (some ⟨g1, 0, none⟩)), pl 64 (.slice A3 men1.length c3), pl 65 (.int .i64 x1), pl 66 (.int .i64 x1), pl 67 (.int .i64 x1), pl 68 (.int .i64 x1)] hF hS (by kernel_rfl) (by kernel_rfl) ?_ (fun a w hF hS => ?_)
                      · exact obs_nil
                      refine at_do (d := 69) (s := vS (Instr.buildSlice 40 4 #[(0, .int .i64 x1), (1, .int .i64 x1), (2, .int .i64 x1), (3, .int .i64 x1)])) (v := .slice (some ⟨w.heap.size, 0, none⟩) 4 4) (w' := w.alloc (.cells #[.int .i64 x1, .int .i64 x1, .int .i64 x1, .int .i64 x1] 3)) hF (by kernel_rfl) (by kernel_rfl) (by kernel_rfl) (fun a hF => ?_)
                      have hS : Sep w0 B (w.alloc (.cells #[.int .i64 x1, .int .i64 x1, .int .i64 x1, .int .i64 x1] 3)) (own 3 (.slice (some (⟨w.heap.size, 0, none⟩ : Addr)) 4 4) (vI ([x1, x1, x1, x1] : List Int)) :: (blk g1 140 #[.slice A10 k7.length c10, .slice A11 k8.length c11] :: rows 40 3 (.slice A10 k7.length c10) hd5 k7 :: own 3 (.slice A11 k8.length c11) (vI k8) :: fs)) := hS.lit 3 #[.int .i64 x1, .int .i64 x1, .int .i64 x1, .int .i64 x1] 4 rfl (by omega)
                      generalize (some (⟨w.heap.size, 0, none⟩ : Addr)) = g2 at hF hS
                      generalize w.alloc (.cells #[.int .i64 x1, .int .i64 x1, .int .i64 x1, .int .i64 x1] 3) = w at hS ⊢
                      have hS : Sep w0 B w (blk g1 140 #[.slice A10 k7.length c10, .slice A11 k8.length c11] :: rows 40 3 (.slice A10 k7.length c10) hd5 k7 :: own 3 (.slice A11 k8.length c11) (vI k8) :: own 3 (.slice g2 4 4) (vI ([x1, x1, x1, x1] : List Int)) :: fs) := hS.pickN 4 [1, 2, 3, 0] (by decide)
                      refine at_call (f := 138) (args := #[.pointer (some ⟨g1, 0, none⟩), .slice A3 men1.length c3, .slice g2 4 4]) (d := 70) hF (by kernel_rfl) (by kernel_rfl) Try.func138 (by kernel_rfl) rfl (gameroomref_known_least_w ih_gameroomref_known_of hr2 hS (fun _ hS => (hr_men1 _ (hS.dropN 1))) _hc_men1 rfl (fun _ hS => (hS.at_ 0 rfl).rd) (((hS.dropN 3).at_ 0 rfl).cap1) (((hS.dropN 3).at_ 0 rfl).len1)) (fun v a w hR hF => ?_)
                      clear hS
                      obtain ⟨A14, c14, hd7, A15, c15, rfl, hS⟩ := hR
                      have hS : Sep w0 B w (blk g1 140 #[.slice A14 r2.2.1.length c14, .slice A15 r2.2.2.length c15] :: rows 40 3 (.slice A14 r2.2.1.length c14) hd7 r2.2.1 :: own 3 (.slice A15 r2.2.2.length c15) (vI r2.2.2) :: own 3 (.slice g2 4 4) (vI ([x1, x1, x1, x1] : List Int)) :: fs) := hS
                      refine at_run 2 [] [] [0, 1, 8, 9, 10] [pl 0 (.pointer (some ⟨g1, 0, none⟩)), pl 1 (.slice A3 men1.length c3), pl 8 (.int .i64 (w64 (sum3 + r2.1))), pl 9 (.int .i64 x1), pl 10 (.int .i64 y1)] hF hS (by kernel_rfl) (by kernel_rfl) ?_ (fun a w hF hS => ?_)
                      · exact obs_nil
                      refine at_end [0, 1, 8, 9, 10] [pl 0 (.pointer (some ⟨g1, 0, none⟩)), pl 1 (.slice A3 men1.length c3), pl 8 (.int .i64 (w64 (sum3 + r2.1))), pl 9 (.int .i64 x1), pl 10 (.int .i64 y1)] hF rfl (by kernel_rfl) (fun hF => ?_)
                      refine then_n ?_
                      refine wpIn_exit ?_
                      refine then_e (block_e (then_n ?_))
                      have hS := hS.pickN 4 [0, 1, 2] (by decide)
                      exact ⟨r2.2.1, r2.2.2, (w64 (sum3 + r2.1)), A14, c14, hd7, A15, c15, hF.weak [0, 1, 8, 9, 10] (by kernel_rfl), hS, hm⟩
                    · replace hm := if_f hm hb
                      refine wpIn_skip ?_
                      refine then_n ?_
                      exact ⟨hF.weak [0, 1, 8, 9, 10] (by kernel_rfl), hS, hm⟩
              · refine reg [] [] [0, 1, 8, 9, 10, 56] [pl 0 (.pointer (some ⟨g1, 0, none⟩)), pl 1 (.slice A3 men1.length c3), pl 8 (.int .i64 sum3), pl 9 (.int .i64 x1), pl 10 (.int .i64 y1), pl 56 (.bool (decide (y1 ≤ 6)))] hF hS Fol (by kernel_rfl) (by kernel_rfl) (by kernel_rfl) ?_ (fun a w hF hS => ?_)
                · exact obs_nil
                refine cond_ev (t := 56) (b := decide (y1 ≤ 6)) hF (by kernel_rfl) (fun hb => ?_) (fun hb => ?_)
                · replace hm := if_t hm hb
                  refine wpIn_skip ?_
                  refine then_n ?_
                  exact ⟨hF.weak [0, 1, 8, 9, 10] (by kernel_rfl), hS, hm⟩
                · replace hm := if_f hm hb
                  refine wpIn_exit ?_
                  refine then_e (then_e (block_e (block_n (then_n ?_))))
                  rw [← hφ4] at hm
                  replace hm := done_b hm
                  unfold gameroomref_known_of_K4 at hm
                  try dsimp only at hm
                  have hm : ((gameroomref_known_of_J10 x1) k7 k8 sum3).bind φ3 = some r := hm
                  exact ⟨k7, k8, sum3, A10, c10, hd5, A11, c11, hF.weak [0, 1, 8, 9] (by kernel_rfl), hS, hm⟩
          · refine reg [] [] [0, 1, 8, 9, 52] [pl 0 (.pointer (some ⟨g1, 0, none⟩)), pl 1 (.slice A3 men1.length c3), pl 8 (.int .i64 sum1), pl 9 (.int .i64 x1), pl 52 (.bool (decide (x1 ≤ 6)))] hF hS Fol (by kernel_rfl) (by kernel_rfl) (by kernel_rfl) ?_ (fun a w hF hS => ?_)
            · exact obs_nil
            refine cond_ev (t := 52) (b := decide (x1 ≤ 6)) hF (by kernel_rfl) (fun hb => ?_) (fun hb => ?_)
            · replace hm := if_t hm hb
              refine wpIn_skip ?_
              refine then_n ?_
              exact ⟨hF.weak [0, 1, 8, 9] (by kernel_rfl), hS, hm⟩
            · replace hm := if_f hm hb
              refine wpIn_exit ?_
              refine then_e (then_e (block_e (then_n ?_)))
              rw [← hφ3] at hm
              replace hm := done_b hm
              unfold gameroomref_known_of_K3 at hm
              try dsimp only at hm
              have hm : ((gameroomref_known_of_J8 men1) k3 k4 sum1).bind some = some r := hm
              exact ⟨k3, k4, sum1, A6, c6, hd3, A7, c7, hF.weak [0, 1, 8] (by kernel_rfl), hS, hm⟩
      · refine reg [] [] [0, 1, 7] [pl 0 (.pointer (some ⟨g1, 0, none⟩)), pl 1 (.slice A3 men1.length c3), pl 7 (.int .i64 0)] hF hS Fol (by kernel_rfl) (by kernel_rfl) (by kernel_rfl) ?_ (fun a w hF hS => ?_)
        · exact obs_nil
        refine wpIn_block ?_
        refine wp_loop_model (S := Int) (R := (Fl Unit (Int × List (List Int) × List Int))) (gameroomref_known_of_L2 k_men1 k_mean1 men1) (fun x => ((gameroomref_known_of_K2 rec_gameroomref_known_of k_men1 k_mean1 men1) x).bind some) r (fun (x : Int) a w => Fr 116 [pl 0 (.pointer (some ⟨g1, 0, none⟩)), pl 1 (.slice A3 men1.length c3), pl 7 (.int .i64 x)] a ∧ Sep w0 B w (blk g1 140 #[.slice A1 k_men1.length c1, .slice A2 k_mean1.length c2] :: rows 40 3 (.slice A1 k_men1.length c1) hd1 k_men1 :: own 3 (.slice A2 k_mean1.length c2) (vI k_mean1) :: fs)) (assoc_b hm) ⟨hF.weak [0, 1, 7] (by kernel_rfl), hS⟩ ?_
        clear hF hS hm
        rintro nn2 i2 a w ⟨hF, hS⟩ hm
        generalize hφ2 : stK (gameroomref_known_of_L2 k_men1 k_mean1 men1) nn2 (fun x => ((gameroomref_known_of_K2 rec_gameroomref_known_of k_men1 k_mean1 men1) x).bind some) = φ2 at hm
        unfold gameroomref_known_of_L2 at hm
        dsimp only at hm
        refine seq_cut (fun a w => Fr 116 [pl 0 (.pointer (some ⟨g1, 0, none⟩)), pl 1 (.slice A3 men1.length c3), pl 7 (.int .i64 i2)] a ∧ Sep w0 B w (blk g1 140 #[.slice A1 k_men1.length c1, .slice A2 k_mean1.length c2] :: rows 40 3 (.slice A1 k_men1.length c1) hd1 k_men1 :: own 3 (.slice A2 k_mean1.length c2) (vI k_mean1) :: fs) ∧ ((gameroomref_known_of_J6 k_men1 k_mean1 men1 i2)).bind φ2 = some r) ?_ ?_
        · rintro a w ⟨hF, hS, hm⟩
          unfold gameroomref_known_of_J6 at hm
          refine seq_cut (fun a w => Fr 116 [pl 0 (.pointer (some ⟨g1, 0, none⟩)), pl 1 (.slice A3 men1.length c3), pl 7 (.int .i64 i2)] a ∧ Sep w0 B w (blk g1 140 #[.slice A1 k_men1.length c1, .slice A2 k_mean1.length c2] :: rows 40 3 (.slice A1 k_men1.length c1) hd1 k_men1 :: own 3 (.slice A2 k_mean1.length c2) (vI k_mean1) :: fs) ∧ ((gameroomref_known_of_J7 i2)).bind φ2 = some r) ?_ ?_
          · rintro a w ⟨hF, hS, hm⟩
            unfold gameroomref_known_of_J7 at hm
            refine reg1 [] [] [0, 1, 7] [pl 0 (.pointer (some ⟨g1, 0, none⟩)), pl 1 (.slice A3 men1.length c3), pl 7 (.int .i64 (w64 (i2 + 1)))] hF hS Fol (by kernel_rfl) (by kernel_rfl) (by kernel_rfl) ?_ (fun a w hF hS => ?_)
            · exact obs_nil
            refine then_n ?_
            rw [← hφ2] at hm
            exact ⟨(w64 (i2 + 1)), ⟨hF.weak [0, 1, 7] (by kernel_rfl), hS⟩, hm⟩
          · refine wpIn_block ?_
            obtain ⟨hp2, hm⟩ := asrt_b hm
            obtain ⟨r1, hr1, hm⟩ := call_b hm
            have hb1 := rowb (n := k_men1.length) (hS.at_ 1 rfl).lenR hp2
            refine reg [⟨false, [], vS (Instr.loadAt 125 (.pointer (some ⟨g1, 0, none⟩))), .slice A1 k_men1.length c1⟩, ⟨true, [], vS (Instr.indexAt 125 (.slice A1 k_men1.length c1) (.int .i64 i2)), .pointer (some (sAddr A1 i2))⟩, ⟨false, [], vS (Instr.loadAt 40 (.pointer (some (sAddr A1 i2)))), .slice (hdA hd1 i2) ((geti2 k_men1 i2).length) (hdC hd1 i2)⟩, ⟨false, [], callFunc 137 #[.slice (hdA hd1 i2) ((geti2 k_men1 i2).length) (hdC hd1 i2), .slice A3 men1.length c3], .bool r1⟩] [none, none, none, some (.slice A1 k_men1.length c1), none, some (.pointer (some (sAddr A1 i2))), some (.slice (hdA hd1 i2) ((geti2 k_men1 i2).length) (hdC hd1 i2)), none, some (.bool r1)] [0, 1, 7, 43] [pl 0 (.pointer (some ⟨g1, 0, none⟩)), pl 1 (.slice A3 men1.length c3), pl 7 (.int .i64 i2), pl 43 (.bool r1)] hF hS Fol (by kernel_rfl) (by kernel_rfl) (by kernel_rfl) ?_ (fun a w hF hS => ?_)
            · exact obs_cons (ob_load Agg125 (fun _ _ hS => (hS.at_ 0 rfl).cell rfl)) <| obs_cons (ob_ixRn Und125 hi40 hs40 (hS.at_ 1 rfl).rdRows (hS.at_ 1 rfl).lenR (fun _ => hp2)) <| obs_cons (ob_getR Agg40 (fun _ hS => ⟨_, (hS.at_ 1 rfl).rdRows⟩) (fun _ => hb1)) <| obs_cons (ob_call Try.func137 (by kernel_rfl) rfl (fun _ _ hS => gameroomref_sameInts_w hr1 hS (fun _ hS => ((hS.at_ 1 rfl).rdRows.row _ hb1).1) ((hS.at_ 1 rfl).rdRows.row _ hb1).2 rfl (fun _ hS => (hr_men1 _ (hS.dropN 3))) _hc_men1 rfl)) <| obs_nil
            refine cond_ev (t := 43) (b := r1) hF (by kernel_rfl) (fun hb => ?_) (fun hb => ?_)
            · replace hm := if_t hm hb
              obtain ⟨hp3, hm⟩ := asrt_b hm
              refine reg [⟨false, [], vS (Instr.loadAt 40 (.pointer (some ⟨g1, 1, none⟩))), .slice A2 k_mean1.length c2⟩, ⟨true, [], vS (Instr.indexAt 40 (.slice A2 k_mean1.length c2) (.int .i64 i2)), .pointer (some (sAddr A2 i2))⟩, ⟨false, [], vS (Instr.loadAt 3 (.pointer (some (sAddr A2 i2)))), .int .i64 (geti k_mean1 i2)⟩] [none, none, none, some (.slice A2 k_mean1.length c2), none, some (.pointer (some (sAddr A2 i2))), some (.int .i64 (geti k_mean1 i2)), none] [4] [pl 4 (.int .i64 (geti k_mean1 i2))] hF hS Fol (by kernel_rfl) (by kernel_rfl) (by kernel_rfl) ?_ (fun a w hF hS => ?_)
              · exact obs_cons (ob_load Agg40 (fun _ _ hS => (hS.at_ 0 rfl).cell rfl)) <| obs_cons (ob_ix1 (f := (Value.int .i64)) (m := k_mean1) Und40 hi3 hs3 (hS.at_ 2 rfl).rd rfl (fun _ => hp3)) <| obs_cons (ob_get1 (n := k_mean1.length) (m := k_mean1) (Value.int .i64) (0 : Int) Agg3 (fun _ hS => ⟨_, (hS.at_ 2 rfl).rd⟩) (fun _ hS => rfl) (fun _ => hp3)) <| obs_nil
              refine wpIn_ret ?_
              refine block_r (then_r (then_r (block_r (then_r ?_))))
              rw [← hφ2] at hm
              replace hm := done_b hm
              unfold gameroomref_known_of_K2 at hm
              try dsimp only at hm
              have hm : some ((geti k_mean1 i2), k_men1, k_mean1) = some r := hm
              obtain rfl := Option.some.inj hm
              exact retV (rs := [.tmp 4]) (vs := [.int .i64 (geti k_mean1 i2)]) hF rfl (rv_t (by kernel_rfl) <| rv_nil) rfl ⟨_, rfl, A1, c1, hd1, A2, c2, rfl, hS⟩
            · replace hm := if_f hm hb
              refine wpIn_skip ?_
              refine block_n ?_
              refine then_n ?_
              exact ⟨hF.weak [0, 1, 7] (by kernel_rfl), hS, hm⟩
        · refine reg [⟨false, [], vS (Instr.loadAt 125 (.pointer (some ⟨g1, 0, none⟩))), .slice A1 k_men1.length c1⟩] [none, none, none, none, some (.slice A1 k_men1.length c1), none, none] [0, 1, 7, 32] [pl 0 (.pointer (some ⟨g1, 0, none⟩)), pl 1 (.slice A3 men1.length c3), pl 7 (.int .i64 i2), pl 32 (.bool (decide (i2 < (k_men1.length : Int))))] hF hS Fol (by kernel_rfl) (by kernel_rfl) (by kernel_rfl) ?_ (fun a w hF hS => ?_)
          · exact obs_cons (ob_load Agg125 (fun _ _ hS => (hS.at_ 0 rfl).cell rfl)) <| obs_nil
          refine cond_ev (t := 32) (b := decide (i2 < (k_men1.length : Int))) hF (by kernel_rfl) (fun hb => ?_) (fun hb => ?_)
          · replace hm := if_t hm hb
            refine wpIn_skip ?_
            refine then_n ?_
            exact ⟨hF.weak [0, 1, 7] (by kernel_rfl), hS, hm⟩
          · replace hm := if_f hm hb
            refine wpIn_exit ?_
            refine then_e (then_e (block_e (then_n ?_)))
            rw [← hφ2] at hm
            replace hm := done_b hm
            unfold gameroomref_known_of_K2 at hm
            try dsimp only at hm
            have hm : ((gameroomref_known_of_J5 rec_gameroomref_known_of k_men1 k_mean1 men1)).bind some = some r := hm
            exact ⟨hF.weak [0, 1] (by kernel_rfl), hS, hm⟩
    · refine reg [] [] [0, 1, 25] [pl 0 (.pointer (some ⟨g1, 0, none⟩)), pl 1 (.slice A3 men1.length c3), pl 25 (.bool (left2 == 0))] hF hS Fol (by kernel_rfl) (by kernel_rfl) (by kernel_rfl) ?_ (fun a w hF hS => ?_)
      · exact obs_nil
      refine cond_ev (t := 25) (b := (left2 == 0)) hF (by kernel_rfl) (fun hb => ?_) (fun hb => ?_)
      · replace hm := if_t hm hb
        refine reg [] [] [4] [pl 4 (.int .i64 0)] hF hS Fol (by kernel_rfl) (by kernel_rfl) (by kernel_rfl) ?_ (fun a w hF hS => ?_)
        · exact obs_nil
        refine wpIn_ret ?_
        refine then_r ?_
        have hm : some (0, k_men1, k_mean1) = some r := hm
        obtain rfl := Option.some.inj hm
        exact retV (rs := [.tmp 4]) (vs := [.int .i64 0]) hF rfl (rv_t (by kernel_rfl) <| rv_nil) rfl ⟨_, rfl, A1, c1, hd1, A2, c2, rfl, hS⟩
      · replace hm := if_f hm hb
        refine wpIn_skip ?_
        refine then_n ?_
        exact ⟨hF.weak [0, 1] (by kernel_rfl), hS, hm⟩
  · refine reg [] [] [0, 1, 5, 6] [pl 0 (.pointer (some ⟨g1, 0, none⟩)), pl 1 (.slice A3 men1.length c3), pl 5 (.int .i64 0), pl 6 (.int .i64 0)] hF hS Fol (by kernel_rfl) (by kernel_rfl) (by kernel_rfl) ?_ (fun a w hF hS => ?_)
    · exact obs_nil
    refine wpIn_block ?_
    refine wp_loop_model (S := (Int × Int)) (R := Int) (gameroomref_known_of_L1 men1) (fun x => ((gameroomref_known_of_K1 rec_gameroomref_known_of k_men1 k_mean1 men1) x).bind some) r (fun (x : (Int × Int)) a w => Fr 116 [pl 0 (.pointer (some ⟨g1, 0, none⟩)), pl 1 (.slice A3 men1.length c3), pl 5 (.int .i64 x.1), pl 6 (.int .i64 x.2)] a ∧ Sep w0 B w (blk g1 140 #[.slice A1 k_men1.length c1, .slice A2 k_mean1.length c2] :: rows 40 3 (.slice A1 k_men1.length c1) hd1 k_men1 :: own 3 (.slice A2 k_mean1.length c2) (vI k_mean1) :: fs)) (assoc_b hm) ⟨hF.weak [0, 1, 5, 6] (by kernel_rfl), hS⟩ ?_
    clear hF hS hm
    rintro nn1 ⟨left1, i1⟩ a w ⟨hF, hS⟩ hm
    generalize hφ1 : stK (gameroomref_known_of_L1 men1) nn1 (fun x => ((gameroomref_known_of_K1 rec_gameroomref_known_of k_men1 k_mean1 men1) x).bind some) = φ1 at hm
    unfold gameroomref_known_of_L1 at hm
    dsimp only at hF hS hm
    refine seq_cut (fun a w => Fr 116 [pl 0 (.pointer (some ⟨g1, 0, none⟩)), pl 1 (.slice A3 men1.length c3), pl 5 (.int .i64 left1), pl 6 (.int .i64 i1)] a ∧ Sep w0 B w (blk g1 140 #[.slice A1 k_men1.length c1, .slice A2 k_mean1.length c2] :: rows 40 3 (.slice A1 k_men1.length c1) hd1 k_men1 :: own 3 (.slice A2 k_mean1.length c2) (vI k_mean1) :: fs) ∧ ((gameroomref_known_of_J2 men1 left1 i1)).bind φ1 = some r) ?_ ?_
    · rintro a w ⟨hF, hS, hm⟩
      unfold gameroomref_known_of_J2 at hm
      refine seq_cut (fun a w => Fr 116 [pl 0 (.pointer (some ⟨g1, 0, none⟩)), pl 1 (.slice A3 men1.length c3), pl 5 (.int .i64 (w64 (left1 + (geti men1 i1)))), pl 6 (.int .i64 i1)] a ∧ Sep w0 B w (blk g1 140 #[.slice A1 k_men1.length c1, .slice A2 k_mean1.length c2] :: rows 40 3 (.slice A1 k_men1.length c1) hd1 k_men1 :: own 3 (.slice A2 k_mean1.length c2) (vI k_mean1) :: fs) ∧ ((gameroomref_known_of_J3 men1 left1 i1)).bind φ1 = some r) ?_ ?_
      · rintro a w ⟨hF, hS, hm⟩
        unfold gameroomref_known_of_J3 at hm
        refine reg1 [] [] [0, 1, 5, 6] [pl 0 (.pointer (some ⟨g1, 0, none⟩)), pl 1 (.slice A3 men1.length c3), pl 5 (.int .i64 (w64 (left1 + (geti men1 i1)))), pl 6 (.int .i64 (w64 (i1 + 1)))] hF hS Fol (by kernel_rfl) (by kernel_rfl) (by kernel_rfl) ?_ (fun a w hF hS => ?_)
        · exact obs_nil
        refine then_n ?_
        rw [← hφ1] at hm
        exact ⟨((w64 (left1 + (geti men1 i1))), (w64 (i1 + 1))), ⟨hF.weak [0, 1, 5, 6] (by kernel_rfl), hS⟩, hm⟩
      · refine wpIn_block ?_
        obtain ⟨hp1, hm⟩ := asrt_b hm
        refine reg1 [⟨true, [], vS (Instr.indexAt 40 (.slice A3 men1.length c3) (.int .i64 i1)), .pointer (some (sAddr A3 i1))⟩, ⟨false, [], vS (Instr.loadAt 3 (.pointer (some (sAddr A3 i1)))), .int .i64 (geti men1 i1)⟩] [none, none, none, some (.pointer (some (sAddr A3 i1))), some (.int .i64 (geti men1 i1)), none, none] [0, 1, 5, 6] [pl 0 (.pointer (some ⟨g1, 0, none⟩)), pl 1 (.slice A3 men1.length c3), pl 5 (.int .i64 (w64 (left1 + (geti men1 i1)))), pl 6 (.int .i64 i1)] hF hS Fol (by kernel_rfl) (by kernel_rfl) (by kernel_rfl) ?_ (fun a w hF hS => ?_)
        · exact obs_cons (ob_ix1 (f := (Value.int .i64)) (m := men1) Und40 hi3 hs3 (hr_men1 _ (hS.dropN 3)) rfl (fun _ => hp1)) <| obs_cons (ob_get1 (n := men1.length) (m := men1) (Value.int .i64) (0 : Int) Agg3 (fun _ hS => ⟨_, (hr_men1 _ (hS.dropN 3))⟩) (fun _ hS => rfl) (fun _ => hp1)) <| obs_nil
        refine block_n ?_
        refine then_n ?_
        exact ⟨hF.weak [0, 1, 5, 6] (by kernel_rfl), hS, hm⟩
    · refine reg [] [] [0, 1, 5, 6, 15] [pl 0 (.pointer (some ⟨g1, 0, none⟩)), pl 1 (.slice A3 men1.length c3), pl 5 (.int .i64 left1), pl 6 (.int .i64 i1), pl 15 (.bool (decide (i1 < 6)))] hF hS Fol (by kernel_rfl) (by kernel_rfl) (by kernel_rfl) ?_ (fun a w hF hS => ?_)
      · exact obs_nil
      refine cond_ev (t := 15) (b := decide (i1 < 6)) hF (by kernel_rfl) (fun hb => ?_) (fun hb => ?_)
      · replace hm := if_t hm hb
        refine wpIn_skip ?_
        refine then_n ?_
        exact ⟨hF.weak [0, 1, 5, 6] (by kernel_rfl), hS, hm⟩
      · replace hm := if_f hm hb
        refine wpIn_exit ?_
        refine then_e (then_e (block_e (then_n ?_)))
        rw [← hφ1] at hm
        replace hm := done_b hm
        unfold gameroomref_known_of_K1 at hm
        try dsimp only at hm
        have hm : ((gameroomref_known_of_J1 rec_gameroomref_known_of k_men1 k_mean1 men1) left1).bind some = some r := hm
        exact ⟨left1, hF.weak [0, 1, 5] (by kernel_rfl), hS, hm⟩

theorem gameroomref_known_of_w {g1 : Nat} {A1 : Option Addr} {c1 : Nat} {n1 : Nat} {hd1 : List Hd} {k_men1 : List (List Int)} {A2 : Option Addr} {c2 : Nat} {n2 : Nat} {k_mean1 : List Int} {A3 : Option Addr} {c3 : Nat} {n3 : Nat} {men1 : List Int} {r : (Int × List (List Int) × List Int)} {w0 w : World} {B : Nat} {fs : List HP} (hm : gameroomref_known_of_m k_men1 k_mean1 men1 = some r) (hS : Sep w0 B w (blk g1 140 #[.slice A1 n1 c1, .slice A2 n2 c2] :: rows 40 3 (.slice A1 n1 c1) hd1 k_men1 :: own 3 (.slice A2 n2 c2) (vI k_mean1) :: fs)) (hr_men1 : RdF w0 B fs A3 (vI men1)) (_hc_men1 : men1.length ≤ c3) (_hn_men1 : n3 = men1.length) :
    Calls Try.prog 97 #[.pointer (some ⟨g1, 0, none⟩), .slice A3 n3 c3] w fun e w' => ∃ v, e = .returned v ∧ ∃ (A4 : Option Addr) (c4 : Nat) (hd2 : List Hd) (A5 : Option Addr) (c5 : Nat), v = .int .i64 r.1 ∧ Sep w0 B w' (blk g1 140 #[.slice A4 r.2.1.length c4, .slice A5 r.2.2.length c5] :: rows 40 3 (.slice A4 r.2.1.length c4) hd2 r.2.1 :: own 3 (.slice A5 r.2.2.length c5) (vI r.2.2) :: fs) := by
  have key : ∀ (n : Nat) {g1 : Nat} {A1 : Option Addr} {c1 : Nat} {n1 : Nat} {hd1 : List Hd} {k_men1 : List (List Int)} {A2 : Option Addr} {c2 : Nat} {n2 : Nat} {k_mean1 : List Int} {A3 : Option Addr} {c3 : Nat} {n3 : Nat} {men1 : List Int} {r : (Int × List (List Int) × List Int)} {w0 w : World} {B : Nat} {fs : List HP} (_ : gameroomref_known_of_mF n k_men1 k_mean1 men1 = some r) (_ : Sep w0 B w (blk g1 140 #[.slice A1 n1 c1, .slice A2 n2 c2] :: rows 40 3 (.slice A1 n1 c1) hd1 k_men1 :: own 3 (.slice A2 n2 c2) (vI k_mean1) :: fs)) (hr_men1 : RdF w0 B fs A3 (vI men1)) (_hc_men1 : men1.length ≤ c3) (_hn_men1 : n3 = men1.length), Calls Try.prog 97 #[.pointer (some ⟨g1, 0, none⟩), .slice A3 n3 c3] w fun e w' => ∃ v, e = .returned v ∧ ∃ (A4 : Option Addr) (c4 : Nat) (hd2 : List Hd) (A5 : Option Addr) (c5 : Nat), v = .int .i64 r.1 ∧ Sep w0 B w' (blk g1 140 #[.slice A4 r.2.1.length c4, .slice A5 r.2.2.length c5] :: rows 40 3 (.slice A4 r.2.1.length c4) hd2 r.2.1 :: own 3 (.slice A5 r.2.2.length c5) (vI r.2.2) :: fs) := by
    intro n
    induction n with
    | zero => intros; rename_i hm0 _ _ _ _; cases hm0
    | succ n ih => intros; rename_i hm0 hS0 h0 h1 h2; exact gameroomref_known_of_wB (rec_gameroomref_known_of := gameroomref_known_of_mF n) (fun hm hS h0 h1 h2 => ih hm hS h0 h1 h2) hm0 hS0 h0 h1 h2
  obtain ⟨n, hn⟩ := recM_some hm
  exact key n hn hS hr_men1 _hc_men1 _hn_men1

set_option maxRecDepth 100000 in
theorem gameroomref_known_of_J13_le_gameroomref_known_of {rec_gameroomref_known_of1 rec_gameroomref_known_of2 : List (List Int) → List Int → List Int → Option (Int × List (List Int) × List Int)} (h_rec_gameroomref_known_of : ∀ a0 a1 a2, Le (rec_gameroomref_known_of1 a0 a1 a2) (rec_gameroomref_known_of2 a0 a1 a2)) (men1 : List Int) (x1 : Int) (k7 : List (List Int)) (k8 : List Int) (sum3 : Int) (y1 : Int) : Le (gameroomref_known_of_J13 rec_gameroomref_known_of1 men1 x1 k7 k8 sum3 y1) (gameroomref_known_of_J13 rec_gameroomref_known_of2 men1 x1 k7 k8 sum3 y1) := by
  unfold gameroomref_known_of_J13
  repeat' (first | with_reducible exact Le.refl _ | with_reducible exact h_rec_gameroomref_known_of _ _ _ | with_reducible exact gameroomref_known_least_m_le_gameroomref_known_of h_rec_gameroomref_known_of _ _ _ _ | with_reducible refine Le.asrt ?_ | with_reducible refine Le.ite ?_ ?_ | refine Le.bind ?_ (fun _ => ?_) | refine Le.loop2 (fun _ => ?_) | refine Le.elim2 (fun _ => ?_) (fun _ => ?_))

set_option maxRecDepth 100000 in
theorem gameroomref_known_of_J11_le_gameroomref_known_of {rec_gameroomref_known_of1 rec_gameroomref_known_of2 : List (List Int) → List Int → List Int → Option (Int × List (List Int) × List Int)} (h_rec_gameroomref_known_of : ∀ a0 a1 a2, Le (rec_gameroomref_known_of1 a0 a1 a2) (rec_gameroomref_known_of2 a0 a1 a2)) (men1 : List Int) (x1 : Int) (k7 : List (List Int)) (k8 : List Int) (sum3 : Int) (y1 : Int) : Le (gameroomref_known_of_J11 rec_gameroomref_known_of1 men1 x1 k7 k8 sum3 y1) (gameroomref_known_of_J11 rec_gameroomref_known_of2 men1 x1 k7 k8 sum3 y1) := by
  unfold gameroomref_known_of_J11
  repeat' (first | with_reducible exact Le.refl _ | with_reducible exact h_rec_gameroomref_known_of _ _ _ | with_reducible exact gameroomref_known_of_J13_le_gameroomref_known_of h_rec_gameroomref_known_of _ _ _ _ _ _ | with_reducible exact gameroomref_known_least_m_le_gameroomref_known_of h_rec_gameroomref_known_of _ _ _ _ | with_reducible refine Le.asrt ?_ | with_reducible refine Le.ite ?_ ?_ | refine Le.bind ?_ (fun _ => ?_) | refine Le.loop2 (fun _ => ?_) | refine Le.elim2 (fun _ => ?_) (fun _ => ?_))

set_option maxRecDepth 100000 in
theorem gameroomref_known_of_L4_le_gameroomref_known_of {rec_gameroomref_known_of1 rec_gameroomref_known_of2 : List (List Int) → List Int → List Int → Option (Int × List (List Int) × List Int)} (h_rec_gameroomref_known_of : ∀ a0 a1 a2, Le (rec_gameroomref_known_of1 a0 a1 a2) (rec_gameroomref_known_of2 a0 a1 a2)) (men1 : List Int) (x1 : Int) (x : (List (List Int) × List Int × Int × Int)) : Le (gameroomref_known_of_L4 rec_gameroomref_known_of1 men1 x1 x) (gameroomref_known_of_L4 rec_gameroomref_known_of2 men1 x1 x) := by
  rcases x with ⟨k7, k8, sum3, y1⟩
  all_goals
    unfold gameroomref_known_of_L4
    try dsimp only
    repeat' (first | with_reducible exact Le.refl _ | with_reducible exact h_rec_gameroomref_known_of _ _ _ | with_reducible exact gameroomref_known_of_J11_le_gameroomref_known_of h_rec_gameroomref_known_of _ _ _ _ _ _ | with_reducible refine Le.asrt ?_ | with_reducible refine Le.ite ?_ ?_ | refine Le.bind ?_ (fun _ => ?_) | refine Le.loop2 (fun _ => ?_) | refine Le.elim2 (fun _ => ?_) (fun _ => ?_))

set_option maxRecDepth 100000 in
theorem gameroomref_known_of_J9_le_gameroomref_known_of {rec_gameroomref_known_of1 rec_gameroomref_known_of2 : List (List Int) → List Int → List Int → Option (Int × List (List Int) × List Int)} (h_rec_gameroomref_known_of : ∀ a0 a1 a2, Le (rec_gameroomref_known_of1 a0 a1 a2) (rec_gameroomref_known_of2 a0 a1 a2)) (men1 : List Int) (k3 : List (List Int)) (k4 : List Int) (sum1 : Int) (x1 : Int) : Le (gameroomref_known_of_J9 rec_gameroomref_known_of1 men1 k3 k4 sum1 x1) (gameroomref_known_of_J9 rec_gameroomref_known_of2 men1 k3 k4 sum1 x1) := by
  unfold gameroomref_known_of_J9
  repeat' (first | with_reducible exact Le.refl _ | with_reducible exact h_rec_gameroomref_known_of _ _ _ | with_reducible exact gameroomref_known_of_L4_le_gameroomref_known_of h_rec_gameroomref_known_of _ _ _ | with_reducible refine Le.asrt ?_ | with_reducible refine Le.ite ?_ ?_ | refine Le.bind ?_ (fun _ => ?_) | refine Le.loop2 (fun _ => ?_) | refine Le.elim2 (fun _ => ?_) (fun _ => ?_))

set_option maxRecDepth 100000 in
theorem gameroomref_known_of_L3_le_gameroomref_known_of {rec_gameroomref_known_of1 rec_gameroomref_known_of2 : List (List Int) → List Int → List Int → Option (Int × List (List Int) × List Int)} (h_rec_gameroomref_known_of : ∀ a0 a1 a2, Le (rec_gameroomref_known_of1 a0 a1 a2) (rec_gameroomref_known_of2 a0 a1 a2)) (men1 : List Int) (x : (List (List Int) × List Int × Int × Int)) : Le (gameroomref_known_of_L3 rec_gameroomref_known_of1 men1 x) (gameroomref_known_of_L3 rec_gameroomref_known_of2 men1 x) := by
  rcases x with ⟨k3, k4, sum1, x1⟩
  all_goals
    unfold gameroomref_known_of_L3
    try dsimp only
    repeat' (first | with_reducible exact Le.refl _ | with_reducible exact h_rec_gameroomref_known_of _ _ _ | with_reducible exact gameroomref_known_of_J9_le_gameroomref_known_of h_rec_gameroomref_known_of _ _ _ _ _ | with_reducible refine Le.asrt ?_ | with_reducible refine Le.ite ?_ ?_ | refine Le.bind ?_ (fun _ => ?_) | refine Le.loop2 (fun _ => ?_) | refine Le.elim2 (fun _ => ?_) (fun _ => ?_))

set_option maxRecDepth 100000 in
theorem gameroomref_known_of_J5_le_gameroomref_known_of {rec_gameroomref_known_of1 rec_gameroomref_known_of2 : List (List Int) → List Int → List Int → Option (Int × List (List Int) × List Int)} (h_rec_gameroomref_known_of : ∀ a0 a1 a2, Le (rec_gameroomref_known_of1 a0 a1 a2) (rec_gameroomref_known_of2 a0 a1 a2)) (k_men1 : List (List Int)) (k_mean1 : List Int) (men1 : List Int) : Le (gameroomref_known_of_J5 rec_gameroomref_known_of1 k_men1 k_mean1 men1) (gameroomref_known_of_J5 rec_gameroomref_known_of2 k_men1 k_mean1 men1) := by
  unfold gameroomref_known_of_J5
  repeat' (first | with_reducible exact Le.refl _ | with_reducible exact h_rec_gameroomref_known_of _ _ _ | with_reducible exact gameroomref_known_of_L3_le_gameroomref_known_of h_rec_gameroomref_known_of _ _ | with_reducible refine Le.asrt ?_ | with_reducible refine Le.ite ?_ ?_ | refine Le.bind ?_ (fun _ => ?_) | refine Le.loop2 (fun _ => ?_) | refine Le.elim2 (fun _ => ?_) (fun _ => ?_))

set_option maxRecDepth 100000 in
theorem gameroomref_known_of_K2_le_gameroomref_known_of {rec_gameroomref_known_of1 rec_gameroomref_known_of2 : List (List Int) → List Int → List Int → Option (Int × List (List Int) × List Int)} (h_rec_gameroomref_known_of : ∀ a0 a1 a2, Le (rec_gameroomref_known_of1 a0 a1 a2) (rec_gameroomref_known_of2 a0 a1 a2)) (k_men1 : List (List Int)) (k_mean1 : List Int) (men1 : List Int) (x : (Fl Unit (Int × List (List Int) × List Int))) : Le (gameroomref_known_of_K2 rec_gameroomref_known_of1 k_men1 k_mean1 men1 x) (gameroomref_known_of_K2 rec_gameroomref_known_of2 k_men1 k_mean1 men1 x) := by
  rcases x with _ | x
  all_goals
    unfold gameroomref_known_of_K2
    try dsimp only
    repeat' (first | with_reducible exact Le.refl _ | with_reducible exact h_rec_gameroomref_known_of _ _ _ | with_reducible exact gameroomref_known_of_J5_le_gameroomref_known_of h_rec_gameroomref_known_of _ _ _ | with_reducible refine Le.asrt ?_ | with_reducible refine Le.ite ?_ ?_ | refine Le.bind ?_ (fun _ => ?_) | refine Le.loop2 (fun _ => ?_) | refine Le.elim2 (fun _ => ?_) (fun _ => ?_))

set_option maxRecDepth 100000 in
theorem gameroomref_known_of_J4_le_gameroomref_known_of {rec_gameroomref_known_of1 rec_gameroomref_known_of2 : List (List Int) → List Int → List Int → Option (Int × List (List Int) × List Int)} (h_rec_gameroomref_known_of : ∀ a0 a1 a2, Le (rec_gameroomref_known_of1 a0 a1 a2) (rec_gameroomref_known_of2 a0 a1 a2)) (k_men1 : List (List Int)) (k_mean1 : List Int) (men1 : List Int) : Le (gameroomref_known_of_J4 rec_gameroomref_known_of1 k_men1 k_mean1 men1) (gameroomref_known_of_J4 rec_gameroomref_known_of2 k_men1 k_mean1 men1) := by
  unfold gameroomref_known_of_J4
  repeat' (first | with_reducible exact Le.refl _ | with_reducible exact h_rec_gameroomref_known_of _ _ _ | with_reducible exact gameroomref_known_of_K2_le_gameroomref_known_of h_rec_gameroomref_known_of _ _ _ _ | with_reducible refine Le.asrt ?_ | with_reducible refine Le.ite ?_ ?_ | refine Le.bind ?_ (fun _ => ?_) | refine Le.loop2 (fun _ => ?_) | refine Le.elim2 (fun _ => ?_) (fun _ => ?_))

set_option maxRecDepth 100000 in
theorem gameroomref_known_of_J1_le_gameroomref_known_of {rec_gameroomref_known_of1 rec_gameroomref_known_of2 : List (List Int) → List Int → List Int → Option (Int × List (List Int) × List Int)} (h_rec_gameroomref_known_of : ∀ a0 a1 a2, Le (rec_gameroomref_known_of1 a0 a1 a2) (rec_gameroomref_known_of2 a0 a1 a2)) (k_men1 : List (List Int)) (k_mean1 : List Int) (men1 : List Int) (left2 : Int) : Le (gameroomref_known_of_J1 rec_gameroomref_known_of1 k_men1 k_mean1 men1 left2) (gameroomref_known_of_J1 rec_gameroomref_known_of2 k_men1 k_mean1 men1 left2) := by
  unfold gameroomref_known_of_J1
  repeat' (first | with_reducible exact Le.refl _ | with_reducible exact h_rec_gameroomref_known_of _ _ _ | with_reducible exact gameroomref_known_of_J4_le_gameroomref_known_of h_rec_gameroomref_known_of _ _ _ | with_reducible refine Le.asrt ?_ | with_reducible refine Le.ite ?_ ?_ | refine Le.bind ?_ (fun _ => ?_) | refine Le.loop2 (fun _ => ?_) | refine Le.elim2 (fun _ => ?_) (fun _ => ?_))

set_option maxRecDepth 100000 in
theorem gameroomref_known_of_K1_le_gameroomref_known_of {rec_gameroomref_known_of1 rec_gameroomref_known_of2 : List (List Int) → List Int → List Int → Option (Int × List (List Int) × List Int)} (h_rec_gameroomref_known_of : ∀ a0 a1 a2, Le (rec_gameroomref_known_of1 a0 a1 a2) (rec_gameroomref_known_of2 a0 a1 a2)) (k_men1 : List (List Int)) (k_mean1 : List Int) (men1 : List Int) (x : Int) : Le (gameroomref_known_of_K1 rec_gameroomref_known_of1 k_men1 k_mean1 men1 x) (gameroomref_known_of_K1 rec_gameroomref_known_of2 k_men1 k_mean1 men1 x) := by
  rcases x with left2
  all_goals
    unfold gameroomref_known_of_K1
    try dsimp only
    repeat' (first | with_reducible exact Le.refl _ | with_reducible exact h_rec_gameroomref_known_of _ _ _ | with_reducible exact gameroomref_known_of_J1_le_gameroomref_known_of h_rec_gameroomref_known_of _ _ _ _ | with_reducible refine Le.asrt ?_ | with_reducible refine Le.ite ?_ ?_ | refine Le.bind ?_ (fun _ => ?_) | refine Le.loop2 (fun _ => ?_) | refine Le.elim2 (fun _ => ?_) (fun _ => ?_))

set_option maxRecDepth 100000 in
theorem gameroomref_known_of_B_le {rec_gameroomref_known_of1 rec_gameroomref_known_of2 : List (List Int) → List Int → List Int → Option (Int × List (List Int) × List Int)} (h_rec_gameroomref_known_of : ∀ a0 a1 a2, Le (rec_gameroomref_known_of1 a0 a1 a2) (rec_gameroomref_known_of2 a0 a1 a2)) (k_men1 : List (List Int)) (k_mean1 : List Int) (men1 : List Int) : Le (gameroomref_known_of_B rec_gameroomref_known_of1 k_men1 k_mean1 men1) (gameroomref_known_of_B rec_gameroomref_known_of2 k_men1 k_mean1 men1) := by
  unfold gameroomref_known_of_B
  repeat' (first | with_reducible exact Le.refl _ | with_reducible exact h_rec_gameroomref_known_of _ _ _ | with_reducible exact gameroomref_known_of_K1_le_gameroomref_known_of h_rec_gameroomref_known_of _ _ _ _ | with_reducible refine Le.asrt ?_ | with_reducible refine Le.ite ?_ ?_ | refine Le.bind ?_ (fun _ => ?_) | refine Le.loop2 (fun _ => ?_) | refine Le.elim2 (fun _ => ?_) (fun _ => ?_))

set_option maxRecDepth 100000 in
theorem gameroomref_known_of_mF_le : ∀ (n : Nat) (k_men1 : List (List Int)) (k_mean1 : List Int) (men1 : List Int), Le (gameroomref_known_of_mF n k_men1 k_mean1 men1) (gameroomref_known_of_mF (n + 1) k_men1 k_mean1 men1)
  | 0, _, _, _ => fun _ h => by cases h
  | n + 1, _, _, _ => gameroomref_known_of_B_le (fun a0 a1 a2 => gameroomref_known_of_mF_le n a0 a1 a2) _ _ _

set_option maxRecDepth 100000 in
theorem gameroomref_known_of_m_of (N : Nat) (k_men1 : List (List Int)) (k_mean1 : List Int) (men1 : List Int) {r : (Int × List (List Int) × List Int)} (h : gameroomref_known_of_mF N k_men1 k_mean1 men1 = some r) : gameroomref_known_of_m k_men1 k_mean1 men1 = some r :=
  recM_mono (fun n => gameroomref_known_of_mF_le n _ _ _) h

noncomputable def gameroomref_RollsOf_J2  (all1 : List Int) : Option (St (List Int) (List Int)) :=
  asrt ((all1.length : Int) + 1 ≤ bigN) <| some (.next (all1 ++ ([0] : List Int)))

noncomputable def gameroomref_RollsOf_J6  (d1 : Int) (up3 : Int) (down3 : Int) : Option (St (Int × Int) (Int × Int)) :=
  asrt (d1 ≠ (0 : Int)) <| asrt (d1 ≠ (0 : Int)) <| some (.next ((w64 (Int.tdiv up3 d1)), (w64 (Int.tdiv down3 d1))))

noncomputable def gameroomref_RollsOf_L3  (d1 : Int) : (Int × Int) → Option (St (Int × Int) (Int × Int)) :=
  fun (x : (Int × Int)) => match x with | (up3, down3) => asrt (d1 ≠ (0 : Int)) <| asrt (((Int.tmod up3 d1) == 0) = true → d1 ≠ (0 : Int)) <| if (((Int.tmod up3 d1) == 0) && ((Int.tmod down3 d1) == 0)) then ((gameroomref_RollsOf_J6 d1 up3 down3)) else (some (.done (up3, down3)))

noncomputable def gameroomref_RollsOf_J5  (d1 : Int) (up4 : Int) (down4 : Int) : Option (St (Int × Int × Int) (Int × Int)) :=
  some (.next (up4, down4, (w64 (d1 + 1))))

noncomputable def gameroomref_RollsOf_K3  (d1 : Int) : (Int × Int) → Option (St (Int × Int × Int) (Int × Int)) :=
  fun (x : (Int × Int)) => match x with | (up4, down4) => (gameroomref_RollsOf_J5 d1) up4 down4

noncomputable def gameroomref_RollsOf_J4  (up1 : Int) (down1 : Int) (d1 : Int) : Option (St (Int × Int × Int) (Int × Int)) :=
  (loop (gameroomref_RollsOf_L3 d1) (up1, down1)).bind (gameroomref_RollsOf_K3 d1)

noncomputable def gameroomref_RollsOf_L2  : (Int × Int × Int) → Option (St (Int × Int × Int) (Int × Int)) :=
  fun (x : (Int × Int × Int)) => match x with | (up1, down1, d1) => if (decide (d1 ≤ 3)) then ((gameroomref_RollsOf_J4 up1 down1 d1)) else (some (.done (up1, down1)))

noncomputable def gameroomref_RollsOf_J3  (up2 : Int) (down2 : Int) : Option (Int × Int) :=
  some (up2, down2)

noncomputable def gameroomref_RollsOf_K2  : (Int × Int) → Option (Int × Int) :=
  fun (x : (Int × Int)) => match x with | (up2, down2) => gameroomref_RollsOf_J3 up2 down2

noncomputable def gameroomref_RollsOf_J1  (all2 : List Int) : Option (Int × Int) :=
  (gameroomref_known_of_m ([] : List (List Int)) ([] : List Int) all2).bind fun r2 => (loop gameroomref_RollsOf_L2 (r2.1, 78364164096, 2)).bind gameroomref_RollsOf_K2

noncomputable def gameroomref_RollsOf_K1  : (List Int) → Option (Int × Int) :=
  fun (x : (List Int)) => match x with | all2 => gameroomref_RollsOf_J1 all2

noncomputable def gameroomref_RollsOf_L1  : (List Int) → Option (St (List Int) (List Int)) :=
  fun (x : (List Int)) => match x with | all1 => if (decide ((all1.length : Int) < 6)) then ((gameroomref_RollsOf_J2 all1)) else (some (.done all1))

noncomputable def gameroomref_RollsOf_m  (men1 : List Int) : Option (Int × Int) :=
  (gameroomref_Ints_m men1).bind fun r1 => (loop gameroomref_RollsOf_L1 r1).bind gameroomref_RollsOf_K1

set_option maxRecDepth 100000 in
set_option maxHeartbeats 4000000 in
theorem gameroomref_RollsOf_w {A1 : Option Addr} {c1 : Nat} {n1 : Nat} {men1 : List Int} {r : (Int × Int)} {w0 w : World} {B : Nat} {fs : List HP} (hm : gameroomref_RollsOf_m men1 = some r) (hS : Sep w0 B w (fs)) (hr_men1 : RdF w0 B fs A1 (vI men1)) (_hc_men1 : men1.length ≤ c1) (_hn_men1 : n1 = men1.length) :
    Calls Try.prog 39 #[.slice A1 n1 c1] w fun e w' => e = .returned (.tuple #[.int .i64 r.1, .int .i64 r.2]) ∧ Sep w0 B w' (fs) := by
  obtain ⟨i3, hi3, hz3, hs3, hb3⟩ := info_parts Info3
  obtain rfl := _hn_men1
  unfold gameroomref_RollsOf_m at hm
  replace hm := start_b hm
  refine enter (l := [.slice A1 men1.length c1]) (n := 44) Try.func39 rfl rfl (by simp) (fun a hF => ?_)
  refine reg [] [] [0] [pl 0 (.slice A1 men1.length c1)] hF hS Fol (by kernel_rfl) (by kernel_rfl) (by kernel_rfl) ?_ (fun a w hF hS => ?_)
  · exact obs_nil
  refine seqR ?_
  obtain ⟨r1, hr1, hm⟩ := call_b hm
  refine at_run 1 [] [] [9] [pl 9 (.slice A1 men1.length c1)] hF hS (by kernel_rfl) (by kernel_rfl) ?_ (fun a w hF hS => ?_)
  · exact obs_nil
  refine at_call (f := 93) (args := #[.slice A1 men1.length c1]) (d := 10) hF (by kernel_rfl) (by kernel_rfl) Try.func93 (by kernel_rfl) rfl (gameroomref_Ints_w hr1 hS (fun _ hS => (hr_men1 _ (hS.dropN 0))) _hc_men1 rfl) (fun v a w hR hF => ?_)
  clear hS
  obtain ⟨A2, c2, rfl, hS⟩ := hR
  have hS : Sep w0 B w (own 3 (.slice A2 r1.length c2) (vI r1) :: fs) := hS
  refine at_run 1 [] [] [4] [pl 4 (.slice A2 r1.length c2)] hF hS (by kernel_rfl) (by kernel_rfl) ?_ (fun a w hF hS => ?_)
  · exact obs_nil
  refine at_end [4] [pl 4 (.slice A2 r1.length c2)] hF rfl (by kernel_rfl) (fun hF => ?_)
  refine then_n ?_
  refine seq_cut (fun a w => ∃ (all2 : List Int) (A4 : Option Addr) (c4 : Nat), Fr 44 [pl 4 (.slice A4 all2.length c4)] a ∧ Sep w0 B w (own 3 (.slice A4 all2.length c4) (vI all2) :: fs) ∧ (gameroomref_RollsOf_J1 all2).bind some = some r) ?_ ?_
  · rintro a w ⟨all2, A4, c4, hF, hS, hm⟩
    unfold gameroomref_RollsOf_J1 at hm
    refine seqR ?_
    refine at_run 1 [] [] [4, 17] [pl 4 (.slice A4 all2.length c4), pl 17 (.agg #[.slice none 0 0, .slice none 0 0])] hF hS (by kernel_rfl) (by kernel_rfl) ?_ (fun a w hF hS => ?_)
    · exact obs_nil
    refine at_do (d := 18) (s := vS (Instr.box 140 (.agg #[.slice none 0 0, .slice none 0 0]))) (v := .pointer (some ⟨w.heap.size, 0, none⟩)) (w' := w.alloc (.cells #[.slice none 0 0, .slice none 0 0] 140)) hF (by kernel_rfl) (by kernel_rfl) (by kernel_rfl) (fun a hF => ?_)
    have hS : Sep w0 B (w.alloc (.cells #[.slice none 0 0, .slice none 0 0] 140)) (blk w.heap.size 140 #[.slice none 0 0, .slice none 0 0] :: (own 3 (.slice A4 all2.length c4) (vI all2) :: fs)) := hS.box 140 #[.slice none 0 0, .slice none 0 0]
    generalize w.heap.size = g2 at hF hS
    generalize w.alloc (.cells #[.slice none 0 0, .slice none 0 0] 140) = w at hS ⊢
    refine at_run 1 [] [] [4, 5] [pl 4 (.slice A4 all2.length c4), pl 5 (.pointer (some ⟨g2, 0, none⟩))] hF hS (by kernel_rfl) (by kernel_rfl) ?_ (fun a w hF hS => ?_)
    · exact obs_nil
    refine at_end [4, 5] [pl 4 (.slice A4 all2.length c4), pl 5 (.pointer (some ⟨g2, 0, none⟩))] hF rfl (by kernel_rfl) (fun hF => ?_)
    refine then_n ?_
    refine seqR ?_
    obtain ⟨r2, hr2, hm⟩ := call_b hm
    refine at_run 2 [] [] [19, 20] [pl 19 (.pointer (some ⟨g2, 0, none⟩)), pl 20 (.slice A4 all2.length c4)] hF hS (by kernel_rfl) (by kernel_rfl) ?_ (fun a w hF hS => ?_)
    · exact obs_nil
    have hS : Sep w0 B w (rows 40 3 (.slice none 0 0) ([]) ([] : List (List Int)) :: blk g2 140 #[.slice none 0 0, .slice none 0 0] :: own 3 (.slice A4 all2.length c4) (vI all2) :: fs) := hS.nilRows0 40 3
    have hS : Sep w0 B w (rows 40 3 (.slice none 0 0) ([]) ([] : List (List Int)) :: blk g2 140 #[.slice none 0 0, .slice none 0 0] :: own 3 (.slice A4 all2.length c4) (vI all2) :: fs) := hS
    have hS : Sep w0 B w (own 3 (.slice none 0 0) (vI ([] : List Int)) :: rows 40 3 (.slice none 0 0) ([]) ([] : List (List Int)) :: blk g2 140 #[.slice none 0 0, .slice none 0 0] :: own 3 (.slice A4 all2.length c4) (vI all2) :: fs) := hS.nil 3
    have hS : Sep w0 B w (own 3 (.slice none 0 0) (vI ([] : List Int)) :: rows 40 3 (.slice none 0 0) ([]) ([] : List (List Int)) :: blk g2 140 #[.slice none 0 0, .slice none 0 0] :: own 3 (.slice A4 all2.length c4) (vI all2) :: fs) := hS
    have hS : Sep w0 B w (blk g2 140 #[.slice none 0 0, .slice none 0 0] :: rows 40 3 (.slice none 0 0) ([]) ([] : List (List Int)) :: own 3 (.slice none 0 0) (vI ([] : List Int)) :: own 3 (.slice A4 all2.length c4) (vI all2) :: fs) := hS.pickN 4 [2, 1, 0, 3] (by decide)
    refine at_call (f := 97) (args := #[.pointer (some ⟨g2, 0, none⟩), .slice A4 all2.length c4]) (d := 21) hF (by kernel_rfl) (by kernel_rfl) Try.func97 (by kernel_rfl) rfl (gameroomref_known_of_w hr2 hS (fun _ hS => (hS.at_ 0 rfl).rd) (((hS.dropN 3).at_ 0 rfl).cap1) rfl) (fun v a w hR hF => ?_)
    clear hS
    obtain ⟨A6, c6, hd1, A7, c7, rfl, hS⟩ := hR
    have hS : Sep w0 B w (blk g2 140 #[.slice A6 r2.2.1.length c6, .slice A7 r2.2.2.length c7] :: rows 40 3 (.slice A6 r2.2.1.length c6) hd1 r2.2.1 :: own 3 (.slice A7 r2.2.2.length c7) (vI r2.2.2) :: own 3 (.slice A4 all2.length c4) (vI all2) :: fs) := hS
    refine at_run 2 [] [] [6, 7] [pl 6 (.int .i64 r2.1), pl 7 (.int .i64 78364164096)] hF hS (by kernel_rfl) (by kernel_rfl) ?_ (fun a w hF hS => ?_)
    · exact obs_nil
    refine at_end [6, 7] [pl 6 (.int .i64 r2.1), pl 7 (.int .i64 78364164096)] hF rfl (by kernel_rfl) (fun hF => ?_)
    refine then_n ?_
    refine seq_cut (fun a w => ∃ (up2 : Int) (down2 : Int), Fr 44 [pl 6 (.int .i64 up2), pl 7 (.int .i64 down2)] a ∧ Sep w0 B w (fs) ∧ (gameroomref_RollsOf_J3 up2 down2).bind some = some r) ?_ ?_
    · rintro a w ⟨up2, down2, hF, hS, hm⟩
      unfold gameroomref_RollsOf_J3 at hm
      refine reg [] [] [2, 3] [pl 2 (.int .i64 up2), pl 3 (.int .i64 down2)] hF hS Fol (by kernel_rfl) (by kernel_rfl) (by kernel_rfl) ?_ (fun a w hF hS => ?_)
      · exact obs_nil
      refine wpIn_ret ?_
      have hm : some (up2, down2) = some r := hm
      obtain rfl := Option.some.inj hm
      exact retV (rs := [.tmp 2, .tmp 3]) (vs := [.int .i64 up2, .int .i64 down2]) hF rfl (rv_t (by kernel_rfl) <| rv_t (by kernel_rfl) <| rv_nil) rfl ⟨rfl, hS⟩
    · refine reg [] [] [6, 7, 8] [pl 6 (.int .i64 r2.1), pl 7 (.int .i64 78364164096), pl 8 (.int .i64 2)] hF hS Fol (by kernel_rfl) (by kernel_rfl) (by kernel_rfl) ?_ (fun a w hF hS => ?_)
      · exact obs_nil
      refine wpIn_block ?_
      have hS := hS.pickN 4 [] (by decide)
      refine wp_loop_model (S := (Int × Int × Int)) (R := (Int × Int)) gameroomref_RollsOf_L2 (fun x => (gameroomref_RollsOf_K2 x).bind some) r (fun (x : (Int × Int × Int)) a w => Fr 44 [pl 6 (.int .i64 x.1), pl 7 (.int .i64 x.2.1), pl 8 (.int .i64 x.2.2)] a ∧ Sep w0 B w (fs)) (assoc_b hm) ⟨hF.weak [6, 7, 8] (by kernel_rfl), hS⟩ ?_
      clear hF hS hm
      rintro nn2 ⟨up1, down1, d1⟩ a w ⟨hF, hS⟩ hm
      generalize hφ2 : stK gameroomref_RollsOf_L2 nn2 (fun x => (gameroomref_RollsOf_K2 x).bind some) = φ2 at hm
      unfold gameroomref_RollsOf_L2 at hm
      dsimp only at hF hS hm
      refine seq_cut (fun a w => Fr 44 [pl 6 (.int .i64 up1), pl 7 (.int .i64 down1), pl 8 (.int .i64 d1)] a ∧ Sep w0 B w (fs) ∧ ((gameroomref_RollsOf_J4 up1 down1 d1)).bind φ2 = some r) ?_ ?_
      · rintro a w ⟨hF, hS, hm⟩
        unfold gameroomref_RollsOf_J4 at hm
        refine seq_cut (fun a w => ∃ (up4 : Int) (down4 : Int), Fr 44 [pl 6 (.int .i64 up4), pl 7 (.int .i64 down4), pl 8 (.int .i64 d1)] a ∧ Sep w0 B w (fs) ∧ ((gameroomref_RollsOf_J5 d1) up4 down4).bind φ2 = some r) ?_ ?_
        · rintro a w ⟨up4, down4, hF, hS, hm⟩
          unfold gameroomref_RollsOf_J5 at hm
          refine reg1 [] [] [6, 7, 8] [pl 6 (.int .i64 up4), pl 7 (.int .i64 down4), pl 8 (.int .i64 (w64 (d1 + 1)))] hF hS Fol (by kernel_rfl) (by kernel_rfl) (by kernel_rfl) ?_ (fun a w hF hS => ?_)
          · exact obs_nil
          refine then_n ?_
          rw [← hφ2] at hm
          exact ⟨(up4, down4, (w64 (d1 + 1))), ⟨hF.weak [6, 7, 8] (by kernel_rfl), hS⟩, hm⟩
        · refine wpIn_block ?_
          refine wpIn_block ?_
          refine wp_loop_model (S := (Int × Int)) (R := (Int × Int)) (gameroomref_RollsOf_L3 d1) (fun x => ((gameroomref_RollsOf_K3 d1) x).bind φ2) r (fun (x : (Int × Int)) a w => Fr 44 [pl 6 (.int .i64 x.1), pl 7 (.int .i64 x.2), pl 8 (.int .i64 d1)] a ∧ Sep w0 B w (fs)) (assoc_b hm) ⟨hF.weak [6, 7, 8] (by kernel_rfl), hS⟩ ?_
          clear hF hS hm
          rintro nn3 ⟨up3, down3⟩ a w ⟨hF, hS⟩ hm
          generalize hφ3 : stK (gameroomref_RollsOf_L3 d1) nn3 (fun x => ((gameroomref_RollsOf_K3 d1) x).bind φ2) = φ3 at hm
          unfold gameroomref_RollsOf_L3 at hm
          dsimp only at hF hS hm
          refine seq_cut (fun a w => Fr 44 [pl 6 (.int .i64 up3), pl 7 (.int .i64 down3), pl 8 (.int .i64 d1)] a ∧ Sep w0 B w (fs) ∧ ((gameroomref_RollsOf_J6 d1 up3 down3)).bind φ3 = some r) ?_ ?_
          · rintro a w ⟨hF, hS, hm⟩
            unfold gameroomref_RollsOf_J6 at hm
            refine wpIn_block ?_
            obtain ⟨hp4, hm⟩ := asrt_b hm
            refine reg [⟨true, [], vS (Op.intDiv .quo .i64 up3 d1), .int .i64 (w64 (Int.tdiv up3 d1))⟩] [none, none, some (.int .i64 (w64 (Int.tdiv up3 d1))), none] [6, 7, 8] [pl 6 (.int .i64 (w64 (Int.tdiv up3 d1))), pl 7 (.int .i64 down3), pl 8 (.int .i64 d1)] hF hS Fol (by kernel_rfl) (by kernel_rfl) (by kernel_rfl) ?_ (fun a w hF hS => ?_)
            · exact obs_cons (ob_quo rfl (fun _ => hp4)) <| obs_nil
            obtain ⟨hp5, hm⟩ := asrt_b hm
            refine reg1 [⟨true, [], vS (Op.intDiv .quo .i64 down3 d1), .int .i64 (w64 (Int.tdiv down3 d1))⟩] [none, none, some (.int .i64 (w64 (Int.tdiv down3 d1))), none] [6, 7, 8] [pl 6 (.int .i64 (w64 (Int.tdiv up3 d1))), pl 7 (.int .i64 (w64 (Int.tdiv down3 d1))), pl 8 (.int .i64 d1)] hF hS Fol (by kernel_rfl) (by kernel_rfl) (by kernel_rfl) ?_ (fun a w hF hS => ?_)
            · exact obs_cons (ob_quo rfl (fun _ => hp5)) <| obs_nil
            refine block_n ?_
            refine then_n ?_
            rw [← hφ3] at hm
            exact ⟨((w64 (Int.tdiv up3 d1)), (w64 (Int.tdiv down3 d1))), ⟨hF.weak [6, 7, 8] (by kernel_rfl), hS⟩, hm⟩
          · obtain ⟨hp2, hm⟩ := asrt_b hm
            obtain ⟨hp3, hm⟩ := asrt_b hm
            refine reg [⟨true, [], vS (Op.intDiv .rem .i64 up3 d1), .int .i64 (Int.tmod up3 d1)⟩, ⟨true, [(((Int.tmod up3 d1) == 0), true)], vS (Op.intDiv .rem .i64 down3 d1), .int .i64 (Int.tmod down3 d1)⟩] [none, none, some (.int .i64 (Int.tmod up3 d1)), none, none, none, none, some (.int .i64 (Int.tmod down3 d1)), none, none] [6, 7, 8, 35] [pl 6 (.int .i64 up3), pl 7 (.int .i64 down3), pl 8 (.int .i64 d1), pl 35 (.bool (((Int.tmod up3 d1) == 0) && ((Int.tmod down3 d1) == 0)))] hF hS Fol (by kernel_rfl) (by kernel_rfl) (by kernel_rfl) ?_ (fun a w hF hS => ?_)
            · exact obs_cons (ob_rem rfl (fun _ => hp2)) <| obs_cons (ob_rem rfl (fun hy => hp3 (hy (((Int.tmod up3 d1) == 0), true) (by simp)))) <| obs_nil
            refine cond_ev (t := 35) (b := ((Int.tmod up3 d1) == 0) && ((Int.tmod down3 d1) == 0)) hF (by kernel_rfl) (fun hb => ?_) (fun hb => ?_)
            · replace hm := if_t hm hb
              refine wpIn_skip ?_
              refine then_n ?_
              exact ⟨hF.weak [6, 7, 8] (by kernel_rfl), hS, hm⟩
            · replace hm := if_f hm hb
              refine wpIn_exit ?_
              refine then_e (then_e (block_e (block_n (then_n ?_))))
              rw [← hφ3] at hm
              replace hm := done_b hm
              unfold gameroomref_RollsOf_K3 at hm
              try dsimp only at hm
              have hm : ((gameroomref_RollsOf_J5 d1) up3 down3).bind φ2 = some r := hm
              exact ⟨up3, down3, hF.weak [6, 7, 8] (by kernel_rfl), hS, hm⟩
      · refine reg [] [] [6, 7, 8, 23] [pl 6 (.int .i64 up1), pl 7 (.int .i64 down1), pl 8 (.int .i64 d1), pl 23 (.bool (decide (d1 ≤ 3)))] hF hS Fol (by kernel_rfl) (by kernel_rfl) (by kernel_rfl) ?_ (fun a w hF hS => ?_)
        · exact obs_nil
        refine cond_ev (t := 23) (b := decide (d1 ≤ 3)) hF (by kernel_rfl) (fun hb => ?_) (fun hb => ?_)
        · replace hm := if_t hm hb
          refine wpIn_skip ?_
          refine then_n ?_
          exact ⟨hF.weak [6, 7, 8] (by kernel_rfl), hS, hm⟩
        · replace hm := if_f hm hb
          refine wpIn_exit ?_
          refine then_e (then_e (block_e (then_n ?_)))
          rw [← hφ2] at hm
          replace hm := done_b hm
          unfold gameroomref_RollsOf_K2 at hm
          try dsimp only at hm
          have hm : (gameroomref_RollsOf_J3 up1 down1).bind some = some r := hm
          exact ⟨up1, down1, hF.weak [6, 7] (by kernel_rfl), hS, hm⟩
  · refine wpIn_block ?_
    refine wp_loop_model (S := (List Int)) (R := (List Int)) gameroomref_RollsOf_L1 (fun x => (gameroomref_RollsOf_K1 x).bind some) r (fun (x : (List Int)) a w => ∃ (A3 : Option Addr) (c3 : Nat), Fr 44 [pl 4 (.slice A3 x.length c3)] a ∧ Sep w0 B w (own 3 (.slice A3 x.length c3) (vI x) :: fs)) (assoc_b hm) ⟨A2, c2, hF.weak [4] (by kernel_rfl), hS⟩ ?_
    clear hF hS hm
    rintro nn1 all1 a w ⟨A3, c3, hF, hS⟩ hm
    generalize hφ1 : stK gameroomref_RollsOf_L1 nn1 (fun x => (gameroomref_RollsOf_K1 x).bind some) = φ1 at hm
    unfold gameroomref_RollsOf_L1 at hm
    dsimp only at hm
    refine seq_cut (fun a w => Fr 44 [pl 4 (.slice A3 all1.length c3)] a ∧ Sep w0 B w (own 3 (.slice A3 all1.length c3) (vI all1) :: fs) ∧ ((gameroomref_RollsOf_J2 all1)).bind φ1 = some r) ?_ ?_
    · rintro a w ⟨hF, hS, hm⟩
      unfold gameroomref_RollsOf_J2 at hm
      refine wpIn_block ?_
      refine oneR ?_
      obtain ⟨hp1, hm⟩ := asrt_b hm
      refine at_run 1 [] [] [14] [pl 14 (.slice A3 all1.length c3)] hF hS (by kernel_rfl) (by kernel_rfl) ?_ (fun a w hF hS => ?_)
      · exact obs_nil
      refine at_do (d := 15) (s := vS (Instr.buildSlice 40 1 #[(0, .int .i64 0)])) (v := .slice (some ⟨w.heap.size, 0, none⟩) 1 1) (w' := w.alloc (.cells #[.int .i64 0] 3)) hF (by kernel_rfl) (by kernel_rfl) (by kernel_rfl) (fun a hF => ?_)
      have hS : Sep w0 B (w.alloc (.cells #[.int .i64 0] 3)) (own 3 (.slice (some (⟨w.heap.size, 0, none⟩ : Addr)) 1 1) (vI ([0] : List Int)) :: (own 3 (.slice A3 all1.length c3) (vI all1) :: fs)) := hS.lit 3 #[.int .i64 0] 1 rfl (by omega)
      generalize (some (⟨w.heap.size, 0, none⟩ : Addr)) = g1 at hF hS
      generalize w.alloc (.cells #[.int .i64 0] 3) = w at hS ⊢
      obtain ⟨A5, c5, w, hrun, hS⟩ := run_app1 (P := Try.prog) (t := 40) (m := all1) (ys := ([0] : List Int)) (A2 := g1) (m2 := 1) (c2 := 1) (Value.int .i64) (0 : Int) (hS.at_ 1 rfl) (hS.at_ 0 rfl).rd ((hS.at_ 0 rfl).len1) 40 Und40 hi3 hz3 hs3 (by omega) rfl (fun _ => rfl) hp1
      have hS : Sep w0 B w (own 3 (.slice g1 1 1) (vI ([0] : List Int)) :: own 3 (.slice A5 ((all1 ++ ([0] : List Int)).length) c5) (vI (all1 ++ ([0] : List Int))) :: fs) := hS
      refine at_do (d := 16) hF (by kernel_rfl) (by kernel_rfl) hrun (fun a hF => ?_)
      refine at_run 1 [] [] [4] [pl 4 (.slice A5 ((all1 ++ ([0] : List Int)).length) c5)] hF hS (by kernel_rfl) (by kernel_rfl) ?_ (fun a w hF hS => ?_)
      · exact obs_nil
      refine at_end [4] [pl 4 (.slice A5 ((all1 ++ ([0] : List Int)).length) c5)] hF rfl (by kernel_rfl) (fun hF => ?_)
      refine block_n ?_
      refine then_n ?_
      have hS := hS.pickN 2 [1] (by decide)
      rw [← hφ1] at hm
      exact ⟨(all1 ++ ([0] : List Int)), ⟨A5, c5, hF.weak [4] (by kernel_rfl), hS⟩, hm⟩
    · refine reg [] [] [4, 13] [pl 4 (.slice A3 all1.length c3), pl 13 (.bool (decide ((all1.length : Int) < 6)))] hF hS Fol (by kernel_rfl) (by kernel_rfl) (by kernel_rfl) ?_ (fun a w hF hS => ?_)
      · exact obs_nil
      refine cond_ev (t := 13) (b := decide ((all1.length : Int) < 6)) hF (by kernel_rfl) (fun hb => ?_) (fun hb => ?_)
      · replace hm := if_t hm hb
        refine wpIn_skip ?_
        refine then_n ?_
        exact ⟨hF.weak [4] (by kernel_rfl), hS, hm⟩
      · replace hm := if_f hm hb
        refine wpIn_exit ?_
        refine then_e (then_e (block_e (then_n ?_)))
        rw [← hφ1] at hm
        replace hm := done_b hm
        unfold gameroomref_RollsOf_K1 at hm
        try dsimp only at hm
        have hm : (gameroomref_RollsOf_J1 all1).bind some = some r := hm
        exact ⟨all1, A3, c3, hF.weak [4] (by kernel_rfl), hS, hm⟩

noncomputable def gameroomlaw_GammonRolls_J1  (men1 : List Int) (r2 : (Int × Int × Int)) : Option Bool :=
  (gameroomref_RollsOf_m men1).bind fun r4 => some (((r2.2.2 == 0) && (r2.1 == r4.1)) && (r2.2.1 == r4.2))

noncomputable def gameroomlaw_GammonRolls_m  (men1 : List Int) : Option Bool :=
  (gameroomlaw_ints_m men1).bind fun r1 => (gammon_Rolls_m r1).bind fun r2 => (gameroomref_RollsMay_m men1).bind fun r3 => if (r3 != 0) then (some (((r2.2.2 == r3) && (r2.1 == 0)) && (r2.2.1 == 0))) else ((gameroomlaw_GammonRolls_J1 men1 r2))

set_option maxRecDepth 100000 in
set_option maxHeartbeats 4000000 in
theorem gameroomlaw_GammonRolls_w {A1 : Option Addr} {c1 : Nat} {n1 : Nat} {men1 : List Int} {r : Bool} {w0 w : World} {B : Nat} {fs : List HP} (hm : gameroomlaw_GammonRolls_m men1 = some r) (hS : Sep w0 B w (fs)) (hr_men1 : RdF w0 B fs A1 (vI men1)) (_hc_men1 : men1.length ≤ c1) (_hn_men1 : n1 = men1.length) :
    Calls Try.prog 6 #[.slice A1 n1 c1] w fun e w' => e = .returned (.bool r) ∧ Sep w0 B w' (fs) := by
  obtain ⟨i3, hi3, hz3, hs3, hb3⟩ := info_parts Info3
  obtain rfl := _hn_men1
  unfold gameroomlaw_GammonRolls_m at hm
  replace hm := start_b hm
  refine enter (l := [.slice A1 men1.length c1]) (n := 48) Try.func6 rfl rfl (by simp) (fun a hF => ?_)
  refine reg [] [] [0] [pl 0 (.slice A1 men1.length c1)] hF hS Fol (by kernel_rfl) (by kernel_rfl) (by kernel_rfl) ?_ (fun a w hF hS => ?_)
  · exact obs_nil
  refine seqR ?_
  obtain ⟨r1, hr1, hm⟩ := call_b hm
  obtain ⟨r2, hr2, hm⟩ := call_b hm
  refine at_run 1 [] [] [0, 10] [pl 0 (.slice A1 men1.length c1), pl 10 (.slice A1 men1.length c1)] hF hS (by kernel_rfl) (by kernel_rfl) ?_ (fun a w hF hS => ?_)
  · exact obs_nil
  refine at_call (f := 30) (args := #[.slice A1 men1.length c1]) (d := 11) hF (by kernel_rfl) (by kernel_rfl) Try.func30 (by kernel_rfl) rfl (gameroomlaw_ints_w hr1 hS (fun _ hS => (hr_men1 _ (hS.dropN 0))) _hc_men1 rfl) (fun v a w hR hF => ?_)
  clear hS
  obtain ⟨A2, c2, rfl, hS⟩ := hR
  have hS : Sep w0 B w (own 3 (.slice A2 r1.length c2) (vI r1) :: fs) := hS
  refine at_run 8 [⟨false, [], callFunc 37 #[.slice A2 r1.length c2], .tuple #[.int .i64 r2.1, .int .i64 r2.2.1, .int .i64 r2.2.2]⟩] [some (.tuple #[.int .i64 r2.1, .int .i64 r2.2.1, .int .i64 r2.2.2]), none, none, none, none, none, none, none] [0, 3, 4, 5] [pl 0 (.slice A1 men1.length c1), pl 3 (.int .i64 r2.1), pl 4 (.int .i64 r2.2.1), pl 5 (.int .i64 r2.2.2)] hF hS (by kernel_rfl) (by kernel_rfl) ?_ (fun a w hF hS => ?_)
  · exact obs_cons (ob_call Try.func37 (by kernel_rfl) rfl (fun _ _ hS => gammon_Rolls_w hr2 hS (fun _ hS => (hS.at_ 0 rfl).rd) ((hS.at_ 0 rfl).cap1) rfl)) <| obs_nil
  refine at_end [0, 3, 4, 5] [pl 0 (.slice A1 men1.length c1), pl 3 (.int .i64 r2.1), pl 4 (.int .i64 r2.2.1), pl 5 (.int .i64 r2.2.2)] hF rfl (by kernel_rfl) (fun hF => ?_)
  refine then_n ?_
  obtain ⟨r3, hr3, hm⟩ := call_b hm
  refine reg [⟨false, [], callFunc 38 #[.slice A1 men1.length c1], .int .i64 r3⟩] [none, some (.int .i64 r3), none] [0, 3, 4, 5, 6] [pl 0 (.slice A1 men1.length c1), pl 3 (.int .i64 r2.1), pl 4 (.int .i64 r2.2.1), pl 5 (.int .i64 r2.2.2), pl 6 (.int .i64 r3)] hF hS Fol (by kernel_rfl) (by kernel_rfl) (by kernel_rfl) ?_ (fun a w hF hS => ?_)
  · exact obs_cons (ob_call Try.func38 (by kernel_rfl) rfl (fun _ _ hS => gameroomref_RollsMay_w hr3 hS (fun _ hS => (hr_men1 _ (hS.dropN 1))) _hc_men1 rfl)) <| obs_nil
  refine seq_cut (fun a w => Fr 48 [pl 0 (.slice A1 men1.length c1), pl 3 (.int .i64 r2.1), pl 4 (.int .i64 r2.2.1), pl 5 (.int .i64 r2.2.2)] a ∧ Sep w0 B w (fs) ∧ ((gameroomlaw_GammonRolls_J1 men1 r2)).bind some = some r) ?_ ?_
  · rintro a w ⟨hF, hS, hm⟩
    unfold gameroomlaw_GammonRolls_J1 at hm
    obtain ⟨r4, hr4, hm⟩ := call_b hm
    refine reg [⟨false, [], callFunc 39 #[.slice A1 men1.length c1], .tuple #[.int .i64 r4.1, .int .i64 r4.2]⟩] [none, some (.tuple #[.int .i64 r4.1, .int .i64 r4.2]), none, none, none, none, none] [3, 4, 5, 7, 8] [pl 3 (.int .i64 r2.1), pl 4 (.int .i64 r2.2.1), pl 5 (.int .i64 r2.2.2), pl 7 (.int .i64 r4.1), pl 8 (.int .i64 r4.2)] hF hS Fol (by kernel_rfl) (by kernel_rfl) (by kernel_rfl) ?_ (fun a w hF hS => ?_)
    · exact obs_cons (ob_call Try.func39 (by kernel_rfl) rfl (fun _ _ hS => gameroomref_RollsOf_w hr4 hS (fun _ hS => (hr_men1 _ (hS.dropN 0))) _hc_men1 rfl)) <| obs_nil
    refine reg [] [] [2] [pl 2 (.bool (((r2.2.2 == 0) && (r2.1 == r4.1)) && (r2.2.1 == r4.2)))] hF hS Fol (by kernel_rfl) (by kernel_rfl) (by kernel_rfl) ?_ (fun a w hF hS => ?_)
    · exact obs_nil
    refine wpIn_ret ?_
    have hm : some (((r2.2.2 == 0) && (r2.1 == r4.1)) && (r2.2.1 == r4.2)) = some r := hm
    obtain rfl := Option.some.inj hm
    exact retV (rs := [.tmp 2]) (vs := [.bool (((r2.2.2 == 0) && (r2.1 == r4.1)) && (r2.2.1 == r4.2))]) hF rfl (rv_t (by kernel_rfl) <| rv_nil) rfl ⟨rfl, hS⟩
  · refine reg [] [] [0, 3, 4, 5, 6, 19] [pl 0 (.slice A1 men1.length c1), pl 3 (.int .i64 r2.1), pl 4 (.int .i64 r2.2.1), pl 5 (.int .i64 r2.2.2), pl 6 (.int .i64 r3), pl 19 (.bool (r3 != 0))] hF hS Fol (by kernel_rfl) (by kernel_rfl) (by kernel_rfl) ?_ (fun a w hF hS => ?_)
    · exact obs_nil
    refine cond_ev (t := 19) (b := (r3 != 0)) hF (by kernel_rfl) (fun hb => ?_) (fun hb => ?_)
    · replace hm := if_t hm hb
      refine reg [] [] [2] [pl 2 (.bool (((r2.2.2 == r3) && (r2.1 == 0)) && (r2.2.1 == 0)))] hF hS Fol (by kernel_rfl) (by kernel_rfl) (by kernel_rfl) ?_ (fun a w hF hS => ?_)
      · exact obs_nil
      refine wpIn_ret ?_
      refine then_r ?_
      have hS := hS.pickN 1 [] (by decide)
      have hm : some (((r2.2.2 == r3) && (r2.1 == 0)) && (r2.2.1 == 0)) = some r := hm
      obtain rfl := Option.some.inj hm
      exact retV (rs := [.tmp 2]) (vs := [.bool (((r2.2.2 == r3) && (r2.1 == 0)) && (r2.2.1 == 0))]) hF rfl (rv_t (by kernel_rfl) <| rv_nil) rfl ⟨rfl, hS⟩
    · replace hm := if_f hm hb
      refine wpIn_skip ?_
      refine then_n ?_
      have hS := hS.pickN 1 [] (by decide)
      exact ⟨hF.weak [0, 3, 4, 5] (by kernel_rfl), hS, hm⟩

end Go.Proofs.Ytbmhcapeikebgaa
