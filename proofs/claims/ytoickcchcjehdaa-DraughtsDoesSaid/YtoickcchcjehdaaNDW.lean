/-
  Models and walks, printed by our own program (wip/gen).
-/
import Derived.Test.YtoickcchcjehdaaFB
import Derived.Test.YtoickcchcjehdaaSR
import Derived.Test.YtoickcchcjehdaaLibPl
import Derived.Test.YtoickcchcjehdaaLibAS
import Derived.Test.YtoickcchcjehdaaLibHd
import Derived.Test.YtoickcchcjehdaaLibAN
import Derived.Test.YtoickcchcjehdaaNDWa
namespace Go.Proofs.Ytoickcchcjehdaa
open Go Go.GL Go.RowKit

noncomputable def gameroomref_jumpsOn_K1  : (List (List Int)) → Option (List (List Int)) :=
  fun (x : (List (List Int))) => match x with | out2 => gameroomref_jumpsOn_J1 out2

noncomputable def gameroomref_jumpsOn_L1  (rec_gameroomref_jumpsOn : List Int → Int → Int → List Int → List Int → Option (List (List Int))) (b1 : List Int) (b2 : Int) (piece1 : Int) (way1 : List Int) (over1 : List Int) : (List (List Int) × Int) → Option (St (List (List Int) × Int) (List (List Int))) :=
  fun (x : (List (List Int) × Int)) => match x with | (out1, dx1) => if (decide (dx1 ≤ 1)) then ((gameroomref_jumpsOn_J2 rec_gameroomref_jumpsOn b1 b2 piece1 way1 over1 out1 dx1)) else (some (.done out1))

noncomputable def gameroomref_jumpsOn_B  (rec_gameroomref_jumpsOn : List Int → Int → Int → List Int → List Int → Option (List (List Int))) (b1 : List Int) (b2 : Int) (piece1 : Int) (way1 : List Int) (over1 : List Int) : Option (List (List Int)) :=
  asrt (0 ≤ (w64 ((way1.length : Int) - 1)) ∧ (w64 ((way1.length : Int) - 1)) < (way1.length : Int)) <| (loop (gameroomref_jumpsOn_L1 rec_gameroomref_jumpsOn b1 b2 piece1 way1 over1) (([] : List (List Int)), (-1))).bind gameroomref_jumpsOn_K1

noncomputable def gameroomref_jumpsOn_mF  : Nat → List Int → Int → Int → List Int → List Int → Option (List (List Int))
  | 0 => fun _ _ _ _ _ => none
  | n + 1 => fun b1 b2 piece1 way1 over1 => gameroomref_jumpsOn_B (gameroomref_jumpsOn_mF n) b1 b2 piece1 way1 over1

noncomputable def gameroomref_jumpsOn_m  (b1 : List Int) (b2 : Int) (piece1 : Int) (way1 : List Int) (over1 : List Int) : Option (List (List Int)) :=
  recM fun n => gameroomref_jumpsOn_mF n b1 b2 piece1 way1 over1

set_option maxRecDepth 100000 in
set_option maxHeartbeats 4000000 in
theorem gameroomref_jumpsOn_wB  {rec_gameroomref_jumpsOn : List Int → Int → Int → List Int → List Int → Option (List (List Int))} (ih_gameroomref_jumpsOn : ∀ {A1 : Option Addr} {c1 : Nat} {n1 : Nat} {b1 : List Int} {b2 : Int} {piece1 : Int} {A2 : Option Addr} {c2 : Nat} {n2 : Nat} {way1 : List Int} {A3 : Option Addr} {c3 : Nat} {n3 : Nat} {over1 : List Int} {r : (List (List Int))} {w0 w : World} {B : Nat} {fs : List HP} (_ : rec_gameroomref_jumpsOn b1 b2 piece1 way1 over1 = some r) (_ : Sep w0 B w (fs)) (_hr_b1 : RdF w0 B fs A1 (vI b1)) (_hc_b1 : b1.length ≤ c1) (_hn_b1 : n1 = b1.length) (_hr_way1 : RdF w0 B fs A2 (vI way1)) (_hc_way1 : way1.length ≤ c2) (_hn_way1 : n2 = way1.length) (_hr_over1 : RdF w0 B fs A3 (vI over1)) (_hc_over1 : over1.length ≤ c3) (_hn_over1 : n3 = over1.length), Calls Try.prog 118 #[.agg #[.slice A1 n1 c1, .int .i64 b2], .int .i64 piece1, .slice A2 n2 c2, .slice A3 n3 c3] w fun e w' => ∃ v, e = .returned v ∧ ∃ (A21 : Option Addr) (c21 : Nat) (hd11 : List Hd), v = .slice A21 r.length c21 ∧ Sep w0 B w' (rows 22 3 (.slice A21 r.length c21) hd11 r :: fs)) {A1 : Option Addr} {c1 : Nat} {n1 : Nat} {b1 : List Int} {b2 : Int} {piece1 : Int} {A2 : Option Addr} {c2 : Nat} {n2 : Nat} {way1 : List Int} {A3 : Option Addr} {c3 : Nat} {n3 : Nat} {over1 : List Int} {r : (List (List Int))} {w0 w : World} {B : Nat} {fs : List HP} (hm : gameroomref_jumpsOn_B rec_gameroomref_jumpsOn b1 b2 piece1 way1 over1 = some r) (hS : Sep w0 B w (fs)) (hr_b1 : RdF w0 B fs A1 (vI b1)) (_hc_b1 : b1.length ≤ c1) (_hn_b1 : n1 = b1.length) (hr_way1 : RdF w0 B fs A2 (vI way1)) (_hc_way1 : way1.length ≤ c2) (_hn_way1 : n2 = way1.length) (hr_over1 : RdF w0 B fs A3 (vI over1)) (_hc_over1 : over1.length ≤ c3) (_hn_over1 : n3 = over1.length) :
    Calls Try.prog 118 #[.agg #[.slice A1 n1 c1, .int .i64 b2], .int .i64 piece1, .slice A2 n2 c2, .slice A3 n3 c3] w fun e w' => ∃ v, e = .returned v ∧ ∃ (A21 : Option Addr) (c21 : Nat) (hd11 : List Hd), v = .slice A21 r.length c21 ∧ Sep w0 B w' (rows 22 3 (.slice A21 r.length c21) hd11 r :: fs) := by
  obtain ⟨i3, hi3, hz3, hs3, hb3⟩ := info_parts Info3
  obtain ⟨i22, hi22, hz22, hs22, hb22⟩ := info_parts Info22
  obtain rfl := _hn_b1
  obtain rfl := _hn_way1
  obtain rfl := _hn_over1
  unfold gameroomref_jumpsOn_B at hm
  replace hm := start_b hm
  refine enter (l := [.agg #[.slice A1 b1.length c1, .int .i64 b2], .int .i64 piece1, .slice A2 way1.length c2, .slice A3 over1.length c3]) (n := 132) Try.func118 rfl rfl (by simp) (fun a hF => ?_)
  refine seqR ?_
  refine at_do (d := 4) (s := vS (Instr.box 66 (.agg #[.slice A1 b1.length c1, .int .i64 b2]))) (v := .pointer (some ⟨w.heap.size, 0, none⟩)) (w' := w.alloc (.cells #[.slice A1 b1.length c1, .int .i64 b2] 66)) hF (by kernel_rfl) (by kernel_rfl) (by kernel_rfl) (fun a hF => ?_)
  have hS : Sep w0 B (w.alloc (.cells #[.slice A1 b1.length c1, .int .i64 b2] 66)) (blk w.heap.size 66 #[.slice A1 b1.length c1, .int .i64 b2] :: (fs)) := hS.box 66 #[.slice A1 b1.length c1, .int .i64 b2]
  generalize w.heap.size = g1 at hF hS
  generalize w.alloc (.cells #[.slice A1 b1.length c1, .int .i64 b2] 66) = w at hS ⊢
  refine at_run 1 [] [] [1, 2, 3, 4] [pl 1 (.int .i64 piece1), pl 2 (.slice A2 way1.length c2), pl 3 (.slice A3 over1.length c3), pl 4 (.pointer (some ⟨g1, 0, none⟩))] hF hS (by kernel_rfl) (by kernel_rfl) ?_ (fun a w hF hS => ?_)
  · exact obs_nil
  refine at_end [1, 2, 3, 4] [pl 1 (.int .i64 piece1), pl 2 (.slice A2 way1.length c2), pl 3 (.slice A3 over1.length c3), pl 4 (.pointer (some ⟨g1, 0, none⟩))] hF rfl (by kernel_rfl) (fun hF => ?_)
  refine then_n ?_
  obtain ⟨hp1, hm⟩ := asrt_b hm
  refine reg [⟨true, [], vS (Instr.indexAt 22 (.slice A2 way1.length c2) (.int .i64 (w64 ((way1.length : Int) - 1)))), .pointer (some (sAddr A2 (w64 ((way1.length : Int) - 1))))⟩, ⟨false, [], vS (Instr.loadAt 3 (.pointer (some (sAddr A2 (w64 ((way1.length : Int) - 1)))))), .int .i64 (geti way1 (w64 ((way1.length : Int) - 1)))⟩] [none, none, none, none, some (.pointer (some (sAddr A2 (w64 ((way1.length : Int) - 1))))), some (.int .i64 (geti way1 (w64 ((way1.length : Int) - 1)))), none] [1, 2, 3, 4, 9] [pl 1 (.int .i64 piece1), pl 2 (.slice A2 way1.length c2), pl 3 (.slice A3 over1.length c3), pl 4 (.pointer (some ⟨g1, 0, none⟩)), pl 9 (.int .i64 (geti way1 (w64 ((way1.length : Int) - 1))))] hF hS Fol (by kernel_rfl) (by kernel_rfl) (by kernel_rfl) ?_ (fun a w hF hS => ?_)
  · exact obs_cons (ob_ix1 (f := (Value.int .i64)) (m := way1) Und22 hi3 hs3 (hr_way1 _ (hS.dropN 1)) rfl (fun _ => hp1)) <| obs_cons (ob_get1 (n := way1.length) (m := way1) (Value.int .i64) (0 : Int) Agg3 (fun _ hS => ⟨_, (hr_way1 _ (hS.dropN 1))⟩) (fun _ hS => rfl) (fun _ => hp1)) <| obs_nil
  refine reg [] [] [1, 2, 3, 4, 9, 10] [pl 1 (.int .i64 piece1), pl 2 (.slice A2 way1.length c2), pl 3 (.slice A3 over1.length c3), pl 4 (.pointer (some ⟨g1, 0, none⟩)), pl 9 (.int .i64 (geti way1 (w64 ((way1.length : Int) - 1)))), pl 10 (.slice none 0 0)] hF hS Fol (by kernel_rfl) (by kernel_rfl) (by kernel_rfl) ?_ (fun a w hF hS => ?_)
  · exact obs_nil
  refine seq_cut (fun a w => ∃ (out2 : List (List Int)) (A5 : Option Addr) (c5 : Nat) (hd2 : List Hd), Fr 132 [pl 10 (.slice A5 out2.length c5)] a ∧ Sep w0 B w (rows 22 3 (.slice A5 out2.length c5) hd2 out2 :: fs) ∧ (gameroomref_jumpsOn_J1 out2).bind some = some r) ?_ ?_
  · rintro a w ⟨out2, A5, c5, hd2, hF, hS, hm⟩
    unfold gameroomref_jumpsOn_J1 at hm
    refine reg [] [] [8] [pl 8 (.slice A5 out2.length c5)] hF hS Fol (by kernel_rfl) (by kernel_rfl) (by kernel_rfl) ?_ (fun a w hF hS => ?_)
    · exact obs_nil
    refine wpIn_ret ?_
    have hm : some out2 = some r := hm
    obtain rfl := Option.some.inj hm
    exact retV (rs := [.tmp 8]) (vs := [.slice A5 out2.length c5]) hF rfl (rv_t (by kernel_rfl) <| rv_nil) rfl ⟨_, rfl, A5, c5, hd2, rfl, hS⟩
  · refine reg [] [] [1, 2, 3, 4, 9, 10, 11] [pl 1 (.int .i64 piece1), pl 2 (.slice A2 way1.length c2), pl 3 (.slice A3 over1.length c3), pl 4 (.pointer (some ⟨g1, 0, none⟩)), pl 9 (.int .i64 (geti way1 (w64 ((way1.length : Int) - 1)))), pl 10 (.slice none 0 0), pl 11 (.int .i64 (-1))] hF hS Fol (by kernel_rfl) (by kernel_rfl) (by kernel_rfl) ?_ (fun a w hF hS => ?_)
    · exact obs_nil
    refine wpIn_block ?_
    have hS := hS.nilRows0 22 3
    have hl1 := (hS.at_ 0 rfl).lenR
    have hS := (hS.at_ 0 rfl).reNR hl1
    have hS : Sep w0 B w (rows 22 3 (.slice none (([] : List (List Int)).length) 0) ([]) ([] : List (List Int)) :: blk g1 66 #[.slice A1 b1.length c1, .int .i64 b2] :: fs) := hS
    have hF := hF.cast (t := 10) (v := .slice none 0 0) (v' := .slice none (([] : List (List Int)).length) 0) rfl rfl (congrArg (fun k => Value.slice none k 0) hl1)
    have hS := hS.pickN 2 [1, 0] (by decide)
    refine wp_loop_model (S := (List (List Int) × Int)) (R := (List (List Int))) (gameroomref_jumpsOn_L1 rec_gameroomref_jumpsOn b1 b2 piece1 way1 over1) (fun x => (gameroomref_jumpsOn_K1 x).bind some) r (fun (x : (List (List Int) × Int)) a w => ∃ (A4 : Option Addr) (c4 : Nat) (hd1 : List Hd), Fr 132 [pl 1 (.int .i64 piece1), pl 2 (.slice A2 way1.length c2), pl 3 (.slice A3 over1.length c3), pl 4 (.pointer (some ⟨g1, 0, none⟩)), pl 9 (.int .i64 (geti way1 (w64 ((way1.length : Int) - 1)))), pl 10 (.slice A4 x.1.length c4), pl 11 (.int .i64 x.2)] a ∧ Sep w0 B w (blk g1 66 #[.slice A1 b1.length c1, .int .i64 b2] :: rows 22 3 (.slice A4 x.1.length c4) hd1 x.1 :: fs)) (assoc_b hm) ⟨none, 0, ([]), hF.weak [1, 2, 3, 4, 9, 10, 11] (by kernel_rfl), hS⟩ ?_
    clear hF hS hm
    rintro nn1 ⟨out1, dx1⟩ a w ⟨A4, c4, hd1, hF, hS⟩ hm
    generalize hφ1 : stK (gameroomref_jumpsOn_L1 rec_gameroomref_jumpsOn b1 b2 piece1 way1 over1) nn1 (fun x => (gameroomref_jumpsOn_K1 x).bind some) = φ1 at hm
    unfold gameroomref_jumpsOn_L1 at hm
    dsimp only at hF hS hm
    refine seq_cut (fun a w => Fr 132 [pl 1 (.int .i64 piece1), pl 2 (.slice A2 way1.length c2), pl 3 (.slice A3 over1.length c3), pl 4 (.pointer (some ⟨g1, 0, none⟩)), pl 9 (.int .i64 (geti way1 (w64 ((way1.length : Int) - 1)))), pl 10 (.slice A4 out1.length c4), pl 11 (.int .i64 dx1)] a ∧ Sep w0 B w (blk g1 66 #[.slice A1 b1.length c1, .int .i64 b2] :: rows 22 3 (.slice A4 out1.length c4) hd1 out1 :: fs) ∧ ((gameroomref_jumpsOn_J2 rec_gameroomref_jumpsOn b1 b2 piece1 way1 over1 out1 dx1)).bind φ1 = some r) ?_ ?_
    · rintro a w ⟨hF, hS, hm⟩
      unfold gameroomref_jumpsOn_J2 at hm
      refine seq_cut (fun a w => ∃ (out4 : List (List Int)) (A7 : Option Addr) (c7 : Nat) (hd4 : List Hd), Fr 132 [pl 1 (.int .i64 piece1), pl 2 (.slice A2 way1.length c2), pl 3 (.slice A3 over1.length c3), pl 4 (.pointer (some ⟨g1, 0, none⟩)), pl 9 (.int .i64 (geti way1 (w64 ((way1.length : Int) - 1)))), pl 10 (.slice A7 out4.length c7), pl 11 (.int .i64 dx1)] a ∧ Sep w0 B w (blk g1 66 #[.slice A1 b1.length c1, .int .i64 b2] :: rows 22 3 (.slice A7 out4.length c7) hd4 out4 :: fs) ∧ ((gameroomref_jumpsOn_J3 dx1) out4).bind φ1 = some r) ?_ ?_
      · rintro a w ⟨out4, A7, c7, hd4, hF, hS, hm⟩
        unfold gameroomref_jumpsOn_J3 at hm
        refine reg1 [] [] [1, 2, 3, 4, 9, 10, 11] [pl 1 (.int .i64 piece1), pl 2 (.slice A2 way1.length c2), pl 3 (.slice A3 over1.length c3), pl 4 (.pointer (some ⟨g1, 0, none⟩)), pl 9 (.int .i64 (geti way1 (w64 ((way1.length : Int) - 1)))), pl 10 (.slice A7 out4.length c7), pl 11 (.int .i64 (w64 (dx1 + 2)))] hF hS Fol (by kernel_rfl) (by kernel_rfl) (by kernel_rfl) ?_ (fun a w hF hS => ?_)
        · exact obs_nil
        refine then_n ?_
        rw [← hφ1] at hm
        exact ⟨(out4, (w64 (dx1 + 2))), ⟨A7, c7, hd4, hF.weak [1, 2, 3, 4, 9, 10, 11] (by kernel_rfl), hS⟩, hm⟩
      · refine wpIn_block ?_
        refine reg [] [] [1, 2, 3, 4, 9, 10, 11, 12] [pl 1 (.int .i64 piece1), pl 2 (.slice A2 way1.length c2), pl 3 (.slice A3 over1.length c3), pl 4 (.pointer (some ⟨g1, 0, none⟩)), pl 9 (.int .i64 (geti way1 (w64 ((way1.length : Int) - 1)))), pl 10 (.slice A4 out1.length c4), pl 11 (.int .i64 dx1), pl 12 (.int .i64 (-1))] hF hS Fol (by kernel_rfl) (by kernel_rfl) (by kernel_rfl) ?_ (fun a w hF hS => ?_)
        · exact obs_nil
        refine wpIn_block ?_
        refine wp_loop_model (S := (List (List Int) × Int)) (R := (List (List Int))) (gameroomref_jumpsOn_L2 rec_gameroomref_jumpsOn b1 b2 piece1 way1 over1 dx1) (fun x => ((gameroomref_jumpsOn_K2 dx1) x).bind φ1) r (fun (x : (List (List Int) × Int)) a w => ∃ (A6 : Option Addr) (c6 : Nat) (hd3 : List Hd), Fr 132 [pl 1 (.int .i64 piece1), pl 2 (.slice A2 way1.length c2), pl 3 (.slice A3 over1.length c3), pl 4 (.pointer (some ⟨g1, 0, none⟩)), pl 9 (.int .i64 (geti way1 (w64 ((way1.length : Int) - 1)))), pl 10 (.slice A6 x.1.length c6), pl 11 (.int .i64 dx1), pl 12 (.int .i64 x.2)] a ∧ Sep w0 B w (blk g1 66 #[.slice A1 b1.length c1, .int .i64 b2] :: rows 22 3 (.slice A6 x.1.length c6) hd3 x.1 :: fs)) (assoc_b hm) ⟨A4, c4, hd1, hF.weak [1, 2, 3, 4, 9, 10, 11, 12] (by kernel_rfl), hS⟩ ?_
        clear hF hS hm
        rintro nn2 ⟨out3, dy1⟩ a w ⟨A6, c6, hd3, hF, hS⟩ hm
        generalize hφ2 : stK (gameroomref_jumpsOn_L2 rec_gameroomref_jumpsOn b1 b2 piece1 way1 over1 dx1) nn2 (fun x => ((gameroomref_jumpsOn_K2 dx1) x).bind φ1) = φ2 at hm
        unfold gameroomref_jumpsOn_L2 at hm
        dsimp only at hF hS hm
        refine seq_cut (fun a w => Fr 132 [pl 1 (.int .i64 piece1), pl 2 (.slice A2 way1.length c2), pl 3 (.slice A3 over1.length c3), pl 4 (.pointer (some ⟨g1, 0, none⟩)), pl 9 (.int .i64 (geti way1 (w64 ((way1.length : Int) - 1)))), pl 10 (.slice A6 out3.length c6), pl 11 (.int .i64 dx1), pl 12 (.int .i64 dy1)] a ∧ Sep w0 B w (blk g1 66 #[.slice A1 b1.length c1, .int .i64 b2] :: rows 22 3 (.slice A6 out3.length c6) hd3 out3 :: fs) ∧ ((gameroomref_jumpsOn_J4 rec_gameroomref_jumpsOn b1 b2 piece1 way1 over1 dx1 out3 dy1)).bind φ2 = some r) ?_ ?_
        · rintro a w ⟨hF, hS, hm⟩
          unfold gameroomref_jumpsOn_J4 at hm
          refine seq_cut (fun a w => ∃ (out5 : List (List Int)) (A8 : Option Addr) (c8 : Nat) (hd5 : List Hd), Fr 132 [pl 1 (.int .i64 piece1), pl 2 (.slice A2 way1.length c2), pl 3 (.slice A3 over1.length c3), pl 4 (.pointer (some ⟨g1, 0, none⟩)), pl 9 (.int .i64 (geti way1 (w64 ((way1.length : Int) - 1)))), pl 10 (.slice A8 out5.length c8), pl 11 (.int .i64 dx1), pl 12 (.int .i64 dy1)] a ∧ Sep w0 B w (blk g1 66 #[.slice A1 b1.length c1, .int .i64 b2] :: rows 22 3 (.slice A8 out5.length c8) hd5 out5 :: fs) ∧ ((gameroomref_jumpsOn_J5 dy1) out5).bind φ2 = some r) ?_ ?_
          · rintro a w ⟨out5, A8, c8, hd5, hF, hS, hm⟩
            unfold gameroomref_jumpsOn_J5 at hm
            refine reg1 [] [] [1, 2, 3, 4, 9, 10, 11, 12] [pl 1 (.int .i64 piece1), pl 2 (.slice A2 way1.length c2), pl 3 (.slice A3 over1.length c3), pl 4 (.pointer (some ⟨g1, 0, none⟩)), pl 9 (.int .i64 (geti way1 (w64 ((way1.length : Int) - 1)))), pl 10 (.slice A8 out5.length c8), pl 11 (.int .i64 dx1), pl 12 (.int .i64 (w64 (dy1 + 2)))] hF hS Fol (by kernel_rfl) (by kernel_rfl) (by kernel_rfl) ?_ (fun a w hF hS => ?_)
            · exact obs_nil
            refine then_n ?_
            rw [← hφ2] at hm
            exact ⟨(out5, (w64 (dy1 + 2))), ⟨A8, c8, hd5, hF.weak [1, 2, 3, 4, 9, 10, 11, 12] (by kernel_rfl), hS⟩, hm⟩
          · refine wpIn_block ?_
            obtain ⟨r1, hr1, hm⟩ := call_b hm
            obtain ⟨r2, hr2, hm⟩ := call_b hm
            obtain ⟨r3, hr3, hm⟩ := call_b hm
            obtain ⟨r4, hr4, hm⟩ := call_b hm
            obtain ⟨r5, hr5, hm⟩ := call_b hm
            obtain ⟨r6, hr6, hm⟩ := call_b hm
            refine reg [⟨false, [], callFunc 121 #[.int .i64 (geti way1 (w64 ((way1.length : Int) - 1)))], .int .i64 r1⟩, ⟨false, [], callFunc 122 #[.int .i64 (geti way1 (w64 ((way1.length : Int) - 1)))], .int .i64 r2⟩, ⟨false, [], callFunc 120 #[.int .i64 (w64 (r1 + dx1)), .int .i64 (w64 (r2 + dy1))], .int .i64 r3⟩, ⟨false, [], callFunc 121 #[.int .i64 (geti way1 (w64 ((way1.length : Int) - 1)))], .int .i64 r4⟩, ⟨false, [], callFunc 122 #[.int .i64 (geti way1 (w64 ((way1.length : Int) - 1)))], .int .i64 r5⟩, ⟨false, [], callFunc 120 #[.int .i64 (w64 (r4 + (w64 (2 * dx1)))), .int .i64 (w64 (r5 + (w64 (2 * dy1))))], .int .i64 r6⟩] [none, some (.int .i64 r1), none, none, none, some (.int .i64 r2), none, none, some (.int .i64 r3), none, some (.int .i64 r4), none, none, none, none, some (.int .i64 r5), none, none, none, some (.int .i64 r6), none, none] [1, 2, 3, 4, 9, 10, 11, 12, 13, 14] [pl 1 (.int .i64 piece1), pl 2 (.slice A2 way1.length c2), pl 3 (.slice A3 over1.length c3), pl 4 (.pointer (some ⟨g1, 0, none⟩)), pl 9 (.int .i64 (geti way1 (w64 ((way1.length : Int) - 1)))), pl 10 (.slice A6 out3.length c6), pl 11 (.int .i64 dx1), pl 12 (.int .i64 dy1), pl 13 (.int .i64 r3), pl 14 (.int .i64 r6)] hF hS Fol (by kernel_rfl) (by kernel_rfl) (by kernel_rfl) ?_ (fun a w hF hS => ?_)
            · exact obs_cons (ob_call Try.func121 (by kernel_rfl) rfl (fun _ _ hS => gameroomref_darkX_w hr1 hS )) <| obs_cons (ob_call Try.func122 (by kernel_rfl) rfl (fun _ _ hS => gameroomref_darkY_w hr2 hS )) <| obs_cons (ob_call Try.func120 (by kernel_rfl) rfl (fun _ _ hS => gameroomref_darkAt_w hr3 hS )) <| obs_cons (ob_call Try.func121 (by kernel_rfl) rfl (fun _ _ hS => gameroomref_darkX_w hr4 hS )) <| obs_cons (ob_call Try.func122 (by kernel_rfl) rfl (fun _ _ hS => gameroomref_darkY_w hr5 hS )) <| obs_cons (ob_call Try.func120 (by kernel_rfl) rfl (fun _ _ hS => gameroomref_darkAt_w hr6 hS )) <| obs_nil
            refine seq_cut (fun a w => Fr 132 [pl 1 (.int .i64 piece1), pl 2 (.slice A2 way1.length c2), pl 3 (.slice A3 over1.length c3), pl 4 (.pointer (some ⟨g1, 0, none⟩)), pl 9 (.int .i64 (geti way1 (w64 ((way1.length : Int) - 1)))), pl 10 (.slice A6 out3.length c6), pl 11 (.int .i64 dx1), pl 12 (.int .i64 dy1), pl 13 (.int .i64 r3), pl 14 (.int .i64 r6)] a ∧ Sep w0 B w (blk g1 66 #[.slice A1 b1.length c1, .int .i64 b2] :: rows 22 3 (.slice A6 out3.length c6) hd3 out3 :: fs) ∧ ((gameroomref_jumpsOn_J6 rec_gameroomref_jumpsOn b1 b2 piece1 way1 over1 out3 dy1 r3 r6)).bind φ2 = some r) ?_ ?_
            · rintro a w ⟨hF, hS, hm⟩
              unfold gameroomref_jumpsOn_J6 at hm
              refine seqR ?_
              obtain ⟨r10, hr10, hm⟩ := call_b hm
              obtain ⟨hp5, hm⟩ := asrt_b hm
              refine at_run 1 [] [] [1, 2, 3, 4, 9, 10, 11, 12, 13, 14, 93] [pl 1 (.int .i64 piece1), pl 2 (.slice A2 way1.length c2), pl 3 (.slice A3 over1.length c3), pl 4 (.pointer (some ⟨g1, 0, none⟩)), pl 9 (.int .i64 (geti way1 (w64 ((way1.length : Int) - 1)))), pl 10 (.slice A6 out3.length c6), pl 11 (.int .i64 dx1), pl 12 (.int .i64 dy1), pl 13 (.int .i64 r3), pl 14 (.int .i64 r6), pl 93 (.slice A2 way1.length c2)] hF hS (by kernel_rfl) (by kernel_rfl) ?_ (fun a w hF hS => ?_)
              · exact obs_nil
              refine at_call (f := 84) (args := #[.slice A2 way1.length c2]) (d := 94) hF (by kernel_rfl) (by kernel_rfl) Try.func84 (by kernel_rfl) rfl (gameroomref_Ints_w hr10 hS (fun _ hS => (hr_way1 _ (hS.dropN 2))) _hc_way1 rfl) (fun v a w hR hF => ?_)
              clear hS
              obtain ⟨A9, c9, rfl, hS⟩ := hR
              have hS : Sep w0 B w (own 3 (.slice A9 r10.length c9) (vI r10) :: blk g1 66 #[.slice A1 b1.length c1, .int .i64 b2] :: rows 22 3 (.slice A6 out3.length c6) hd3 out3 :: fs) := hS
              refine at_run 1 [] [] [1, 2, 3, 4, 9, 10, 11, 12, 13, 14, 94, 95] [pl 1 (.int .i64 piece1), pl 2 (.slice A2 way1.length c2), pl 3 (.slice A3 over1.length c3), pl 4 (.pointer (some ⟨g1, 0, none⟩)), pl 9 (.int .i64 (geti way1 (w64 ((way1.length : Int) - 1)))), pl 10 (.slice A6 out3.length c6), pl 11 (.int .i64 dx1), pl 12 (.int .i64 dy1), pl 13 (.int .i64 r3), pl 14 (.int .i64 r6), pl 94 (.slice A9 r10.length c9), pl 95 (.int .i64 r6)] hF hS (by kernel_rfl) (by kernel_rfl) ?_ (fun a w hF hS => ?_)
              · exact obs_nil
              refine at_do (d := 96) (s := vS (Instr.buildSlice 22 1 #[(0, .int .i64 r6)])) (v := .slice (some ⟨w.heap.size, 0, none⟩) 1 1) (w' := w.alloc (.cells #[.int .i64 r6] 3)) hF (by kernel_rfl) (by kernel_rfl) (by kernel_rfl) (fun a hF => ?_)
              have hS : Sep w0 B (w.alloc (.cells #[.int .i64 r6] 3)) (own 3 (.slice (some (⟨w.heap.size, 0, none⟩ : Addr)) 1 1) (vI ([r6] : List Int)) :: (own 3 (.slice A9 r10.length c9) (vI r10) :: blk g1 66 #[.slice A1 b1.length c1, .int .i64 b2] :: rows 22 3 (.slice A6 out3.length c6) hd3 out3 :: fs)) := hS.lit 3 #[.int .i64 r6] 1 rfl (by omega)
              generalize (some (⟨w.heap.size, 0, none⟩ : Addr)) = g2 at hF hS
              generalize w.alloc (.cells #[.int .i64 r6] 3) = w at hS ⊢
              obtain ⟨A10, c10, w, hrun, hS⟩ := run_app1 (P := Try.prog) (t := 22) (m := r10) (ys := ([r6] : List Int)) (A2 := g2) (m2 := 1) (c2 := 1) (Value.int .i64) (0 : Int) (hS.at_ 1 rfl) (hS.at_ 0 rfl).rd ((hS.at_ 0 rfl).len1) 22 Und22 hi3 hz3 hs3 (by omega) rfl (fun _ => rfl) hp5
              have hS : Sep w0 B w (own 3 (.slice g2 1 1) (vI ([r6] : List Int)) :: own 3 (.slice A10 ((r10 ++ ([r6] : List Int)).length) c10) (vI (r10 ++ ([r6] : List Int))) :: blk g1 66 #[.slice A1 b1.length c1, .int .i64 b2] :: rows 22 3 (.slice A6 out3.length c6) hd3 out3 :: fs) := hS
              refine at_do (d := 97) hF (by kernel_rfl) (by kernel_rfl) hrun (fun a hF => ?_)
              refine at_run 1 [] [] [1, 2, 3, 4, 9, 10, 11, 12, 13, 14, 15] [pl 1 (.int .i64 piece1), pl 2 (.slice A2 way1.length c2), pl 3 (.slice A3 over1.length c3), pl 4 (.pointer (some ⟨g1, 0, none⟩)), pl 9 (.int .i64 (geti way1 (w64 ((way1.length : Int) - 1)))), pl 10 (.slice A6 out3.length c6), pl 11 (.int .i64 dx1), pl 12 (.int .i64 dy1), pl 13 (.int .i64 r3), pl 14 (.int .i64 r6), pl 15 (.slice A10 ((r10 ++ ([r6] : List Int)).length) c10)] hF hS (by kernel_rfl) (by kernel_rfl) ?_ (fun a w hF hS => ?_)
              · exact obs_nil
              refine at_end [1, 2, 3, 4, 9, 10, 11, 12, 13, 14, 15] [pl 1 (.int .i64 piece1), pl 2 (.slice A2 way1.length c2), pl 3 (.slice A3 over1.length c3), pl 4 (.pointer (some ⟨g1, 0, none⟩)), pl 9 (.int .i64 (geti way1 (w64 ((way1.length : Int) - 1)))), pl 10 (.slice A6 out3.length c6), pl 11 (.int .i64 dx1), pl 12 (.int .i64 dy1), pl 13 (.int .i64 r3), pl 14 (.int .i64 r6), pl 15 (.slice A10 ((r10 ++ ([r6] : List Int)).length) c10)] hF rfl (by kernel_rfl) (fun hF => ?_)
              refine then_n ?_
              refine reg [] [] [1, 2, 3, 4, 9, 10, 11, 12, 13, 15, 16] [pl 1 (.int .i64 piece1), pl 2 (.slice A2 way1.length c2), pl 3 (.slice A3 over1.length c3), pl 4 (.pointer (some ⟨g1, 0, none⟩)), pl 9 (.int .i64 (geti way1 (w64 ((way1.length : Int) - 1)))), pl 10 (.slice A6 out3.length c6), pl 11 (.int .i64 dx1), pl 12 (.int .i64 dy1), pl 13 (.int .i64 r3), pl 15 (.slice A10 ((r10 ++ ([r6] : List Int)).length) c10), pl 16 (.bool (((piece1 == 1) && (decide (r6 ≤ 4))) || ((piece1 == (-1)) && (decide ((29 : Int) ≤ r6)))))] hF hS Fol (by kernel_rfl) (by kernel_rfl) (by kernel_rfl) ?_ (fun a w hF hS => ?_)
              · exact obs_nil
              refine reg [] [] [1, 2, 3, 4, 9, 10, 11, 12, 13, 15, 16, 17] [pl 1 (.int .i64 piece1), pl 2 (.slice A2 way1.length c2), pl 3 (.slice A3 over1.length c3), pl 4 (.pointer (some ⟨g1, 0, none⟩)), pl 9 (.int .i64 (geti way1 (w64 ((way1.length : Int) - 1)))), pl 10 (.slice A6 out3.length c6), pl 11 (.int .i64 dx1), pl 12 (.int .i64 dy1), pl 13 (.int .i64 r3), pl 15 (.slice A10 ((r10 ++ ([r6] : List Int)).length) c10), pl 16 (.bool (((piece1 == 1) && (decide (r6 ≤ 4))) || ((piece1 == (-1)) && (decide ((29 : Int) ≤ r6))))), pl 17 (.slice none 0 0)] hF hS Fol (by kernel_rfl) (by kernel_rfl) (by kernel_rfl) ?_ (fun a w hF hS => ?_)
              · exact obs_nil
              refine seq_cut (fun a w => ∃ (more1 : List (List Int)) (A16 : Option Addr) (c16 : Nat) (hd8 : List Hd), Fr 132 [pl 1 (.int .i64 piece1), pl 2 (.slice A2 way1.length c2), pl 3 (.slice A3 over1.length c3), pl 4 (.pointer (some ⟨g1, 0, none⟩)), pl 9 (.int .i64 (geti way1 (w64 ((way1.length : Int) - 1)))), pl 10 (.slice A6 out3.length c6), pl 11 (.int .i64 dx1), pl 12 (.int .i64 dy1), pl 15 (.slice A10 ((r10 ++ ([r6] : List Int)).length) c10), pl 17 (.slice A16 more1.length c16)] a ∧ Sep w0 B w (blk g1 66 #[.slice A1 b1.length c1, .int .i64 b2] :: rows 22 3 (.slice A6 out3.length c6) hd3 out3 :: own 3 (.slice A10 ((r10 ++ ([r6] : List Int)).length) c10) (vI (r10 ++ ([r6] : List Int))) :: rows 22 3 (.slice A16 more1.length c16) hd8 more1 :: fs) ∧ ((gameroomref_jumpsOn_J7 out3 dy1 r6 r10) more1).bind φ2 = some r) ?_ ?_
              · rintro a w ⟨more1, A16, c16, hd8, hF, hS, hm⟩
                unfold gameroomref_jumpsOn_J7 at hm
                refine seq_cut (fun a w => ∃ (more2 : List (List Int)) (A19 : Option Addr) (c19 : Nat) (hd10 : List Hd), Fr 132 [pl 1 (.int .i64 piece1), pl 2 (.slice A2 way1.length c2), pl 3 (.slice A3 over1.length c3), pl 4 (.pointer (some ⟨g1, 0, none⟩)), pl 9 (.int .i64 (geti way1 (w64 ((way1.length : Int) - 1)))), pl 10 (.slice A6 out3.length c6), pl 11 (.int .i64 dx1), pl 12 (.int .i64 dy1), pl 17 (.slice A19 more2.length c19)] a ∧ Sep w0 B w (blk g1 66 #[.slice A1 b1.length c1, .int .i64 b2] :: rows 22 3 (.slice A6 out3.length c6) hd3 out3 :: rows 22 3 (.slice A19 more2.length c19) hd10 more2 :: fs) ∧ ((gameroomref_jumpsOn_J8 out3 dy1) more2).bind φ2 = some r) ?_ ?_
                · rintro a w ⟨more2, A19, c19, hd10, hF, hS, hm⟩
                  unfold gameroomref_jumpsOn_J8 at hm
                  refine oneR ?_
                  obtain ⟨hp7, hm⟩ := asrt_b hm
                  refine at_run 2 [] [] [1, 2, 3, 4, 9, 11, 12, 128, 129] [pl 1 (.int .i64 piece1), pl 2 (.slice A2 way1.length c2), pl 3 (.slice A3 over1.length c3), pl 4 (.pointer (some ⟨g1, 0, none⟩)), pl 9 (.int .i64 (geti way1 (w64 ((way1.length : Int) - 1)))), pl 11 (.int .i64 dx1), pl 12 (.int .i64 dy1), pl 128 (.slice A6 out3.length c6), pl 129 (.slice A19 more2.length c19)] hF hS (by kernel_rfl) (by kernel_rfl) ?_ (fun a w hF hS => ?_)
                  · exact obs_nil
                  have hS := hS.pickN 3 [2, 0, 1] (by decide)
                  have hS : Sep w0 B w (rows 22 3 (.slice A19 more2.length c19) hd10 more2 :: blk g1 66 #[.slice A1 b1.length c1, .int .i64 b2] :: rows 22 3 (.slice A6 out3.length c6) hd3 out3 :: fs) := hS
                  obtain ⟨A20, c20, w, hrun, hS⟩ := run_appRows (P := Try.prog) (t := 42) (hS.at2 1 rfl) 42 Und42 hi22 hz22 hs22 hb22 hp7
                  have hS : Sep w0 B w (blk g1 66 #[.slice A1 b1.length c1, .int .i64 b2] :: rows 22 3 (.slice A20 ((out3 ++ more2).length) c20) (hd3 ++ hd10) (out3 ++ more2) :: fs) := hS
                  refine at_do (d := 130) hF (by kernel_rfl) (by kernel_rfl) hrun (fun a hF => ?_)
                  refine at_run 1 [] [] [1, 2, 3, 4, 9, 10, 11, 12] [pl 1 (.int .i64 piece1), pl 2 (.slice A2 way1.length c2), pl 3 (.slice A3 over1.length c3), pl 4 (.pointer (some ⟨g1, 0, none⟩)), pl 9 (.int .i64 (geti way1 (w64 ((way1.length : Int) - 1)))), pl 10 (.slice A20 ((out3 ++ more2).length) c20), pl 11 (.int .i64 dx1), pl 12 (.int .i64 dy1)] hF hS (by kernel_rfl) (by kernel_rfl) ?_ (fun a w hF hS => ?_)
                  · exact obs_nil
                  refine at_end [1, 2, 3, 4, 9, 10, 11, 12] [pl 1 (.int .i64 piece1), pl 2 (.slice A2 way1.length c2), pl 3 (.slice A3 over1.length c3), pl 4 (.pointer (some ⟨g1, 0, none⟩)), pl 9 (.int .i64 (geti way1 (w64 ((way1.length : Int) - 1)))), pl 10 (.slice A20 ((out3 ++ more2).length) c20), pl 11 (.int .i64 dx1), pl 12 (.int .i64 dy1)] hF rfl (by kernel_rfl) (fun hF => ?_)
                  refine block_n ?_
                  refine then_n ?_
                  exact ⟨(out3 ++ more2), A20, c20, (hd3 ++ hd10), hF.weak [1, 2, 3, 4, 9, 10, 11, 12] (by kernel_rfl), hS, hm⟩
                · refine reg [] [] [1, 2, 3, 4, 9, 10, 11, 12, 15, 17, 125] [pl 1 (.int .i64 piece1), pl 2 (.slice A2 way1.length c2), pl 3 (.slice A3 over1.length c3), pl 4 (.pointer (some ⟨g1, 0, none⟩)), pl 9 (.int .i64 (geti way1 (w64 ((way1.length : Int) - 1)))), pl 10 (.slice A6 out3.length c6), pl 11 (.int .i64 dx1), pl 12 (.int .i64 dy1), pl 15 (.slice A10 ((r10 ++ ([r6] : List Int)).length) c10), pl 17 (.slice A16 more1.length c16), pl 125 (.bool ((more1.length : Int) == 0))] hF hS Fol (by kernel_rfl) (by kernel_rfl) (by kernel_rfl) ?_ (fun a w hF hS => ?_)
                  · exact obs_nil
                  refine cond_ev (t := 125) (b := ((more1.length : Int) == 0)) hF (by kernel_rfl) (fun hb => ?_) (fun hb => ?_)
                  · replace hm := if_t hm hb
                    refine oneR ?_
                    refine at_run 1 [] [] [1, 2, 3, 4, 9, 10, 11, 12, 126] [pl 1 (.int .i64 piece1), pl 2 (.slice A2 way1.length c2), pl 3 (.slice A3 over1.length c3), pl 4 (.pointer (some ⟨g1, 0, none⟩)), pl 9 (.int .i64 (geti way1 (w64 ((way1.length : Int) - 1)))), pl 10 (.slice A6 out3.length c6), pl 11 (.int .i64 dx1), pl 12 (.int .i64 dy1), pl 126 (.slice A10 ((r10 ++ ([r6] : List Int)).length) c10)] hF hS (by kernel_rfl) (by kernel_rfl) ?_ (fun a w hF hS => ?_)
                    · exact obs_nil
                    refine at_do (d := 127) (s := vS (Instr.buildSlice 42 1 #[(0, .slice A10 ((r10 ++ ([r6] : List Int)).length) c10)])) (v := .slice (some ⟨w.heap.size, 0, none⟩) 1 1) (w' := w.alloc (.cells #[.slice A10 ((r10 ++ ([r6] : List Int)).length) c10] 22)) hF (by kernel_rfl) (by kernel_rfl) (by kernel_rfl) (fun a hF => ?_)
                    have hS : Sep w0 B (w.alloc (.cells #[.slice A10 ((r10 ++ ([r6] : List Int)).length) c10] 22)) (own 22 (.slice (some (⟨w.heap.size, 0, none⟩ : Addr)) 1 1) [.slice A10 ((r10 ++ ([r6] : List Int)).length) c10] :: (blk g1 66 #[.slice A1 b1.length c1, .int .i64 b2] :: rows 22 3 (.slice A6 out3.length c6) hd3 out3 :: own 3 (.slice A10 ((r10 ++ ([r6] : List Int)).length) c10) (vI (r10 ++ ([r6] : List Int))) :: rows 22 3 (.slice A16 more1.length c16) hd8 more1 :: fs)) := hS.lit 22 #[.slice A10 ((r10 ++ ([r6] : List Int)).length) c10] 1 rfl (by omega)
                    generalize (some (⟨w.heap.size, 0, none⟩ : Addr)) = g4 at hF hS
                    generalize w.alloc (.cells #[.slice A10 ((r10 ++ ([r6] : List Int)).length) c10] 22) = w at hS ⊢
                    have hS := hS.pickN 5 [0, 3, 1, 2, 4] (by decide)
                    have hS : Sep w0 B w (rows 22 3 (.slice g4 (([(r10 ++ ([r6] : List Int))] : List (List Int)).length) 1) ([(A10, c10)] : List Hd) ([(r10 ++ ([r6] : List Int))] : List (List Int)) :: blk g1 66 #[.slice A1 b1.length c1, .int .i64 b2] :: rows 22 3 (.slice A6 out3.length c6) hd3 out3 :: rows 22 3 (.slice A16 more1.length c16) hd8 more1 :: fs) := hS.litRow1
                    refine at_run 1 [] [] [1, 2, 3, 4, 9, 10, 11, 12, 17] [pl 1 (.int .i64 piece1), pl 2 (.slice A2 way1.length c2), pl 3 (.slice A3 over1.length c3), pl 4 (.pointer (some ⟨g1, 0, none⟩)), pl 9 (.int .i64 (geti way1 (w64 ((way1.length : Int) - 1)))), pl 10 (.slice A6 out3.length c6), pl 11 (.int .i64 dx1), pl 12 (.int .i64 dy1), pl 17 (.slice g4 (([(r10 ++ ([r6] : List Int))] : List (List Int)).length) 1)] hF hS (by kernel_rfl) (by kernel_rfl) ?_ (fun a w hF hS => ?_)
                    · exact obs_nil
                    refine at_end [1, 2, 3, 4, 9, 10, 11, 12, 17] [pl 1 (.int .i64 piece1), pl 2 (.slice A2 way1.length c2), pl 3 (.slice A3 over1.length c3), pl 4 (.pointer (some ⟨g1, 0, none⟩)), pl 9 (.int .i64 (geti way1 (w64 ((way1.length : Int) - 1)))), pl 10 (.slice A6 out3.length c6), pl 11 (.int .i64 dx1), pl 12 (.int .i64 dy1), pl 17 (.slice g4 (([(r10 ++ ([r6] : List Int))] : List (List Int)).length) 1)] hF rfl (by kernel_rfl) (fun hF => ?_)
                    refine then_n ?_
                    have hS := hS.pickN 4 [1, 2, 0] (by decide)
                    exact ⟨([(r10 ++ ([r6] : List Int))] : List (List Int)), g4, 1, ([(A10, c10)] : List Hd), hF.weak [1, 2, 3, 4, 9, 10, 11, 12, 17] (by kernel_rfl), hS, hm⟩
                  · replace hm := if_f hm hb
                    refine wpIn_skip ?_
                    refine then_n ?_
                    have hS := hS.pickN 4 [0, 1, 3] (by decide)
                    exact ⟨more1, A16, c16, hd8, hF.weak [1, 2, 3, 4, 9, 10, 11, 12, 17] (by kernel_rfl), hS, hm⟩
              · refine reg [] [] [1, 2, 3, 4, 9, 10, 11, 12, 13, 15, 17, 113] [pl 1 (.int .i64 piece1), pl 2 (.slice A2 way1.length c2), pl 3 (.slice A3 over1.length c3), pl 4 (.pointer (some ⟨g1, 0, none⟩)), pl 9 (.int .i64 (geti way1 (w64 ((way1.length : Int) - 1)))), pl 10 (.slice A6 out3.length c6), pl 11 (.int .i64 dx1), pl 12 (.int .i64 dy1), pl 13 (.int .i64 r3), pl 15 (.slice A10 ((r10 ++ ([r6] : List Int)).length) c10), pl 17 (.slice none 0 0), pl 113 (.bool (!(((piece1 == 1) && (decide (r6 ≤ 4))) || ((piece1 == (-1)) && (decide ((29 : Int) ≤ r6))))))] hF hS Fol (by kernel_rfl) (by kernel_rfl) (by kernel_rfl) ?_ (fun a w hF hS => ?_)
                · exact obs_nil
                refine cond_ev (t := 113) (b := !(((piece1 == 1) && (decide (r6 ≤ 4))) || ((piece1 == (-1)) && (decide ((29 : Int) ≤ r6))))) hF (by kernel_rfl) (fun hb => ?_) (fun hb => ?_)
                · replace hm := if_t hm hb
                  obtain ⟨r11, hr11, hm⟩ := call_b hm
                  obtain ⟨hp6, hm⟩ := asrt_b hm
                  obtain ⟨r12, hr12, hm⟩ := call_b hm
                  refine regMix5 [0, 1, 2, 3, 5] [] 5 #[true, true, true, true, false, true, false, false, false, false] [⟨false, [], vS (Instr.loadAt 66 (.pointer (some ⟨g1, 0, none⟩))), .agg #[.slice A1 b1.length c1, .int .i64 b2]⟩] [some (.agg #[.slice A1 b1.length c1, .int .i64 b2]), none, none, none, none] [1, 2, 3, 4, 9, 10, 11, 12, 15, 114, 115, 116, 117, 119] [pl 1 (.int .i64 piece1), pl 2 (.slice A2 way1.length c2), pl 3 (.slice A3 over1.length c3), pl 4 (.pointer (some ⟨g1, 0, none⟩)), pl 9 (.int .i64 (geti way1 (w64 ((way1.length : Int) - 1)))), pl 10 (.slice A6 out3.length c6), pl 11 (.int .i64 dx1), pl 12 (.int .i64 dy1), pl 15 (.slice A10 ((r10 ++ ([r6] : List Int)).length) c10), pl 114 (.agg #[.slice A1 b1.length c1, .int .i64 b2]), pl 115 (.int .i64 piece1), pl 116 (.slice A10 ((r10 ++ ([r6] : List Int)).length) c10), pl 117 (.slice A3 over1.length c3), pl 119 (.int .i64 r3)] hF hS Fol (by kernel_rfl) (by kernel_rfl) (by kernel_rfl) (by kernel_rfl) ?_ (fun a w hF hS => ?_)
                  · exact obs_cons (ob_loadA (cs := #[.slice A1 b1.length c1, .int .i64 b2]) (by kernel_rfl) (by kernel_rfl) (fun _ _ hS => (hS.at_ 2 rfl).cellsAt 0 (by rfl))) <| obs_nil
                  refine any_step [4, 6] (by kernel_rfl) rfl ?_
                  refine (all_cons ?_ (all_cons ?_ all_nil))
                  · refine any_op (listed' := #[true, true, true, true, true, true, false, false, false, false]) (by kernel_rfl) (by kernel_rfl) ?_
                    refine at_call (f := 84) (args := #[.slice A3 over1.length c3]) (d := 118) hF (by kernel_rfl) (by kernel_rfl) Try.func84 (by kernel_rfl) rfl (gameroomref_Ints_w hr11 hS (fun _ hS => (hr_over1 _ (hS.dropN 4))) _hc_over1 rfl) (fun v a w hR hF => ?_)
                    clear hS
                    obtain ⟨A14, c14, rfl, hS⟩ := hR
                    have hS : Sep w0 B w (own 3 (.slice A14 r11.length c14) (vI r11) :: own 3 (.slice g2 1 1) (vI ([r6] : List Int)) :: own 3 (.slice A10 ((r10 ++ ([r6] : List Int)).length) c10) (vI (r10 ++ ([r6] : List Int))) :: blk g1 66 #[.slice A1 b1.length c1, .int .i64 b2] :: rows 22 3 (.slice A6 out3.length c6) hd3 out3 :: fs) := hS
                    refine any_fin rfl (hS.pickN 5 [1, 2, 3, 4] (by decide)) ?_
                    refine any_step [6] (by kernel_rfl) rfl ?_
                    refine (all_cons ?_ all_nil)
                    · refine any_op (listed' := #[true, true, true, true, true, true, true, false, false, false]) (by kernel_rfl) (by kernel_rfl) ?_
                      refine at_do (d := 120) (s := vS (Instr.buildSlice 22 1 #[(0, .int .i64 r3)])) (v := .slice (some ⟨w.heap.size, 0, none⟩) 1 1) (w' := w.alloc (.cells #[.int .i64 r3] 3)) hF (by kernel_rfl) (by kernel_rfl) (by kernel_rfl) (fun a hF => ?_)
                      have hS : Sep w0 B (w.alloc (.cells #[.int .i64 r3] 3)) (own 3 (.slice (some (⟨w.heap.size, 0, none⟩ : Addr)) 1 1) (vI ([r3] : List Int)) :: (own 3 (.slice A14 r11.length c14) (vI r11) :: own 3 (.slice g2 1 1) (vI ([r6] : List Int)) :: own 3 (.slice A10 ((r10 ++ ([r6] : List Int)).length) c10) (vI (r10 ++ ([r6] : List Int))) :: blk g1 66 #[.slice A1 b1.length c1, .int .i64 b2] :: rows 22 3 (.slice A6 out3.length c6) hd3 out3 :: fs)) := hS.lit 3 #[.int .i64 r3] 1 rfl (by omega)
                      generalize (some (⟨w.heap.size, 0, none⟩ : Addr)) = g3 at hF hS
                      generalize w.alloc (.cells #[.int .i64 r3] 3) = w at hS ⊢
                      refine any_fin rfl (hS.pickN 6 [2, 3, 4, 5] (by decide)) ?_
                      refine any_step [7] (by kernel_rfl) rfl ?_
                      refine (all_cons ?_ all_nil)
                      · refine any_op (listed' := #[true, true, true, true, true, true, true, true, false, false]) (by kernel_rfl) (by kernel_rfl) ?_
                        obtain ⟨A12, c12, w, hrun, hS⟩ := run_app1 (P := Try.prog) (t := 22) (m := r11) (ys := ([r3] : List Int)) (A2 := g3) (m2 := 1) (c2 := 1) (Value.int .i64) (0 : Int) (hS.at_ 1 rfl) (hS.at_ 0 rfl).rd ((hS.at_ 0 rfl).len1) 22 Und22 hi3 hz3 hs3 (by omega) rfl (fun _ => rfl) hp6
                        have hS : Sep w0 B w (own 3 (.slice g3 1 1) (vI ([r3] : List Int)) :: own 3 (.slice A12 ((r11 ++ ([r3] : List Int)).length) c12) (vI (r11 ++ ([r3] : List Int))) :: own 3 (.slice g2 1 1) (vI ([r6] : List Int)) :: own 3 (.slice A10 ((r10 ++ ([r6] : List Int)).length) c10) (vI (r10 ++ ([r6] : List Int))) :: blk g1 66 #[.slice A1 b1.length c1, .int .i64 b2] :: rows 22 3 (.slice A6 out3.length c6) hd3 out3 :: fs) := hS
                        refine at_do (d := 121) hF (by kernel_rfl) (by kernel_rfl) hrun (fun a hF => ?_)
                        refine any_fin rfl (hS.pickN 6 [2, 3, 4, 5] (by decide)) ?_
                        refine any_step [8] (by kernel_rfl) rfl ?_
                        refine (all_cons ?_ all_nil)
                        · refine any_op (listed' := #[true, true, true, true, true, true, true, true, true, false]) (by kernel_rfl) (by kernel_rfl) ?_
                          refine at_call (f := 118) (args := #[.agg #[.slice A1 b1.length c1, .int .i64 b2], .int .i64 piece1, .slice A10 ((r10 ++ ([r6] : List Int)).length) c10, .slice A12 ((r11 ++ ([r3] : List Int)).length) c12]) (d := 122) hF (by kernel_rfl) (by kernel_rfl) Try.func118 (by kernel_rfl) rfl (ih_gameroomref_jumpsOn hr12 hS (fun _ hS => (hr_b1 _ (hS.dropN 6))) _hc_b1 rfl (fun _ hS => (hS.at_ 3 rfl).rd) ((hS.at_ 3 rfl).cap1) rfl (fun _ hS => (hS.at_ 1 rfl).rd) ((hS.at_ 1 rfl).cap1) rfl) (fun v a w hR hF => ?_)
                          clear hS
                          obtain ⟨A15, c15, hd7, rfl, hS⟩ := hR
                          have hS : Sep w0 B w (rows 22 3 (.slice A15 r12.length c15) hd7 r12 :: own 3 (.slice g3 1 1) (vI ([r3] : List Int)) :: own 3 (.slice A12 ((r11 ++ ([r3] : List Int)).length) c12) (vI (r11 ++ ([r3] : List Int))) :: own 3 (.slice g2 1 1) (vI ([r6] : List Int)) :: own 3 (.slice A10 ((r10 ++ ([r6] : List Int)).length) c10) (vI (r10 ++ ([r6] : List Int))) :: blk g1 66 #[.slice A1 b1.length c1, .int .i64 b2] :: rows 22 3 (.slice A6 out3.length c6) hd3 out3 :: fs) := hS
                          refine any_fin rfl (hS.pickN 7 [3, 4, 5, 6] (by decide)) ?_
                          refine any_step [9] (by kernel_rfl) rfl ?_
                          refine (all_cons ?_ all_nil)
                          · refine any_op (listed' := #[true, true, true, true, true, true, true, true, true, true]) (by kernel_rfl) (by kernel_rfl) ?_
                            refine at_runW 1 [] [] [1, 2, 3, 4, 9, 10, 11, 12, 15, 17] [pl 1 (.int .i64 piece1), pl 2 (.slice A2 way1.length c2), pl 3 (.slice A3 over1.length c3), pl 4 (.pointer (some ⟨g1, 0, none⟩)), pl 9 (.int .i64 (geti way1 (w64 ((way1.length : Int) - 1)))), pl 10 (.slice A6 out3.length c6), pl 11 (.int .i64 dx1), pl 12 (.int .i64 dy1), pl 15 (.slice A10 ((r10 ++ ([r6] : List Int)).length) c10), pl 17 (.slice A15 r12.length c15)] hF hS (by kernel_rfl) (by kernel_rfl) ?_ (fun a hF => ?_)
                            · exact obs_nil
                            refine any_finI rfl (fun h => h) ?_
                            refine any_end (by kernel_rfl) ?_
                            refine np_n ?_
                            refine then_n ?_
                            have hS := hS.pickN 7 [5, 6, 4, 0] (by decide)
                            exact ⟨r12, A15, c15, hd7, hF.weak [1, 2, 3, 4, 9, 10, 11, 12, 15, 17] (by kernel_rfl), hS, hm⟩
                  · refine any_op (listed' := #[true, true, true, true, false, true, true, false, false, false]) (by kernel_rfl) (by kernel_rfl) ?_
                    refine at_do (d := 120) (s := vS (Instr.buildSlice 22 1 #[(0, .int .i64 r3)])) (v := .slice (some ⟨w.heap.size, 0, none⟩) 1 1) (w' := w.alloc (.cells #[.int .i64 r3] 3)) hF (by kernel_rfl) (by kernel_rfl) (by kernel_rfl) (fun a hF => ?_)
                    have hS : Sep w0 B (w.alloc (.cells #[.int .i64 r3] 3)) (own 3 (.slice (some (⟨w.heap.size, 0, none⟩ : Addr)) 1 1) (vI ([r3] : List Int)) :: (own 3 (.slice g2 1 1) (vI ([r6] : List Int)) :: own 3 (.slice A10 ((r10 ++ ([r6] : List Int)).length) c10) (vI (r10 ++ ([r6] : List Int))) :: blk g1 66 #[.slice A1 b1.length c1, .int .i64 b2] :: rows 22 3 (.slice A6 out3.length c6) hd3 out3 :: fs)) := hS.lit 3 #[.int .i64 r3] 1 rfl (by omega)
                    generalize (some (⟨w.heap.size, 0, none⟩ : Addr)) = g3 at hF hS
                    generalize w.alloc (.cells #[.int .i64 r3] 3) = w at hS ⊢
                    refine any_fin rfl (hS.pickN 5 [1, 2, 3, 4] (by decide)) ?_
                    refine any_step [4] (by kernel_rfl) rfl ?_
                    refine (all_cons ?_ all_nil)
                    · refine any_op (listed' := #[true, true, true, true, true, true, true, false, false, false]) (by kernel_rfl) (by kernel_rfl) ?_
                      refine at_call (f := 84) (args := #[.slice A3 over1.length c3]) (d := 118) hF (by kernel_rfl) (by kernel_rfl) Try.func84 (by kernel_rfl) rfl (gameroomref_Ints_w hr11 hS (fun _ hS => (hr_over1 _ (hS.dropN 5))) _hc_over1 rfl) (fun v a w hR hF => ?_)
                      clear hS
                      obtain ⟨A17, c17, rfl, hS⟩ := hR
                      have hS : Sep w0 B w (own 3 (.slice A17 r11.length c17) (vI r11) :: own 3 (.slice g3 1 1) (vI ([r3] : List Int)) :: own 3 (.slice g2 1 1) (vI ([r6] : List Int)) :: own 3 (.slice A10 ((r10 ++ ([r6] : List Int)).length) c10) (vI (r10 ++ ([r6] : List Int))) :: blk g1 66 #[.slice A1 b1.length c1, .int .i64 b2] :: rows 22 3 (.slice A6 out3.length c6) hd3 out3 :: fs) := hS
                      refine any_fin rfl (hS.pickN 6 [2, 3, 4, 5] (by decide)) ?_
                      refine any_step [7] (by kernel_rfl) rfl ?_
                      refine (all_cons ?_ all_nil)
                      · refine any_op (listed' := #[true, true, true, true, true, true, true, true, false, false]) (by kernel_rfl) (by kernel_rfl) ?_
                        obtain ⟨A12, c12, w, hrun, hS⟩ := run_app1 (P := Try.prog) (t := 22) (m := r11) (ys := ([r3] : List Int)) (A2 := g3) (m2 := 1) (c2 := 1) (Value.int .i64) (0 : Int) (hS.at_ 0 rfl) (hS.at_ 1 rfl).rd ((hS.at_ 1 rfl).len1) 22 Und22 hi3 hz3 hs3 (by omega) rfl (fun _ => rfl) hp6
                        have hS : Sep w0 B w (own 3 (.slice A12 ((r11 ++ ([r3] : List Int)).length) c12) (vI (r11 ++ ([r3] : List Int))) :: own 3 (.slice g3 1 1) (vI ([r3] : List Int)) :: own 3 (.slice g2 1 1) (vI ([r6] : List Int)) :: own 3 (.slice A10 ((r10 ++ ([r6] : List Int)).length) c10) (vI (r10 ++ ([r6] : List Int))) :: blk g1 66 #[.slice A1 b1.length c1, .int .i64 b2] :: rows 22 3 (.slice A6 out3.length c6) hd3 out3 :: fs) := hS
                        refine at_do (d := 121) hF (by kernel_rfl) (by kernel_rfl) hrun (fun a hF => ?_)
                        refine any_fin rfl (hS.pickN 6 [2, 3, 4, 5] (by decide)) ?_
                        refine any_step [8] (by kernel_rfl) rfl ?_
                        refine (all_cons ?_ all_nil)
                        · refine any_op (listed' := #[true, true, true, true, true, true, true, true, true, false]) (by kernel_rfl) (by kernel_rfl) ?_
                          refine at_call (f := 118) (args := #[.agg #[.slice A1 b1.length c1, .int .i64 b2], .int .i64 piece1, .slice A10 ((r10 ++ ([r6] : List Int)).length) c10, .slice A12 ((r11 ++ ([r3] : List Int)).length) c12]) (d := 122) hF (by kernel_rfl) (by kernel_rfl) Try.func118 (by kernel_rfl) rfl (ih_gameroomref_jumpsOn hr12 hS (fun _ hS => (hr_b1 _ (hS.dropN 6))) _hc_b1 rfl (fun _ hS => (hS.at_ 3 rfl).rd) ((hS.at_ 3 rfl).cap1) rfl (fun _ hS => (hS.at_ 0 rfl).rd) ((hS.at_ 0 rfl).cap1) rfl) (fun v a w hR hF => ?_)
                          clear hS
                          obtain ⟨A18, c18, hd9, rfl, hS⟩ := hR
                          have hS : Sep w0 B w (rows 22 3 (.slice A18 r12.length c18) hd9 r12 :: own 3 (.slice A12 ((r11 ++ ([r3] : List Int)).length) c12) (vI (r11 ++ ([r3] : List Int))) :: own 3 (.slice g3 1 1) (vI ([r3] : List Int)) :: own 3 (.slice g2 1 1) (vI ([r6] : List Int)) :: own 3 (.slice A10 ((r10 ++ ([r6] : List Int)).length) c10) (vI (r10 ++ ([r6] : List Int))) :: blk g1 66 #[.slice A1 b1.length c1, .int .i64 b2] :: rows 22 3 (.slice A6 out3.length c6) hd3 out3 :: fs) := hS
                          refine any_fin rfl (hS.pickN 7 [3, 4, 5, 6] (by decide)) ?_
                          refine any_step [9] (by kernel_rfl) rfl ?_
                          refine (all_cons ?_ all_nil)
                          · refine any_op (listed' := #[true, true, true, true, true, true, true, true, true, true]) (by kernel_rfl) (by kernel_rfl) ?_
                            refine at_runW 1 [] [] [1, 2, 3, 4, 9, 10, 11, 12, 15, 17] [pl 1 (.int .i64 piece1), pl 2 (.slice A2 way1.length c2), pl 3 (.slice A3 over1.length c3), pl 4 (.pointer (some ⟨g1, 0, none⟩)), pl 9 (.int .i64 (geti way1 (w64 ((way1.length : Int) - 1)))), pl 10 (.slice A6 out3.length c6), pl 11 (.int .i64 dx1), pl 12 (.int .i64 dy1), pl 15 (.slice A10 ((r10 ++ ([r6] : List Int)).length) c10), pl 17 (.slice A18 r12.length c18)] hF hS (by kernel_rfl) (by kernel_rfl) ?_ (fun a hF => ?_)
                            · exact obs_nil
                            refine any_finI rfl (fun h => h) ?_
                            refine any_end (by kernel_rfl) ?_
                            refine np_n ?_
                            refine then_n ?_
                            have hS := hS.pickN 7 [5, 6, 4, 0] (by decide)
                            exact ⟨r12, A18, c18, hd9, hF.weak [1, 2, 3, 4, 9, 10, 11, 12, 15, 17] (by kernel_rfl), hS, hm⟩
                · replace hm := if_f hm hb
                  refine wpIn_skip ?_
                  refine then_n ?_
                  have hS := hS.nilRows0 22 3
                  have hl2 := (hS.at_ 0 rfl).lenR
                  have hS := (hS.at_ 0 rfl).reNR hl2
                  have hS : Sep w0 B w (rows 22 3 (.slice none (([] : List (List Int)).length) 0) ([]) ([] : List (List Int)) :: own 3 (.slice g2 1 1) (vI ([r6] : List Int)) :: own 3 (.slice A10 ((r10 ++ ([r6] : List Int)).length) c10) (vI (r10 ++ ([r6] : List Int))) :: blk g1 66 #[.slice A1 b1.length c1, .int .i64 b2] :: rows 22 3 (.slice A6 out3.length c6) hd3 out3 :: fs) := hS
                  have hF := hF.cast (t := 17) (v := .slice none 0 0) (v' := .slice none (([] : List (List Int)).length) 0) rfl rfl (congrArg (fun k => Value.slice none k 0) hl2)
                  have hS := hS.pickN 5 [3, 4, 2, 0] (by decide)
                  exact ⟨([] : List (List Int)), none, 0, ([]), hF.weak [1, 2, 3, 4, 9, 10, 11, 12, 15, 17] (by kernel_rfl), hS, hm⟩
            · obtain ⟨r7, hr7, hm⟩ := call_b hm
              obtain ⟨hp2, hm⟩ := asrt_b hm
              obtain ⟨r8, hr8, hm⟩ := call_b hm
              obtain ⟨r9, hr9, hm⟩ := call_b hm
              obtain ⟨hp3, hm⟩ := asrt_b hm
              obtain ⟨hp4, hm⟩ := asrt_b hm
              refine reg [⟨false, [], callFunc 123 #[.int .i64 piece1, .int .i64 dy1], .bool r7⟩, ⟨false, [((!r7) || (r6 == 0), false)], vS (Instr.loadAt 22 (.pointer (some ⟨g1, 0, none⟩))), .slice A1 b1.length c1⟩, ⟨true, [((!r7) || (r6 == 0), false)], vS (Instr.indexAt 22 (.slice A1 b1.length c1) (.int .i64 r3)), .pointer (some (sAddr A1 r3))⟩, ⟨false, [((!r7) || (r6 == 0), false)], vS (Instr.loadAt 3 (.pointer (some (sAddr A1 r3)))), .int .i64 (geti b1 r3)⟩, ⟨false, [((!r7) || (r6 == 0), false)], callFunc 117 #[.int .i64 (geti b1 r3)], .int .i64 r8⟩, ⟨false, [((!r7) || (r6 == 0), false)], vS (Instr.loadAt 3 (.pointer (some ⟨g1, 1, none⟩))), .int .i64 b2⟩, ⟨false, [(((!r7) || (r6 == 0)) || (r8 != (w64 (3 - b2))), false)], callFunc 110 #[.slice A3 over1.length c3, .int .i64 r3], .int .i64 r9⟩, ⟨false, [((((!r7) || (r6 == 0)) || (r8 != (w64 (3 - b2)))) || (decide ((0 : Int) ≤ r9)), false)], vS (Instr.loadAt 22 (.pointer (some ⟨g1, 0, none⟩))), .slice A1 b1.length c1⟩, ⟨true, [((((!r7) || (r6 == 0)) || (r8 != (w64 (3 - b2)))) || (decide ((0 : Int) ≤ r9)), false)], vS (Instr.indexAt 22 (.slice A1 b1.length c1) (.int .i64 r6)), .pointer (some (sAddr A1 r6))⟩, ⟨false, [((((!r7) || (r6 == 0)) || (r8 != (w64 (3 - b2)))) || (decide ((0 : Int) ≤ r9)), false)], vS (Instr.loadAt 3 (.pointer (some (sAddr A1 r6)))), .int .i64 (geti b1 r6)⟩, ⟨true, [(((geti b1 r6) != 0), true), ((((!r7) || (r6 == 0)) || (r8 != (w64 (3 - b2)))) || (decide ((0 : Int) ≤ r9)), false)], vS (Instr.indexAt 22 (.slice A2 way1.length c2) (.int .i64 0)), .pointer (some (sAddr A2 0))⟩, ⟨false, [(((geti b1 r6) != 0), true), ((((!r7) || (r6 == 0)) || (r8 != (w64 (3 - b2)))) || (decide ((0 : Int) ≤ r9)), false)], vS (Instr.loadAt 3 (.pointer (some (sAddr A2 0)))), .int .i64 (geti way1 0)⟩] [none, none, some (.bool r7), none, none, none, none, none, none, none, some (.slice A1 b1.length c1), none, some (.pointer (some (sAddr A1 r3))), some (.int .i64 (geti b1 r3)), some (.int .i64 r8), none, some (.int .i64 b2), none, none, none, none, none, none, some (.int .i64 r9), none, none, none, none, some (.slice A1 b1.length c1), none, some (.pointer (some (sAddr A1 r6))), some (.int .i64 (geti b1 r6)), none, none, none, none, some (.pointer (some (sAddr A2 0))), some (.int .i64 (geti way1 0)), none, none, none] [1, 2, 3, 4, 9, 10, 11, 12, 13, 14, 92] [pl 1 (.int .i64 piece1), pl 2 (.slice A2 way1.length c2), pl 3 (.slice A3 over1.length c3), pl 4 (.pointer (some ⟨g1, 0, none⟩)), pl 9 (.int .i64 (geti way1 (w64 ((way1.length : Int) - 1)))), pl 10 (.slice A6 out3.length c6), pl 11 (.int .i64 dx1), pl 12 (.int .i64 dy1), pl 13 (.int .i64 r3), pl 14 (.int .i64 r6), pl 92 (.bool (((((!r7) || (r6 == 0)) || (r8 != (w64 (3 - b2)))) || (decide ((0 : Int) ≤ r9))) || (((geti b1 r6) != 0) && (r6 != (geti way1 0)))))] hF hS Fol (by kernel_rfl) (by kernel_rfl) (by kernel_rfl) ?_ (fun a w hF hS => ?_)
              · exact obs_cons (ob_call Try.func123 (by kernel_rfl) rfl (fun _ _ hS => gameroomref_forwardMay_w hr7 hS )) <| obs_cons (ob_load Agg22 (fun _ _ hS => (hS.at_ 0 rfl).cell rfl)) <| obs_cons (ob_ix1 (f := (Value.int .i64)) (m := b1) Und22 hi3 hs3 (hr_b1 _ (hS.dropN 2)) rfl (fun hy => hp2 (hy ((!r7) || (r6 == 0), false) (by simp)))) <| obs_cons (ob_get1 (n := b1.length) (m := b1) (Value.int .i64) (0 : Int) Agg3 (fun _ hS => ⟨_, (hr_b1 _ (hS.dropN 2))⟩) (fun _ hS => rfl) (fun hy => hp2 (hy ((!r7) || (r6 == 0), false) (by simp)))) <| obs_cons (ob_call Try.func117 (by kernel_rfl) rfl (fun hy _ hS => gameroomref_ownerOf_w (ite_some hr8 (by rw [show ((!r7) || (r6 == 0)) = false from hy ((!r7) || (r6 == 0), false) (by simp)]; try rfl)) hS )) <| obs_cons (ob_load Agg3 (fun _ _ hS => (hS.at_ 0 rfl).cell rfl)) <| obs_cons (ob_call Try.func110 (by kernel_rfl) rfl (fun hy _ hS => gameroomref_at_w (ite_some hr9 (by rw [show (((!r7) || (r6 == 0)) || (r8 != (w64 (3 - b2)))) = false from hy (((!r7) || (r6 == 0)) || (r8 != (w64 (3 - b2))), false) (by simp)]; try rfl)) hS (fun _ hS => (hr_over1 _ (hS.dropN 2))) _hc_over1 rfl)) <| obs_cons (ob_load Agg22 (fun _ _ hS => (hS.at_ 0 rfl).cell rfl)) <| obs_cons (ob_ix1 (f := (Value.int .i64)) (m := b1) Und22 hi3 hs3 (hr_b1 _ (hS.dropN 2)) rfl (fun hy => hp3 (hy ((((!r7) || (r6 == 0)) || (r8 != (w64 (3 - b2)))) || (decide ((0 : Int) ≤ r9)), false) (by simp)))) <| obs_cons (ob_get1 (n := b1.length) (m := b1) (Value.int .i64) (0 : Int) Agg3 (fun _ hS => ⟨_, (hr_b1 _ (hS.dropN 2))⟩) (fun _ hS => rfl) (fun hy => hp3 (hy ((((!r7) || (r6 == 0)) || (r8 != (w64 (3 - b2)))) || (decide ((0 : Int) ≤ r9)), false) (by simp)))) <| obs_cons (ob_ix1 (f := (Value.int .i64)) (m := way1) Und22 hi3 hs3 (hr_way1 _ (hS.dropN 2)) rfl (fun hy => hp4 (hy (((geti b1 r6) != 0), true) (by simp)) (hy ((((!r7) || (r6 == 0)) || (r8 != (w64 (3 - b2)))) || (decide ((0 : Int) ≤ r9)), false) (by simp)))) <| obs_cons (ob_get1 (n := way1.length) (m := way1) (Value.int .i64) (0 : Int) Agg3 (fun _ hS => ⟨_, (hr_way1 _ (hS.dropN 2))⟩) (fun _ hS => rfl) (fun hy => hp4 (hy (((geti b1 r6) != 0), true) (by simp)) (hy ((((!r7) || (r6 == 0)) || (r8 != (w64 (3 - b2)))) || (decide ((0 : Int) ≤ r9)), false) (by simp)))) <| obs_nil
              refine cond_ev (t := 92) (b := ((((!r7) || (r6 == 0)) || (r8 != (w64 (3 - b2)))) || (decide ((0 : Int) ≤ r9))) || (((geti b1 r6) != 0) && (r6 != (geti way1 0)))) hF (by kernel_rfl) (fun hb => ?_) (fun hb => ?_)
              · replace hm := if_t hm hb
                refine wpIn_exit ?_
                refine then_e (block_e (then_n ?_))
                exact ⟨out3, A6, c6, hd3, hF.weak [1, 2, 3, 4, 9, 10, 11, 12] (by kernel_rfl), hS, hm⟩
              · replace hm := if_f hm hb
                refine wpIn_skip ?_
                refine then_n ?_
                exact ⟨hF.weak [1, 2, 3, 4, 9, 10, 11, 12, 13, 14] (by kernel_rfl), hS, hm⟩
        · refine reg [] [] [1, 2, 3, 4, 9, 10, 11, 12, 29] [pl 1 (.int .i64 piece1), pl 2 (.slice A2 way1.length c2), pl 3 (.slice A3 over1.length c3), pl 4 (.pointer (some ⟨g1, 0, none⟩)), pl 9 (.int .i64 (geti way1 (w64 ((way1.length : Int) - 1)))), pl 10 (.slice A6 out3.length c6), pl 11 (.int .i64 dx1), pl 12 (.int .i64 dy1), pl 29 (.bool (decide (dy1 ≤ 1)))] hF hS Fol (by kernel_rfl) (by kernel_rfl) (by kernel_rfl) ?_ (fun a w hF hS => ?_)
          · exact obs_nil
          refine cond_ev (t := 29) (b := decide (dy1 ≤ 1)) hF (by kernel_rfl) (fun hb => ?_) (fun hb => ?_)
          · replace hm := if_t hm hb
            refine wpIn_skip ?_
            refine then_n ?_
            exact ⟨hF.weak [1, 2, 3, 4, 9, 10, 11, 12] (by kernel_rfl), hS, hm⟩
          · replace hm := if_f hm hb
            refine wpIn_exit ?_
            refine then_e (then_e (block_e (block_n (then_n ?_))))
            rw [← hφ2] at hm
            replace hm := done_b hm
            unfold gameroomref_jumpsOn_K2 at hm
            try dsimp only at hm
            have hm : ((gameroomref_jumpsOn_J3 dx1) out3).bind φ1 = some r := hm
            exact ⟨out3, A6, c6, hd3, hF.weak [1, 2, 3, 4, 9, 10, 11] (by kernel_rfl), hS, hm⟩
    · refine reg [] [] [1, 2, 3, 4, 9, 10, 11, 25] [pl 1 (.int .i64 piece1), pl 2 (.slice A2 way1.length c2), pl 3 (.slice A3 over1.length c3), pl 4 (.pointer (some ⟨g1, 0, none⟩)), pl 9 (.int .i64 (geti way1 (w64 ((way1.length : Int) - 1)))), pl 10 (.slice A4 out1.length c4), pl 11 (.int .i64 dx1), pl 25 (.bool (decide (dx1 ≤ 1)))] hF hS Fol (by kernel_rfl) (by kernel_rfl) (by kernel_rfl) ?_ (fun a w hF hS => ?_)
      · exact obs_nil
      refine cond_ev (t := 25) (b := decide (dx1 ≤ 1)) hF (by kernel_rfl) (fun hb => ?_) (fun hb => ?_)
      · replace hm := if_t hm hb
        refine wpIn_skip ?_
        refine then_n ?_
        exact ⟨hF.weak [1, 2, 3, 4, 9, 10, 11] (by kernel_rfl), hS, hm⟩
      · replace hm := if_f hm hb
        refine wpIn_exit ?_
        refine then_e (then_e (block_e (then_n ?_)))
        have hS := hS.pickN 2 [1] (by decide)
        rw [← hφ1] at hm
        replace hm := done_b hm
        unfold gameroomref_jumpsOn_K1 at hm
        try dsimp only at hm
        have hm : (gameroomref_jumpsOn_J1 out1).bind some = some r := hm
        exact ⟨out1, A4, c4, hd1, hF.weak [10] (by kernel_rfl), hS, hm⟩

theorem gameroomref_jumpsOn_w  {A1 : Option Addr} {c1 : Nat} {n1 : Nat} {b1 : List Int} {b2 : Int} {piece1 : Int} {A2 : Option Addr} {c2 : Nat} {n2 : Nat} {way1 : List Int} {A3 : Option Addr} {c3 : Nat} {n3 : Nat} {over1 : List Int} {r : (List (List Int))} {w0 w : World} {B : Nat} {fs : List HP} (hm : gameroomref_jumpsOn_m b1 b2 piece1 way1 over1 = some r) (hS : Sep w0 B w (fs)) (hr_b1 : RdF w0 B fs A1 (vI b1)) (_hc_b1 : b1.length ≤ c1) (_hn_b1 : n1 = b1.length) (hr_way1 : RdF w0 B fs A2 (vI way1)) (_hc_way1 : way1.length ≤ c2) (_hn_way1 : n2 = way1.length) (hr_over1 : RdF w0 B fs A3 (vI over1)) (_hc_over1 : over1.length ≤ c3) (_hn_over1 : n3 = over1.length) :
    Calls Try.prog 118 #[.agg #[.slice A1 n1 c1, .int .i64 b2], .int .i64 piece1, .slice A2 n2 c2, .slice A3 n3 c3] w fun e w' => ∃ v, e = .returned v ∧ ∃ (A21 : Option Addr) (c21 : Nat) (hd11 : List Hd), v = .slice A21 r.length c21 ∧ Sep w0 B w' (rows 22 3 (.slice A21 r.length c21) hd11 r :: fs) := by
  have key : ∀ (n : Nat) {A1 : Option Addr} {c1 : Nat} {n1 : Nat} {b1 : List Int} {b2 : Int} {piece1 : Int} {A2 : Option Addr} {c2 : Nat} {n2 : Nat} {way1 : List Int} {A3 : Option Addr} {c3 : Nat} {n3 : Nat} {over1 : List Int} {r : (List (List Int))} {w0 w : World} {B : Nat} {fs : List HP} (_ : gameroomref_jumpsOn_mF n b1 b2 piece1 way1 over1 = some r) (_ : Sep w0 B w (fs)) (hr_b1 : RdF w0 B fs A1 (vI b1)) (_hc_b1 : b1.length ≤ c1) (_hn_b1 : n1 = b1.length) (hr_way1 : RdF w0 B fs A2 (vI way1)) (_hc_way1 : way1.length ≤ c2) (_hn_way1 : n2 = way1.length) (hr_over1 : RdF w0 B fs A3 (vI over1)) (_hc_over1 : over1.length ≤ c3) (_hn_over1 : n3 = over1.length), Calls Try.prog 118 #[.agg #[.slice A1 n1 c1, .int .i64 b2], .int .i64 piece1, .slice A2 n2 c2, .slice A3 n3 c3] w fun e w' => ∃ v, e = .returned v ∧ ∃ (A21 : Option Addr) (c21 : Nat) (hd11 : List Hd), v = .slice A21 r.length c21 ∧ Sep w0 B w' (rows 22 3 (.slice A21 r.length c21) hd11 r :: fs) := by
    intro n
    induction n with
    | zero => intros; rename_i hm0 _ _ _ _ _ _ _ _ _ _; cases hm0
    | succ n ih => intros; rename_i hm0 hS0 h0 h1 h2 h3 h4 h5 h6 h7 h8; exact gameroomref_jumpsOn_wB (rec_gameroomref_jumpsOn := gameroomref_jumpsOn_mF n) (fun hm hS h0 h1 h2 h3 h4 h5 h6 h7 h8 => ih hm hS h0 h1 h2 h3 h4 h5 h6 h7 h8) hm0 hS0 h0 h1 h2 h3 h4 h5 h6 h7 h8
  obtain ⟨n, hn⟩ := recM_some hm
  exact key n hn hS hr_b1 _hc_b1 _hn_b1 hr_way1 _hc_way1 _hn_way1 hr_over1 _hc_over1 _hn_over1

set_option maxRecDepth 100000 in
theorem gameroomref_jumpsOn_J6_le_gameroomref_jumpsOn {rec_gameroomref_jumpsOn1 rec_gameroomref_jumpsOn2 : List Int → Int → Int → List Int → List Int → Option (List (List Int))} (h_rec_gameroomref_jumpsOn : ∀ a0 a1 a2 a3 a4, Le (rec_gameroomref_jumpsOn1 a0 a1 a2 a3 a4) (rec_gameroomref_jumpsOn2 a0 a1 a2 a3 a4)) (b1 : List Int) (b2 : Int) (piece1 : Int) (way1 : List Int) (over1 : List Int) (out3 : List (List Int)) (dy1 : Int) (r3 : Int) (r6 : Int) : Le (gameroomref_jumpsOn_J6 rec_gameroomref_jumpsOn1 b1 b2 piece1 way1 over1 out3 dy1 r3 r6) (gameroomref_jumpsOn_J6 rec_gameroomref_jumpsOn2 b1 b2 piece1 way1 over1 out3 dy1 r3 r6) := by
  unfold gameroomref_jumpsOn_J6
  repeat' (first | with_reducible exact Le.refl _ | with_reducible exact h_rec_gameroomref_jumpsOn _ _ _ _ _ | with_reducible refine Le.asrt ?_ | with_reducible refine Le.ite ?_ ?_ | refine Le.bind ?_ (fun _ => ?_) | refine Le.loop2 (fun _ => ?_) | refine Le.elim2 (fun _ => ?_) (fun _ => ?_))

set_option maxRecDepth 100000 in
theorem gameroomref_jumpsOn_J4_le_gameroomref_jumpsOn {rec_gameroomref_jumpsOn1 rec_gameroomref_jumpsOn2 : List Int → Int → Int → List Int → List Int → Option (List (List Int))} (h_rec_gameroomref_jumpsOn : ∀ a0 a1 a2 a3 a4, Le (rec_gameroomref_jumpsOn1 a0 a1 a2 a3 a4) (rec_gameroomref_jumpsOn2 a0 a1 a2 a3 a4)) (b1 : List Int) (b2 : Int) (piece1 : Int) (way1 : List Int) (over1 : List Int) (dx1 : Int) (out3 : List (List Int)) (dy1 : Int) : Le (gameroomref_jumpsOn_J4 rec_gameroomref_jumpsOn1 b1 b2 piece1 way1 over1 dx1 out3 dy1) (gameroomref_jumpsOn_J4 rec_gameroomref_jumpsOn2 b1 b2 piece1 way1 over1 dx1 out3 dy1) := by
  unfold gameroomref_jumpsOn_J4
  repeat' (first | with_reducible exact Le.refl _ | with_reducible exact h_rec_gameroomref_jumpsOn _ _ _ _ _ | with_reducible exact gameroomref_jumpsOn_J6_le_gameroomref_jumpsOn h_rec_gameroomref_jumpsOn _ _ _ _ _ _ _ _ _ | with_reducible refine Le.asrt ?_ | with_reducible refine Le.ite ?_ ?_ | refine Le.bind ?_ (fun _ => ?_) | refine Le.loop2 (fun _ => ?_) | refine Le.elim2 (fun _ => ?_) (fun _ => ?_))

set_option maxRecDepth 100000 in
theorem gameroomref_jumpsOn_L2_le_gameroomref_jumpsOn {rec_gameroomref_jumpsOn1 rec_gameroomref_jumpsOn2 : List Int → Int → Int → List Int → List Int → Option (List (List Int))} (h_rec_gameroomref_jumpsOn : ∀ a0 a1 a2 a3 a4, Le (rec_gameroomref_jumpsOn1 a0 a1 a2 a3 a4) (rec_gameroomref_jumpsOn2 a0 a1 a2 a3 a4)) (b1 : List Int) (b2 : Int) (piece1 : Int) (way1 : List Int) (over1 : List Int) (dx1 : Int) (x : (List (List Int) × Int)) : Le (gameroomref_jumpsOn_L2 rec_gameroomref_jumpsOn1 b1 b2 piece1 way1 over1 dx1 x) (gameroomref_jumpsOn_L2 rec_gameroomref_jumpsOn2 b1 b2 piece1 way1 over1 dx1 x) := by
  rcases x with ⟨out3, dy1⟩
  all_goals
    unfold gameroomref_jumpsOn_L2
    try dsimp only
    repeat' (first | with_reducible exact Le.refl _ | with_reducible exact h_rec_gameroomref_jumpsOn _ _ _ _ _ | with_reducible exact gameroomref_jumpsOn_J4_le_gameroomref_jumpsOn h_rec_gameroomref_jumpsOn _ _ _ _ _ _ _ _ | with_reducible refine Le.asrt ?_ | with_reducible refine Le.ite ?_ ?_ | refine Le.bind ?_ (fun _ => ?_) | refine Le.loop2 (fun _ => ?_) | refine Le.elim2 (fun _ => ?_) (fun _ => ?_))

set_option maxRecDepth 100000 in
theorem gameroomref_jumpsOn_J2_le_gameroomref_jumpsOn {rec_gameroomref_jumpsOn1 rec_gameroomref_jumpsOn2 : List Int → Int → Int → List Int → List Int → Option (List (List Int))} (h_rec_gameroomref_jumpsOn : ∀ a0 a1 a2 a3 a4, Le (rec_gameroomref_jumpsOn1 a0 a1 a2 a3 a4) (rec_gameroomref_jumpsOn2 a0 a1 a2 a3 a4)) (b1 : List Int) (b2 : Int) (piece1 : Int) (way1 : List Int) (over1 : List Int) (out1 : List (List Int)) (dx1 : Int) : Le (gameroomref_jumpsOn_J2 rec_gameroomref_jumpsOn1 b1 b2 piece1 way1 over1 out1 dx1) (gameroomref_jumpsOn_J2 rec_gameroomref_jumpsOn2 b1 b2 piece1 way1 over1 out1 dx1) := by
  unfold gameroomref_jumpsOn_J2
  repeat' (first | with_reducible exact Le.refl _ | with_reducible exact h_rec_gameroomref_jumpsOn _ _ _ _ _ | with_reducible exact gameroomref_jumpsOn_L2_le_gameroomref_jumpsOn h_rec_gameroomref_jumpsOn _ _ _ _ _ _ _ | with_reducible refine Le.asrt ?_ | with_reducible refine Le.ite ?_ ?_ | refine Le.bind ?_ (fun _ => ?_) | refine Le.loop2 (fun _ => ?_) | refine Le.elim2 (fun _ => ?_) (fun _ => ?_))

set_option maxRecDepth 100000 in
theorem gameroomref_jumpsOn_L1_le_gameroomref_jumpsOn {rec_gameroomref_jumpsOn1 rec_gameroomref_jumpsOn2 : List Int → Int → Int → List Int → List Int → Option (List (List Int))} (h_rec_gameroomref_jumpsOn : ∀ a0 a1 a2 a3 a4, Le (rec_gameroomref_jumpsOn1 a0 a1 a2 a3 a4) (rec_gameroomref_jumpsOn2 a0 a1 a2 a3 a4)) (b1 : List Int) (b2 : Int) (piece1 : Int) (way1 : List Int) (over1 : List Int) (x : (List (List Int) × Int)) : Le (gameroomref_jumpsOn_L1 rec_gameroomref_jumpsOn1 b1 b2 piece1 way1 over1 x) (gameroomref_jumpsOn_L1 rec_gameroomref_jumpsOn2 b1 b2 piece1 way1 over1 x) := by
  rcases x with ⟨out1, dx1⟩
  all_goals
    unfold gameroomref_jumpsOn_L1
    try dsimp only
    repeat' (first | with_reducible exact Le.refl _ | with_reducible exact h_rec_gameroomref_jumpsOn _ _ _ _ _ | with_reducible exact gameroomref_jumpsOn_J2_le_gameroomref_jumpsOn h_rec_gameroomref_jumpsOn _ _ _ _ _ _ _ | with_reducible refine Le.asrt ?_ | with_reducible refine Le.ite ?_ ?_ | refine Le.bind ?_ (fun _ => ?_) | refine Le.loop2 (fun _ => ?_) | refine Le.elim2 (fun _ => ?_) (fun _ => ?_))

set_option maxRecDepth 100000 in
theorem gameroomref_jumpsOn_B_le {rec_gameroomref_jumpsOn1 rec_gameroomref_jumpsOn2 : List Int → Int → Int → List Int → List Int → Option (List (List Int))} (h_rec_gameroomref_jumpsOn : ∀ a0 a1 a2 a3 a4, Le (rec_gameroomref_jumpsOn1 a0 a1 a2 a3 a4) (rec_gameroomref_jumpsOn2 a0 a1 a2 a3 a4)) (b1 : List Int) (b2 : Int) (piece1 : Int) (way1 : List Int) (over1 : List Int) : Le (gameroomref_jumpsOn_B rec_gameroomref_jumpsOn1 b1 b2 piece1 way1 over1) (gameroomref_jumpsOn_B rec_gameroomref_jumpsOn2 b1 b2 piece1 way1 over1) := by
  unfold gameroomref_jumpsOn_B
  repeat' (first | with_reducible exact Le.refl _ | with_reducible exact h_rec_gameroomref_jumpsOn _ _ _ _ _ | with_reducible exact gameroomref_jumpsOn_L1_le_gameroomref_jumpsOn h_rec_gameroomref_jumpsOn _ _ _ _ _ _ | with_reducible refine Le.asrt ?_ | with_reducible refine Le.ite ?_ ?_ | refine Le.bind ?_ (fun _ => ?_) | refine Le.loop2 (fun _ => ?_) | refine Le.elim2 (fun _ => ?_) (fun _ => ?_))

set_option maxRecDepth 100000 in
theorem gameroomref_jumpsOn_mF_le : ∀ (n : Nat) (b1 : List Int) (b2 : Int) (piece1 : Int) (way1 : List Int) (over1 : List Int), Le (gameroomref_jumpsOn_mF n b1 b2 piece1 way1 over1) (gameroomref_jumpsOn_mF (n + 1) b1 b2 piece1 way1 over1)
  | 0, _, _, _, _, _ => fun _ h => by cases h
  | n + 1, _, _, _, _, _ => gameroomref_jumpsOn_B_le (fun a0 a1 a2 a3 a4 => gameroomref_jumpsOn_mF_le n a0 a1 a2 a3 a4) _ _ _ _ _

set_option maxRecDepth 100000 in
theorem gameroomref_jumpsOn_m_of (N : Nat) (b1 : List Int) (b2 : Int) (piece1 : Int) (way1 : List Int) (over1 : List Int) {r : (List (List Int))} (h : gameroomref_jumpsOn_mF N b1 b2 piece1 way1 over1 = some r) : gameroomref_jumpsOn_m b1 b2 piece1 way1 over1 = some r :=
  recM_mono (fun n => gameroomref_jumpsOn_mF_le n _ _ _ _ _) h

noncomputable def gameroomref_lessInts_J3  (i1 : Int) : Option (St Int (Fl Unit Bool)) :=
  some (.next (w64 (i1 + 1)))

noncomputable def gameroomref_lessInts_J2  (a1 : List Int) (b1 : List Int) (i1 : Int) : Option (St Int (Fl Unit Bool)) :=
  asrt (0 ≤ i1 ∧ i1 < (a1.length : Int)) <| asrt (0 ≤ i1 ∧ i1 < (b1.length : Int)) <| if ((geti a1 i1) != (geti b1 i1)) then (asrt (0 ≤ i1 ∧ i1 < (a1.length : Int)) <| asrt (0 ≤ i1 ∧ i1 < (b1.length : Int)) <| some (.done (.ret (decide ((geti a1 i1) < (geti b1 i1)))))) else ((gameroomref_lessInts_J3 i1))

noncomputable def gameroomref_lessInts_J1  (a1 : List Int) (b1 : List Int) : Option Bool :=
  some (decide ((a1.length : Int) < (b1.length : Int)))

noncomputable def gameroomref_lessInts_K1  (a1 : List Int) (b1 : List Int) : (Fl Unit Bool) → Option Bool :=
  fun (x : (Fl Unit Bool)) => match x with | .go _ => (gameroomref_lessInts_J1 a1 b1) | .ret x => some x

noncomputable def gameroomref_lessInts_L1  (a1 : List Int) (b1 : List Int) : Int → Option (St Int (Fl Unit Bool)) :=
  fun (x : Int) => match x with | i1 => if ((decide (i1 < (a1.length : Int))) && (decide (i1 < (b1.length : Int)))) then ((gameroomref_lessInts_J2 a1 b1 i1)) else (some (.done (.go ())))

noncomputable def gameroomref_lessInts_m  (a1 : List Int) (b1 : List Int) : Option Bool :=
  (loop (gameroomref_lessInts_L1 a1 b1) 0).bind (gameroomref_lessInts_K1 a1 b1)

set_option maxRecDepth 100000 in
set_option maxHeartbeats 4000000 in
theorem gameroomref_lessInts_w  {A1 : Option Addr} {c1 : Nat} {n1 : Nat} {a1 : List Int} {A2 : Option Addr} {c2 : Nat} {n2 : Nat} {b1 : List Int} {r : Bool} {w0 w : World} {B : Nat} {fs : List HP} (hm : gameroomref_lessInts_m a1 b1 = some r) (hS : Sep w0 B w (fs)) (hr_a1 : RdF w0 B fs A1 (vI a1)) (_hc_a1 : a1.length ≤ c1) (_hn_a1 : n1 = a1.length) (hr_b1 : RdF w0 B fs A2 (vI b1)) (_hc_b1 : b1.length ≤ c2) (_hn_b1 : n2 = b1.length) :
    Calls Try.prog 200 #[.slice A1 n1 c1, .slice A2 n2 c2] w fun e w' => e = .returned (.bool r) ∧ Sep w0 B w' (fs) := by
  obtain ⟨i3, hi3, hz3, hs3, hb3⟩ := info_parts Info3
  obtain rfl := _hn_a1
  obtain rfl := _hn_b1
  unfold gameroomref_lessInts_m at hm
  replace hm := start_b hm
  refine enter (l := [.slice A1 a1.length c1, .slice A2 b1.length c2]) (n := 41) Try.func200 rfl rfl (by simp) (fun a hF => ?_)
  refine reg [] [] [0, 1] [pl 0 (.slice A1 a1.length c1), pl 1 (.slice A2 b1.length c2)] hF hS Fol (by kernel_rfl) (by kernel_rfl) (by kernel_rfl) ?_ (fun a w hF hS => ?_)
  · exact obs_nil
  refine seq_cut (fun a w => Fr 41 [pl 0 (.slice A1 a1.length c1), pl 1 (.slice A2 b1.length c2)] a ∧ Sep w0 B w (fs) ∧ ((gameroomref_lessInts_J1 a1 b1)).bind some = some r) ?_ ?_
  · rintro a w ⟨hF, hS, hm⟩
    unfold gameroomref_lessInts_J1 at hm
    refine reg [] [] [4] [pl 4 (.bool (decide ((a1.length : Int) < (b1.length : Int))))] hF hS Fol (by kernel_rfl) (by kernel_rfl) (by kernel_rfl) ?_ (fun a w hF hS => ?_)
    · exact obs_nil
    refine wpIn_ret ?_
    have hm : some (decide ((a1.length : Int) < (b1.length : Int))) = some r := hm
    obtain rfl := Option.some.inj hm
    exact retV (rs := [.tmp 4]) (vs := [.bool (decide ((a1.length : Int) < (b1.length : Int)))]) hF rfl (rv_t (by kernel_rfl) <| rv_nil) rfl ⟨rfl, hS⟩
  · refine reg [] [] [0, 1, 5] [pl 0 (.slice A1 a1.length c1), pl 1 (.slice A2 b1.length c2), pl 5 (.int .i64 0)] hF hS Fol (by kernel_rfl) (by kernel_rfl) (by kernel_rfl) ?_ (fun a w hF hS => ?_)
    · exact obs_nil
    refine wpIn_block ?_
    refine wp_loop_model (S := Int) (R := (Fl Unit Bool)) (gameroomref_lessInts_L1 a1 b1) (fun x => ((gameroomref_lessInts_K1 a1 b1) x).bind some) r (fun (x : Int) a w => Fr 41 [pl 0 (.slice A1 a1.length c1), pl 1 (.slice A2 b1.length c2), pl 5 (.int .i64 x)] a ∧ Sep w0 B w (fs)) (assoc_b hm) ⟨hF.weak [0, 1, 5] (by kernel_rfl), hS⟩ ?_
    clear hF hS hm
    rintro nn1 i1 a w ⟨hF, hS⟩ hm
    generalize hφ1 : stK (gameroomref_lessInts_L1 a1 b1) nn1 (fun x => ((gameroomref_lessInts_K1 a1 b1) x).bind some) = φ1 at hm
    unfold gameroomref_lessInts_L1 at hm
    dsimp only at hm
    refine seq_cut (fun a w => Fr 41 [pl 0 (.slice A1 a1.length c1), pl 1 (.slice A2 b1.length c2), pl 5 (.int .i64 i1)] a ∧ Sep w0 B w (fs) ∧ ((gameroomref_lessInts_J2 a1 b1 i1)).bind φ1 = some r) ?_ ?_
    · rintro a w ⟨hF, hS, hm⟩
      unfold gameroomref_lessInts_J2 at hm
      refine seq_cut (fun a w => Fr 41 [pl 0 (.slice A1 a1.length c1), pl 1 (.slice A2 b1.length c2), pl 5 (.int .i64 i1)] a ∧ Sep w0 B w (fs) ∧ ((gameroomref_lessInts_J3 i1)).bind φ1 = some r) ?_ ?_
      · rintro a w ⟨hF, hS, hm⟩
        unfold gameroomref_lessInts_J3 at hm
        refine reg1 [] [] [0, 1, 5] [pl 0 (.slice A1 a1.length c1), pl 1 (.slice A2 b1.length c2), pl 5 (.int .i64 (w64 (i1 + 1)))] hF hS Fol (by kernel_rfl) (by kernel_rfl) (by kernel_rfl) ?_ (fun a w hF hS => ?_)
        · exact obs_nil
        refine then_n ?_
        rw [← hφ1] at hm
        exact ⟨(w64 (i1 + 1)), ⟨hF.weak [0, 1, 5] (by kernel_rfl), hS⟩, hm⟩
      · refine wpIn_block ?_
        obtain ⟨hp1, hm⟩ := asrt_b hm
        obtain ⟨hp2, hm⟩ := asrt_b hm
        refine reg [⟨true, [], vS (Instr.indexAt 22 (.slice A1 a1.length c1) (.int .i64 i1)), .pointer (some (sAddr A1 i1))⟩, ⟨false, [], vS (Instr.loadAt 3 (.pointer (some (sAddr A1 i1)))), .int .i64 (geti a1 i1)⟩, ⟨true, [], vS (Instr.indexAt 22 (.slice A2 b1.length c2) (.int .i64 i1)), .pointer (some (sAddr A2 i1))⟩, ⟨false, [], vS (Instr.loadAt 3 (.pointer (some (sAddr A2 i1)))), .int .i64 (geti b1 i1)⟩] [none, none, some (.pointer (some (sAddr A1 i1))), some (.int .i64 (geti a1 i1)), none, none, some (.pointer (some (sAddr A2 i1))), some (.int .i64 (geti b1 i1)), none] [0, 1, 5, 26] [pl 0 (.slice A1 a1.length c1), pl 1 (.slice A2 b1.length c2), pl 5 (.int .i64 i1), pl 26 (.bool ((geti a1 i1) != (geti b1 i1)))] hF hS Fol (by kernel_rfl) (by kernel_rfl) (by kernel_rfl) ?_ (fun a w hF hS => ?_)
        · exact obs_cons (ob_ix1 (f := (Value.int .i64)) (m := a1) Und22 hi3 hs3 (hr_a1 _ (hS.dropN 0)) rfl (fun _ => hp1)) <| obs_cons (ob_get1 (n := a1.length) (m := a1) (Value.int .i64) (0 : Int) Agg3 (fun _ hS => ⟨_, (hr_a1 _ (hS.dropN 0))⟩) (fun _ hS => rfl) (fun _ => hp1)) <| obs_cons (ob_ix1 (f := (Value.int .i64)) (m := b1) Und22 hi3 hs3 (hr_b1 _ (hS.dropN 0)) rfl (fun _ => hp2)) <| obs_cons (ob_get1 (n := b1.length) (m := b1) (Value.int .i64) (0 : Int) Agg3 (fun _ hS => ⟨_, (hr_b1 _ (hS.dropN 0))⟩) (fun _ hS => rfl) (fun _ => hp2)) <| obs_nil
        refine cond_ev (t := 26) (b := ((geti a1 i1) != (geti b1 i1))) hF (by kernel_rfl) (fun hb => ?_) (fun hb => ?_)
        · replace hm := if_t hm hb
          obtain ⟨hp3, hm⟩ := asrt_b hm
          obtain ⟨hp4, hm⟩ := asrt_b hm
          refine reg [⟨true, [], vS (Instr.indexAt 22 (.slice A1 a1.length c1) (.int .i64 i1)), .pointer (some (sAddr A1 i1))⟩, ⟨false, [], vS (Instr.loadAt 3 (.pointer (some (sAddr A1 i1)))), .int .i64 (geti a1 i1)⟩, ⟨true, [], vS (Instr.indexAt 22 (.slice A2 b1.length c2) (.int .i64 i1)), .pointer (some (sAddr A2 i1))⟩, ⟨false, [], vS (Instr.loadAt 3 (.pointer (some (sAddr A2 i1)))), .int .i64 (geti b1 i1)⟩] [none, none, some (.pointer (some (sAddr A1 i1))), some (.int .i64 (geti a1 i1)), none, none, some (.pointer (some (sAddr A2 i1))), some (.int .i64 (geti b1 i1)), none, none] [4] [pl 4 (.bool (decide ((geti a1 i1) < (geti b1 i1))))] hF hS Fol (by kernel_rfl) (by kernel_rfl) (by kernel_rfl) ?_ (fun a w hF hS => ?_)
          · exact obs_cons (ob_ix1 (f := (Value.int .i64)) (m := a1) Und22 hi3 hs3 (hr_a1 _ (hS.dropN 0)) rfl (fun _ => hp3)) <| obs_cons (ob_get1 (n := a1.length) (m := a1) (Value.int .i64) (0 : Int) Agg3 (fun _ hS => ⟨_, (hr_a1 _ (hS.dropN 0))⟩) (fun _ hS => rfl) (fun _ => hp3)) <| obs_cons (ob_ix1 (f := (Value.int .i64)) (m := b1) Und22 hi3 hs3 (hr_b1 _ (hS.dropN 0)) rfl (fun _ => hp4)) <| obs_cons (ob_get1 (n := b1.length) (m := b1) (Value.int .i64) (0 : Int) Agg3 (fun _ hS => ⟨_, (hr_b1 _ (hS.dropN 0))⟩) (fun _ hS => rfl) (fun _ => hp4)) <| obs_nil
          refine wpIn_ret ?_
          refine block_r (then_r (then_r (block_r (then_r ?_))))
          rw [← hφ1] at hm
          replace hm := done_b hm
          unfold gameroomref_lessInts_K1 at hm
          try dsimp only at hm
          have hm : some (decide ((geti a1 i1) < (geti b1 i1))) = some r := hm
          obtain rfl := Option.some.inj hm
          exact retV (rs := [.tmp 4]) (vs := [.bool (decide ((geti a1 i1) < (geti b1 i1)))]) hF rfl (rv_t (by kernel_rfl) <| rv_nil) rfl ⟨rfl, hS⟩
        · replace hm := if_f hm hb
          refine wpIn_skip ?_
          refine block_n ?_
          refine then_n ?_
          exact ⟨hF.weak [0, 1, 5] (by kernel_rfl), hS, hm⟩
    · refine reg [] [] [0, 1, 5, 15] [pl 0 (.slice A1 a1.length c1), pl 1 (.slice A2 b1.length c2), pl 5 (.int .i64 i1), pl 15 (.bool ((decide (i1 < (a1.length : Int))) && (decide (i1 < (b1.length : Int)))))] hF hS Fol (by kernel_rfl) (by kernel_rfl) (by kernel_rfl) ?_ (fun a w hF hS => ?_)
      · exact obs_nil
      refine cond_ev (t := 15) (b := (decide (i1 < (a1.length : Int))) && (decide (i1 < (b1.length : Int)))) hF (by kernel_rfl) (fun hb => ?_) (fun hb => ?_)
      · replace hm := if_t hm hb
        refine wpIn_skip ?_
        refine then_n ?_
        exact ⟨hF.weak [0, 1, 5] (by kernel_rfl), hS, hm⟩
      · replace hm := if_f hm hb
        refine wpIn_exit ?_
        refine then_e (then_e (block_e (then_n ?_)))
        rw [← hφ1] at hm
        replace hm := done_b hm
        unfold gameroomref_lessInts_K1 at hm
        try dsimp only at hm
        have hm : ((gameroomref_lessInts_J1 a1 b1)).bind some = some r := hm
        exact ⟨hF.weak [0, 1] (by kernel_rfl), hS, hm⟩

noncomputable def gameroomref_putWay_3_J2  (k1 : Int) : Option (St Int Int) :=
  some (.next (w64 (k1 + 1)))

noncomputable def gameroomref_putWay_3_J3  (l1 : List (List Int)) (w1 : List Int) (k2 : Int) : Option (List (List Int)) :=
  asrt (0 ≤ (0 : Int) ∧ (0 : Int) ≤ k2 ∧ k2 ≤ (l1.length : Int)) <| asrt ((0 : Int) + (((cut l1 (0 : Int) k2).length : Nat) : Int) ≤ bigR) <| asrt ((((([] : List (List Int)) ++ (cut l1 (0 : Int) k2)).length : Nat) : Int) + 1 ≤ bigR) <| asrt (0 ≤ k2 ∧ k2 ≤ (l1.length : Int) ∧ (l1.length : Int) ≤ (l1.length : Int)) <| asrt (((((([] : List (List Int)) ++ (cut l1 (0 : Int) k2)) ++ ([w1] : List (List Int))).length : Nat) : Int) + (((cut l1 k2 (l1.length : Int)).length : Nat) : Int) ≤ bigR) <| some (((([] : List (List Int)) ++ (cut l1 (0 : Int) k2)) ++ ([w1] : List (List Int))) ++ (cut l1 k2 (l1.length : Int)))

noncomputable def gameroomref_putWay_3_J1  (l1 : List (List Int)) (w1 : List Int) (k2 : Int) : Option (List (List Int)) :=
  asrt ((decide (k2 < (l1.length : Int))) = true → 0 ≤ k2 ∧ k2 < (l1.length : Int)) <| ((if (decide (k2 < (l1.length : Int))) then gameroomref_sameInts_m (geti2 l1 k2) w1 else some false)).bind fun r2 => if ((decide (k2 < (l1.length : Int))) && r2) then (some l1) else ((gameroomref_putWay_3_J3 l1 w1 k2))

noncomputable def gameroomref_putWay_3_K1  (l1 : List (List Int)) (w1 : List Int) : Int → Option (List (List Int)) :=
  fun (x : Int) => match x with | k2 => (gameroomref_putWay_3_J1 l1 w1) k2

noncomputable def gameroomref_putWay_3_L1  (l1 : List (List Int)) (w1 : List Int) : Int → Option (St Int Int) :=
  fun (x : Int) => match x with | k1 => asrt ((decide (k1 < (l1.length : Int))) = true → 0 ≤ k1 ∧ k1 < (l1.length : Int)) <| ((if (decide (k1 < (l1.length : Int))) then gameroomref_lessInts_m (geti2 l1 k1) w1 else some false)).bind fun r1 => if ((decide (k1 < (l1.length : Int))) && r1) then ((gameroomref_putWay_3_J2 k1)) else (some (.done k1))

noncomputable def gameroomref_putWay_3_m  (l1 : List (List Int)) (w1 : List Int) : Option (List (List Int)) :=
  (loop (gameroomref_putWay_3_L1 l1 w1) 0).bind (gameroomref_putWay_3_K1 l1 w1)

set_option maxRecDepth 100000 in
set_option maxHeartbeats 4000000 in
theorem gameroomref_putWay_3_w  {A1 : Option Addr} {c1 : Nat} {n1 : Nat} {hd1 : List Hd} {l1 : List (List Int)} {pg1 : HP} {A2 : Option Addr} {c2 : Nat} {n2 : Nat} {w1 : List Int} {r : (List (List Int))} {w0 w : World} {B : Nat} {fs : List HP} (hm : gameroomref_putWay_3_m l1 w1 = some r) (hS : Sep w0 B w (pg1 :: fs)) (hr_l1 : PoolR pg1 A1 hd1 l1) (_hc_l1 : l1.length ≤ c1) (_hn_l1 : n1 = l1.length) (hr_w1 : PoolW pg1 A2 w1) (_hc_w1 : w1.length ≤ c2) (_hn_w1 : n2 = w1.length) :
    Calls Try.prog 119 #[.slice A1 n1 c1, .slice A2 n2 c2] w fun e w' => ∃ v, e = .returned v ∧ ∃ (pg2 : HP) (A6 : Option Addr) (c6 : Nat) (hd2 : List Hd), v = .slice A6 r.length c6 ∧ (PoolR pg2 A6 hd2 r) ∧ (r.length ≤ c6) ∧ (PoolLe pg1 pg2) ∧ Sep w0 B w' (pg2 :: fs) := by
  obtain ⟨i3, hi3, hz3, hs3, hb3⟩ := info_parts Info3
  obtain ⟨i22, hi22, hz22, hs22, hb22⟩ := info_parts Info22
  obtain rfl := _hn_l1
  obtain rfl := _hn_w1
  unfold gameroomref_putWay_3_m at hm
  replace hm := start_b hm
  refine enter (l := [.slice A1 l1.length c1, .slice A2 w1.length c2]) (n := 48) Try.func119 rfl rfl (by simp) (fun a hF => ?_)
  refine reg [] [] [0, 1] [pl 0 (.slice A1 l1.length c1), pl 1 (.slice A2 w1.length c2)] hF hS Fol (by kernel_rfl) (by kernel_rfl) (by kernel_rfl) ?_ (fun a w hF hS => ?_)
  · exact obs_nil
  refine reg [] [] [0, 1, 5] [pl 0 (.slice A1 l1.length c1), pl 1 (.slice A2 w1.length c2), pl 5 (.int .i64 0)] hF hS Fol (by kernel_rfl) (by kernel_rfl) (by kernel_rfl) ?_ (fun a w hF hS => ?_)
  · exact obs_nil
  refine seq_cut (fun a w => ∃ (k2 : Int), Fr 48 [pl 0 (.slice A1 l1.length c1), pl 1 (.slice A2 w1.length c2), pl 5 (.int .i64 k2)] a ∧ Sep w0 B w (pg1 :: fs) ∧ ((gameroomref_putWay_3_J1 l1 w1) k2).bind some = some r) ?_ ?_
  · rintro a w ⟨k2, hF, hS, hm⟩
    unfold gameroomref_putWay_3_J1 at hm
    refine seq_cut (fun a w => Fr 48 [pl 0 (.slice A1 l1.length c1), pl 1 (.slice A2 w1.length c2), pl 5 (.int .i64 k2)] a ∧ Sep w0 B w (pg1 :: fs) ∧ ((gameroomref_putWay_3_J3 l1 w1 k2)).bind some = some r) ?_ ?_
    · rintro a w ⟨hF, hS, hm⟩
      unfold gameroomref_putWay_3_J3 at hm
      refine reg [] [] [0, 1, 5, 6] [pl 0 (.slice A1 l1.length c1), pl 1 (.slice A2 w1.length c2), pl 5 (.int .i64 k2), pl 6 (.slice none 0 0)] hF hS Fol (by kernel_rfl) (by kernel_rfl) (by kernel_rfl) ?_ (fun a w hF hS => ?_)
      · exact obs_nil
      refine seqR ?_
      obtain ⟨hp3, hm⟩ := asrt_b hm
      obtain ⟨hp4, hm⟩ := asrt_b hm
      refine at_run 4 [⟨true, [], vS (Instr.sliceAt 42 (.slice A1 l1.length c1) none (some (.int .i64 k2)) none), .slice (cutAddr A1 c1 (0 : Int)) ((cut l1 (0 : Int) k2).length) (c1 - Int.toNat (0 : Int))⟩] [none, none, none, some (.slice (cutAddr A1 c1 (0 : Int)) ((cut l1 (0 : Int) k2).length) (c1 - Int.toNat (0 : Int)))] [0, 1, 5, 34, 37] [pl 0 (.slice A1 l1.length c1), pl 1 (.slice A2 w1.length c2), pl 5 (.int .i64 k2), pl 34 (.slice none 0 0), pl 37 (.slice (cutAddr A1 c1 (0 : Int)) ((cut l1 (0 : Int) k2).length) (c1 - Int.toNat (0 : Int)))] hF hS (by kernel_rfl) (by kernel_rfl) ?_ (fun a w hF hS => ?_)
      · exact obs_cons (ob_cutn (l := l1) (k := .i64) (k' := .i64) Und42 hi22 hs22 rfl (.inr ⟨rfl, rfl⟩) (.inl rfl) (fun _ => hp3) _hc_l1) <| obs_nil
      have hS : Sep w0 B w (hdrs 22 none 0 0 ([]) ([] : List (List Int)) :: pg1 :: fs) := hS.nilHdr 22
      obtain ⟨A3, c3, w, hrun, hS⟩ := run_appHdr (P := Try.prog) (t := 42) (A2 := (cutAddr A1 c1 (0 : Int))) (n2 := (cut l1 (0 : Int) k2).length) (c2 := (c1 - Int.toNat (0 : Int))) (hS.at_ 0 rfl) (RdRows.cut (hr_l1.at_ hS 1 rfl) hp3 _hc_l1) rfl 42 Und42 hi22 hz22 hs22 hb22 hp4
      have hS : Sep w0 B w (hdrs 22 A3 ((([] : List (List Int)) ++ (cut l1 (0 : Int) k2)).length) c3 (([]) ++ (cut hd1 (0 : Int) k2)) (([] : List (List Int)) ++ (cut l1 (0 : Int) k2)) :: pg1 :: fs) := hS
      refine at_do (d := 38) hF (by kernel_rfl) (by kernel_rfl) hrun (fun a hF => ?_)
      refine at_run 1 [] [] [0, 1, 5, 6] [pl 0 (.slice A1 l1.length c1), pl 1 (.slice A2 w1.length c2), pl 5 (.int .i64 k2), pl 6 (.slice A3 ((([] : List (List Int)) ++ (cut l1 (0 : Int) k2)).length) c3)] hF hS (by kernel_rfl) (by kernel_rfl) ?_ (fun a w hF hS => ?_)
      · exact obs_nil
      refine at_end [0, 1, 5, 6] [pl 0 (.slice A1 l1.length c1), pl 1 (.slice A2 w1.length c2), pl 5 (.int .i64 k2), pl 6 (.slice A3 ((([] : List (List Int)) ++ (cut l1 (0 : Int) k2)).length) c3)] hF rfl (by kernel_rfl) (fun hF => ?_)
      refine then_n ?_
      refine seqR ?_
      obtain ⟨hp5, hm⟩ := asrt_b hm
      refine at_run 2 [] [] [0, 5, 39, 40] [pl 0 (.slice A1 l1.length c1), pl 5 (.int .i64 k2), pl 39 (.slice A3 ((([] : List (List Int)) ++ (cut l1 (0 : Int) k2)).length) c3), pl 40 (.slice A2 w1.length c2)] hF hS (by kernel_rfl) (by kernel_rfl) ?_ (fun a w hF hS => ?_)
      · exact obs_nil
      refine at_do (d := 41) (s := vS (Instr.buildSlice 42 1 #[(0, .slice A2 w1.length c2)])) (v := .slice (some ⟨w.heap.size, 0, none⟩) 1 1) (w' := w.alloc (.cells #[.slice A2 w1.length c2] 22)) hF (by kernel_rfl) (by kernel_rfl) (by kernel_rfl) (fun a hF => ?_)
      have hS : Sep w0 B (w.alloc (.cells #[.slice A2 w1.length c2] 22)) (own 22 (.slice (some (⟨w.heap.size, 0, none⟩ : Addr)) 1 1) [.slice A2 w1.length c2] :: (hdrs 22 A3 ((([] : List (List Int)) ++ (cut l1 (0 : Int) k2)).length) c3 (([]) ++ (cut hd1 (0 : Int) k2)) (([] : List (List Int)) ++ (cut l1 (0 : Int) k2)) :: pg1 :: fs)) := hS.lit 22 #[.slice A2 w1.length c2] 1 rfl (by omega)
      generalize (some (⟨w.heap.size, 0, none⟩ : Addr)) = g1 at hF hS
      generalize w.alloc (.cells #[.slice A2 w1.length c2] 22) = w at hS ⊢
      obtain ⟨A4, c4, w, hrun, hS⟩ := run_appHdr (P := Try.prog) (t := 42) (A2 := g1) (n2 := 1) (c2 := 1) (hS.at_ 1 rfl) (rdLit (hd := ([(A2, c2)] : List Hd)) (m := ([w1] : List (List Int))) hS 0 rfl ⟨⟨(hr_w1.at_ hS 2 rfl), _hc_w1⟩, trivial⟩) rfl 42 Und42 hi22 hz22 hs22 hb22 hp5
      have hS : Sep w0 B w (own 22 (.slice g1 1 1) [.slice A2 w1.length c2] :: hdrs 22 A4 (((([] : List (List Int)) ++ (cut l1 (0 : Int) k2)) ++ ([w1] : List (List Int))).length) c4 ((([]) ++ (cut hd1 (0 : Int) k2)) ++ ([(A2, c2)] : List Hd)) ((([] : List (List Int)) ++ (cut l1 (0 : Int) k2)) ++ ([w1] : List (List Int))) :: pg1 :: fs) := hS
      refine at_do (d := 42) hF (by kernel_rfl) (by kernel_rfl) hrun (fun a hF => ?_)
      refine at_run 1 [] [] [0, 5, 6] [pl 0 (.slice A1 l1.length c1), pl 5 (.int .i64 k2), pl 6 (.slice A4 (((([] : List (List Int)) ++ (cut l1 (0 : Int) k2)) ++ ([w1] : List (List Int))).length) c4)] hF hS (by kernel_rfl) (by kernel_rfl) ?_ (fun a w hF hS => ?_)
      · exact obs_nil
      refine at_end [0, 5, 6] [pl 0 (.slice A1 l1.length c1), pl 5 (.int .i64 k2), pl 6 (.slice A4 (((([] : List (List Int)) ++ (cut l1 (0 : Int) k2)) ++ ([w1] : List (List Int))).length) c4)] hF rfl (by kernel_rfl) (fun hF => ?_)
      refine then_n ?_
      refine seqR ?_
      obtain ⟨hp6, hm⟩ := asrt_b hm
      obtain ⟨hp7, hm⟩ := asrt_b hm
      refine at_run 4 [⟨true, [], vS (Instr.sliceAt 42 (.slice A1 l1.length c1) (some (.int .i64 k2)) none none), .slice (cutAddr A1 c1 k2) ((cut l1 k2 (l1.length : Int)).length) (c1 - Int.toNat k2)⟩] [none, none, none, some (.slice (cutAddr A1 c1 k2) ((cut l1 k2 (l1.length : Int)).length) (c1 - Int.toNat k2))] [43, 46] [pl 43 (.slice A4 (((([] : List (List Int)) ++ (cut l1 (0 : Int) k2)) ++ ([w1] : List (List Int))).length) c4), pl 46 (.slice (cutAddr A1 c1 k2) ((cut l1 k2 (l1.length : Int)).length) (c1 - Int.toNat k2))] hF hS (by kernel_rfl) (by kernel_rfl) ?_ (fun a w hF hS => ?_)
      · exact obs_cons (ob_cutn (l := l1) (k := .i64) (k' := .i64) Und42 hi22 hs22 rfl (.inl rfl) (.inr ⟨rfl, rfl⟩) (fun _ => hp6) _hc_l1) <| obs_nil
      obtain ⟨A5, c5, w, hrun, hS⟩ := run_appHdr (P := Try.prog) (t := 42) (A2 := (cutAddr A1 c1 k2)) (n2 := (cut l1 k2 (l1.length : Int)).length) (c2 := (c1 - Int.toNat k2)) (hS.at_ 1 rfl) (RdRows.cut (hr_l1.at_ hS 2 rfl) hp6 _hc_l1) rfl 42 Und42 hi22 hz22 hs22 hb22 hp7
      have hS : Sep w0 B w (own 22 (.slice g1 1 1) [.slice A2 w1.length c2] :: hdrs 22 A5 ((((([] : List (List Int)) ++ (cut l1 (0 : Int) k2)) ++ ([w1] : List (List Int))) ++ (cut l1 k2 (l1.length : Int))).length) c5 (((([]) ++ (cut hd1 (0 : Int) k2)) ++ ([(A2, c2)] : List Hd)) ++ (cut hd1 k2 (l1.length : Int))) (((([] : List (List Int)) ++ (cut l1 (0 : Int) k2)) ++ ([w1] : List (List Int))) ++ (cut l1 k2 (l1.length : Int))) :: pg1 :: fs) := hS
      refine at_do (d := 47) hF (by kernel_rfl) (by kernel_rfl) hrun (fun a hF => ?_)
      refine at_run 1 [] [] [4] [pl 4 (.slice A5 ((((([] : List (List Int)) ++ (cut l1 (0 : Int) k2)) ++ ([w1] : List (List Int))) ++ (cut l1 k2 (l1.length : Int))).length) c5)] hF hS (by kernel_rfl) (by kernel_rfl) ?_ (fun a w hF hS => ?_)
      · exact obs_nil
      refine at_end [4] [pl 4 (.slice A5 ((((([] : List (List Int)) ++ (cut l1 (0 : Int) k2)) ++ ([w1] : List (List Int))) ++ (cut l1 k2 (l1.length : Int))).length) c5)] hF rfl (by kernel_rfl) (fun hF => ?_)
      refine then_n ?_
      refine wpIn_ret ?_
      have hp8 := (PoolA.app (PoolA.app (PoolA.app (PoolA.nil pg1) (PoolR.all (PoolR.cut hr_l1 hp3 _hc_l1))) (PoolA.one hr_w1 _hc_w1)) (PoolR.all (PoolR.cut hr_l1 hp6 _hc_l1)))
      have hc1 := (hS.at_ 1 rfl).capH
      have hS := hS.pickN 3 [1, 2, 0] (by decide)
      have hS : Sep w0 B w ((twoB (hdrs 22 A5 ((((([] : List (List Int)) ++ (cut l1 (0 : Int) k2)) ++ ([w1] : List (List Int))) ++ (cut l1 k2 (l1.length : Int))).length) c5 (((([]) ++ (cut hd1 (0 : Int) k2)) ++ ([(A2, c2)] : List Hd)) ++ (cut hd1 k2 (l1.length : Int))) (((([] : List (List Int)) ++ (cut l1 (0 : Int) k2)) ++ ([w1] : List (List Int))) ++ (cut l1 k2 (l1.length : Int)))) pg1) :: own 22 (.slice g1 1 1) [.slice A2 w1.length c2] :: fs) := hS.two
      have hS := hS.pickN 2 [0] (by decide)
      have hm : some (((([] : List (List Int)) ++ (cut l1 (0 : Int) k2)) ++ ([w1] : List (List Int))) ++ (cut l1 k2 (l1.length : Int))) = some r := hm
      obtain rfl := Option.some.inj hm
      exact retV (rs := [.tmp 4]) (vs := [.slice A5 ((((([] : List (List Int)) ++ (cut l1 (0 : Int) k2)) ++ ([w1] : List (List Int))) ++ (cut l1 k2 (l1.length : Int))).length) c5]) hF rfl (rv_t (by kernel_rfl) <| rv_nil) rfl ⟨_, rfl, (twoB (hdrs 22 A5 ((((([] : List (List Int)) ++ (cut l1 (0 : Int) k2)) ++ ([w1] : List (List Int))) ++ (cut l1 k2 (l1.length : Int))).length) c5 (((([]) ++ (cut hd1 (0 : Int) k2)) ++ ([(A2, c2)] : List Hd)) ++ (cut hd1 k2 (l1.length : Int))) (((([] : List (List Int)) ++ (cut l1 (0 : Int) k2)) ++ ([w1] : List (List Int))) ++ (cut l1 k2 (l1.length : Int)))) pg1), A5, c5, (((([]) ++ (cut hd1 (0 : Int) k2)) ++ ([(A2, c2)] : List Hd)) ++ (cut hd1 k2 (l1.length : Int))), rfl, (PoolR.hdrs hp8 : PoolR (twoB (hdrs 22 A5 ((((([] : List (List Int)) ++ (cut l1 (0 : Int) k2)) ++ ([w1] : List (List Int))) ++ (cut l1 k2 (l1.length : Int))).length) c5 (((([]) ++ (cut hd1 (0 : Int) k2)) ++ ([(A2, c2)] : List Hd)) ++ (cut hd1 k2 (l1.length : Int))) (((([] : List (List Int)) ++ (cut l1 (0 : Int) k2)) ++ ([w1] : List (List Int))) ++ (cut l1 k2 (l1.length : Int)))) pg1) A5 (((([]) ++ (cut hd1 (0 : Int) k2)) ++ ([(A2, c2)] : List Hd)) ++ (cut hd1 k2 (l1.length : Int))) (((([] : List (List Int)) ++ (cut l1 (0 : Int) k2)) ++ ([w1] : List (List Int))) ++ (cut l1 k2 (l1.length : Int)))), hc1, (PoolLe.trans (PoolLe.refl _) PoolLe.right), hS⟩
    · obtain ⟨hp2, hm⟩ := asrt_b hm
      obtain ⟨r2, hr2, hm⟩ := call_b hm
      refine reg [⟨true, [(decide (k2 < (l1.length : Int)), true)], vS (Instr.indexAt 42 (.slice A1 l1.length c1) (.int .i64 k2)), .pointer (some (sAddr A1 k2))⟩, ⟨false, [(decide (k2 < (l1.length : Int)), true)], vS (Instr.loadAt 22 (.pointer (some (sAddr A1 k2)))), .slice (hdA hd1 k2) ((geti2 l1 k2).length) (hdC hd1 k2)⟩, ⟨false, [(decide (k2 < (l1.length : Int)), true)], callFunc 87 #[.slice (hdA hd1 k2) ((geti2 l1 k2).length) (hdC hd1 k2), .slice A2 w1.length c2], .bool r2⟩] [none, none, none, none, none, none, none, some (.pointer (some (sAddr A1 k2))), some (.slice (hdA hd1 k2) ((geti2 l1 k2).length) (hdC hd1 k2)), none, some (.bool r2), none] [0, 1, 5, 32] [pl 0 (.slice A1 l1.length c1), pl 1 (.slice A2 w1.length c2), pl 5 (.int .i64 k2), pl 32 (.bool ((decide (k2 < (l1.length : Int))) && r2))] hF hS Fol (by kernel_rfl) (by kernel_rfl) (by kernel_rfl) ?_ (fun a w hF hS => ?_)
      · exact obs_cons (ob_ixRn Und42 hi22 hs22 (hr_l1.at_ hS 0 rfl) rfl (fun hy => hp2 (hy (decide (k2 < (l1.length : Int)), true) (by simp)))) <| obs_cons (ob_getR Agg22 (fun _ hS => ⟨_, (hr_l1.at_ hS 0 rfl)⟩) (fun hy => hp2 (hy (decide (k2 < (l1.length : Int)), true) (by simp)))) <| obs_cons (ob_call Try.func87 (by kernel_rfl) rfl (fun hy _ hS => gameroomref_sameInts_w (ite_some hr2 (by rw [show (decide (k2 < (l1.length : Int))) = true from hy (decide (k2 < (l1.length : Int)), true) (by simp)]; try rfl)) hS (fun _ hS => ((hr_l1.at_ hS 0 rfl).rowAny k2).1) ((hr_l1.at_ hS 0 rfl).rowAny k2).2 rfl (fun _ hS => (hr_w1.at_ hS 0 rfl)) _hc_w1 rfl)) <| obs_nil
      refine cond_ev (t := 32) (b := (decide (k2 < (l1.length : Int))) && r2) hF (by kernel_rfl) (fun hb => ?_) (fun hb => ?_)
      · replace hm := if_t hm hb
        refine reg [] [] [4] [pl 4 (.slice A1 l1.length c1)] hF hS Fol (by kernel_rfl) (by kernel_rfl) (by kernel_rfl) ?_ (fun a w hF hS => ?_)
        · exact obs_nil
        refine wpIn_ret ?_
        refine then_r ?_
        have hm : some l1 = some r := hm
        obtain rfl := Option.some.inj hm
        exact retV (rs := [.tmp 4]) (vs := [.slice A1 l1.length c1]) hF rfl (rv_t (by kernel_rfl) <| rv_nil) rfl ⟨_, rfl, pg1, A1, c1, hd1, rfl, hr_l1, _hc_l1, (PoolLe.refl _), hS⟩
      · replace hm := if_f hm hb
        refine wpIn_skip ?_
        refine then_n ?_
        exact ⟨hF.weak [0, 1, 5] (by kernel_rfl), hS, hm⟩
  · refine wpIn_block ?_
    refine wp_loop_model (S := Int) (R := Int) (gameroomref_putWay_3_L1 l1 w1) (fun x => ((gameroomref_putWay_3_K1 l1 w1) x).bind some) r (fun (x : Int) a w => Fr 48 [pl 0 (.slice A1 l1.length c1), pl 1 (.slice A2 w1.length c2), pl 5 (.int .i64 x)] a ∧ Sep w0 B w (pg1 :: fs)) (assoc_b hm) ⟨hF.weak [0, 1, 5] (by kernel_rfl), hS⟩ ?_
    clear hF hS hm
    rintro nn1 k1 a w ⟨hF, hS⟩ hm
    generalize hφ1 : stK (gameroomref_putWay_3_L1 l1 w1) nn1 (fun x => ((gameroomref_putWay_3_K1 l1 w1) x).bind some) = φ1 at hm
    unfold gameroomref_putWay_3_L1 at hm
    dsimp only at hm
    refine seq_cut (fun a w => Fr 48 [pl 0 (.slice A1 l1.length c1), pl 1 (.slice A2 w1.length c2), pl 5 (.int .i64 k1)] a ∧ Sep w0 B w (pg1 :: fs) ∧ ((gameroomref_putWay_3_J2 k1)).bind φ1 = some r) ?_ ?_
    · rintro a w ⟨hF, hS, hm⟩
      unfold gameroomref_putWay_3_J2 at hm
      refine wpIn_block ?_
      refine reg1 [] [] [0, 1, 5] [pl 0 (.slice A1 l1.length c1), pl 1 (.slice A2 w1.length c2), pl 5 (.int .i64 (w64 (k1 + 1)))] hF hS Fol (by kernel_rfl) (by kernel_rfl) (by kernel_rfl) ?_ (fun a w hF hS => ?_)
      · exact obs_nil
      refine block_n ?_
      refine then_n ?_
      rw [← hφ1] at hm
      exact ⟨(w64 (k1 + 1)), ⟨hF.weak [0, 1, 5] (by kernel_rfl), hS⟩, hm⟩
    · obtain ⟨hp1, hm⟩ := asrt_b hm
      obtain ⟨r1, hr1, hm⟩ := call_b hm
      refine reg [⟨true, [(decide (k1 < (l1.length : Int)), true)], vS (Instr.indexAt 42 (.slice A1 l1.length c1) (.int .i64 k1)), .pointer (some (sAddr A1 k1))⟩, ⟨false, [(decide (k1 < (l1.length : Int)), true)], vS (Instr.loadAt 22 (.pointer (some (sAddr A1 k1)))), .slice (hdA hd1 k1) ((geti2 l1 k1).length) (hdC hd1 k1)⟩, ⟨false, [(decide (k1 < (l1.length : Int)), true)], callFunc 200 #[.slice (hdA hd1 k1) ((geti2 l1 k1).length) (hdC hd1 k1), .slice A2 w1.length c2], .bool r1⟩] [none, none, none, none, none, none, none, some (.pointer (some (sAddr A1 k1))), some (.slice (hdA hd1 k1) ((geti2 l1 k1).length) (hdC hd1 k1)), none, some (.bool r1), none] [0, 1, 5, 18] [pl 0 (.slice A1 l1.length c1), pl 1 (.slice A2 w1.length c2), pl 5 (.int .i64 k1), pl 18 (.bool ((decide (k1 < (l1.length : Int))) && r1))] hF hS Fol (by kernel_rfl) (by kernel_rfl) (by kernel_rfl) ?_ (fun a w hF hS => ?_)
      · exact obs_cons (ob_ixRn Und42 hi22 hs22 (hr_l1.at_ hS 0 rfl) rfl (fun hy => hp1 (hy (decide (k1 < (l1.length : Int)), true) (by simp)))) <| obs_cons (ob_getR Agg22 (fun _ hS => ⟨_, (hr_l1.at_ hS 0 rfl)⟩) (fun hy => hp1 (hy (decide (k1 < (l1.length : Int)), true) (by simp)))) <| obs_cons (ob_call Try.func200 (by kernel_rfl) rfl (fun hy _ hS => gameroomref_lessInts_w (ite_some hr1 (by rw [show (decide (k1 < (l1.length : Int))) = true from hy (decide (k1 < (l1.length : Int)), true) (by simp)]; try rfl)) hS (fun _ hS => ((hr_l1.at_ hS 0 rfl).rowAny k1).1) ((hr_l1.at_ hS 0 rfl).rowAny k1).2 rfl (fun _ hS => (hr_w1.at_ hS 0 rfl)) _hc_w1 rfl)) <| obs_nil
      refine cond_ev (t := 18) (b := (decide (k1 < (l1.length : Int))) && r1) hF (by kernel_rfl) (fun hb => ?_) (fun hb => ?_)
      · replace hm := if_t hm hb
        refine wpIn_skip ?_
        refine then_n ?_
        exact ⟨hF.weak [0, 1, 5] (by kernel_rfl), hS, hm⟩
      · replace hm := if_f hm hb
        refine wpIn_exit ?_
        refine then_e (then_e (block_e (then_n ?_)))
        rw [← hφ1] at hm
        replace hm := done_b hm
        unfold gameroomref_putWay_3_K1 at hm
        try dsimp only at hm
        have hm : ((gameroomref_putWay_3_J1 l1 w1) k1).bind some = some r := hm
        exact ⟨k1, hF.weak [0, 1, 5] (by kernel_rfl), hS, hm⟩

noncomputable def gameroomref_DraughtsMoves_J8  (l2 : List (List Int)) (i1 : Int) (jumps6 : List (List Int)) : Option (St (List (List Int) × List (List Int) × Int) (List (List Int))) :=
  some (.next (jumps6, l2, (w64 (i1 + 1))))

noncomputable def gameroomref_DraughtsMoves_J7  (jumps4 : List (List Int)) (l2 : List (List Int)) (i1 : Int) : Option (St (List (List Int) × List (List Int) × Int) (List (List Int))) :=
  asrt (0 ≤ i1 ∧ i1 < (l2.length : Int)) <| (gameroomref_putWay_3_m jumps4 (geti2 l2 i1)).bind fun r3 => (gameroomref_DraughtsMoves_J8 l2 i1) r3

noncomputable def gameroomref_DraughtsMoves_J12  (jumps8 : List (List Int)) (dy1 : Int) (steps7 : List (List Int)) : Option (St (List (List Int) × List (List Int) × Int) (List (List Int) × List (List Int))) :=
  some (.next (jumps8, steps7, (w64 (dy1 + 2))))

noncomputable def gameroomref_DraughtsMoves_J11  (b1 : List Int) (p1 : Int) (dx1 : Int) (jumps8 : List (List Int)) (steps5 : List (List Int)) (dy1 : Int) : Option (St (List (List Int) × List (List Int) × Int) (List (List Int) × List (List Int))) :=
  (gameroomref_darkX_m p1).bind fun r4 => (gameroomref_darkY_m p1).bind fun r5 => (gameroomref_darkAt_m (w64 (r4 + dx1)) (w64 (r5 + dy1))).bind fun r6 => asrt ((decide ((0 : Int) < r6)) = true → 0 ≤ r6 ∧ r6 < (b1.length : Int)) <| asrt (((decide ((0 : Int) < r6)) && ((geti b1 r6) == 0)) = true → 0 ≤ p1 ∧ p1 < (b1.length : Int)) <| ((if ((decide ((0 : Int) < r6)) && ((geti b1 r6) == 0)) then gameroomref_forwardMay_m (geti b1 p1) dy1 else some false)).bind fun r7 => if (((decide ((0 : Int) < r6)) && ((geti b1 r6) == 0)) && r7) then ((gameroomref_putWay_3_m steps5 ([p1, r6] : List Int)).bind fun r8 => (gameroomref_DraughtsMoves_J12 jumps8 dy1) r8) else ((gameroomref_DraughtsMoves_J12 jumps8 dy1) steps5)

noncomputable def gameroomref_DraughtsMoves_L4  (b1 : List Int) (p1 : Int) (dx1 : Int) : (List (List Int) × List (List Int) × Int) → Option (St (List (List Int) × List (List Int) × Int) (List (List Int) × List (List Int))) :=
  fun (x : (List (List Int) × List (List Int) × Int)) => match x with | (jumps8, steps5, dy1) => if (decide (dy1 ≤ 1)) then ((gameroomref_DraughtsMoves_J11 b1 p1 dx1 jumps8 steps5 dy1)) else (some (.done (jumps8, steps5)))

noncomputable def gameroomref_DraughtsMoves_J10  (dx1 : Int) (jumps9 : List (List Int)) (steps6 : List (List Int)) : Option (St (List (List Int) × List (List Int) × Int) (List (List Int) × List (List Int))) :=
  some (.next (jumps9, steps6, (w64 (dx1 + 2))))

noncomputable def gameroomref_DraughtsMoves_K4  (dx1 : Int) : (List (List Int) × List (List Int)) → Option (St (List (List Int) × List (List Int) × Int) (List (List Int) × List (List Int))) :=
  fun (x : (List (List Int) × List (List Int))) => match x with | (jumps9, steps6) => (gameroomref_DraughtsMoves_J10 dx1) jumps9 steps6

noncomputable def gameroomref_DraughtsMoves_J9  (b1 : List Int) (p1 : Int) (jumps7 : List (List Int)) (steps4 : List (List Int)) (dx1 : Int) : Option (St (List (List Int) × List (List Int) × Int) (List (List Int) × List (List Int))) :=
  (loop (gameroomref_DraughtsMoves_L4 b1 p1 dx1) (jumps7, steps4, (-1))).bind (gameroomref_DraughtsMoves_K4 dx1)

noncomputable def gameroomref_DraughtsMoves_L3  (b1 : List Int) (p1 : Int) : (List (List Int) × List (List Int) × Int) → Option (St (List (List Int) × List (List Int) × Int) (List (List Int) × List (List Int))) :=
  fun (x : (List (List Int) × List (List Int) × Int)) => match x with | (jumps7, steps4, dx1) => if (decide (dx1 ≤ 1)) then ((gameroomref_DraughtsMoves_J9 b1 p1 jumps7 steps4 dx1)) else (some (.done (jumps7, steps4)))

noncomputable def gameroomref_DraughtsMoves_J3  (p1 : Int) (jumps3 : List (List Int)) (steps3 : List (List Int)) : Option (St (List (List Int) × List (List Int) × Int) (List (List Int) × List (List Int))) :=
  some (.next (jumps3, steps3, (w64 (p1 + 1))))

noncomputable def gameroomref_DraughtsMoves_K3  (p1 : Int) : (List (List Int) × List (List Int)) → Option (St (List (List Int) × List (List Int) × Int) (List (List Int) × List (List Int))) :=
  fun (x : (List (List Int) × List (List Int))) => match x with | (jumps3, steps3) => (gameroomref_DraughtsMoves_J3 p1) jumps3 steps3

noncomputable def gameroomref_DraughtsMoves_J6  (b1 : List Int) (steps1 : List (List Int)) (p1 : Int) (jumps5 : List (List Int)) : Option (St (List (List Int) × List (List Int) × Int) (List (List Int) × List (List Int))) :=
  (loop (gameroomref_DraughtsMoves_L3 b1 p1) (jumps5, steps1, (-1))).bind (gameroomref_DraughtsMoves_K3 p1)

noncomputable def gameroomref_DraughtsMoves_K2  (b1 : List Int) (steps1 : List (List Int)) (p1 : Int) : (List (List Int)) → Option (St (List (List Int) × List (List Int) × Int) (List (List Int) × List (List Int))) :=
  fun (x : (List (List Int))) => match x with | jumps5 => (gameroomref_DraughtsMoves_J6 b1 steps1 p1) jumps5

noncomputable def gameroomref_DraughtsMoves_L2  : (List (List Int) × List (List Int) × Int) → Option (St (List (List Int) × List (List Int) × Int) (List (List Int))) :=
  fun (x : (List (List Int) × List (List Int) × Int)) => match x with | (jumps4, l2, i1) => if (decide (i1 < (l2.length : Int))) then ((gameroomref_DraughtsMoves_J7 jumps4 l2 i1)) else (some (.done jumps4))

noncomputable def gameroomref_DraughtsMoves_J5  (b1 : List Int) (jumps1 : List (List Int)) (steps1 : List (List Int)) (p1 : Int) (l1 : List (List Int)) : Option (St (List (List Int) × List (List Int) × Int) (List (List Int) × List (List Int))) :=
  (loop gameroomref_DraughtsMoves_L2 (jumps1, l1, 0)).bind (gameroomref_DraughtsMoves_K2 b1 steps1 p1)

noncomputable def gameroomref_DraughtsMoves_J4  (b1 : List Int) (b2 : Int) (jumps1 : List (List Int)) (steps1 : List (List Int)) (p1 : Int) : Option (St (List (List Int) × List (List Int) × Int) (List (List Int) × List (List Int))) :=
  asrt (0 ≤ p1 ∧ p1 < (b1.length : Int)) <| (gameroomref_jumpsOn_m b1 b2 (geti b1 p1) ([p1] : List Int) ([] : List Int)).bind fun r2 => (gameroomref_DraughtsMoves_J5 b1 jumps1 steps1 p1) r2

noncomputable def gameroomref_DraughtsMoves_J2  (b1 : List Int) (b2 : Int) (jumps1 : List (List Int)) (steps1 : List (List Int)) (p1 : Int) : Option (St (List (List Int) × List (List Int) × Int) (List (List Int) × List (List Int))) :=
  asrt (0 ≤ p1 ∧ p1 < (b1.length : Int)) <| (gameroomref_ownerOf_m (geti b1 p1)).bind fun r1 => if (r1 != b2) then ((gameroomref_DraughtsMoves_J3 p1) jumps1 steps1) else ((gameroomref_DraughtsMoves_J4 b1 b2 jumps1 steps1 p1))

noncomputable def gameroomref_DraughtsMoves_J13  (steps2 : List (List Int)) : Option (List (List Int)) :=
  some steps2

noncomputable def gameroomref_DraughtsMoves_J1  (jumps2 : List (List Int)) (steps2 : List (List Int)) : Option (List (List Int)) :=
  if (decide ((0 : Int) < (jumps2.length : Int))) then (some jumps2) else ((gameroomref_DraughtsMoves_J13 steps2))

noncomputable def gameroomref_DraughtsMoves_K1  : (List (List Int) × List (List Int)) → Option (List (List Int)) :=
  fun (x : (List (List Int) × List (List Int))) => match x with | (jumps2, steps2) => gameroomref_DraughtsMoves_J1 jumps2 steps2

noncomputable def gameroomref_DraughtsMoves_L1  (b1 : List Int) (b2 : Int) : (List (List Int) × List (List Int) × Int) → Option (St (List (List Int) × List (List Int) × Int) (List (List Int) × List (List Int))) :=
  fun (x : (List (List Int) × List (List Int) × Int)) => match x with | (jumps1, steps1, p1) => if (decide (p1 < 33)) then ((gameroomref_DraughtsMoves_J2 b1 b2 jumps1 steps1 p1)) else (some (.done (jumps1, steps1)))

noncomputable def gameroomref_DraughtsMoves_m  (b1 : List Int) (b2 : Int) : Option (List (List Int)) :=
  (loop (gameroomref_DraughtsMoves_L1 b1 b2) (([] : List (List Int)), ([] : List (List Int)), 1)).bind gameroomref_DraughtsMoves_K1

set_option maxRecDepth 100000 in
set_option maxHeartbeats 4000000 in
theorem gameroomref_DraughtsMoves_w  {A1 : Option Addr} {c1 : Nat} {n1 : Nat} {b1 : List Int} {b2 : Int} {r : (List (List Int))} {w0 w : World} {B : Nat} {fs : List HP} (hm : gameroomref_DraughtsMoves_m b1 b2 = some r) (hS : Sep w0 B w (fs)) (hr_b1 : RdF w0 B fs A1 (vI b1)) (_hc_b1 : b1.length ≤ c1) (_hn_b1 : n1 = b1.length) :
    Calls Try.prog 48 #[.agg #[.slice A1 n1 c1, .int .i64 b2]] w fun e w' => ∃ v, e = .returned v ∧ ∃ (pg13 : HP) (A24 : Option Addr) (c24 : Nat) (hd23 : List Hd), v = .slice A24 r.length c24 ∧ (PoolR pg13 A24 hd23 r) ∧ (r.length ≤ c24) ∧ Sep w0 B w' (pg13 :: fs) := by
  obtain ⟨i3, hi3, hz3, hs3, hb3⟩ := info_parts Info3
  obtain ⟨i22, hi22, hz22, hs22, hb22⟩ := info_parts Info22
  obtain rfl := _hn_b1
  unfold gameroomref_DraughtsMoves_m at hm
  replace hm := start_b hm
  refine enter (l := [.agg #[.slice A1 b1.length c1, .int .i64 b2]]) (n := 91) Try.func48 rfl rfl (by simp) (fun a hF => ?_)
  refine seqR ?_
  refine at_do (d := 1) (s := vS (Instr.box 66 (.agg #[.slice A1 b1.length c1, .int .i64 b2]))) (v := .pointer (some ⟨w.heap.size, 0, none⟩)) (w' := w.alloc (.cells #[.slice A1 b1.length c1, .int .i64 b2] 66)) hF (by kernel_rfl) (by kernel_rfl) (by kernel_rfl) (fun a hF => ?_)
  have hS : Sep w0 B (w.alloc (.cells #[.slice A1 b1.length c1, .int .i64 b2] 66)) (blk w.heap.size 66 #[.slice A1 b1.length c1, .int .i64 b2] :: (fs)) := hS.box 66 #[.slice A1 b1.length c1, .int .i64 b2]
  generalize w.heap.size = g1 at hF hS
  generalize w.alloc (.cells #[.slice A1 b1.length c1, .int .i64 b2] 66) = w at hS ⊢
  refine at_run 1 [] [] [1] [pl 1 (.pointer (some ⟨g1, 0, none⟩))] hF hS (by kernel_rfl) (by kernel_rfl) ?_ (fun a w hF hS => ?_)
  · exact obs_nil
  refine at_end [1] [pl 1 (.pointer (some ⟨g1, 0, none⟩))] hF rfl (by kernel_rfl) (fun hF => ?_)
  refine then_n ?_
  refine reg [] [] [1, 3, 4] [pl 1 (.pointer (some ⟨g1, 0, none⟩)), pl 3 (.slice none 0 0), pl 4 (.slice none 0 0)] hF hS Fol (by kernel_rfl) (by kernel_rfl) (by kernel_rfl) ?_ (fun a w hF hS => ?_)
  · exact obs_nil
  refine seq_cut (fun a w => ∃ (jumps2 : List (List Int)) (steps2 : List (List Int)) (pg2 : HP) (A4 : Option Addr) (c4 : Nat) (hd3 : List Hd) (A5 : Option Addr) (c5 : Nat) (hd4 : List Hd), Fr 91 [pl 3 (.slice A4 jumps2.length c4), pl 4 (.slice A5 steps2.length c5)] a ∧ Sep w0 B w (pg2 :: fs) ∧ PoolR pg2 A4 hd3 jumps2 ∧ jumps2.length ≤ c4 ∧ PoolR pg2 A5 hd4 steps2 ∧ steps2.length ≤ c5 ∧ (gameroomref_DraughtsMoves_J1 jumps2 steps2).bind some = some r) ?_ ?_
  · rintro a w ⟨jumps2, steps2, pg2, A4, c4, hd3, A5, c5, hd4, hF, hS, hp3, hc3, hp4, hc4, hm⟩
    unfold gameroomref_DraughtsMoves_J1 at hm
    refine seq_cut (fun a w => Fr 91 [pl 4 (.slice A5 steps2.length c5)] a ∧ Sep w0 B w (pg2 :: fs) ∧ ((gameroomref_DraughtsMoves_J13 steps2)).bind some = some r) ?_ ?_
    · rintro a w ⟨hF, hS, hm⟩
      unfold gameroomref_DraughtsMoves_J13 at hm
      refine reg [] [] [2] [pl 2 (.slice A5 steps2.length c5)] hF hS Fol (by kernel_rfl) (by kernel_rfl) (by kernel_rfl) ?_ (fun a w hF hS => ?_)
      · exact obs_nil
      refine wpIn_ret ?_
      have hm : some steps2 = some r := hm
      obtain rfl := Option.some.inj hm
      exact retV (rs := [.tmp 2]) (vs := [.slice A5 steps2.length c5]) hF rfl (rv_t (by kernel_rfl) <| rv_nil) rfl ⟨_, rfl, pg2, A5, c5, hd4, rfl, hp4, hc4, hS⟩
    · refine reg [] [] [3, 4, 88] [pl 3 (.slice A4 jumps2.length c4), pl 4 (.slice A5 steps2.length c5), pl 88 (.bool (decide ((0 : Int) < (jumps2.length : Int))))] hF hS Fol (by kernel_rfl) (by kernel_rfl) (by kernel_rfl) ?_ (fun a w hF hS => ?_)
      · exact obs_nil
      refine cond_ev (t := 88) (b := decide ((0 : Int) < (jumps2.length : Int))) hF (by kernel_rfl) (fun hb => ?_) (fun hb => ?_)
      · replace hm := if_t hm hb
        refine reg [] [] [2] [pl 2 (.slice A4 jumps2.length c4)] hF hS Fol (by kernel_rfl) (by kernel_rfl) (by kernel_rfl) ?_ (fun a w hF hS => ?_)
        · exact obs_nil
        refine wpIn_ret ?_
        refine then_r ?_
        have hm : some jumps2 = some r := hm
        obtain rfl := Option.some.inj hm
        exact retV (rs := [.tmp 2]) (vs := [.slice A4 jumps2.length c4]) hF rfl (rv_t (by kernel_rfl) <| rv_nil) rfl ⟨_, rfl, pg2, A4, c4, hd3, rfl, hp3, hc3, hS⟩
      · replace hm := if_f hm hb
        refine wpIn_skip ?_
        refine then_n ?_
        exact ⟨hF.weak [4] (by kernel_rfl), hS, hm⟩
  · refine reg [] [] [1, 3, 4, 5] [pl 1 (.pointer (some ⟨g1, 0, none⟩)), pl 3 (.slice none 0 0), pl 4 (.slice none 0 0), pl 5 (.int .i64 1)] hF hS Fol (by kernel_rfl) (by kernel_rfl) (by kernel_rfl) ?_ (fun a w hF hS => ?_)
    · exact obs_nil
    refine wpIn_block ?_
    have hS : Sep w0 B w (noB :: blk g1 66 #[.slice A1 b1.length c1, .int .i64 b2] :: fs) := hS.noB
    have hS := hS.pickN 2 [1, 0] (by decide)
    refine wp_loop_model (S := (List (List Int) × List (List Int) × Int)) (R := (List (List Int) × List (List Int))) (gameroomref_DraughtsMoves_L1 b1 b2) (fun x => (gameroomref_DraughtsMoves_K1 x).bind some) r (fun (x : (List (List Int) × List (List Int) × Int)) a w => ∃ (pg1 : HP) (A2 : Option Addr) (c2 : Nat) (hd1 : List Hd) (A3 : Option Addr) (c3 : Nat) (hd2 : List Hd), Fr 91 [pl 1 (.pointer (some ⟨g1, 0, none⟩)), pl 3 (.slice A2 x.1.length c2), pl 4 (.slice A3 x.2.1.length c3), pl 5 (.int .i64 x.2.2)] a ∧ Sep w0 B w (blk g1 66 #[.slice A1 b1.length c1, .int .i64 b2] :: pg1 :: fs) ∧ PoolR pg1 A2 hd1 x.1 ∧ x.1.length ≤ c2 ∧ PoolR pg1 A3 hd2 x.2.1 ∧ x.2.1.length ≤ c3) (assoc_b hm) ⟨noB, none, 0, ([] : List Hd), none, 0, ([] : List Hd), hF.weak [1, 3, 4, 5] (by kernel_rfl), hS, (PoolR.nil noB), (Nat.le_refl _), (PoolR.nil noB), (Nat.le_refl _)⟩ ?_
    clear hF hS hm
    rintro nn1 ⟨jumps1, steps1, p1⟩ a w ⟨pg1, A2, c2, hd1, A3, c3, hd2, hF, hS, hp1, hc1, hp2, hc2⟩ hm
    generalize hφ1 : stK (gameroomref_DraughtsMoves_L1 b1 b2) nn1 (fun x => (gameroomref_DraughtsMoves_K1 x).bind some) = φ1 at hm
    unfold gameroomref_DraughtsMoves_L1 at hm
    dsimp only at hF hS hm
    refine seq_cut (fun a w => Fr 91 [pl 1 (.pointer (some ⟨g1, 0, none⟩)), pl 3 (.slice A2 jumps1.length c2), pl 4 (.slice A3 steps1.length c3), pl 5 (.int .i64 p1)] a ∧ Sep w0 B w (blk g1 66 #[.slice A1 b1.length c1, .int .i64 b2] :: pg1 :: fs) ∧ ((gameroomref_DraughtsMoves_J2 b1 b2 jumps1 steps1 p1)).bind φ1 = some r) ?_ ?_
    · rintro a w ⟨hF, hS, hm⟩
      unfold gameroomref_DraughtsMoves_J2 at hm
      refine seq_cut (fun a w => ∃ (jumps3 : List (List Int)) (steps3 : List (List Int)) (pg3 : HP) (A6 : Option Addr) (c6 : Nat) (hd5 : List Hd) (A7 : Option Addr) (c7 : Nat) (hd6 : List Hd), Fr 91 [pl 1 (.pointer (some ⟨g1, 0, none⟩)), pl 3 (.slice A6 jumps3.length c6), pl 4 (.slice A7 steps3.length c7), pl 5 (.int .i64 p1)] a ∧ Sep w0 B w (blk g1 66 #[.slice A1 b1.length c1, .int .i64 b2] :: pg3 :: fs) ∧ PoolR pg3 A6 hd5 jumps3 ∧ jumps3.length ≤ c6 ∧ PoolR pg3 A7 hd6 steps3 ∧ steps3.length ≤ c7 ∧ ((gameroomref_DraughtsMoves_J3 p1) jumps3 steps3).bind φ1 = some r) ?_ ?_
      · rintro a w ⟨jumps3, steps3, pg3, A6, c6, hd5, A7, c7, hd6, hF, hS, hp6, hc5, hp7, hc6, hm⟩
        unfold gameroomref_DraughtsMoves_J3 at hm
        refine reg1 [] [] [1, 3, 4, 5] [pl 1 (.pointer (some ⟨g1, 0, none⟩)), pl 3 (.slice A6 jumps3.length c6), pl 4 (.slice A7 steps3.length c7), pl 5 (.int .i64 (w64 (p1 + 1)))] hF hS Fol (by kernel_rfl) (by kernel_rfl) (by kernel_rfl) ?_ (fun a w hF hS => ?_)
        · exact obs_nil
        refine then_n ?_
        rw [← hφ1] at hm
        exact ⟨(jumps3, steps3, (w64 (p1 + 1))), ⟨pg3, A6, c6, hd5, A7, c7, hd6, hF.weak [1, 3, 4, 5] (by kernel_rfl), hS, hp6, hc5, hp7, hc6⟩, hm⟩
      · refine wpIn_block ?_
        refine seq_cut (fun a w => Fr 91 [pl 1 (.pointer (some ⟨g1, 0, none⟩)), pl 3 (.slice A2 jumps1.length c2), pl 4 (.slice A3 steps1.length c3), pl 5 (.int .i64 p1)] a ∧ Sep w0 B w (blk g1 66 #[.slice A1 b1.length c1, .int .i64 b2] :: pg1 :: fs) ∧ ((gameroomref_DraughtsMoves_J4 b1 b2 jumps1 steps1 p1)).bind φ1 = some r) ?_ ?_
        · rintro a w ⟨hF, hS, hm⟩
          unfold gameroomref_DraughtsMoves_J4 at hm
          refine seq_cut (fun a w => ∃ (l1 : List (List Int)) (A10 : Option Addr) (c10 : Nat) (hd9 : List Hd), Fr 91 [pl 1 (.pointer (some ⟨g1, 0, none⟩)), pl 3 (.slice A2 jumps1.length c2), pl 4 (.slice A3 steps1.length c3), pl 5 (.int .i64 p1), pl 6 (.slice A10 l1.length c10)] a ∧ Sep w0 B w (blk g1 66 #[.slice A1 b1.length c1, .int .i64 b2] :: pg1 :: rows 22 3 (.slice A10 l1.length c10) hd9 l1 :: fs) ∧ ((gameroomref_DraughtsMoves_J5 b1 jumps1 steps1 p1) l1).bind φ1 = some r) ?_ ?_
          · rintro a w ⟨l1, A10, c10, hd9, hF, hS, hm⟩
            unfold gameroomref_DraughtsMoves_J5 at hm
            refine seq_cut (fun a w => ∃ (jumps5 : List (List Int)) (pg5 : HP) (A13 : Option Addr) (c13 : Nat) (hd12 : List Hd), Fr 91 [pl 1 (.pointer (some ⟨g1, 0, none⟩)), pl 3 (.slice A13 jumps5.length c13), pl 4 (.slice A3 steps1.length c3), pl 5 (.int .i64 p1)] a ∧ Sep w0 B w (blk g1 66 #[.slice A1 b1.length c1, .int .i64 b2] :: pg5 :: fs) ∧ PoolR pg5 A13 hd12 jumps5 ∧ jumps5.length ≤ c13 ∧ PoolR pg5 A3 hd2 steps1 ∧ steps1.length ≤ c3 ∧ ((gameroomref_DraughtsMoves_J6 b1 steps1 p1) jumps5).bind φ1 = some r) ?_ ?_
            · rintro a w ⟨jumps5, pg5, A13, c13, hd12, hF, hS, hp12, hc11, hp13, hc12, hm⟩
              unfold gameroomref_DraughtsMoves_J6 at hm
              refine reg [] [] [1, 3, 4, 5, 8] [pl 1 (.pointer (some ⟨g1, 0, none⟩)), pl 3 (.slice A13 jumps5.length c13), pl 4 (.slice A3 steps1.length c3), pl 5 (.int .i64 p1), pl 8 (.int .i64 (-1))] hF hS Fol (by kernel_rfl) (by kernel_rfl) (by kernel_rfl) ?_ (fun a w hF hS => ?_)
              · exact obs_nil
              refine wpIn_block ?_
              refine wp_loop_model (S := (List (List Int) × List (List Int) × Int)) (R := (List (List Int) × List (List Int))) (gameroomref_DraughtsMoves_L3 b1 p1) (fun x => ((gameroomref_DraughtsMoves_K3 p1) x).bind φ1) r (fun (x : (List (List Int) × List (List Int) × Int)) a w => ∃ (pg8 : HP) (A16 : Option Addr) (c16 : Nat) (hd15 : List Hd) (A17 : Option Addr) (c17 : Nat) (hd16 : List Hd), Fr 91 [pl 1 (.pointer (some ⟨g1, 0, none⟩)), pl 3 (.slice A16 x.1.length c16), pl 4 (.slice A17 x.2.1.length c17), pl 5 (.int .i64 p1), pl 8 (.int .i64 x.2.2)] a ∧ Sep w0 B w (blk g1 66 #[.slice A1 b1.length c1, .int .i64 b2] :: pg8 :: fs) ∧ PoolR pg8 A16 hd15 x.1 ∧ x.1.length ≤ c16 ∧ PoolR pg8 A17 hd16 x.2.1 ∧ x.2.1.length ≤ c17) (assoc_b hm) ⟨pg5, A13, c13, hd12, A3, c3, hd2, hF.weak [1, 3, 4, 5, 8] (by kernel_rfl), hS, hp12, hc11, hp13, hc12⟩ ?_
              clear hF hS hm
              rintro nn3 ⟨jumps7, steps4, dx1⟩ a w ⟨pg8, A16, c16, hd15, A17, c17, hd16, hF, hS, hp19, hc18, hp20, hc19⟩ hm
              generalize hφ3 : stK (gameroomref_DraughtsMoves_L3 b1 p1) nn3 (fun x => ((gameroomref_DraughtsMoves_K3 p1) x).bind φ1) = φ3 at hm
              unfold gameroomref_DraughtsMoves_L3 at hm
              dsimp only at hF hS hm
              refine seq_cut (fun a w => Fr 91 [pl 1 (.pointer (some ⟨g1, 0, none⟩)), pl 3 (.slice A16 jumps7.length c16), pl 4 (.slice A17 steps4.length c17), pl 5 (.int .i64 p1), pl 8 (.int .i64 dx1)] a ∧ Sep w0 B w (blk g1 66 #[.slice A1 b1.length c1, .int .i64 b2] :: pg8 :: fs) ∧ ((gameroomref_DraughtsMoves_J9 b1 p1 jumps7 steps4 dx1)).bind φ3 = some r) ?_ ?_
              · rintro a w ⟨hF, hS, hm⟩
                unfold gameroomref_DraughtsMoves_J9 at hm
                refine seq_cut (fun a w => ∃ (jumps9 : List (List Int)) (steps6 : List (List Int)) (pg10 : HP) (A20 : Option Addr) (c20 : Nat) (hd19 : List Hd) (A21 : Option Addr) (c21 : Nat) (hd20 : List Hd), Fr 91 [pl 1 (.pointer (some ⟨g1, 0, none⟩)), pl 3 (.slice A20 jumps9.length c20), pl 4 (.slice A21 steps6.length c21), pl 5 (.int .i64 p1), pl 8 (.int .i64 dx1)] a ∧ Sep w0 B w (blk g1 66 #[.slice A1 b1.length c1, .int .i64 b2] :: pg10 :: fs) ∧ PoolR pg10 A20 hd19 jumps9 ∧ jumps9.length ≤ c20 ∧ PoolR pg10 A21 hd20 steps6 ∧ steps6.length ≤ c21 ∧ ((gameroomref_DraughtsMoves_J10 dx1) jumps9 steps6).bind φ3 = some r) ?_ ?_
                · rintro a w ⟨jumps9, steps6, pg10, A20, c20, hd19, A21, c21, hd20, hF, hS, hp23, hc22, hp24, hc23, hm⟩
                  unfold gameroomref_DraughtsMoves_J10 at hm
                  refine reg1 [] [] [1, 3, 4, 5, 8] [pl 1 (.pointer (some ⟨g1, 0, none⟩)), pl 3 (.slice A20 jumps9.length c20), pl 4 (.slice A21 steps6.length c21), pl 5 (.int .i64 p1), pl 8 (.int .i64 (w64 (dx1 + 2)))] hF hS Fol (by kernel_rfl) (by kernel_rfl) (by kernel_rfl) ?_ (fun a w hF hS => ?_)
                  · exact obs_nil
                  refine then_n ?_
                  rw [← hφ3] at hm
                  exact ⟨(jumps9, steps6, (w64 (dx1 + 2))), ⟨pg10, A20, c20, hd19, A21, c21, hd20, hF.weak [1, 3, 4, 5, 8] (by kernel_rfl), hS, hp23, hc22, hp24, hc23⟩, hm⟩
                · refine wpIn_block ?_
                  refine reg [] [] [1, 3, 4, 5, 8, 9] [pl 1 (.pointer (some ⟨g1, 0, none⟩)), pl 3 (.slice A16 jumps7.length c16), pl 4 (.slice A17 steps4.length c17), pl 5 (.int .i64 p1), pl 8 (.int .i64 dx1), pl 9 (.int .i64 (-1))] hF hS Fol (by kernel_rfl) (by kernel_rfl) (by kernel_rfl) ?_ (fun a w hF hS => ?_)
                  · exact obs_nil
                  refine wpIn_block ?_
                  refine wp_loop_model (S := (List (List Int) × List (List Int) × Int)) (R := (List (List Int) × List (List Int))) (gameroomref_DraughtsMoves_L4 b1 p1 dx1) (fun x => ((gameroomref_DraughtsMoves_K4 dx1) x).bind φ3) r (fun (x : (List (List Int) × List (List Int) × Int)) a w => ∃ (pg9 : HP) (A18 : Option Addr) (c18 : Nat) (hd17 : List Hd) (A19 : Option Addr) (c19 : Nat) (hd18 : List Hd), Fr 91 [pl 1 (.pointer (some ⟨g1, 0, none⟩)), pl 3 (.slice A18 x.1.length c18), pl 4 (.slice A19 x.2.1.length c19), pl 5 (.int .i64 p1), pl 8 (.int .i64 dx1), pl 9 (.int .i64 x.2.2)] a ∧ Sep w0 B w (blk g1 66 #[.slice A1 b1.length c1, .int .i64 b2] :: pg9 :: fs) ∧ PoolR pg9 A18 hd17 x.1 ∧ x.1.length ≤ c18 ∧ PoolR pg9 A19 hd18 x.2.1 ∧ x.2.1.length ≤ c19) (assoc_b hm) ⟨pg8, A16, c16, hd15, A17, c17, hd16, hF.weak [1, 3, 4, 5, 8, 9] (by kernel_rfl), hS, hp19, hc18, hp20, hc19⟩ ?_
                  clear hF hS hm
                  rintro nn4 ⟨jumps8, steps5, dy1⟩ a w ⟨pg9, A18, c18, hd17, A19, c19, hd18, hF, hS, hp21, hc20, hp22, hc21⟩ hm
                  generalize hφ4 : stK (gameroomref_DraughtsMoves_L4 b1 p1 dx1) nn4 (fun x => ((gameroomref_DraughtsMoves_K4 dx1) x).bind φ3) = φ4 at hm
                  unfold gameroomref_DraughtsMoves_L4 at hm
                  dsimp only at hF hS hm
                  refine seq_cut (fun a w => Fr 91 [pl 1 (.pointer (some ⟨g1, 0, none⟩)), pl 3 (.slice A18 jumps8.length c18), pl 4 (.slice A19 steps5.length c19), pl 5 (.int .i64 p1), pl 8 (.int .i64 dx1), pl 9 (.int .i64 dy1)] a ∧ Sep w0 B w (blk g1 66 #[.slice A1 b1.length c1, .int .i64 b2] :: pg9 :: fs) ∧ ((gameroomref_DraughtsMoves_J11 b1 p1 dx1 jumps8 steps5 dy1)).bind φ4 = some r) ?_ ?_
                  · rintro a w ⟨hF, hS, hm⟩
                    unfold gameroomref_DraughtsMoves_J11 at hm
                    refine seq_cut (fun a w => ∃ (steps7 : List (List Int)) (pg12 : HP) (A23 : Option Addr) (c23 : Nat) (hd22 : List Hd), Fr 91 [pl 1 (.pointer (some ⟨g1, 0, none⟩)), pl 3 (.slice A18 jumps8.length c18), pl 4 (.slice A23 steps7.length c23), pl 5 (.int .i64 p1), pl 8 (.int .i64 dx1), pl 9 (.int .i64 dy1)] a ∧ Sep w0 B w (blk g1 66 #[.slice A1 b1.length c1, .int .i64 b2] :: pg12 :: fs) ∧ PoolR pg12 A18 hd17 jumps8 ∧ jumps8.length ≤ c18 ∧ PoolR pg12 A23 hd22 steps7 ∧ steps7.length ≤ c23 ∧ ((gameroomref_DraughtsMoves_J12 jumps8 dy1) steps7).bind φ4 = some r) ?_ ?_
                    · rintro a w ⟨steps7, pg12, A23, c23, hd22, hF, hS, hp28, hc26, hp29, hc27, hm⟩
                      unfold gameroomref_DraughtsMoves_J12 at hm
                      refine reg1 [] [] [1, 3, 4, 5, 8, 9] [pl 1 (.pointer (some ⟨g1, 0, none⟩)), pl 3 (.slice A18 jumps8.length c18), pl 4 (.slice A23 steps7.length c23), pl 5 (.int .i64 p1), pl 8 (.int .i64 dx1), pl 9 (.int .i64 (w64 (dy1 + 2)))] hF hS Fol (by kernel_rfl) (by kernel_rfl) (by kernel_rfl) ?_ (fun a w hF hS => ?_)
                      · exact obs_nil
                      refine then_n ?_
                      rw [← hφ4] at hm
                      exact ⟨(jumps8, steps7, (w64 (dy1 + 2))), ⟨pg12, A18, c18, hd17, A23, c23, hd22, hF.weak [1, 3, 4, 5, 8, 9] (by kernel_rfl), hS, hp28, hc26, hp29, hc27⟩, hm⟩
                    · refine wpIn_block ?_
                      obtain ⟨r4, hr4, hm⟩ := call_b hm
                      obtain ⟨r5, hr5, hm⟩ := call_b hm
                      obtain ⟨r6, hr6, hm⟩ := call_b hm
                      refine reg [⟨false, [], callFunc 121 #[.int .i64 p1], .int .i64 r4⟩, ⟨false, [], callFunc 122 #[.int .i64 p1], .int .i64 r5⟩, ⟨false, [], callFunc 120 #[.int .i64 (w64 (r4 + dx1)), .int .i64 (w64 (r5 + dy1))], .int .i64 r6⟩] [none, some (.int .i64 r4), none, none, none, some (.int .i64 r5), none, none, some (.int .i64 r6), none] [1, 3, 4, 5, 8, 9, 10] [pl 1 (.pointer (some ⟨g1, 0, none⟩)), pl 3 (.slice A18 jumps8.length c18), pl 4 (.slice A19 steps5.length c19), pl 5 (.int .i64 p1), pl 8 (.int .i64 dx1), pl 9 (.int .i64 dy1), pl 10 (.int .i64 r6)] hF hS Fol (by kernel_rfl) (by kernel_rfl) (by kernel_rfl) ?_ (fun a w hF hS => ?_)
                      · exact obs_cons (ob_call Try.func121 (by kernel_rfl) rfl (fun _ _ hS => gameroomref_darkX_w hr4 hS )) <| obs_cons (ob_call Try.func122 (by kernel_rfl) rfl (fun _ _ hS => gameroomref_darkY_w hr5 hS )) <| obs_cons (ob_call Try.func120 (by kernel_rfl) rfl (fun _ _ hS => gameroomref_darkAt_w hr6 hS )) <| obs_nil
                      obtain ⟨hp25, hm⟩ := asrt_b hm
                      obtain ⟨hp26, hm⟩ := asrt_b hm
                      obtain ⟨r7, hr7, hm⟩ := call_b hm
                      refine reg [⟨false, [(decide ((0 : Int) < r6), true)], vS (Instr.loadAt 22 (.pointer (some ⟨g1, 0, none⟩))), .slice A1 b1.length c1⟩, ⟨true, [(decide ((0 : Int) < r6), true)], vS (Instr.indexAt 22 (.slice A1 b1.length c1) (.int .i64 r6)), .pointer (some (sAddr A1 r6))⟩, ⟨false, [(decide ((0 : Int) < r6), true)], vS (Instr.loadAt 3 (.pointer (some (sAddr A1 r6)))), .int .i64 (geti b1 r6)⟩, ⟨false, [((decide ((0 : Int) < r6)) && ((geti b1 r6) == 0), true)], vS (Instr.loadAt 22 (.pointer (some ⟨g1, 0, none⟩))), .slice A1 b1.length c1⟩, ⟨true, [((decide ((0 : Int) < r6)) && ((geti b1 r6) == 0), true)], vS (Instr.indexAt 22 (.slice A1 b1.length c1) (.int .i64 p1)), .pointer (some (sAddr A1 p1))⟩, ⟨false, [((decide ((0 : Int) < r6)) && ((geti b1 r6) == 0), true)], vS (Instr.loadAt 3 (.pointer (some (sAddr A1 p1)))), .int .i64 (geti b1 p1)⟩, ⟨false, [((decide ((0 : Int) < r6)) && ((geti b1 r6) == 0), true)], callFunc 123 #[.int .i64 (geti b1 p1), .int .i64 dy1], .bool r7⟩] [none, none, none, none, some (.slice A1 b1.length c1), none, some (.pointer (some (sAddr A1 r6))), some (.int .i64 (geti b1 r6)), none, none, none, none, some (.slice A1 b1.length c1), none, some (.pointer (some (sAddr A1 p1))), some (.int .i64 (geti b1 p1)), none, some (.bool r7), none] [1, 3, 4, 5, 8, 9, 10, 80] [pl 1 (.pointer (some ⟨g1, 0, none⟩)), pl 3 (.slice A18 jumps8.length c18), pl 4 (.slice A19 steps5.length c19), pl 5 (.int .i64 p1), pl 8 (.int .i64 dx1), pl 9 (.int .i64 dy1), pl 10 (.int .i64 r6), pl 80 (.bool (((decide ((0 : Int) < r6)) && ((geti b1 r6) == 0)) && r7))] hF hS Fol (by kernel_rfl) (by kernel_rfl) (by kernel_rfl) ?_ (fun a w hF hS => ?_)
                      · exact obs_cons (ob_load Agg22 (fun _ _ hS => (hS.at_ 0 rfl).cell rfl)) <| obs_cons (ob_ix1 (f := (Value.int .i64)) (m := b1) Und22 hi3 hs3 (hr_b1 _ (hS.dropN 2)) rfl (fun hy => hp25 (hy (decide ((0 : Int) < r6), true) (by simp)))) <| obs_cons (ob_get1 (n := b1.length) (m := b1) (Value.int .i64) (0 : Int) Agg3 (fun _ hS => ⟨_, (hr_b1 _ (hS.dropN 2))⟩) (fun _ hS => rfl) (fun hy => hp25 (hy (decide ((0 : Int) < r6), true) (by simp)))) <| obs_cons (ob_load Agg22 (fun _ _ hS => (hS.at_ 0 rfl).cell rfl)) <| obs_cons (ob_ix1 (f := (Value.int .i64)) (m := b1) Und22 hi3 hs3 (hr_b1 _ (hS.dropN 2)) rfl (fun hy => hp26 (hy ((decide ((0 : Int) < r6)) && ((geti b1 r6) == 0), true) (by simp)))) <| obs_cons (ob_get1 (n := b1.length) (m := b1) (Value.int .i64) (0 : Int) Agg3 (fun _ hS => ⟨_, (hr_b1 _ (hS.dropN 2))⟩) (fun _ hS => rfl) (fun hy => hp26 (hy ((decide ((0 : Int) < r6)) && ((geti b1 r6) == 0), true) (by simp)))) <| obs_cons (ob_call Try.func123 (by kernel_rfl) rfl (fun hy _ hS => gameroomref_forwardMay_w (ite_some hr7 (by rw [show ((decide ((0 : Int) < r6)) && ((geti b1 r6) == 0)) = true from hy ((decide ((0 : Int) < r6)) && ((geti b1 r6) == 0), true) (by simp)]; try rfl)) hS )) <| obs_nil
                      refine cond_ev (t := 80) (b := ((decide ((0 : Int) < r6)) && ((geti b1 r6) == 0)) && r7) hF (by kernel_rfl) (fun hb => ?_) (fun hb => ?_)
                      · replace hm := if_t hm hb
                        refine oneR ?_
                        obtain ⟨r8, hr8, hm⟩ := call_b hm
                        refine at_run 3 [] [] [1, 3, 5, 8, 9, 81, 82, 83] [pl 1 (.pointer (some ⟨g1, 0, none⟩)), pl 3 (.slice A18 jumps8.length c18), pl 5 (.int .i64 p1), pl 8 (.int .i64 dx1), pl 9 (.int .i64 dy1), pl 81 (.slice A19 steps5.length c19), pl 82 (.int .i64 p1), pl 83 (.int .i64 r6)] hF hS (by kernel_rfl) (by kernel_rfl) ?_ (fun a w hF hS => ?_)
                        · exact obs_nil
                        refine at_do (d := 84) (s := vS (Instr.buildSlice 22 2 #[(0, .int .i64 p1), (1, .int .i64 r6)])) (v := .slice (some ⟨w.heap.size, 0, none⟩) 2 2) (w' := w.alloc (.cells #[.int .i64 p1, .int .i64 r6] 3)) hF (by kernel_rfl) (by kernel_rfl) (by kernel_rfl) (fun a hF => ?_)
                        have hS : Sep w0 B (w.alloc (.cells #[.int .i64 p1, .int .i64 r6] 3)) (own 3 (.slice (some (⟨w.heap.size, 0, none⟩ : Addr)) 2 2) (vI ([p1, r6] : List Int)) :: (blk g1 66 #[.slice A1 b1.length c1, .int .i64 b2] :: pg9 :: fs)) := hS.lit 3 #[.int .i64 p1, .int .i64 r6] 2 rfl (by omega)
                        generalize (some (⟨w.heap.size, 0, none⟩ : Addr)) = g3 at hF hS
                        generalize w.alloc (.cells #[.int .i64 p1, .int .i64 r6] 3) = w at hS ⊢
                        have hl1 := (hS.at_ 0 rfl).len1
                        have hS := (hS.at_ 0 rfl).reN hl1
                        have hS : Sep w0 B w (own 3 (.slice g3 (([p1, r6] : List Int).length) 2) (vI ([p1, r6] : List Int)) :: blk g1 66 #[.slice A1 b1.length c1, .int .i64 b2] :: pg9 :: fs) := hS
                        have hF := hF.cast (t := 84) (v := .slice g3 2 2) (v' := .slice g3 (([p1, r6] : List Int).length) 2) rfl rfl (congrArg (fun k => Value.slice g3 k 2) hl1)
                        have hc24 := (hS.at_ 0 rfl).cap1
                        have hS := hS.pickN 3 [0, 2, 1] (by decide)
                        have hS : Sep w0 B w ((twoB (own 3 (.slice g3 (([p1, r6] : List Int).length) 2) (vI ([p1, r6] : List Int))) pg9) :: blk g1 66 #[.slice A1 b1.length c1, .int .i64 b2] :: fs) := hS.two
                        refine at_call (f := 119) (args := #[.slice A19 steps5.length c19, .slice g3 (([p1, r6] : List Int).length) 2]) (d := 85) hF (by kernel_rfl) (by kernel_rfl) Try.func119 (by kernel_rfl) rfl (gameroomref_putWay_3_w hr8 hS (PoolR.mono PoolLe.right hp22) hc21 rfl (PoolW.own : PoolW (twoB (own 3 (.slice g3 (([p1, r6] : List Int).length) 2) (vI ([p1, r6] : List Int))) pg9) g3 ([p1, r6] : List Int)) hc24 rfl) (fun v a w hR hF => ?_)
                        clear hS
                        obtain ⟨pg11, A22, c22, hd21, rfl, hp27, hc25, hle2, hS⟩ := hR
                        have hS : Sep w0 B w (pg11 :: blk g1 66 #[.slice A1 b1.length c1, .int .i64 b2] :: fs) := hS
                        refine at_run 1 [] [] [1, 3, 4, 5, 8, 9] [pl 1 (.pointer (some ⟨g1, 0, none⟩)), pl 3 (.slice A18 jumps8.length c18), pl 4 (.slice A22 r8.length c22), pl 5 (.int .i64 p1), pl 8 (.int .i64 dx1), pl 9 (.int .i64 dy1)] hF hS (by kernel_rfl) (by kernel_rfl) ?_ (fun a w hF hS => ?_)
                        · exact obs_nil
                        refine at_end [1, 3, 4, 5, 8, 9] [pl 1 (.pointer (some ⟨g1, 0, none⟩)), pl 3 (.slice A18 jumps8.length c18), pl 4 (.slice A22 r8.length c22), pl 5 (.int .i64 p1), pl 8 (.int .i64 dx1), pl 9 (.int .i64 dy1)] hF rfl (by kernel_rfl) (fun hF => ?_)
                        refine block_n ?_
                        refine then_n ?_
                        have hS := hS.pickN 2 [1, 0] (by decide)
                        exact ⟨r8, pg11, A22, c22, hd21, hF.weak [1, 3, 4, 5, 8, 9] (by kernel_rfl), hS, (PoolR.mono hle2 (PoolR.mono PoolLe.right hp21)), hc20, hp27, hc25, hm⟩
                      · replace hm := if_f hm hb
                        refine wpIn_skip ?_
                        refine block_n ?_
                        refine then_n ?_
                        exact ⟨steps5, pg9, A19, c19, hd18, hF.weak [1, 3, 4, 5, 8, 9] (by kernel_rfl), hS, hp21, hc20, hp22, hc21, hm⟩
                  · refine reg [] [] [1, 3, 4, 5, 8, 9, 50] [pl 1 (.pointer (some ⟨g1, 0, none⟩)), pl 3 (.slice A18 jumps8.length c18), pl 4 (.slice A19 steps5.length c19), pl 5 (.int .i64 p1), pl 8 (.int .i64 dx1), pl 9 (.int .i64 dy1), pl 50 (.bool (decide (dy1 ≤ 1)))] hF hS Fol (by kernel_rfl) (by kernel_rfl) (by kernel_rfl) ?_ (fun a w hF hS => ?_)
                    · exact obs_nil
                    refine cond_ev (t := 50) (b := decide (dy1 ≤ 1)) hF (by kernel_rfl) (fun hb => ?_) (fun hb => ?_)
                    · replace hm := if_t hm hb
                      refine wpIn_skip ?_
                      refine then_n ?_
                      exact ⟨hF.weak [1, 3, 4, 5, 8, 9] (by kernel_rfl), hS, hm⟩
                    · replace hm := if_f hm hb
                      refine wpIn_exit ?_
                      refine then_e (then_e (block_e (block_n (then_n ?_))))
                      rw [← hφ4] at hm
                      replace hm := done_b hm
                      unfold gameroomref_DraughtsMoves_K4 at hm
                      try dsimp only at hm
                      have hm : ((gameroomref_DraughtsMoves_J10 dx1) jumps8 steps5).bind φ3 = some r := hm
                      exact ⟨jumps8, steps5, pg9, A18, c18, hd17, A19, c19, hd18, hF.weak [1, 3, 4, 5, 8] (by kernel_rfl), hS, hp21, hc20, hp22, hc21, hm⟩
              · refine reg [] [] [1, 3, 4, 5, 8, 46] [pl 1 (.pointer (some ⟨g1, 0, none⟩)), pl 3 (.slice A16 jumps7.length c16), pl 4 (.slice A17 steps4.length c17), pl 5 (.int .i64 p1), pl 8 (.int .i64 dx1), pl 46 (.bool (decide (dx1 ≤ 1)))] hF hS Fol (by kernel_rfl) (by kernel_rfl) (by kernel_rfl) ?_ (fun a w hF hS => ?_)
                · exact obs_nil
                refine cond_ev (t := 46) (b := decide (dx1 ≤ 1)) hF (by kernel_rfl) (fun hb => ?_) (fun hb => ?_)
                · replace hm := if_t hm hb
                  refine wpIn_skip ?_
                  refine then_n ?_
                  exact ⟨hF.weak [1, 3, 4, 5, 8] (by kernel_rfl), hS, hm⟩
                · replace hm := if_f hm hb
                  refine wpIn_exit ?_
                  refine then_e (then_e (block_e (block_n (then_n ?_))))
                  rw [← hφ3] at hm
                  replace hm := done_b hm
                  unfold gameroomref_DraughtsMoves_K3 at hm
                  try dsimp only at hm
                  have hm : ((gameroomref_DraughtsMoves_J3 p1) jumps7 steps4).bind φ1 = some r := hm
                  exact ⟨jumps7, steps4, pg8, A16, c16, hd15, A17, c17, hd16, hF.weak [1, 3, 4, 5] (by kernel_rfl), hS, hp19, hc18, hp20, hc19, hm⟩
            · refine reg [] [] [1, 3, 4, 5, 6, 7] [pl 1 (.pointer (some ⟨g1, 0, none⟩)), pl 3 (.slice A2 jumps1.length c2), pl 4 (.slice A3 steps1.length c3), pl 5 (.int .i64 p1), pl 6 (.slice A10 l1.length c10), pl 7 (.int .i64 0)] hF hS Fol (by kernel_rfl) (by kernel_rfl) (by kernel_rfl) ?_ (fun a w hF hS => ?_)
              · exact obs_nil
              refine wpIn_block ?_
              have hc10 := (hS.at_ 2 rfl).rowsLen.2
              have hS := hS.pickN 3 [2, 1, 0] (by decide)
              have hS : Sep w0 B w ((twoB (rows 22 3 (.slice A10 l1.length c10) hd9 l1) pg1) :: blk g1 66 #[.slice A1 b1.length c1, .int .i64 b2] :: fs) := hS.two
              have hS := hS.pickN 2 [1, 0] (by decide)
              refine wp_loop_model (S := (List (List Int) × List (List Int) × Int)) (R := (List (List Int))) gameroomref_DraughtsMoves_L2 (fun x => ((gameroomref_DraughtsMoves_K2 b1 steps1 p1) x).bind φ1) r (fun (x : (List (List Int) × List (List Int) × Int)) a w => ∃ (pg4 : HP) (A11 : Option Addr) (c11 : Nat) (hd10 : List Hd) (A12 : Option Addr) (c12 : Nat) (hd11 : List Hd), Fr 91 [pl 1 (.pointer (some ⟨g1, 0, none⟩)), pl 3 (.slice A11 x.1.length c11), pl 4 (.slice A3 steps1.length c3), pl 5 (.int .i64 p1), pl 6 (.slice A12 x.2.1.length c12), pl 7 (.int .i64 x.2.2)] a ∧ Sep w0 B w (blk g1 66 #[.slice A1 b1.length c1, .int .i64 b2] :: pg4 :: fs) ∧ PoolR pg4 A11 hd10 x.1 ∧ x.1.length ≤ c11 ∧ PoolR pg4 A3 hd2 steps1 ∧ steps1.length ≤ c3 ∧ PoolR pg4 A12 hd11 x.2.1 ∧ x.2.1.length ≤ c12) (assoc_b hm) ⟨(twoB (rows 22 3 (.slice A10 l1.length c10) hd9 l1) pg1), A2, c2, hd1, A10, c10, hd9, hF.weak [1, 3, 4, 5, 6, 7] (by kernel_rfl), hS, (PoolR.mono PoolLe.right hp1), hc1, (PoolR.mono PoolLe.right hp2), hc2, (PoolR.rows : PoolR (twoB (rows 22 3 (.slice A10 l1.length c10) hd9 l1) pg1) A10 hd9 l1), hc10⟩ ?_
              clear hF hS hm
              rintro nn2 ⟨jumps4, l2, i1⟩ a w ⟨pg4, A11, c11, hd10, A12, c12, hd11, hF, hS, hp9, hc7, hp10, hc8, hp11, hc9⟩ hm
              generalize hφ2 : stK gameroomref_DraughtsMoves_L2 nn2 (fun x => ((gameroomref_DraughtsMoves_K2 b1 steps1 p1) x).bind φ1) = φ2 at hm
              unfold gameroomref_DraughtsMoves_L2 at hm
              dsimp only at hF hS hm
              refine seq_cut (fun a w => Fr 91 [pl 1 (.pointer (some ⟨g1, 0, none⟩)), pl 3 (.slice A11 jumps4.length c11), pl 4 (.slice A3 steps1.length c3), pl 5 (.int .i64 p1), pl 6 (.slice A12 l2.length c12), pl 7 (.int .i64 i1)] a ∧ Sep w0 B w (blk g1 66 #[.slice A1 b1.length c1, .int .i64 b2] :: pg4 :: fs) ∧ ((gameroomref_DraughtsMoves_J7 jumps4 l2 i1)).bind φ2 = some r) ?_ ?_
              · rintro a w ⟨hF, hS, hm⟩
                unfold gameroomref_DraughtsMoves_J7 at hm
                refine seq_cut (fun a w => ∃ (jumps6 : List (List Int)) (pg7 : HP) (A15 : Option Addr) (c15 : Nat) (hd14 : List Hd), Fr 91 [pl 1 (.pointer (some ⟨g1, 0, none⟩)), pl 3 (.slice A15 jumps6.length c15), pl 4 (.slice A3 steps1.length c3), pl 5 (.int .i64 p1), pl 6 (.slice A12 l2.length c12), pl 7 (.int .i64 i1)] a ∧ Sep w0 B w (blk g1 66 #[.slice A1 b1.length c1, .int .i64 b2] :: pg7 :: fs) ∧ PoolR pg7 A15 hd14 jumps6 ∧ jumps6.length ≤ c15 ∧ PoolR pg7 A3 hd2 steps1 ∧ steps1.length ≤ c3 ∧ PoolR pg7 A12 hd11 l2 ∧ l2.length ≤ c12 ∧ ((gameroomref_DraughtsMoves_J8 l2 i1) jumps6).bind φ2 = some r) ?_ ?_
                · rintro a w ⟨jumps6, pg7, A15, c15, hd14, hF, hS, hp16, hc15, hp17, hc16, hp18, hc17, hm⟩
                  unfold gameroomref_DraughtsMoves_J8 at hm
                  refine reg1 [] [] [1, 3, 4, 5, 6, 7] [pl 1 (.pointer (some ⟨g1, 0, none⟩)), pl 3 (.slice A15 jumps6.length c15), pl 4 (.slice A3 steps1.length c3), pl 5 (.int .i64 p1), pl 6 (.slice A12 l2.length c12), pl 7 (.int .i64 (w64 (i1 + 1)))] hF hS Fol (by kernel_rfl) (by kernel_rfl) (by kernel_rfl) ?_ (fun a w hF hS => ?_)
                  · exact obs_nil
                  refine then_n ?_
                  rw [← hφ2] at hm
                  exact ⟨(jumps6, l2, (w64 (i1 + 1))), ⟨pg7, A15, c15, hd14, A12, c12, hd11, hF.weak [1, 3, 4, 5, 6, 7] (by kernel_rfl), hS, hp16, hc15, hp17, hc16, hp18, hc17⟩, hm⟩
                · refine wpIn_block ?_
                  refine oneR ?_
                  obtain ⟨hp14, hm⟩ := asrt_b hm
                  obtain ⟨r3, hr3, hm⟩ := call_b hm
                  refine at_run 5 [⟨true, [], vS (Instr.indexAt 42 (.slice A12 l2.length c12) (.int .i64 i1)), .pointer (some (sAddr A12 i1))⟩, ⟨false, [], vS (Instr.loadAt 22 (.pointer (some (sAddr A12 i1)))), .slice (hdA hd11 i1) ((geti2 l2 i1).length) (hdC hd11 i1)⟩] [none, none, none, some (.pointer (some (sAddr A12 i1))), some (.slice (hdA hd11 i1) ((geti2 l2 i1).length) (hdC hd11 i1))] [1, 4, 5, 6, 7, 39, 43] [pl 1 (.pointer (some ⟨g1, 0, none⟩)), pl 4 (.slice A3 steps1.length c3), pl 5 (.int .i64 p1), pl 6 (.slice A12 l2.length c12), pl 7 (.int .i64 i1), pl 39 (.slice A11 jumps4.length c11), pl 43 (.slice (hdA hd11 i1) ((geti2 l2 i1).length) (hdC hd11 i1))] hF hS (by kernel_rfl) (by kernel_rfl) ?_ (fun a w hF hS => ?_)
                  · exact obs_cons (ob_ixRn Und42 hi22 hs22 (hp11.at_ hS 1 rfl) rfl (fun _ => hp14)) <| obs_cons (ob_getR Agg22 (fun _ hS => ⟨_, (hp11.at_ hS 1 rfl)⟩) (fun _ => hp14)) <| obs_nil
                  have hc13 := ((hp11.at_ hS 1 rfl).row _ hp14).2
                  have hS : Sep w0 B w (pg4 :: blk g1 66 #[.slice A1 b1.length c1, .int .i64 b2] :: fs) := hS.pickN 2 [1, 0] (by decide)
                  refine at_call (f := 119) (args := #[.slice A11 jumps4.length c11, .slice (hdA hd11 i1) ((geti2 l2 i1).length) (hdC hd11 i1)]) (d := 44) hF (by kernel_rfl) (by kernel_rfl) Try.func119 (by kernel_rfl) rfl (gameroomref_putWay_3_w hr3 hS hp9 hc7 rfl (PoolR.row hp11 hp14) hc13 rfl) (fun v a w hR hF => ?_)
                  clear hS
                  obtain ⟨pg6, A14, c14, hd13, rfl, hp15, hc14, hle1, hS⟩ := hR
                  have hS : Sep w0 B w (pg6 :: blk g1 66 #[.slice A1 b1.length c1, .int .i64 b2] :: fs) := hS
                  refine at_run 1 [] [] [1, 3, 4, 5, 6, 7] [pl 1 (.pointer (some ⟨g1, 0, none⟩)), pl 3 (.slice A14 r3.length c14), pl 4 (.slice A3 steps1.length c3), pl 5 (.int .i64 p1), pl 6 (.slice A12 l2.length c12), pl 7 (.int .i64 i1)] hF hS (by kernel_rfl) (by kernel_rfl) ?_ (fun a w hF hS => ?_)
                  · exact obs_nil
                  refine at_end [1, 3, 4, 5, 6, 7] [pl 1 (.pointer (some ⟨g1, 0, none⟩)), pl 3 (.slice A14 r3.length c14), pl 4 (.slice A3 steps1.length c3), pl 5 (.int .i64 p1), pl 6 (.slice A12 l2.length c12), pl 7 (.int .i64 i1)] hF rfl (by kernel_rfl) (fun hF => ?_)
                  refine block_n ?_
                  refine then_n ?_
                  have hS := hS.pickN 2 [1, 0] (by decide)
                  exact ⟨r3, pg6, A14, c14, hd13, hF.weak [1, 3, 4, 5, 6, 7] (by kernel_rfl), hS, hp15, hc14, (PoolR.mono hle1 hp10), hc8, (PoolR.mono hle1 hp11), hc9, hm⟩
              · refine reg [] [] [1, 3, 4, 5, 6, 7, 36] [pl 1 (.pointer (some ⟨g1, 0, none⟩)), pl 3 (.slice A11 jumps4.length c11), pl 4 (.slice A3 steps1.length c3), pl 5 (.int .i64 p1), pl 6 (.slice A12 l2.length c12), pl 7 (.int .i64 i1), pl 36 (.bool (decide (i1 < (l2.length : Int))))] hF hS Fol (by kernel_rfl) (by kernel_rfl) (by kernel_rfl) ?_ (fun a w hF hS => ?_)
                · exact obs_nil
                refine cond_ev (t := 36) (b := decide (i1 < (l2.length : Int))) hF (by kernel_rfl) (fun hb => ?_) (fun hb => ?_)
                · replace hm := if_t hm hb
                  refine wpIn_skip ?_
                  refine then_n ?_
                  exact ⟨hF.weak [1, 3, 4, 5, 6, 7] (by kernel_rfl), hS, hm⟩
                · replace hm := if_f hm hb
                  refine wpIn_exit ?_
                  refine then_e (then_e (block_e (then_n ?_)))
                  rw [← hφ2] at hm
                  replace hm := done_b hm
                  unfold gameroomref_DraughtsMoves_K2 at hm
                  try dsimp only at hm
                  have hm : ((gameroomref_DraughtsMoves_J6 b1 steps1 p1) jumps4).bind φ1 = some r := hm
                  exact ⟨jumps4, pg4, A11, c11, hd10, hF.weak [1, 3, 4, 5] (by kernel_rfl), hS, hp9, hc7, hp10, hc8, hm⟩
          · obtain ⟨hp8, hm⟩ := asrt_b hm
            obtain ⟨r2, hr2, hm⟩ := call_b hm
            refine regMix5 [0, 1, 2, 3, 4, 5, 6] [] 3 #[true, true, true, true, true, true, true, false, false, false] [⟨false, [], vS (Instr.loadAt 66 (.pointer (some ⟨g1, 0, none⟩))), .agg #[.slice A1 b1.length c1, .int .i64 b2]⟩, ⟨false, [], vS (Instr.loadAt 22 (.pointer (some ⟨g1, 0, none⟩))), .slice A1 b1.length c1⟩, ⟨true, [], vS (Instr.indexAt 22 (.slice A1 b1.length c1) (.int .i64 p1)), .pointer (some (sAddr A1 p1))⟩, ⟨false, [], vS (Instr.loadAt 3 (.pointer (some (sAddr A1 p1)))), .int .i64 (geti b1 p1)⟩] [some (.agg #[.slice A1 b1.length c1, .int .i64 b2]), none, some (.slice A1 b1.length c1), none, some (.pointer (some (sAddr A1 p1))), some (.int .i64 (geti b1 p1)), none] [1, 3, 4, 5, 24, 29, 30] [pl 1 (.pointer (some ⟨g1, 0, none⟩)), pl 3 (.slice A2 jumps1.length c2), pl 4 (.slice A3 steps1.length c3), pl 5 (.int .i64 p1), pl 24 (.agg #[.slice A1 b1.length c1, .int .i64 b2]), pl 29 (.int .i64 (geti b1 p1)), pl 30 (.int .i64 p1)] hF hS Fol (by kernel_rfl) (by kernel_rfl) (by kernel_rfl) (by kernel_rfl) ?_ (fun a w hF hS => ?_)
            · exact obs_cons (ob_loadA (cs := #[.slice A1 b1.length c1, .int .i64 b2]) (by kernel_rfl) (by kernel_rfl) (fun _ _ hS => (hS.at_ 0 rfl).cellsAt 0 (by rfl))) <| obs_cons (ob_load Agg22 (fun _ _ hS => (hS.at_ 0 rfl).cell rfl)) <| obs_cons (ob_ix1 (f := (Value.int .i64)) (m := b1) Und22 hi3 hs3 (hr_b1 _ (hS.dropN 2)) rfl (fun _ => hp8)) <| obs_cons (ob_get1 (n := b1.length) (m := b1) (Value.int .i64) (0 : Int) Agg3 (fun _ hS => ⟨_, (hr_b1 _ (hS.dropN 2))⟩) (fun _ hS => rfl) (fun _ => hp8)) <| obs_nil
            refine any_step [7] (by kernel_rfl) rfl ?_
            refine (all_cons ?_ all_nil)
            · refine any_op (listed' := #[true, true, true, true, true, true, true, true, false, false]) (by kernel_rfl) (by kernel_rfl) ?_
              refine at_do (d := 31) (s := vS (Instr.buildSlice 22 1 #[(0, .int .i64 p1)])) (v := .slice (some ⟨w.heap.size, 0, none⟩) 1 1) (w' := w.alloc (.cells #[.int .i64 p1] 3)) hF (by kernel_rfl) (by kernel_rfl) (by kernel_rfl) (fun a hF => ?_)
              have hS : Sep w0 B (w.alloc (.cells #[.int .i64 p1] 3)) (own 3 (.slice (some (⟨w.heap.size, 0, none⟩ : Addr)) 1 1) (vI ([p1] : List Int)) :: (blk g1 66 #[.slice A1 b1.length c1, .int .i64 b2] :: pg1 :: fs)) := hS.lit 3 #[.int .i64 p1] 1 rfl (by omega)
              generalize (some (⟨w.heap.size, 0, none⟩ : Addr)) = g2 at hF hS
              generalize w.alloc (.cells #[.int .i64 p1] 3) = w at hS ⊢
              refine any_fin rfl (hS.pickN 3 [1, 2] (by decide)) ?_
              refine any_step [8] (by kernel_rfl) rfl ?_
              refine (all_cons ?_ all_nil)
              · refine any_op (listed' := #[true, true, true, true, true, true, true, true, true, false]) (by kernel_rfl) (by kernel_rfl) ?_
                refine at_call (f := 118) (args := #[.agg #[.slice A1 b1.length c1, .int .i64 b2], .int .i64 (geti b1 p1), .slice g2 1 1, .slice none 0 0]) (d := 32) hF (by kernel_rfl) (by kernel_rfl) Try.func118 (by kernel_rfl) rfl (gameroomref_jumpsOn_w hr2 hS (fun _ hS => (hr_b1 _ (hS.dropN 3))) _hc_b1 rfl (fun _ hS => (hS.at_ 0 rfl).rd) ((hS.at_ 0 rfl).cap1) ((hS.at_ 0 rfl).len1) (fun _ hS => Rd.nil _ _ _) (Nat.le_refl _) rfl) (fun v a w hR hF => ?_)
                clear hS
                obtain ⟨A9, c9, hd8, rfl, hS⟩ := hR
                have hS : Sep w0 B w (rows 22 3 (.slice A9 r2.length c9) hd8 r2 :: own 3 (.slice g2 1 1) (vI ([p1] : List Int)) :: blk g1 66 #[.slice A1 b1.length c1, .int .i64 b2] :: pg1 :: fs) := hS
                refine any_fin rfl (hS.pickN 4 [2, 3] (by decide)) ?_
                refine any_step [9] (by kernel_rfl) rfl ?_
                refine (all_cons ?_ all_nil)
                · refine any_op (listed' := #[true, true, true, true, true, true, true, true, true, true]) (by kernel_rfl) (by kernel_rfl) ?_
                  refine at_runW 1 [] [] [1, 3, 4, 5, 6] [pl 1 (.pointer (some ⟨g1, 0, none⟩)), pl 3 (.slice A2 jumps1.length c2), pl 4 (.slice A3 steps1.length c3), pl 5 (.int .i64 p1), pl 6 (.slice A9 r2.length c9)] hF hS (by kernel_rfl) (by kernel_rfl) ?_ (fun a hF => ?_)
                  · exact obs_nil
                  refine any_finI rfl (fun h => h) ?_
                  refine any_end (by kernel_rfl) ?_
                  refine np_n ?_
                  refine then_n ?_
                  have hS := hS.pickN 4 [2, 3, 0] (by decide)
                  exact ⟨r2, A9, c9, hd8, hF.weak [1, 3, 4, 5, 6] (by kernel_rfl), hS, hm⟩
        · obtain ⟨hp5, hm⟩ := asrt_b hm
          obtain ⟨r1, hr1, hm⟩ := call_b hm
          refine reg [⟨false, [], vS (Instr.loadAt 22 (.pointer (some ⟨g1, 0, none⟩))), .slice A1 b1.length c1⟩, ⟨true, [], vS (Instr.indexAt 22 (.slice A1 b1.length c1) (.int .i64 p1)), .pointer (some (sAddr A1 p1))⟩, ⟨false, [], vS (Instr.loadAt 3 (.pointer (some (sAddr A1 p1)))), .int .i64 (geti b1 p1)⟩, ⟨false, [], callFunc 117 #[.int .i64 (geti b1 p1)], .int .i64 r1⟩, ⟨false, [], vS (Instr.loadAt 3 (.pointer (some ⟨g1, 1, none⟩))), .int .i64 b2⟩] [none, some (.slice A1 b1.length c1), none, some (.pointer (some (sAddr A1 p1))), some (.int .i64 (geti b1 p1)), some (.int .i64 r1), none, some (.int .i64 b2), none] [1, 3, 4, 5, 23] [pl 1 (.pointer (some ⟨g1, 0, none⟩)), pl 3 (.slice A2 jumps1.length c2), pl 4 (.slice A3 steps1.length c3), pl 5 (.int .i64 p1), pl 23 (.bool (r1 != b2))] hF hS Fol (by kernel_rfl) (by kernel_rfl) (by kernel_rfl) ?_ (fun a w hF hS => ?_)
          · exact obs_cons (ob_load Agg22 (fun _ _ hS => (hS.at_ 0 rfl).cell rfl)) <| obs_cons (ob_ix1 (f := (Value.int .i64)) (m := b1) Und22 hi3 hs3 (hr_b1 _ (hS.dropN 2)) rfl (fun _ => hp5)) <| obs_cons (ob_get1 (n := b1.length) (m := b1) (Value.int .i64) (0 : Int) Agg3 (fun _ hS => ⟨_, (hr_b1 _ (hS.dropN 2))⟩) (fun _ hS => rfl) (fun _ => hp5)) <| obs_cons (ob_call Try.func117 (by kernel_rfl) rfl (fun _ _ hS => gameroomref_ownerOf_w hr1 hS )) <| obs_cons (ob_load Agg3 (fun _ _ hS => (hS.at_ 0 rfl).cell rfl)) <| obs_nil
          refine cond_ev (t := 23) (b := (r1 != b2)) hF (by kernel_rfl) (fun hb => ?_) (fun hb => ?_)
          · replace hm := if_t hm hb
            refine wpIn_exit ?_
            refine then_e (block_e (then_n ?_))
            exact ⟨jumps1, steps1, pg1, A2, c2, hd1, A3, c3, hd2, hF.weak [1, 3, 4, 5] (by kernel_rfl), hS, hp1, hc1, hp2, hc2, hm⟩
          · replace hm := if_f hm hb
            refine wpIn_skip ?_
            refine then_n ?_
            exact ⟨hF.weak [1, 3, 4, 5] (by kernel_rfl), hS, hm⟩
    · refine reg [] [] [1, 3, 4, 5, 12] [pl 1 (.pointer (some ⟨g1, 0, none⟩)), pl 3 (.slice A2 jumps1.length c2), pl 4 (.slice A3 steps1.length c3), pl 5 (.int .i64 p1), pl 12 (.bool (decide (p1 < 33)))] hF hS Fol (by kernel_rfl) (by kernel_rfl) (by kernel_rfl) ?_ (fun a w hF hS => ?_)
      · exact obs_nil
      refine cond_ev (t := 12) (b := decide (p1 < 33)) hF (by kernel_rfl) (fun hb => ?_) (fun hb => ?_)
      · replace hm := if_t hm hb
        refine wpIn_skip ?_
        refine then_n ?_
        exact ⟨hF.weak [1, 3, 4, 5] (by kernel_rfl), hS, hm⟩
      · replace hm := if_f hm hb
        refine wpIn_exit ?_
        refine then_e (then_e (block_e (then_n ?_)))
        have hS := hS.pickN 2 [1] (by decide)
        rw [← hφ1] at hm
        replace hm := done_b hm
        unfold gameroomref_DraughtsMoves_K1 at hm
        try dsimp only at hm
        have hm : (gameroomref_DraughtsMoves_J1 jumps1 steps1).bind some = some r := hm
        exact ⟨jumps1, steps1, pg1, A2, c2, hd1, A3, c3, hd2, hF.weak [3, 4] (by kernel_rfl), hS, hp1, hc1, hp2, hc2, hm⟩

noncomputable def gameroomlaw_sameInts_J4  (i1 : Int) : Option (St Int (Fl Unit Bool)) :=
  some (.next (w64 (i1 + 1)))

noncomputable def gameroomlaw_sameInts_J3  (a1 : List Int) (b1 : List Int) (i1 : Int) : Option (St Int (Fl Unit Bool)) :=
  asrt (0 ≤ i1 ∧ i1 < (a1.length : Int)) <| asrt (0 ≤ i1 ∧ i1 < (b1.length : Int)) <| if ((geti a1 i1) != (geti b1 i1)) then (some (.done (.ret false))) else ((gameroomlaw_sameInts_J4 i1))

noncomputable def gameroomlaw_sameInts_J2  : Option Bool :=
  some true

noncomputable def gameroomlaw_sameInts_K1  : (Fl Unit Bool) → Option Bool :=
  fun (x : (Fl Unit Bool)) => match x with | .go _ => gameroomlaw_sameInts_J2 | .ret x => some x

noncomputable def gameroomlaw_sameInts_L1  (a1 : List Int) (b1 : List Int) : Int → Option (St Int (Fl Unit Bool)) :=
  fun (x : Int) => match x with | i1 => if (decide (i1 < (a1.length : Int))) then ((gameroomlaw_sameInts_J3 a1 b1 i1)) else (some (.done (.go ())))

noncomputable def gameroomlaw_sameInts_J1  (a1 : List Int) (b1 : List Int) : Option Bool :=
  (loop (gameroomlaw_sameInts_L1 a1 b1) 0).bind gameroomlaw_sameInts_K1

noncomputable def gameroomlaw_sameInts_m  (a1 : List Int) (b1 : List Int) : Option Bool :=
  if ((a1.length : Int) != (b1.length : Int)) then (some false) else ((gameroomlaw_sameInts_J1 a1 b1))

set_option maxRecDepth 100000 in
set_option maxHeartbeats 4000000 in
theorem gameroomlaw_sameInts_w  {A1 : Option Addr} {c1 : Nat} {n1 : Nat} {a1 : List Int} {A2 : Option Addr} {c2 : Nat} {n2 : Nat} {b1 : List Int} {r : Bool} {w0 w : World} {B : Nat} {fs : List HP} (hm : gameroomlaw_sameInts_m a1 b1 = some r) (hS : Sep w0 B w (fs)) (hr_a1 : RdF w0 B fs A1 (vI a1)) (_hc_a1 : a1.length ≤ c1) (_hn_a1 : n1 = a1.length) (hr_b1 : RdF w0 B fs A2 (vI b1)) (_hc_b1 : b1.length ≤ c2) (_hn_b1 : n2 = b1.length) :
    Calls Try.prog 25 #[.slice A1 n1 c1, .slice A2 n2 c2] w fun e w' => e = .returned (.bool r) ∧ Sep w0 B w' (fs) := by
  obtain ⟨i3, hi3, hz3, hs3, hb3⟩ := info_parts Info3
  obtain rfl := _hn_a1
  obtain rfl := _hn_b1
  unfold gameroomlaw_sameInts_m at hm
  replace hm := start_b hm
  refine enter (l := [.slice A1 a1.length c1, .slice A2 b1.length c2]) (n := 26) Try.func25 rfl rfl (by simp) (fun a hF => ?_)
  refine reg [] [] [0, 1] [pl 0 (.slice A1 a1.length c1), pl 1 (.slice A2 b1.length c2)] hF hS Fol (by kernel_rfl) (by kernel_rfl) (by kernel_rfl) ?_ (fun a w hF hS => ?_)
  · exact obs_nil
  refine seq_cut (fun a w => Fr 26 [pl 0 (.slice A1 a1.length c1), pl 1 (.slice A2 b1.length c2)] a ∧ Sep w0 B w (fs) ∧ ((gameroomlaw_sameInts_J1 a1 b1)).bind some = some r) ?_ ?_
  · rintro a w ⟨hF, hS, hm⟩
    unfold gameroomlaw_sameInts_J1 at hm
    refine seq_cut (fun a w => Fr 26 [] a ∧ Sep w0 B w (fs) ∧ (gameroomlaw_sameInts_J2).bind some = some r) ?_ ?_
    · rintro a w ⟨hF, hS, hm⟩
      unfold gameroomlaw_sameInts_J2 at hm
      refine reg [] [] [4] [pl 4 (.bool true)] hF hS Fol (by kernel_rfl) (by kernel_rfl) (by kernel_rfl) ?_ (fun a w hF hS => ?_)
      · exact obs_nil
      refine wpIn_ret ?_
      have hm : some true = some r := hm
      obtain rfl := Option.some.inj hm
      exact retV (rs := [.tmp 4]) (vs := [.bool true]) hF rfl (rv_t (by kernel_rfl) <| rv_nil) rfl ⟨rfl, hS⟩
    · refine reg [] [] [0, 1, 5] [pl 0 (.slice A1 a1.length c1), pl 1 (.slice A2 b1.length c2), pl 5 (.int .i64 0)] hF hS Fol (by kernel_rfl) (by kernel_rfl) (by kernel_rfl) ?_ (fun a w hF hS => ?_)
      · exact obs_nil
      refine wpIn_block ?_
      refine wp_loop_model (S := Int) (R := (Fl Unit Bool)) (gameroomlaw_sameInts_L1 a1 b1) (fun x => (gameroomlaw_sameInts_K1 x).bind some) r (fun (x : Int) a w => Fr 26 [pl 0 (.slice A1 a1.length c1), pl 1 (.slice A2 b1.length c2), pl 5 (.int .i64 x)] a ∧ Sep w0 B w (fs)) (assoc_b hm) ⟨hF.weak [0, 1, 5] (by kernel_rfl), hS⟩ ?_
      clear hF hS hm
      rintro nn1 i1 a w ⟨hF, hS⟩ hm
      generalize hφ1 : stK (gameroomlaw_sameInts_L1 a1 b1) nn1 (fun x => (gameroomlaw_sameInts_K1 x).bind some) = φ1 at hm
      unfold gameroomlaw_sameInts_L1 at hm
      dsimp only at hm
      refine seq_cut (fun a w => Fr 26 [pl 0 (.slice A1 a1.length c1), pl 1 (.slice A2 b1.length c2), pl 5 (.int .i64 i1)] a ∧ Sep w0 B w (fs) ∧ ((gameroomlaw_sameInts_J3 a1 b1 i1)).bind φ1 = some r) ?_ ?_
      · rintro a w ⟨hF, hS, hm⟩
        unfold gameroomlaw_sameInts_J3 at hm
        refine seq_cut (fun a w => Fr 26 [pl 0 (.slice A1 a1.length c1), pl 1 (.slice A2 b1.length c2), pl 5 (.int .i64 i1)] a ∧ Sep w0 B w (fs) ∧ ((gameroomlaw_sameInts_J4 i1)).bind φ1 = some r) ?_ ?_
        · rintro a w ⟨hF, hS, hm⟩
          unfold gameroomlaw_sameInts_J4 at hm
          refine reg1 [] [] [0, 1, 5] [pl 0 (.slice A1 a1.length c1), pl 1 (.slice A2 b1.length c2), pl 5 (.int .i64 (w64 (i1 + 1)))] hF hS Fol (by kernel_rfl) (by kernel_rfl) (by kernel_rfl) ?_ (fun a w hF hS => ?_)
          · exact obs_nil
          refine then_n ?_
          rw [← hφ1] at hm
          exact ⟨(w64 (i1 + 1)), ⟨hF.weak [0, 1, 5] (by kernel_rfl), hS⟩, hm⟩
        · refine wpIn_block ?_
          obtain ⟨hp1, hm⟩ := asrt_b hm
          obtain ⟨hp2, hm⟩ := asrt_b hm
          refine reg [⟨true, [], vS (Instr.indexAt 22 (.slice A1 a1.length c1) (.int .i64 i1)), .pointer (some (sAddr A1 i1))⟩, ⟨false, [], vS (Instr.loadAt 3 (.pointer (some (sAddr A1 i1)))), .int .i64 (geti a1 i1)⟩, ⟨true, [], vS (Instr.indexAt 22 (.slice A2 b1.length c2) (.int .i64 i1)), .pointer (some (sAddr A2 i1))⟩, ⟨false, [], vS (Instr.loadAt 3 (.pointer (some (sAddr A2 i1)))), .int .i64 (geti b1 i1)⟩] [none, none, some (.pointer (some (sAddr A1 i1))), some (.int .i64 (geti a1 i1)), none, none, some (.pointer (some (sAddr A2 i1))), some (.int .i64 (geti b1 i1)), none] [0, 1, 5, 25] [pl 0 (.slice A1 a1.length c1), pl 1 (.slice A2 b1.length c2), pl 5 (.int .i64 i1), pl 25 (.bool ((geti a1 i1) != (geti b1 i1)))] hF hS Fol (by kernel_rfl) (by kernel_rfl) (by kernel_rfl) ?_ (fun a w hF hS => ?_)
          · exact obs_cons (ob_ix1 (f := (Value.int .i64)) (m := a1) Und22 hi3 hs3 (hr_a1 _ (hS.dropN 0)) rfl (fun _ => hp1)) <| obs_cons (ob_get1 (n := a1.length) (m := a1) (Value.int .i64) (0 : Int) Agg3 (fun _ hS => ⟨_, (hr_a1 _ (hS.dropN 0))⟩) (fun _ hS => rfl) (fun _ => hp1)) <| obs_cons (ob_ix1 (f := (Value.int .i64)) (m := b1) Und22 hi3 hs3 (hr_b1 _ (hS.dropN 0)) rfl (fun _ => hp2)) <| obs_cons (ob_get1 (n := b1.length) (m := b1) (Value.int .i64) (0 : Int) Agg3 (fun _ hS => ⟨_, (hr_b1 _ (hS.dropN 0))⟩) (fun _ hS => rfl) (fun _ => hp2)) <| obs_nil
          refine cond_ev (t := 25) (b := ((geti a1 i1) != (geti b1 i1))) hF (by kernel_rfl) (fun hb => ?_) (fun hb => ?_)
          · replace hm := if_t hm hb
            refine reg [] [] [4] [pl 4 (.bool false)] hF hS Fol (by kernel_rfl) (by kernel_rfl) (by kernel_rfl) ?_ (fun a w hF hS => ?_)
            · exact obs_nil
            refine wpIn_ret ?_
            refine block_r (then_r (then_r (block_r (then_r ?_))))
            rw [← hφ1] at hm
            replace hm := done_b hm
            unfold gameroomlaw_sameInts_K1 at hm
            try dsimp only at hm
            have hm : some false = some r := hm
            obtain rfl := Option.some.inj hm
            exact retV (rs := [.tmp 4]) (vs := [.bool false]) hF rfl (rv_t (by kernel_rfl) <| rv_nil) rfl ⟨rfl, hS⟩
          · replace hm := if_f hm hb
            refine wpIn_skip ?_
            refine block_n ?_
            refine then_n ?_
            exact ⟨hF.weak [0, 1, 5] (by kernel_rfl), hS, hm⟩
      · refine reg [] [] [0, 1, 5, 14] [pl 0 (.slice A1 a1.length c1), pl 1 (.slice A2 b1.length c2), pl 5 (.int .i64 i1), pl 14 (.bool (decide (i1 < (a1.length : Int))))] hF hS Fol (by kernel_rfl) (by kernel_rfl) (by kernel_rfl) ?_ (fun a w hF hS => ?_)
        · exact obs_nil
        refine cond_ev (t := 14) (b := decide (i1 < (a1.length : Int))) hF (by kernel_rfl) (fun hb => ?_) (fun hb => ?_)
        · replace hm := if_t hm hb
          refine wpIn_skip ?_
          refine then_n ?_
          exact ⟨hF.weak [0, 1, 5] (by kernel_rfl), hS, hm⟩
        · replace hm := if_f hm hb
          refine wpIn_exit ?_
          refine then_e (then_e (block_e (then_n ?_)))
          rw [← hφ1] at hm
          replace hm := done_b hm
          unfold gameroomlaw_sameInts_K1 at hm
          try dsimp only at hm
          have hm : (gameroomlaw_sameInts_J2).bind some = some r := hm
          exact ⟨hF.weak [] (by kernel_rfl), hS, hm⟩
  · refine reg [] [] [0, 1, 10] [pl 0 (.slice A1 a1.length c1), pl 1 (.slice A2 b1.length c2), pl 10 (.bool ((a1.length : Int) != (b1.length : Int)))] hF hS Fol (by kernel_rfl) (by kernel_rfl) (by kernel_rfl) ?_ (fun a w hF hS => ?_)
    · exact obs_nil
    refine cond_ev (t := 10) (b := ((a1.length : Int) != (b1.length : Int))) hF (by kernel_rfl) (fun hb => ?_) (fun hb => ?_)
    · replace hm := if_t hm hb
      refine reg [] [] [4] [pl 4 (.bool false)] hF hS Fol (by kernel_rfl) (by kernel_rfl) (by kernel_rfl) ?_ (fun a w hF hS => ?_)
      · exact obs_nil
      refine wpIn_ret ?_
      refine then_r ?_
      have hm : some false = some r := hm
      obtain rfl := Option.some.inj hm
      exact retV (rs := [.tmp 4]) (vs := [.bool false]) hF rfl (rv_t (by kernel_rfl) <| rv_nil) rfl ⟨rfl, hS⟩
    · replace hm := if_f hm hb
      refine wpIn_skip ?_
      refine then_n ?_
      exact ⟨hF.weak [0, 1] (by kernel_rfl), hS, hm⟩

end Go.Proofs.Ytoickcchcjehdaa
