/-
  Models and walks, printed by our own program (wip/gen).
-/
import Derived.Test.YtoickcchcjehdaaFB
import Derived.Test.YtoickcchcjehdaaSR
import Derived.Test.YtoickcchcjehdaaLibPl
import Derived.Test.YtoickcchcjehdaaLibAS
import Derived.Test.YtoickcchcjehdaaLibHd
import Derived.Test.YtoickcchcjehdaaLibRt
import Derived.Test.YtoickcchcjehdaaNMTa
namespace Go.Proofs.Ytoickcchcjehdaa
open Go Go.GL Go.RowKit

noncomputable def magic_Product_m  (a1 : List Int) (b1 : List Int) : Option (List Int × Int) :=
  (magic_side_m a1).bind fun r1 => (magic_side_m b1).bind fun r2 => if (((r1 == 0) || (r2 == 0)) || (decide ((12 : Int) < (w64 (r1 * r2))))) then (some (([] : List Int), 2)) else ((magic_Product_J1 a1 b1 r1 r2))

set_option maxRecDepth 100000 in
set_option maxHeartbeats 4000000 in
theorem magic_Product_w  {A1 : Option Addr} {c1 : Nat} {n1 : Nat} {a1 : List Int} {A2 : Option Addr} {c2 : Nat} {n2 : Nat} {b1 : List Int} {r : (List Int × Int)} {w0 w : World} {B : Nat} {fs : List HP} (hm : magic_Product_m a1 b1 = some r) (hS : Sep w0 B w (fs)) (hr_a1 : RdF w0 B fs A1 (vI a1)) (_hc_a1 : a1.length ≤ c1) (_hn_a1 : n1 = a1.length) (hr_b1 : RdF w0 B fs A2 (vI b1)) (_hc_b1 : b1.length ≤ c2) (_hn_b1 : n2 = b1.length) :
    Calls Try.prog 55 #[.slice A1 n1 c1, .slice A2 n2 c2] w fun e w' => ∃ v, e = .returned v ∧ ∃ (A9 : Option Addr) (c9 : Nat), v = .tuple #[.slice A9 r.1.length c9, .int .i64 r.2] ∧ Sep w0 B w' (own 3 (.slice A9 r.1.length c9) (vI r.1) :: fs) := by
  obtain ⟨i3, hi3, hz3, hs3, hb3⟩ := info_parts Info3
  obtain ⟨i22, hi22, hz22, hs22, hb22⟩ := info_parts Info22
  obtain rfl := _hn_a1
  obtain rfl := _hn_b1
  unfold magic_Product_m at hm
  replace hm := start_b hm
  refine enter (l := [.slice A1 a1.length c1, .slice A2 b1.length c2]) (n := 96) Try.func55 rfl rfl (by simp) (fun a hF => ?_)
  refine reg [] [] [0, 1] [pl 0 (.slice A1 a1.length c1), pl 1 (.slice A2 b1.length c2)] hF hS Fol (by kernel_rfl) (by kernel_rfl) (by kernel_rfl) ?_ (fun a w hF hS => ?_)
  · exact obs_nil
  obtain ⟨r1, hr1, hm⟩ := call_b hm
  obtain ⟨r2, hr2, hm⟩ := call_b hm
  refine reg [⟨false, [], callFunc 129 #[.slice A1 a1.length c1], .int .i64 r1⟩, ⟨false, [], callFunc 129 #[.slice A2 b1.length c2], .int .i64 r2⟩] [none, some (.int .i64 r1), none, some (.int .i64 r2), none, none] [0, 1, 6, 7] [pl 0 (.slice A1 a1.length c1), pl 1 (.slice A2 b1.length c2), pl 6 (.int .i64 r1), pl 7 (.int .i64 r2)] hF hS Fol (by kernel_rfl) (by kernel_rfl) (by kernel_rfl) ?_ (fun a w hF hS => ?_)
  · exact obs_cons (ob_call Try.func129 (by kernel_rfl) rfl (fun _ _ hS => magic_side_w hr1 hS (fun _ hS => (hr_a1 _ (hS.dropN 0))) _hc_a1 rfl)) <| obs_cons (ob_call Try.func129 (by kernel_rfl) rfl (fun _ _ hS => magic_side_w hr2 hS (fun _ hS => (hr_b1 _ (hS.dropN 0))) _hc_b1 rfl)) <| obs_nil
  refine seq_cut (fun a w => Fr 96 [pl 0 (.slice A1 a1.length c1), pl 1 (.slice A2 b1.length c2), pl 6 (.int .i64 r1), pl 7 (.int .i64 r2)] a ∧ Sep w0 B w (fs) ∧ ((magic_Product_J1 a1 b1 r1 r2)).bind some = some r) ?_ ?_
  · rintro a w ⟨hF, hS, hm⟩
    unfold magic_Product_J1 at hm
    refine seq_cut (fun a w => Fr 96 [pl 0 (.slice A1 a1.length c1), pl 1 (.slice A2 b1.length c2), pl 6 (.int .i64 r1), pl 7 (.int .i64 r2)] a ∧ Sep w0 B w (fs) ∧ ((magic_Product_J2 a1 b1 r1 r2)).bind some = some r) ?_ ?_
    · rintro a w ⟨hF, hS, hm⟩
      unfold magic_Product_J2 at hm
      refine reg [] [] [0, 1, 6, 7, 10] [pl 0 (.slice A1 a1.length c1), pl 1 (.slice A2 b1.length c2), pl 6 (.int .i64 r1), pl 7 (.int .i64 r2), pl 10 (.slice none 0 0)] hF hS Fol (by kernel_rfl) (by kernel_rfl) (by kernel_rfl) ?_ (fun a w hF hS => ?_)
      · exact obs_nil
      refine seq_cut (fun a w => ∃ (out2 : List Int) (A4 : Option Addr) (c4 : Nat), Fr 96 [pl 10 (.slice A4 out2.length c4)] a ∧ Sep w0 B w (own 3 (.slice A4 out2.length c4) (vI out2) :: fs) ∧ (magic_Product_J5 out2).bind some = some r) ?_ ?_
      · rintro a w ⟨out2, A4, c4, hF, hS, hm⟩
        unfold magic_Product_J5 at hm
        refine reg [] [] [4, 5] [pl 4 (.slice A4 out2.length c4), pl 5 (.int .i64 0)] hF hS Fol (by kernel_rfl) (by kernel_rfl) (by kernel_rfl) ?_ (fun a w hF hS => ?_)
        · exact obs_nil
        refine wpIn_ret ?_
        have hm : some (out2, 0) = some r := hm
        obtain rfl := Option.some.inj hm
        exact retV (rs := [.tmp 4, .tmp 5]) (vs := [.slice A4 out2.length c4, .int .i64 0]) hF rfl (rv_t (by kernel_rfl) <| rv_t (by kernel_rfl) <| rv_nil) rfl ⟨_, rfl, A4, c4, rfl, hS⟩
      · refine reg [] [] [0, 1, 6, 7, 10, 50, 51] [pl 0 (.slice A1 a1.length c1), pl 1 (.slice A2 b1.length c2), pl 6 (.int .i64 r1), pl 7 (.int .i64 r2), pl 10 (.slice none 0 0), pl 50 (.int .i64 (w64 (r1 * r2))), pl 51 (.int .i64 0)] hF hS Fol (by kernel_rfl) (by kernel_rfl) (by kernel_rfl) ?_ (fun a w hF hS => ?_)
        · exact obs_nil
        refine wpIn_block ?_
        have hS : Sep w0 B w (own 3 (.slice none 0 0) (vI ([] : List Int)) :: fs) := hS.nil 3
        have hl3 := (hS.at_ 0 rfl).len1
        have hS := (hS.at_ 0 rfl).reN hl3
        have hS : Sep w0 B w (own 3 (.slice none (([] : List Int).length) 0) (vI ([] : List Int)) :: fs) := hS
        have hF := hF.cast (t := 10) (v := .slice none 0 0) (v' := .slice none (([] : List Int).length) 0) rfl rfl (congrArg (fun k => Value.slice none k 0) hl3)
        refine wp_loop_model (S := (List Int × Int)) (R := (List Int)) (magic_Product_L2 a1 b1 r1 r2) (fun x => (magic_Product_K2 x).bind some) r (fun (x : (List Int × Int)) a w => ∃ (A3 : Option Addr) (c3 : Nat), Fr 96 [pl 0 (.slice A1 a1.length c1), pl 1 (.slice A2 b1.length c2), pl 6 (.int .i64 r1), pl 7 (.int .i64 r2), pl 10 (.slice A3 x.1.length c3), pl 50 (.int .i64 (w64 (r1 * r2))), pl 51 (.int .i64 x.2)] a ∧ Sep w0 B w (own 3 (.slice A3 x.1.length c3) (vI x.1) :: fs)) (assoc_b hm) ⟨none, 0, hF.weak [0, 1, 6, 7, 10, 50, 51] (by kernel_rfl), hS⟩ ?_
        clear hF hS hm
        rintro nn2 ⟨out1, z2⟩ a w ⟨A3, c3, hF, hS⟩ hm
        generalize hφ2 : stK (magic_Product_L2 a1 b1 r1 r2) nn2 (fun x => (magic_Product_K2 x).bind some) = φ2 at hm
        unfold magic_Product_L2 at hm
        dsimp only at hF hS hm
        refine reg [] [] [0, 1, 6, 7, 10, 50, 51, 52] [pl 0 (.slice A1 a1.length c1), pl 1 (.slice A2 b1.length c2), pl 6 (.int .i64 r1), pl 7 (.int .i64 r2), pl 10 (.slice A3 out1.length c3), pl 50 (.int .i64 (w64 (r1 * r2))), pl 51 (.int .i64 z2), pl 52 (.bool (decide (z2 < (w64 (r1 * r2)))))] hF hS Fol (by kernel_rfl) (by kernel_rfl) (by kernel_rfl) ?_ (fun a w hF hS => ?_)
        · exact obs_nil
        refine seq_cut (fun a w => Fr 96 [pl 0 (.slice A1 a1.length c1), pl 1 (.slice A2 b1.length c2), pl 6 (.int .i64 r1), pl 7 (.int .i64 r2), pl 10 (.slice A3 out1.length c3), pl 50 (.int .i64 (w64 (r1 * r2))), pl 51 (.int .i64 z2)] a ∧ Sep w0 B w (own 3 (.slice A3 out1.length c3) (vI out1) :: fs) ∧ ((magic_Product_J6 a1 b1 r1 r2 out1 z2)).bind φ2 = some r) ?_ ?_
        · rintro a w ⟨hF, hS, hm⟩
          unfold magic_Product_J6 at hm
          refine seq_cut (fun a w => ∃ (out4 : List Int) (A6 : Option Addr) (c6 : Nat), Fr 96 [pl 0 (.slice A1 a1.length c1), pl 1 (.slice A2 b1.length c2), pl 6 (.int .i64 r1), pl 7 (.int .i64 r2), pl 10 (.slice A6 out4.length c6), pl 50 (.int .i64 (w64 (r1 * r2))), pl 51 (.int .i64 z2)] a ∧ Sep w0 B w (own 3 (.slice A6 out4.length c6) (vI out4) :: fs) ∧ ((magic_Product_J7 z2) out4).bind φ2 = some r) ?_ ?_
          · rintro a w ⟨out4, A6, c6, hF, hS, hm⟩
            unfold magic_Product_J7 at hm
            refine reg1 [] [] [0, 1, 6, 7, 10, 50, 51] [pl 0 (.slice A1 a1.length c1), pl 1 (.slice A2 b1.length c2), pl 6 (.int .i64 r1), pl 7 (.int .i64 r2), pl 10 (.slice A6 out4.length c6), pl 50 (.int .i64 (w64 (r1 * r2))), pl 51 (.int .i64 (w64 (z2 + 1)))] hF hS Fol (by kernel_rfl) (by kernel_rfl) (by kernel_rfl) ?_ (fun a w hF hS => ?_)
            · exact obs_nil
            refine then_n ?_
            rw [← hφ2] at hm
            exact ⟨(out4, (w64 (z2 + 1))), ⟨A6, c6, hF.weak [0, 1, 6, 7, 10, 50, 51] (by kernel_rfl), hS⟩, hm⟩
          · refine wpIn_block ?_
            refine reg [] [] [0, 1, 6, 7, 10, 11, 50, 51] [pl 0 (.slice A1 a1.length c1), pl 1 (.slice A2 b1.length c2), pl 6 (.int .i64 r1), pl 7 (.int .i64 r2), pl 10 (.slice A3 out1.length c3), pl 11 (.int .i64 z2), pl 50 (.int .i64 (w64 (r1 * r2))), pl 51 (.int .i64 z2)] hF hS Fol (by kernel_rfl) (by kernel_rfl) (by kernel_rfl) ?_ (fun a w hF hS => ?_)
            · exact obs_nil
            refine reg [] [] [0, 1, 6, 7, 10, 11, 50, 51, 56, 57] [pl 0 (.slice A1 a1.length c1), pl 1 (.slice A2 b1.length c2), pl 6 (.int .i64 r1), pl 7 (.int .i64 r2), pl 10 (.slice A3 out1.length c3), pl 11 (.int .i64 z2), pl 50 (.int .i64 (w64 (r1 * r2))), pl 51 (.int .i64 z2), pl 56 (.int .i64 (w64 (r1 * r2))), pl 57 (.int .i64 0)] hF hS Fol (by kernel_rfl) (by kernel_rfl) (by kernel_rfl) ?_ (fun a w hF hS => ?_)
            · exact obs_nil
            refine wpIn_block ?_
            refine wp_loop_model (S := (List Int × Int)) (R := (List Int)) (magic_Product_L3 a1 b1 r1 r2 z2) (fun x => ((magic_Product_K3 z2) x).bind φ2) r (fun (x : (List Int × Int)) a w => ∃ (A5 : Option Addr) (c5 : Nat), Fr 96 [pl 0 (.slice A1 a1.length c1), pl 1 (.slice A2 b1.length c2), pl 6 (.int .i64 r1), pl 7 (.int .i64 r2), pl 10 (.slice A5 x.1.length c5), pl 11 (.int .i64 z2), pl 50 (.int .i64 (w64 (r1 * r2))), pl 51 (.int .i64 z2), pl 56 (.int .i64 (w64 (r1 * r2))), pl 57 (.int .i64 x.2)] a ∧ Sep w0 B w (own 3 (.slice A5 x.1.length c5) (vI x.1) :: fs)) (assoc_b hm) ⟨A3, c3, hF.weak [0, 1, 6, 7, 10, 11, 50, 51, 56, 57] (by kernel_rfl), hS⟩ ?_
            clear hF hS hm
            rintro nn3 ⟨out3, z3⟩ a w ⟨A5, c5, hF, hS⟩ hm
            generalize hφ3 : stK (magic_Product_L3 a1 b1 r1 r2 z2) nn3 (fun x => ((magic_Product_K3 z2) x).bind φ2) = φ3 at hm
            unfold magic_Product_L3 at hm
            dsimp only at hF hS hm
            refine reg [] [] [0, 1, 6, 7, 10, 11, 50, 51, 56, 57, 58] [pl 0 (.slice A1 a1.length c1), pl 1 (.slice A2 b1.length c2), pl 6 (.int .i64 r1), pl 7 (.int .i64 r2), pl 10 (.slice A5 out3.length c5), pl 11 (.int .i64 z2), pl 50 (.int .i64 (w64 (r1 * r2))), pl 51 (.int .i64 z2), pl 56 (.int .i64 (w64 (r1 * r2))), pl 57 (.int .i64 z3), pl 58 (.bool (decide (z3 < (w64 (r1 * r2)))))] hF hS Fol (by kernel_rfl) (by kernel_rfl) (by kernel_rfl) ?_ (fun a w hF hS => ?_)
            · exact obs_nil
            refine seq_cut (fun a w => Fr 96 [pl 0 (.slice A1 a1.length c1), pl 1 (.slice A2 b1.length c2), pl 6 (.int .i64 r1), pl 7 (.int .i64 r2), pl 10 (.slice A5 out3.length c5), pl 11 (.int .i64 z2), pl 50 (.int .i64 (w64 (r1 * r2))), pl 51 (.int .i64 z2), pl 56 (.int .i64 (w64 (r1 * r2))), pl 57 (.int .i64 z3)] a ∧ Sep w0 B w (own 3 (.slice A5 out3.length c5) (vI out3) :: fs) ∧ ((magic_Product_J8 a1 b1 r1 r2 z2 out3 z3)).bind φ3 = some r) ?_ ?_
            · rintro a w ⟨hF, hS, hm⟩
              unfold magic_Product_J8 at hm
              refine seq_cut (fun a w => ∃ (out5 : List Int) (A8 : Option Addr) (c8 : Nat), Fr 96 [pl 0 (.slice A1 a1.length c1), pl 1 (.slice A2 b1.length c2), pl 6 (.int .i64 r1), pl 7 (.int .i64 r2), pl 10 (.slice A8 out5.length c8), pl 11 (.int .i64 z2), pl 50 (.int .i64 (w64 (r1 * r2))), pl 51 (.int .i64 z2), pl 56 (.int .i64 (w64 (r1 * r2))), pl 57 (.int .i64 z3)] a ∧ Sep w0 B w (own 3 (.slice A8 out5.length c8) (vI out5) :: fs) ∧ ((magic_Product_J9 z3) out5).bind φ3 = some r) ?_ ?_
              · rintro a w ⟨out5, A8, c8, hF, hS, hm⟩
                unfold magic_Product_J9 at hm
                refine reg1 [] [] [0, 1, 6, 7, 10, 11, 50, 51, 56, 57] [pl 0 (.slice A1 a1.length c1), pl 1 (.slice A2 b1.length c2), pl 6 (.int .i64 r1), pl 7 (.int .i64 r2), pl 10 (.slice A8 out5.length c8), pl 11 (.int .i64 z2), pl 50 (.int .i64 (w64 (r1 * r2))), pl 51 (.int .i64 z2), pl 56 (.int .i64 (w64 (r1 * r2))), pl 57 (.int .i64 (w64 (z3 + 1)))] hF hS Fol (by kernel_rfl) (by kernel_rfl) (by kernel_rfl) ?_ (fun a w hF hS => ?_)
                · exact obs_nil
                refine then_n ?_
                rw [← hφ3] at hm
                exact ⟨(out5, (w64 (z3 + 1))), ⟨A8, c8, hF.weak [0, 1, 6, 7, 10, 11, 50, 51, 56, 57] (by kernel_rfl), hS⟩, hm⟩
              · refine wpIn_block ?_
                refine reg [] [] [0, 1, 6, 7, 10, 11, 12, 50, 51, 56, 57] [pl 0 (.slice A1 a1.length c1), pl 1 (.slice A2 b1.length c2), pl 6 (.int .i64 r1), pl 7 (.int .i64 r2), pl 10 (.slice A5 out3.length c5), pl 11 (.int .i64 z2), pl 12 (.int .i64 z3), pl 50 (.int .i64 (w64 (r1 * r2))), pl 51 (.int .i64 z2), pl 56 (.int .i64 (w64 (r1 * r2))), pl 57 (.int .i64 z3)] hF hS Fol (by kernel_rfl) (by kernel_rfl) (by kernel_rfl) ?_ (fun a w hF hS => ?_)
                · exact obs_nil
                obtain ⟨hp2, hm⟩ := asrt_b hm
                obtain ⟨hp3, hm⟩ := asrt_b hm
                obtain ⟨hp4, hm⟩ := asrt_b hm
                obtain ⟨hp5, hm⟩ := asrt_b hm
                obtain ⟨hp6, hm⟩ := asrt_b hm
                obtain ⟨hp7, hm⟩ := asrt_b hm
                obtain ⟨hp8, hm⟩ := asrt_b hm
                refine regMix4 [0, 1, 2, 3, 4, 5, 6, 7, 8, 9, 10, 11, 12, 13, 14, 15, 16, 17, 18, 19, 20, 21, 22, 23, 24, 25, 26, 27, 28, 29, 30] [31, 32, 33] [⟨true, [], vS (Op.intDiv .quo .i64 z2 r2), .int .i64 (w64 (Int.tdiv z2 r2))⟩, ⟨true, [], vS (Op.intDiv .quo .i64 z3 r2), .int .i64 (w64 (Int.tdiv z3 r2))⟩, ⟨true, [], vS (Instr.indexAt 22 (.slice A1 a1.length c1) (.int .i64 (w64 ((w64 ((w64 (Int.tdiv z2 r2)) * r1)) + (w64 (Int.tdiv z3 r2)))))), .pointer (some (sAddr A1 (w64 ((w64 ((w64 (Int.tdiv z2 r2)) * r1)) + (w64 (Int.tdiv z3 r2))))))⟩, ⟨false, [], vS (Instr.loadAt 3 (.pointer (some (sAddr A1 (w64 ((w64 ((w64 (Int.tdiv z2 r2)) * r1)) + (w64 (Int.tdiv z3 r2)))))))), .int .i64 (geti a1 (w64 ((w64 ((w64 (Int.tdiv z2 r2)) * r1)) + (w64 (Int.tdiv z3 r2)))))⟩, ⟨true, [], vS (Op.intDiv .rem .i64 z2 r2), .int .i64 (Int.tmod z2 r2)⟩, ⟨true, [], vS (Op.intDiv .rem .i64 z3 r2), .int .i64 (Int.tmod z3 r2)⟩, ⟨true, [], vS (Instr.indexAt 22 (.slice A2 b1.length c2) (.int .i64 (w64 ((w64 ((Int.tmod z2 r2) * r2)) + (Int.tmod z3 r2))))), .pointer (some (sAddr A2 (w64 ((w64 ((Int.tmod z2 r2) * r2)) + (Int.tmod z3 r2)))))⟩, ⟨false, [], vS (Instr.loadAt 3 (.pointer (some (sAddr A2 (w64 ((w64 ((Int.tmod z2 r2) * r2)) + (Int.tmod z3 r2))))))), .int .i64 (geti b1 (w64 ((w64 ((Int.tmod z2 r2) * r2)) + (Int.tmod z3 r2))))⟩] [none, none, none, none, some (.int .i64 (w64 (Int.tdiv z2 r2))), none, none, none, none, some (.int .i64 (w64 (Int.tdiv z3 r2))), none, some (.pointer (some (sAddr A1 (w64 ((w64 ((w64 (Int.tdiv z2 r2)) * r1)) + (w64 (Int.tdiv z3 r2))))))), some (.int .i64 (geti a1 (w64 ((w64 ((w64 (Int.tdiv z2 r2)) * r1)) + (w64 (Int.tdiv z3 r2)))))), none, none, none, none, none, none, none, none, some (.int .i64 (Int.tmod z2 r2)), none, none, none, none, some (.int .i64 (Int.tmod z3 r2)), none, some (.pointer (some (sAddr A2 (w64 ((w64 ((Int.tmod z2 r2) * r2)) + (Int.tmod z3 r2)))))), some (.int .i64 (geti b1 (w64 ((w64 ((Int.tmod z2 r2) * r2)) + (Int.tmod z3 r2))))), none] [0, 1, 6, 7, 11, 50, 51, 56, 57, 60, 90] [pl 0 (.slice A1 a1.length c1), pl 1 (.slice A2 b1.length c2), pl 6 (.int .i64 r1), pl 7 (.int .i64 r2), pl 11 (.int .i64 z2), pl 50 (.int .i64 (w64 (r1 * r2))), pl 51 (.int .i64 z2), pl 56 (.int .i64 (w64 (r1 * r2))), pl 57 (.int .i64 z3), pl 60 (.slice A5 out3.length c5), pl 90 (.int .i64 (w64 ((w64 ((w64 ((w64 ((geti a1 (w64 ((w64 ((w64 (Int.tdiv z2 r2)) * r1)) + (w64 (Int.tdiv z3 r2))))) - 1)) * r2)) * r2)) + (geti b1 (w64 ((w64 ((Int.tmod z2 r2) * r2)) + (Int.tmod z3 r2)))))))] hF hS Fol (by kernel_rfl) (by kernel_rfl) (by kernel_rfl) (by kernel_rfl) (by kernel_rfl) ?_ (fun a w hF hS => ?_)
                · exact obs_cons (ob_quo rfl (fun _ => hp2)) <| obs_cons (ob_quo rfl (fun _ => hp3)) <| obs_cons (ob_ix1 (f := (Value.int .i64)) (m := a1) Und22 hi3 hs3 (hr_a1 _ (hS.dropN 1)) rfl (fun _ => hp4)) <| obs_cons (ob_get1 (n := a1.length) (m := a1) (Value.int .i64) (0 : Int) Agg3 (fun _ hS => ⟨_, (hr_a1 _ (hS.dropN 1))⟩) (fun _ hS => rfl) (fun _ => hp4)) <| obs_cons (ob_rem rfl (fun _ => hp5)) <| obs_cons (ob_rem rfl (fun _ => hp6)) <| obs_cons (ob_ix1 (f := (Value.int .i64)) (m := b1) Und22 hi3 hs3 (hr_b1 _ (hS.dropN 1)) rfl (fun _ => hp7)) <| obs_cons (ob_get1 (n := b1.length) (m := b1) (Value.int .i64) (0 : Int) Agg3 (fun _ hS => ⟨_, (hr_b1 _ (hS.dropN 1))⟩) (fun _ hS => rfl) (fun _ => hp7)) <| obs_nil
                refine at_do (d := 91) (s := vS (Instr.buildSlice 22 1 #[(0, .int .i64 (w64 ((w64 ((w64 ((w64 ((geti a1 (w64 ((w64 ((w64 (Int.tdiv z2 r2)) * r1)) + (w64 (Int.tdiv z3 r2))))) - 1)) * r2)) * r2)) + (geti b1 (w64 ((w64 ((Int.tmod z2 r2) * r2)) + (Int.tmod z3 r2)))))))])) (v := .slice (some ⟨w.heap.size, 0, none⟩) 1 1) (w' := w.alloc (.cells #[.int .i64 (w64 ((w64 ((w64 ((w64 ((geti a1 (w64 ((w64 ((w64 (Int.tdiv z2 r2)) * r1)) + (w64 (Int.tdiv z3 r2))))) - 1)) * r2)) * r2)) + (geti b1 (w64 ((w64 ((Int.tmod z2 r2) * r2)) + (Int.tmod z3 r2))))))] 3)) hF (by kernel_rfl) (by kernel_rfl) (by kernel_rfl) (fun a hF => ?_)
                have hS : Sep w0 B (w.alloc (.cells #[.int .i64 (w64 ((w64 ((w64 ((w64 ((geti a1 (w64 ((w64 ((w64 (Int.tdiv z2 r2)) * r1)) + (w64 (Int.tdiv z3 r2))))) - 1)) * r2)) * r2)) + (geti b1 (w64 ((w64 ((Int.tmod z2 r2) * r2)) + (Int.tmod z3 r2))))))] 3)) (own 3 (.slice (some (⟨w.heap.size, 0, none⟩ : Addr)) 1 1) (vI ([w64 ((w64 ((w64 ((w64 ((geti a1 (w64 ((w64 ((w64 (Int.tdiv z2 r2)) * r1)) + (w64 (Int.tdiv z3 r2))))) - 1)) * r2)) * r2)) + (geti b1 (w64 ((w64 ((Int.tmod z2 r2) * r2)) + (Int.tmod z3 r2)))))] : List Int)) :: (own 3 (.slice A5 out3.length c5) (vI out3) :: fs)) := hS.lit 3 #[.int .i64 (w64 ((w64 ((w64 ((w64 ((geti a1 (w64 ((w64 ((w64 (Int.tdiv z2 r2)) * r1)) + (w64 (Int.tdiv z3 r2))))) - 1)) * r2)) * r2)) + (geti b1 (w64 ((w64 ((Int.tmod z2 r2) * r2)) + (Int.tmod z3 r2))))))] 1 rfl (by omega)
                generalize (some (⟨w.heap.size, 0, none⟩ : Addr)) = g2 at hF hS
                generalize w.alloc (.cells #[.int .i64 (w64 ((w64 ((w64 ((w64 ((geti a1 (w64 ((w64 ((w64 (Int.tdiv z2 r2)) * r1)) + (w64 (Int.tdiv z3 r2))))) - 1)) * r2)) * r2)) + (geti b1 (w64 ((w64 ((Int.tmod z2 r2) * r2)) + (Int.tmod z3 r2))))))] 3) = w at hS ⊢
                obtain ⟨A7, c7, w, hrun, hS⟩ := run_app1 (P := Try.prog) (t := 22) (m := out3) (ys := ([w64 ((w64 ((w64 ((w64 ((geti a1 (w64 ((w64 ((w64 (Int.tdiv z2 r2)) * r1)) + (w64 (Int.tdiv z3 r2))))) - 1)) * r2)) * r2)) + (geti b1 (w64 ((w64 ((Int.tmod z2 r2) * r2)) + (Int.tmod z3 r2)))))] : List Int)) (A2 := g2) (m2 := 1) (c2 := 1) (Value.int .i64) (0 : Int) (hS.at_ 1 rfl) (hS.at_ 0 rfl).rd ((hS.at_ 0 rfl).len1) 22 Und22 hi3 hz3 hs3 (by omega) rfl (fun _ => rfl) hp8
                have hS : Sep w0 B w (own 3 (.slice g2 1 1) (vI ([w64 ((w64 ((w64 ((w64 ((geti a1 (w64 ((w64 ((w64 (Int.tdiv z2 r2)) * r1)) + (w64 (Int.tdiv z3 r2))))) - 1)) * r2)) * r2)) + (geti b1 (w64 ((w64 ((Int.tmod z2 r2) * r2)) + (Int.tmod z3 r2)))))] : List Int)) :: own 3 (.slice A7 ((out3 ++ ([w64 ((w64 ((w64 ((w64 ((geti a1 (w64 ((w64 ((w64 (Int.tdiv z2 r2)) * r1)) + (w64 (Int.tdiv z3 r2))))) - 1)) * r2)) * r2)) + (geti b1 (w64 ((w64 ((Int.tmod z2 r2) * r2)) + (Int.tmod z3 r2)))))] : List Int)).length) c7) (vI (out3 ++ ([w64 ((w64 ((w64 ((w64 ((geti a1 (w64 ((w64 ((w64 (Int.tdiv z2 r2)) * r1)) + (w64 (Int.tdiv z3 r2))))) - 1)) * r2)) * r2)) + (geti b1 (w64 ((w64 ((Int.tmod z2 r2) * r2)) + (Int.tmod z3 r2)))))] : List Int))) :: fs) := hS
                refine at_do (d := 92) hF (by kernel_rfl) (by kernel_rfl) hrun (fun a hF => ?_)
                refine at_run 1 [] [] [0, 1, 6, 7, 10, 11, 50, 51, 56, 57] [pl 0 (.slice A1 a1.length c1), pl 1 (.slice A2 b1.length c2), pl 6 (.int .i64 r1), pl 7 (.int .i64 r2), pl 10 (.slice A7 ((out3 ++ ([w64 ((w64 ((w64 ((w64 ((geti a1 (w64 ((w64 ((w64 (Int.tdiv z2 r2)) * r1)) + (w64 (Int.tdiv z3 r2))))) - 1)) * r2)) * r2)) + (geti b1 (w64 ((w64 ((Int.tmod z2 r2) * r2)) + (Int.tmod z3 r2)))))] : List Int)).length) c7), pl 11 (.int .i64 z2), pl 50 (.int .i64 (w64 (r1 * r2))), pl 51 (.int .i64 z2), pl 56 (.int .i64 (w64 (r1 * r2))), pl 57 (.int .i64 z3)] hF hS (by kernel_rfl) (by kernel_rfl) ?_ (fun a w hF hS => ?_)
                · exact obs_nil
                refine at_end [0, 1, 6, 7, 10, 11, 50, 51, 56, 57] [pl 0 (.slice A1 a1.length c1), pl 1 (.slice A2 b1.length c2), pl 6 (.int .i64 r1), pl 7 (.int .i64 r2), pl 10 (.slice A7 ((out3 ++ ([w64 ((w64 ((w64 ((w64 ((geti a1 (w64 ((w64 ((w64 (Int.tdiv z2 r2)) * r1)) + (w64 (Int.tdiv z3 r2))))) - 1)) * r2)) * r2)) + (geti b1 (w64 ((w64 ((Int.tmod z2 r2) * r2)) + (Int.tmod z3 r2)))))] : List Int)).length) c7), pl 11 (.int .i64 z2), pl 50 (.int .i64 (w64 (r1 * r2))), pl 51 (.int .i64 z2), pl 56 (.int .i64 (w64 (r1 * r2))), pl 57 (.int .i64 z3)] hF rfl (by kernel_rfl) (fun hF => ?_)
                refine np_n ?_
                refine block_n ?_
                refine then_n ?_
                have hS := hS.pickN 2 [1] (by decide)
                exact ⟨(out3 ++ ([w64 ((w64 ((w64 ((w64 ((geti a1 (w64 ((w64 ((w64 (Int.tdiv z2 r2)) * r1)) + (w64 (Int.tdiv z3 r2))))) - 1)) * r2)) * r2)) + (geti b1 (w64 ((w64 ((Int.tmod z2 r2) * r2)) + (Int.tmod z3 r2)))))] : List Int)), A7, c7, hF.weak [0, 1, 6, 7, 10, 11, 50, 51, 56, 57] (by kernel_rfl), hS, hm⟩
            · refine cond_ev (t := 58) (b := decide (z3 < (w64 (r1 * r2)))) hF (by kernel_rfl) (fun hb => ?_) (fun hb => ?_)
              · replace hm := if_t hm hb
                refine wpIn_skip ?_
                refine then_n ?_
                exact ⟨hF.weak [0, 1, 6, 7, 10, 11, 50, 51, 56, 57] (by kernel_rfl), hS, hm⟩
              · replace hm := if_f hm hb
                refine wpIn_exit ?_
                refine then_e (then_e (block_e (block_n (then_n ?_))))
                rw [← hφ3] at hm
                replace hm := done_b hm
                unfold magic_Product_K3 at hm
                try dsimp only at hm
                have hm : ((magic_Product_J7 z2) out3).bind φ2 = some r := hm
                exact ⟨out3, A5, c5, hF.weak [0, 1, 6, 7, 10, 50, 51] (by kernel_rfl), hS, hm⟩
        · refine cond_ev (t := 52) (b := decide (z2 < (w64 (r1 * r2)))) hF (by kernel_rfl) (fun hb => ?_) (fun hb => ?_)
          · replace hm := if_t hm hb
            refine wpIn_skip ?_
            refine then_n ?_
            exact ⟨hF.weak [0, 1, 6, 7, 10, 50, 51] (by kernel_rfl), hS, hm⟩
          · replace hm := if_f hm hb
            refine wpIn_exit ?_
            refine then_e (then_e (block_e (then_n ?_)))
            rw [← hφ2] at hm
            replace hm := done_b hm
            unfold magic_Product_K2 at hm
            try dsimp only at hm
            have hm : (magic_Product_J5 out1).bind some = some r := hm
            exact ⟨out1, A3, c3, hF.weak [10] (by kernel_rfl), hS, hm⟩
    · refine seqR ?_
      refine at_run 2 [] [] [0, 1, 6, 7, 29, 30] [pl 0 (.slice A1 a1.length c1), pl 1 (.slice A2 b1.length c2), pl 6 (.int .i64 r1), pl 7 (.int .i64 r2), pl 29 (.slice A1 a1.length c1), pl 30 (.slice A2 b1.length c2)] hF hS (by kernel_rfl) (by kernel_rfl) ?_ (fun a w hF hS => ?_)
      · exact obs_nil
      refine at_do (d := 31) (s := vS (Instr.buildSlice 42 2 #[(0, .slice A1 a1.length c1), (1, .slice A2 b1.length c2)])) (v := .slice (some ⟨w.heap.size, 0, none⟩) 2 2) (w' := w.alloc (.cells #[.slice A1 a1.length c1, .slice A2 b1.length c2] 22)) hF (by kernel_rfl) (by kernel_rfl) (by kernel_rfl) (fun a hF => ?_)
      have hS : Sep w0 B (w.alloc (.cells #[.slice A1 a1.length c1, .slice A2 b1.length c2] 22)) (own 22 (.slice (some (⟨w.heap.size, 0, none⟩ : Addr)) 2 2) [.slice A1 a1.length c1, .slice A2 b1.length c2] :: (fs)) := hS.lit 22 #[.slice A1 a1.length c1, .slice A2 b1.length c2] 2 rfl (by omega)
      generalize (some (⟨w.heap.size, 0, none⟩ : Addr)) = g1 at hF hS
      generalize w.alloc (.cells #[.slice A1 a1.length c1, .slice A2 b1.length c2] 22) = w at hS ⊢
      refine at_run 2 [] [] [0, 1, 6, 7, 31, 32, 33] [pl 0 (.slice A1 a1.length c1), pl 1 (.slice A2 b1.length c2), pl 6 (.int .i64 r1), pl 7 (.int .i64 r2), pl 31 (.slice g1 2 2), pl 32 (.int .i64 2), pl 33 (.int .i64 0)] hF hS (by kernel_rfl) (by kernel_rfl) ?_ (fun a w hF hS => ?_)
      · exact obs_nil
      refine at_end [0, 1, 6, 7, 31, 32, 33] [pl 0 (.slice A1 a1.length c1), pl 1 (.slice A2 b1.length c2), pl 6 (.int .i64 r1), pl 7 (.int .i64 r2), pl 31 (.slice g1 2 2), pl 32 (.int .i64 2), pl 33 (.int .i64 0)] hF rfl (by kernel_rfl) (fun hF => ?_)
      refine then_n ?_
      refine wpIn_block ?_
      refine wp_loop_model (S := Int) (R := (Fl Unit (List Int × Int))) (magic_Product_L1 a1 b1) (fun x => ((magic_Product_K1 a1 b1 r1 r2) x).bind some) r (fun (x : Int) a w => Fr 96 [pl 0 (.slice A1 a1.length c1), pl 1 (.slice A2 b1.length c2), pl 6 (.int .i64 r1), pl 7 (.int .i64 r2), pl 31 (.slice g1 2 2), pl 32 (.int .i64 2), pl 33 (.int .i64 x)] a ∧ Sep w0 B w (own 22 (.slice g1 2 2) [.slice A1 a1.length c1, .slice A2 b1.length c2] :: fs)) (assoc_b hm) ⟨hF.weak [0, 1, 6, 7, 31, 32, 33] (by kernel_rfl), hS⟩ ?_
      clear hF hS hm
      rintro nn1 z1 a w ⟨hF, hS⟩ hm
      generalize hφ1 : stK (magic_Product_L1 a1 b1) nn1 (fun x => ((magic_Product_K1 a1 b1 r1 r2) x).bind some) = φ1 at hm
      unfold magic_Product_L1 at hm
      dsimp only at hm
      refine reg [] [] [0, 1, 6, 7, 31, 32, 33, 34] [pl 0 (.slice A1 a1.length c1), pl 1 (.slice A2 b1.length c2), pl 6 (.int .i64 r1), pl 7 (.int .i64 r2), pl 31 (.slice g1 2 2), pl 32 (.int .i64 2), pl 33 (.int .i64 z1), pl 34 (.bool (decide (z1 < 2)))] hF hS Fol (by kernel_rfl) (by kernel_rfl) (by kernel_rfl) ?_ (fun a w hF hS => ?_)
      · exact obs_nil
      refine seq_cut (fun a w => Fr 96 [pl 0 (.slice A1 a1.length c1), pl 1 (.slice A2 b1.length c2), pl 6 (.int .i64 r1), pl 7 (.int .i64 r2), pl 31 (.slice g1 2 2), pl 32 (.int .i64 2), pl 33 (.int .i64 z1)] a ∧ Sep w0 B w (own 22 (.slice g1 2 2) [.slice A1 a1.length c1, .slice A2 b1.length c2] :: fs) ∧ ((magic_Product_J3 a1 b1 z1)).bind φ1 = some r) ?_ ?_
      · rintro a w ⟨hF, hS, hm⟩
        unfold magic_Product_J3 at hm
        refine seq_cut (fun a w => Fr 96 [pl 0 (.slice A1 a1.length c1), pl 1 (.slice A2 b1.length c2), pl 6 (.int .i64 r1), pl 7 (.int .i64 r2), pl 31 (.slice g1 2 2), pl 32 (.int .i64 2), pl 33 (.int .i64 z1)] a ∧ Sep w0 B w (own 22 (.slice g1 2 2) [.slice A1 a1.length c1, .slice A2 b1.length c2] :: fs) ∧ ((magic_Product_J4 z1)).bind φ1 = some r) ?_ ?_
        · rintro a w ⟨hF, hS, hm⟩
          unfold magic_Product_J4 at hm
          refine reg1 [] [] [0, 1, 6, 7, 31, 32, 33] [pl 0 (.slice A1 a1.length c1), pl 1 (.slice A2 b1.length c2), pl 6 (.int .i64 r1), pl 7 (.int .i64 r2), pl 31 (.slice g1 2 2), pl 32 (.int .i64 2), pl 33 (.int .i64 (w64 (z1 + 1)))] hF hS Fol (by kernel_rfl) (by kernel_rfl) (by kernel_rfl) ?_ (fun a w hF hS => ?_)
          · exact obs_nil
          refine then_n ?_
          rw [← hφ1] at hm
          exact ⟨(w64 (z1 + 1)), ⟨hF.weak [0, 1, 6, 7, 31, 32, 33] (by kernel_rfl), hS⟩, hm⟩
        · refine wpIn_block ?_
          obtain ⟨hp1, hm⟩ := asrt_b hm
          refine reg [⟨true, [], vS (Instr.indexAt 42 (.slice g1 2 2) (.int .i64 z1)), .pointer (some (sAddr g1 z1))⟩, ⟨false, [], vS (Instr.loadAt 22 (.pointer (some (sAddr g1 z1)))), .slice (hdA ([(A1, c1), (A2, c2)] : List Hd) z1) ((geti2 ([a1, b1] : List (List Int)) z1).length) (hdC ([(A1, c1), (A2, c2)] : List Hd) z1)⟩] [some (.pointer (some (sAddr g1 z1))), some (.slice (hdA ([(A1, c1), (A2, c2)] : List Hd) z1) ((geti2 ([a1, b1] : List (List Int)) z1).length) (hdC ([(A1, c1), (A2, c2)] : List Hd) z1)), none] [0, 1, 6, 7, 9, 31, 32, 33] [pl 0 (.slice A1 a1.length c1), pl 1 (.slice A2 b1.length c2), pl 6 (.int .i64 r1), pl 7 (.int .i64 r2), pl 9 (.slice (hdA ([(A1, c1), (A2, c2)] : List Hd) z1) ((geti2 ([a1, b1] : List (List Int)) z1).length) (hdC ([(A1, c1), (A2, c2)] : List Hd) z1)), pl 31 (.slice g1 2 2), pl 32 (.int .i64 2), pl 33 (.int .i64 z1)] hF hS Fol (by kernel_rfl) (by kernel_rfl) (by kernel_rfl) ?_ (fun a w hF hS => ?_)
          · exact obs_cons (ob_ixRn Und42 hi22 hs22 (rdLit (hd := ([(A1, c1), (A2, c2)] : List Hd)) (m := ([a1, b1] : List (List Int))) hS 0 rfl ⟨⟨(hr_a1 _ (hS.dropN 1)), _hc_a1⟩, ⟨(hr_b1 _ (hS.dropN 1)), _hc_b1⟩, trivial⟩) rfl (fun _ => hp1)) <| obs_cons (ob_getR Agg22 (fun _ hS => ⟨_, (rdLit (hd := ([(A1, c1), (A2, c2)] : List Hd)) (m := ([a1, b1] : List (List Int))) hS 0 rfl ⟨⟨(hr_a1 _ (hS.dropN 1)), _hc_a1⟩, ⟨(hr_b1 _ (hS.dropN 1)), _hc_b1⟩, trivial⟩)⟩) (fun _ => hp1)) <| obs_nil
          obtain ⟨r3, hr3, hm⟩ := call_b hm
          obtain ⟨r4, hr4, hm⟩ := call_b hm
          refine reg [⟨false, [], callFunc 135 #[.slice (hdA ([(A1, c1), (A2, c2)] : List Hd) z1) ((geti2 ([a1, b1] : List (List Int)) z1).length) (hdC ([(A1, c1), (A2, c2)] : List Hd) z1)], .int .i64 r3⟩, ⟨false, [(decide (r3 < 1), false)], callFunc 136 #[.slice (hdA ([(A1, c1), (A2, c2)] : List Hd) z1) ((geti2 ([a1, b1] : List (List Int)) z1).length) (hdC ([(A1, c1), (A2, c2)] : List Hd) z1)], .int .i64 r4⟩] [none, some (.int .i64 r3), none, none, none, some (.int .i64 r4), none, none, none, none] [0, 1, 6, 7, 31, 32, 33, 46] [pl 0 (.slice A1 a1.length c1), pl 1 (.slice A2 b1.length c2), pl 6 (.int .i64 r1), pl 7 (.int .i64 r2), pl 31 (.slice g1 2 2), pl 32 (.int .i64 2), pl 33 (.int .i64 z1), pl 46 (.bool ((decide (r3 < 1)) || (decide ((((geti2 ([a1, b1] : List (List Int)) z1).length : Nat) : Int) < r4))))] hF hS Fol (by kernel_rfl) (by kernel_rfl) (by kernel_rfl) ?_ (fun a w hF hS => ?_)
          · exact obs_cons (ob_call Try.func135 (by kernel_rfl) rfl (fun _ _ hS => slices_Min_w hr3 hS (fun _ hS => ((rdLit (hd := ([(A1, c1), (A2, c2)] : List Hd)) (m := ([a1, b1] : List (List Int))) hS 0 rfl ⟨⟨(hr_a1 _ (hS.dropN 1)), _hc_a1⟩, ⟨(hr_b1 _ (hS.dropN 1)), _hc_b1⟩, trivial⟩).row _ hp1).1) ((rdLit (hd := ([(A1, c1), (A2, c2)] : List Hd)) (m := ([a1, b1] : List (List Int))) hS 0 rfl ⟨⟨(hr_a1 _ (hS.dropN 1)), _hc_a1⟩, ⟨(hr_b1 _ (hS.dropN 1)), _hc_b1⟩, trivial⟩).row _ hp1).2 rfl)) <| obs_cons (ob_call Try.func136 (by kernel_rfl) rfl (fun hy _ hS => slices_Max_w (ite_some hr4 (by rw [show (decide (r3 < 1)) = false from hy (decide (r3 < 1), false) (by simp)]; try rfl)) hS (fun _ hS => ((rdLit (hd := ([(A1, c1), (A2, c2)] : List Hd)) (m := ([a1, b1] : List (List Int))) hS 0 rfl ⟨⟨(hr_a1 _ (hS.dropN 1)), _hc_a1⟩, ⟨(hr_b1 _ (hS.dropN 1)), _hc_b1⟩, trivial⟩).row _ hp1).1) ((rdLit (hd := ([(A1, c1), (A2, c2)] : List Hd)) (m := ([a1, b1] : List (List Int))) hS 0 rfl ⟨⟨(hr_a1 _ (hS.dropN 1)), _hc_a1⟩, ⟨(hr_b1 _ (hS.dropN 1)), _hc_b1⟩, trivial⟩).row _ hp1).2 rfl)) <| obs_nil
          refine cond_ev (t := 46) (b := (decide (r3 < 1)) || (decide ((((geti2 ([a1, b1] : List (List Int)) z1).length : Nat) : Int) < r4))) hF (by kernel_rfl) (fun hb => ?_) (fun hb => ?_)
          · replace hm := if_t hm hb
            refine reg [] [] [4, 5] [pl 4 (.slice none 0 0), pl 5 (.int .i64 3)] hF hS Fol (by kernel_rfl) (by kernel_rfl) (by kernel_rfl) ?_ (fun a w hF hS => ?_)
            · exact obs_nil
            refine wpIn_ret ?_
            refine block_r (then_r (then_r (block_r (then_r ?_))))
            rw [← hφ1] at hm
            replace hm := done_b hm
            unfold magic_Product_K1 at hm
            try dsimp only at hm
            have hS : Sep w0 B w (own 3 (.slice none 0 0) (vI ([] : List Int)) :: own 22 (.slice g1 2 2) [.slice A1 a1.length c1, .slice A2 b1.length c2] :: fs) := hS.nil 3
            have hl2 := (hS.at_ 0 rfl).len1
            have hS := (hS.at_ 0 rfl).reN hl2
            have hS : Sep w0 B w (own 3 (.slice none (([] : List Int).length) 0) (vI ([] : List Int)) :: own 22 (.slice g1 2 2) [.slice A1 a1.length c1, .slice A2 b1.length c2] :: fs) := hS
            have hS := hS.pickN 2 [0] (by decide)
            have hm : some (([] : List Int), 3) = some r := hm
            obtain rfl := Option.some.inj hm
            exact retV (rs := [.tmp 4, .tmp 5]) (vs := [.slice none (([] : List Int).length) 0, .int .i64 3]) hF rfl (rv_t (by kernel_rfl) <| rv_t (by kernel_rfl) <| rv_nil) rfl ⟨_, rfl, none, 0, rfl, hS⟩
          · replace hm := if_f hm hb
            refine wpIn_skip ?_
            refine block_n ?_
            refine then_n ?_
            exact ⟨hF.weak [0, 1, 6, 7, 31, 32, 33] (by kernel_rfl), hS, hm⟩
      · refine cond_ev (t := 34) (b := decide (z1 < 2)) hF (by kernel_rfl) (fun hb => ?_) (fun hb => ?_)
        · replace hm := if_t hm hb
          refine wpIn_skip ?_
          refine then_n ?_
          exact ⟨hF.weak [0, 1, 6, 7, 31, 32, 33] (by kernel_rfl), hS, hm⟩
        · replace hm := if_f hm hb
          refine wpIn_exit ?_
          refine then_e (then_e (block_e (then_n ?_)))
          have hS := hS.pickN 1 [] (by decide)
          rw [← hφ1] at hm
          replace hm := done_b hm
          unfold magic_Product_K1 at hm
          try dsimp only at hm
          have hm : ((magic_Product_J2 a1 b1 r1 r2)).bind some = some r := hm
          exact ⟨hF.weak [0, 1, 6, 7] (by kernel_rfl), hS, hm⟩
  · refine reg [] [] [0, 1, 6, 7, 28] [pl 0 (.slice A1 a1.length c1), pl 1 (.slice A2 b1.length c2), pl 6 (.int .i64 r1), pl 7 (.int .i64 r2), pl 28 (.bool (((r1 == 0) || (r2 == 0)) || (decide ((12 : Int) < (w64 (r1 * r2))))))] hF hS Fol (by kernel_rfl) (by kernel_rfl) (by kernel_rfl) ?_ (fun a w hF hS => ?_)
    · exact obs_nil
    refine cond_ev (t := 28) (b := ((r1 == 0) || (r2 == 0)) || (decide ((12 : Int) < (w64 (r1 * r2))))) hF (by kernel_rfl) (fun hb => ?_) (fun hb => ?_)
    · replace hm := if_t hm hb
      refine reg [] [] [4, 5] [pl 4 (.slice none 0 0), pl 5 (.int .i64 2)] hF hS Fol (by kernel_rfl) (by kernel_rfl) (by kernel_rfl) ?_ (fun a w hF hS => ?_)
      · exact obs_nil
      refine wpIn_ret ?_
      refine then_r ?_
      have hS : Sep w0 B w (own 3 (.slice none 0 0) (vI ([] : List Int)) :: fs) := hS.nil 3
      have hl1 := (hS.at_ 0 rfl).len1
      have hS := (hS.at_ 0 rfl).reN hl1
      have hS : Sep w0 B w (own 3 (.slice none (([] : List Int).length) 0) (vI ([] : List Int)) :: fs) := hS
      have hm : some (([] : List Int), 2) = some r := hm
      obtain rfl := Option.some.inj hm
      exact retV (rs := [.tmp 4, .tmp 5]) (vs := [.slice none (([] : List Int).length) 0, .int .i64 2]) hF rfl (rv_t (by kernel_rfl) <| rv_t (by kernel_rfl) <| rv_nil) rfl ⟨_, rfl, none, 0, rfl, hS⟩
    · replace hm := if_f hm hb
      refine wpIn_skip ?_
      refine then_n ?_
      exact ⟨hF.weak [0, 1, 6, 7] (by kernel_rfl), hS, hm⟩

noncomputable def gameroomref_MagicSide_J2  (n2 : Int) : Option (St Int Int) :=
  some (.next (w64 (n2 + 1)))

noncomputable def gameroomref_MagicSide_J3  (n3 : Int) : Option Int :=
  some n3

noncomputable def gameroomref_MagicSide_J1  (l1 : List Int) (n3 : Int) : Option Int :=
  if (((w64 (n3 * n3)) != (l1.length : Int)) || (decide ((12 : Int) < n3))) then (some 0) else ((gameroomref_MagicSide_J3 n3))

noncomputable def gameroomref_MagicSide_K1  (l1 : List Int) : Int → Option Int :=
  fun (x : Int) => match x with | n3 => (gameroomref_MagicSide_J1 l1) n3

noncomputable def gameroomref_MagicSide_L1  (l1 : List Int) : Int → Option (St Int Int) :=
  fun (x : Int) => match x with | n2 => if (decide ((w64 (n2 * n2)) < (l1.length : Int))) then ((gameroomref_MagicSide_J2 n2)) else (some (.done n2))

noncomputable def gameroomref_MagicSide_m  (l1 : List Int) : Option Int :=
  (loop (gameroomref_MagicSide_L1 l1) 1).bind (gameroomref_MagicSide_K1 l1)

set_option maxRecDepth 100000 in
set_option maxHeartbeats 4000000 in
theorem gameroomref_MagicSide_w  {A1 : Option Addr} {c1 : Nat} {n1 : Nat} {l1 : List Int} {r : Int} {w0 w : World} {B : Nat} {fs : List HP} (hm : gameroomref_MagicSide_m l1 = some r) (hS : Sep w0 B w (fs)) (hr_l1 : RdF w0 B fs A1 (vI l1)) (_hc_l1 : l1.length ≤ c1) (_hn_l1 : n1 = l1.length) :
    Calls Try.prog 56 #[.slice A1 n1 c1] w fun e w' => e = .returned (.int .i64 r) ∧ Sep w0 B w' (fs) := by
  obtain ⟨i3, hi3, hz3, hs3, hb3⟩ := info_parts Info3
  obtain rfl := _hn_l1
  unfold gameroomref_MagicSide_m at hm
  replace hm := start_b hm
  refine enter (l := [.slice A1 l1.length c1]) (n := 23) Try.func56 rfl rfl (by simp) (fun a hF => ?_)
  refine reg [] [] [0] [pl 0 (.slice A1 l1.length c1)] hF hS Fol (by kernel_rfl) (by kernel_rfl) (by kernel_rfl) ?_ (fun a w hF hS => ?_)
  · exact obs_nil
  refine reg [] [] [0, 3] [pl 0 (.slice A1 l1.length c1), pl 3 (.int .i64 1)] hF hS Fol (by kernel_rfl) (by kernel_rfl) (by kernel_rfl) ?_ (fun a w hF hS => ?_)
  · exact obs_nil
  refine seq_cut (fun a w => ∃ (n3 : Int), Fr 23 [pl 0 (.slice A1 l1.length c1), pl 3 (.int .i64 n3)] a ∧ Sep w0 B w (fs) ∧ ((gameroomref_MagicSide_J1 l1) n3).bind some = some r) ?_ ?_
  · rintro a w ⟨n3, hF, hS, hm⟩
    unfold gameroomref_MagicSide_J1 at hm
    refine seq_cut (fun a w => Fr 23 [pl 3 (.int .i64 n3)] a ∧ Sep w0 B w (fs) ∧ ((gameroomref_MagicSide_J3 n3)).bind some = some r) ?_ ?_
    · rintro a w ⟨hF, hS, hm⟩
      unfold gameroomref_MagicSide_J3 at hm
      refine reg [] [] [2] [pl 2 (.int .i64 n3)] hF hS Fol (by kernel_rfl) (by kernel_rfl) (by kernel_rfl) ?_ (fun a w hF hS => ?_)
      · exact obs_nil
      refine wpIn_ret ?_
      have hm : some n3 = some r := hm
      obtain rfl := Option.some.inj hm
      exact retV (rs := [.tmp 2]) (vs := [.int .i64 n3]) hF rfl (rv_t (by kernel_rfl) <| rv_nil) rfl ⟨rfl, hS⟩
    · refine reg [] [] [3, 21] [pl 3 (.int .i64 n3), pl 21 (.bool (((w64 (n3 * n3)) != (l1.length : Int)) || (decide ((12 : Int) < n3))))] hF hS Fol (by kernel_rfl) (by kernel_rfl) (by kernel_rfl) ?_ (fun a w hF hS => ?_)
      · exact obs_nil
      refine cond_ev (t := 21) (b := ((w64 (n3 * n3)) != (l1.length : Int)) || (decide ((12 : Int) < n3))) hF (by kernel_rfl) (fun hb => ?_) (fun hb => ?_)
      · replace hm := if_t hm hb
        refine reg [] [] [2] [pl 2 (.int .i64 0)] hF hS Fol (by kernel_rfl) (by kernel_rfl) (by kernel_rfl) ?_ (fun a w hF hS => ?_)
        · exact obs_nil
        refine wpIn_ret ?_
        refine then_r ?_
        have hm : some 0 = some r := hm
        obtain rfl := Option.some.inj hm
        exact retV (rs := [.tmp 2]) (vs := [.int .i64 0]) hF rfl (rv_t (by kernel_rfl) <| rv_nil) rfl ⟨rfl, hS⟩
      · replace hm := if_f hm hb
        refine wpIn_skip ?_
        refine then_n ?_
        exact ⟨hF.weak [3] (by kernel_rfl), hS, hm⟩
  · refine wpIn_block ?_
    refine wp_loop_model (S := Int) (R := Int) (gameroomref_MagicSide_L1 l1) (fun x => ((gameroomref_MagicSide_K1 l1) x).bind some) r (fun (x : Int) a w => Fr 23 [pl 0 (.slice A1 l1.length c1), pl 3 (.int .i64 x)] a ∧ Sep w0 B w (fs)) (assoc_b hm) ⟨hF.weak [0, 3] (by kernel_rfl), hS⟩ ?_
    clear hF hS hm
    rintro nn1 n2 a w ⟨hF, hS⟩ hm
    generalize hφ1 : stK (gameroomref_MagicSide_L1 l1) nn1 (fun x => ((gameroomref_MagicSide_K1 l1) x).bind some) = φ1 at hm
    unfold gameroomref_MagicSide_L1 at hm
    dsimp only at hm
    refine seq_cut (fun a w => Fr 23 [pl 0 (.slice A1 l1.length c1), pl 3 (.int .i64 n2)] a ∧ Sep w0 B w (fs) ∧ ((gameroomref_MagicSide_J2 n2)).bind φ1 = some r) ?_ ?_
    · rintro a w ⟨hF, hS, hm⟩
      unfold gameroomref_MagicSide_J2 at hm
      refine wpIn_block ?_
      refine reg1 [] [] [0, 3] [pl 0 (.slice A1 l1.length c1), pl 3 (.int .i64 (w64 (n2 + 1)))] hF hS Fol (by kernel_rfl) (by kernel_rfl) (by kernel_rfl) ?_ (fun a w hF hS => ?_)
      · exact obs_nil
      refine block_n ?_
      refine then_n ?_
      rw [← hφ1] at hm
      exact ⟨(w64 (n2 + 1)), ⟨hF.weak [0, 3] (by kernel_rfl), hS⟩, hm⟩
    · refine reg [] [] [0, 3, 9] [pl 0 (.slice A1 l1.length c1), pl 3 (.int .i64 n2), pl 9 (.bool (decide ((w64 (n2 * n2)) < (l1.length : Int))))] hF hS Fol (by kernel_rfl) (by kernel_rfl) (by kernel_rfl) ?_ (fun a w hF hS => ?_)
      · exact obs_nil
      refine cond_ev (t := 9) (b := decide ((w64 (n2 * n2)) < (l1.length : Int))) hF (by kernel_rfl) (fun hb => ?_) (fun hb => ?_)
      · replace hm := if_t hm hb
        refine wpIn_skip ?_
        refine then_n ?_
        exact ⟨hF.weak [0, 3] (by kernel_rfl), hS, hm⟩
      · replace hm := if_f hm hb
        refine wpIn_exit ?_
        refine then_e (then_e (block_e (then_n ?_)))
        rw [← hφ1] at hm
        replace hm := done_b hm
        unfold gameroomref_MagicSide_K1 at hm
        try dsimp only at hm
        have hm : ((gameroomref_MagicSide_J1 l1) n2).bind some = some r := hm
        exact ⟨n2, hF.weak [0, 3] (by kernel_rfl), hS, hm⟩

noncomputable def gameroomref_MagicKind_J3  (l1 : List Int) (want1 : Int) (x1 : Int) : Option (St (Int × Int) Int) :=
  some (.next ((w64 (want1 + (geti l1 x1))), (w64 (x1 + 1))))

noncomputable def gameroomref_MagicKind_J2  (l1 : List Int) (want1 : Int) (x1 : Int) : Option (St (Int × Int) Int) :=
  asrt (0 ≤ x1 ∧ x1 < (l1.length : Int)) <| (gameroomref_MagicKind_J3 l1 want1 x1)

noncomputable def gameroomref_MagicKind_J9  (l1 : List Int) (r1 : Int) (k1 : Int) (row1 : Int) (column1 : Int) (i1 : Int) : Option (St (Int × Int × Int) (Int × Int)) :=
  some (.next ((w64 (row1 + (geti l1 (w64 ((w64 (k1 * r1)) + i1))))), (w64 (column1 + (geti l1 (w64 ((w64 (i1 * r1)) + k1))))), (w64 (i1 + 1))))

noncomputable def gameroomref_MagicKind_J8  (l1 : List Int) (r1 : Int) (k1 : Int) (row1 : Int) (column1 : Int) (i1 : Int) : Option (St (Int × Int × Int) (Int × Int)) :=
  asrt (0 ≤ (w64 ((w64 (k1 * r1)) + i1)) ∧ (w64 ((w64 (k1 * r1)) + i1)) < (l1.length : Int)) <| asrt (0 ≤ (w64 ((w64 (i1 * r1)) + k1)) ∧ (w64 ((w64 (i1 * r1)) + k1)) < (l1.length : Int)) <| (gameroomref_MagicKind_J9 l1 r1 k1 row1 column1 i1)

noncomputable def gameroomref_MagicKind_L3  (l1 : List Int) (r1 : Int) (k1 : Int) : (Int × Int × Int) → Option (St (Int × Int × Int) (Int × Int)) :=
  fun (x : (Int × Int × Int)) => match x with | (row1, column1, i1) => if (decide (i1 < r1)) then ((gameroomref_MagicKind_J8 l1 r1 k1 row1 column1 i1)) else (some (.done (row1, column1)))

noncomputable def gameroomref_MagicKind_J6  (k1 : Int) : Option (St Int (Fl Unit (Int × Int))) :=
  some (.next (w64 (k1 + 1)))

noncomputable def gameroomref_MagicKind_J7  (want2 : Int) (k1 : Int) (row2 : Int) (column2 : Int) : Option (St Int (Fl Unit (Int × Int))) :=
  if ((row2 != want2) || (column2 != want2)) then (some (.done (.ret (0, 0)))) else ((gameroomref_MagicKind_J6 k1))

noncomputable def gameroomref_MagicKind_K3  (want2 : Int) (k1 : Int) : (Int × Int) → Option (St Int (Fl Unit (Int × Int))) :=
  fun (x : (Int × Int)) => match x with | (row2, column2) => (gameroomref_MagicKind_J7 want2 k1) row2 column2

noncomputable def gameroomref_MagicKind_J5  (l1 : List Int) (r1 : Int) (want2 : Int) (k1 : Int) : Option (St Int (Fl Unit (Int × Int))) :=
  (loop (gameroomref_MagicKind_L3 l1 r1 k1) (0, 0, 0)).bind (gameroomref_MagicKind_K3 want2 k1)

noncomputable def gameroomref_MagicKind_L2  (l1 : List Int) (r1 : Int) (want2 : Int) : Int → Option (St Int (Fl Unit (Int × Int))) :=
  fun (x : Int) => match x with | k1 => if (decide (k1 < r1)) then ((gameroomref_MagicKind_J5 l1 r1 want2 k1)) else (some (.done (.go ())))

noncomputable def gameroomref_MagicKind_J15  (l1 : List Int) (r1 : Int) (k2 : Int) (one1 : Int) (two1 : Int) (i2 : Int) : Option (St (Int × Int × Int) (Int × Int)) :=
  some (.next ((w64 (one1 + (geti l1 (w64 ((w64 (i2 * r1)) + (Int.tmod (w64 (i2 + k2)) r1)))))), (w64 (two1 + (geti l1 (w64 ((w64 (i2 * r1)) + (Int.tmod (w64 ((w64 ((w64 (r1 - 1)) - i2)) + k2)) r1)))))), (w64 (i2 + 1))))

noncomputable def gameroomref_MagicKind_J14  (l1 : List Int) (r1 : Int) (k2 : Int) (one1 : Int) (two1 : Int) (i2 : Int) : Option (St (Int × Int × Int) (Int × Int)) :=
  asrt (r1 ≠ (0 : Int)) <| asrt (0 ≤ (w64 ((w64 (i2 * r1)) + (Int.tmod (w64 (i2 + k2)) r1))) ∧ (w64 ((w64 (i2 * r1)) + (Int.tmod (w64 (i2 + k2)) r1))) < (l1.length : Int)) <| asrt (r1 ≠ (0 : Int)) <| asrt (0 ≤ (w64 ((w64 (i2 * r1)) + (Int.tmod (w64 ((w64 ((w64 (r1 - 1)) - i2)) + k2)) r1))) ∧ (w64 ((w64 (i2 * r1)) + (Int.tmod (w64 ((w64 ((w64 (r1 - 1)) - i2)) + k2)) r1))) < (l1.length : Int)) <| (gameroomref_MagicKind_J15 l1 r1 k2 one1 two1 i2)

noncomputable def gameroomref_MagicKind_L5  (l1 : List Int) (r1 : Int) (k2 : Int) : (Int × Int × Int) → Option (St (Int × Int × Int) (Int × Int)) :=
  fun (x : (Int × Int × Int)) => match x with | (one1, two1, i2) => if (decide (i2 < r1)) then ((gameroomref_MagicKind_J14 l1 r1 k2 one1 two1 i2)) else (some (.done (one1, two1)))

noncomputable def gameroomref_MagicKind_J12  (k2 : Int) (kind3 : Int) : Option (St (Int × Int) Int) :=
  some (.next (kind3, (w64 (k2 - 1))))

noncomputable def gameroomref_MagicKind_J13  (want2 : Int) (kind1 : Int) (k2 : Int) (one2 : Int) (two2 : Int) : Option (St (Int × Int) Int) :=
  if ((one2 != want2) || (two2 != want2)) then (if (k2 == 0) then ((gameroomref_MagicKind_J12 k2) 1) else ((gameroomref_MagicKind_J12 k2) 2)) else ((gameroomref_MagicKind_J12 k2) kind1)

noncomputable def gameroomref_MagicKind_K5  (want2 : Int) (kind1 : Int) (k2 : Int) : (Int × Int) → Option (St (Int × Int) Int) :=
  fun (x : (Int × Int)) => match x with | (one2, two2) => (gameroomref_MagicKind_J13 want2 kind1 k2) one2 two2

noncomputable def gameroomref_MagicKind_J11  (l1 : List Int) (r1 : Int) (want2 : Int) (kind1 : Int) (k2 : Int) : Option (St (Int × Int) Int) :=
  (loop (gameroomref_MagicKind_L5 l1 r1 k2) (0, 0, 0)).bind (gameroomref_MagicKind_K5 want2 kind1 k2)

noncomputable def gameroomref_MagicKind_L4  (l1 : List Int) (r1 : Int) (want2 : Int) : (Int × Int) → Option (St (Int × Int) Int) :=
  fun (x : (Int × Int)) => match x with | (kind1, k2) => if (decide ((0 : Int) ≤ k2)) then ((gameroomref_MagicKind_J11 l1 r1 want2 kind1 k2)) else (some (.done kind1))

noncomputable def gameroomref_MagicKind_J10  (want2 : Int) (kind2 : Int) : Option (Int × Int) :=
  some (kind2, want2)

noncomputable def gameroomref_MagicKind_K4  (want2 : Int) : Int → Option (Int × Int) :=
  fun (x : Int) => match x with | kind2 => (gameroomref_MagicKind_J10 want2) kind2

noncomputable def gameroomref_MagicKind_J4  (l1 : List Int) (r1 : Int) (want2 : Int) : Option (Int × Int) :=
  (loop (gameroomref_MagicKind_L4 l1 r1 want2) (3, (w64 (r1 - 1)))).bind (gameroomref_MagicKind_K4 want2)

noncomputable def gameroomref_MagicKind_K2  (l1 : List Int) (r1 : Int) (want2 : Int) : (Fl Unit (Int × Int)) → Option (Int × Int) :=
  fun (x : (Fl Unit (Int × Int))) => match x with | .go _ => (gameroomref_MagicKind_J4 l1 r1 want2) | .ret x => some x

noncomputable def gameroomref_MagicKind_J1  (l1 : List Int) (r1 : Int) (want2 : Int) : Option (Int × Int) :=
  (loop (gameroomref_MagicKind_L2 l1 r1 want2) 0).bind (gameroomref_MagicKind_K2 l1 r1 want2)

noncomputable def gameroomref_MagicKind_K1  (l1 : List Int) (r1 : Int) : Int → Option (Int × Int) :=
  fun (x : Int) => match x with | want2 => (gameroomref_MagicKind_J1 l1 r1) want2

noncomputable def gameroomref_MagicKind_L1  (l1 : List Int) (r1 : Int) : (Int × Int) → Option (St (Int × Int) Int) :=
  fun (x : (Int × Int)) => match x with | (want1, x1) => if (decide (x1 < r1)) then ((gameroomref_MagicKind_J2 l1 want1 x1)) else (some (.done want1))

noncomputable def gameroomref_MagicKind_m  (l1 : List Int) : Option (Int × Int) :=
  (gameroomref_MagicSide_m l1).bind fun r1 => (loop (gameroomref_MagicKind_L1 l1 r1) (0, 0)).bind (gameroomref_MagicKind_K1 l1 r1)

set_option maxRecDepth 100000 in
set_option maxHeartbeats 4000000 in
theorem gameroomref_MagicKind_w  {A1 : Option Addr} {c1 : Nat} {n1 : Nat} {l1 : List Int} {r : (Int × Int)} {w0 w : World} {B : Nat} {fs : List HP} (hm : gameroomref_MagicKind_m l1 = some r) (hS : Sep w0 B w (fs)) (hr_l1 : RdF w0 B fs A1 (vI l1)) (_hc_l1 : l1.length ≤ c1) (_hn_l1 : n1 = l1.length) :
    Calls Try.prog 57 #[.slice A1 n1 c1] w fun e w' => e = .returned (.tuple #[.int .i64 r.1, .int .i64 r.2]) ∧ Sep w0 B w' (fs) := by
  obtain ⟨i3, hi3, hz3, hs3, hb3⟩ := info_parts Info3
  obtain rfl := _hn_l1
  unfold gameroomref_MagicKind_m at hm
  replace hm := start_b hm
  refine enter (l := [.slice A1 l1.length c1]) (n := 121) Try.func57 rfl rfl (by simp) (fun a hF => ?_)
  refine reg [] [] [0] [pl 0 (.slice A1 l1.length c1)] hF hS Fol (by kernel_rfl) (by kernel_rfl) (by kernel_rfl) ?_ (fun a w hF hS => ?_)
  · exact obs_nil
  obtain ⟨r1, hr1, hm⟩ := call_b hm
  refine reg [⟨false, [], callFunc 56 #[.slice A1 l1.length c1], .int .i64 r1⟩] [none, some (.int .i64 r1), none] [0, 4] [pl 0 (.slice A1 l1.length c1), pl 4 (.int .i64 r1)] hF hS Fol (by kernel_rfl) (by kernel_rfl) (by kernel_rfl) ?_ (fun a w hF hS => ?_)
  · exact obs_cons (ob_call Try.func56 (by kernel_rfl) rfl (fun _ _ hS => gameroomref_MagicSide_w hr1 hS (fun _ hS => (hr_l1 _ (hS.dropN 0))) _hc_l1 rfl)) <| obs_nil
  refine reg [] [] [0, 4, 5] [pl 0 (.slice A1 l1.length c1), pl 4 (.int .i64 r1), pl 5 (.int .i64 0)] hF hS Fol (by kernel_rfl) (by kernel_rfl) (by kernel_rfl) ?_ (fun a w hF hS => ?_)
  · exact obs_nil
  refine seq_cut (fun a w => ∃ (want2 : Int), Fr 121 [pl 0 (.slice A1 l1.length c1), pl 4 (.int .i64 r1), pl 5 (.int .i64 want2)] a ∧ Sep w0 B w (fs) ∧ ((gameroomref_MagicKind_J1 l1 r1) want2).bind some = some r) ?_ ?_
  · rintro a w ⟨want2, hF, hS, hm⟩
    unfold gameroomref_MagicKind_J1 at hm
    refine seq_cut (fun a w => Fr 121 [pl 0 (.slice A1 l1.length c1), pl 4 (.int .i64 r1), pl 5 (.int .i64 want2)] a ∧ Sep w0 B w (fs) ∧ ((gameroomref_MagicKind_J4 l1 r1 want2)).bind some = some r) ?_ ?_
    · rintro a w ⟨hF, hS, hm⟩
      unfold gameroomref_MagicKind_J4 at hm
      refine reg [] [] [0, 4, 5, 11] [pl 0 (.slice A1 l1.length c1), pl 4 (.int .i64 r1), pl 5 (.int .i64 want2), pl 11 (.int .i64 3)] hF hS Fol (by kernel_rfl) (by kernel_rfl) (by kernel_rfl) ?_ (fun a w hF hS => ?_)
      · exact obs_nil
      refine seq_cut (fun a w => ∃ (kind2 : Int), Fr 121 [pl 5 (.int .i64 want2), pl 11 (.int .i64 kind2)] a ∧ Sep w0 B w (fs) ∧ ((gameroomref_MagicKind_J10 want2) kind2).bind some = some r) ?_ ?_
      · rintro a w ⟨kind2, hF, hS, hm⟩
        unfold gameroomref_MagicKind_J10 at hm
        refine reg [] [] [2, 3] [pl 2 (.int .i64 kind2), pl 3 (.int .i64 want2)] hF hS Fol (by kernel_rfl) (by kernel_rfl) (by kernel_rfl) ?_ (fun a w hF hS => ?_)
        · exact obs_nil
        refine wpIn_ret ?_
        have hm : some (kind2, want2) = some r := hm
        obtain rfl := Option.some.inj hm
        exact retV (rs := [.tmp 2, .tmp 3]) (vs := [.int .i64 kind2, .int .i64 want2]) hF rfl (rv_t (by kernel_rfl) <| rv_t (by kernel_rfl) <| rv_nil) rfl ⟨rfl, hS⟩
      · refine reg [] [] [0, 4, 5, 11, 12] [pl 0 (.slice A1 l1.length c1), pl 4 (.int .i64 r1), pl 5 (.int .i64 want2), pl 11 (.int .i64 3), pl 12 (.int .i64 (w64 (r1 - 1)))] hF hS Fol (by kernel_rfl) (by kernel_rfl) (by kernel_rfl) ?_ (fun a w hF hS => ?_)
        · exact obs_nil
        refine wpIn_block ?_
        refine wp_loop_model (S := (Int × Int)) (R := Int) (gameroomref_MagicKind_L4 l1 r1 want2) (fun x => ((gameroomref_MagicKind_K4 want2) x).bind some) r (fun (x : (Int × Int)) a w => Fr 121 [pl 0 (.slice A1 l1.length c1), pl 4 (.int .i64 r1), pl 5 (.int .i64 want2), pl 11 (.int .i64 x.1), pl 12 (.int .i64 x.2)] a ∧ Sep w0 B w (fs)) (assoc_b hm) ⟨hF.weak [0, 4, 5, 11, 12] (by kernel_rfl), hS⟩ ?_
        clear hF hS hm
        rintro nn4 ⟨kind1, k2⟩ a w ⟨hF, hS⟩ hm
        generalize hφ4 : stK (gameroomref_MagicKind_L4 l1 r1 want2) nn4 (fun x => ((gameroomref_MagicKind_K4 want2) x).bind some) = φ4 at hm
        unfold gameroomref_MagicKind_L4 at hm
        dsimp only at hF hS hm
        refine seq_cut (fun a w => Fr 121 [pl 0 (.slice A1 l1.length c1), pl 4 (.int .i64 r1), pl 5 (.int .i64 want2), pl 11 (.int .i64 kind1), pl 12 (.int .i64 k2)] a ∧ Sep w0 B w (fs) ∧ ((gameroomref_MagicKind_J11 l1 r1 want2 kind1 k2)).bind φ4 = some r) ?_ ?_
        · rintro a w ⟨hF, hS, hm⟩
          unfold gameroomref_MagicKind_J11 at hm
          refine seq_cut (fun a w => ∃ (kind3 : Int), Fr 121 [pl 0 (.slice A1 l1.length c1), pl 4 (.int .i64 r1), pl 5 (.int .i64 want2), pl 11 (.int .i64 kind3), pl 12 (.int .i64 k2)] a ∧ Sep w0 B w (fs) ∧ ((gameroomref_MagicKind_J12 k2) kind3).bind φ4 = some r) ?_ ?_
          · rintro a w ⟨kind3, hF, hS, hm⟩
            unfold gameroomref_MagicKind_J12 at hm
            refine reg1 [] [] [0, 4, 5, 11, 12] [pl 0 (.slice A1 l1.length c1), pl 4 (.int .i64 r1), pl 5 (.int .i64 want2), pl 11 (.int .i64 kind3), pl 12 (.int .i64 (w64 (k2 - 1)))] hF hS Fol (by kernel_rfl) (by kernel_rfl) (by kernel_rfl) ?_ (fun a w hF hS => ?_)
            · exact obs_nil
            refine then_n ?_
            rw [← hφ4] at hm
            exact ⟨(kind3, (w64 (k2 - 1))), ⟨hF.weak [0, 4, 5, 11, 12] (by kernel_rfl), hS⟩, hm⟩
          · refine wpIn_block ?_
            refine reg [] [] [0, 4, 5, 11, 12, 13, 14] [pl 0 (.slice A1 l1.length c1), pl 4 (.int .i64 r1), pl 5 (.int .i64 want2), pl 11 (.int .i64 kind1), pl 12 (.int .i64 k2), pl 13 (.int .i64 0), pl 14 (.int .i64 0)] hF hS Fol (by kernel_rfl) (by kernel_rfl) (by kernel_rfl) ?_ (fun a w hF hS => ?_)
            · exact obs_nil
            refine seq_cut (fun a w => ∃ (one2 : Int) (two2 : Int), Fr 121 [pl 0 (.slice A1 l1.length c1), pl 4 (.int .i64 r1), pl 5 (.int .i64 want2), pl 11 (.int .i64 kind1), pl 12 (.int .i64 k2), pl 13 (.int .i64 one2), pl 14 (.int .i64 two2)] a ∧ Sep w0 B w (fs) ∧ ((gameroomref_MagicKind_J13 want2 kind1 k2) one2 two2).bind φ4 = some r) ?_ ?_
            · rintro a w ⟨one2, two2, hF, hS, hm⟩
              unfold gameroomref_MagicKind_J13 at hm
              refine reg [] [] [0, 4, 5, 11, 12, 116] [pl 0 (.slice A1 l1.length c1), pl 4 (.int .i64 r1), pl 5 (.int .i64 want2), pl 11 (.int .i64 kind1), pl 12 (.int .i64 k2), pl 116 (.bool ((one2 != want2) || (two2 != want2)))] hF hS Fol (by kernel_rfl) (by kernel_rfl) (by kernel_rfl) ?_ (fun a w hF hS => ?_)
              · exact obs_nil
              refine cond_ev (t := 116) (b := (one2 != want2) || (two2 != want2)) hF (by kernel_rfl) (fun hb => ?_) (fun hb => ?_)
              · replace hm := if_t hm hb
                refine reg [] [] [0, 4, 5, 11, 12] [pl 0 (.slice A1 l1.length c1), pl 4 (.int .i64 r1), pl 5 (.int .i64 want2), pl 11 (.int .i64 2), pl 12 (.int .i64 k2)] hF hS Fol (by kernel_rfl) (by kernel_rfl) (by kernel_rfl) ?_ (fun a w hF hS => ?_)
                · exact obs_nil
                refine reg [] [] [0, 4, 5, 11, 12, 118] [pl 0 (.slice A1 l1.length c1), pl 4 (.int .i64 r1), pl 5 (.int .i64 want2), pl 11 (.int .i64 2), pl 12 (.int .i64 k2), pl 118 (.bool (k2 == 0))] hF hS Fol (by kernel_rfl) (by kernel_rfl) (by kernel_rfl) ?_ (fun a w hF hS => ?_)
                · exact obs_nil
                refine cond_ev (t := 118) (b := (k2 == 0)) hF (by kernel_rfl) (fun hb => ?_) (fun hb => ?_)
                · replace hm := if_t hm hb
                  refine reg1 [] [] [0, 4, 5, 11, 12] [pl 0 (.slice A1 l1.length c1), pl 4 (.int .i64 r1), pl 5 (.int .i64 want2), pl 11 (.int .i64 1), pl 12 (.int .i64 k2)] hF hS Fol (by kernel_rfl) (by kernel_rfl) (by kernel_rfl) ?_ (fun a w hF hS => ?_)
                  · exact obs_nil
                  refine block_n ?_
                  refine then_n ?_
                  exact ⟨1, hF.weak [0, 4, 5, 11, 12] (by kernel_rfl), hS, hm⟩
                · replace hm := if_f hm hb
                  refine wpIn_skip ?_
                  refine block_n ?_
                  refine then_n ?_
                  exact ⟨2, hF.weak [0, 4, 5, 11, 12] (by kernel_rfl), hS, hm⟩
              · replace hm := if_f hm hb
                refine wpIn_skip ?_
                refine block_n ?_
                refine then_n ?_
                exact ⟨kind1, hF.weak [0, 4, 5, 11, 12] (by kernel_rfl), hS, hm⟩
            · refine reg [] [] [0, 4, 5, 11, 12, 13, 14, 15] [pl 0 (.slice A1 l1.length c1), pl 4 (.int .i64 r1), pl 5 (.int .i64 want2), pl 11 (.int .i64 kind1), pl 12 (.int .i64 k2), pl 13 (.int .i64 0), pl 14 (.int .i64 0), pl 15 (.int .i64 0)] hF hS Fol (by kernel_rfl) (by kernel_rfl) (by kernel_rfl) ?_ (fun a w hF hS => ?_)
              · exact obs_nil
              refine wpIn_block ?_
              refine wp_loop_model (S := (Int × Int × Int)) (R := (Int × Int)) (gameroomref_MagicKind_L5 l1 r1 k2) (fun x => ((gameroomref_MagicKind_K5 want2 kind1 k2) x).bind φ4) r (fun (x : (Int × Int × Int)) a w => Fr 121 [pl 0 (.slice A1 l1.length c1), pl 4 (.int .i64 r1), pl 5 (.int .i64 want2), pl 11 (.int .i64 kind1), pl 12 (.int .i64 k2), pl 13 (.int .i64 x.1), pl 14 (.int .i64 x.2.1), pl 15 (.int .i64 x.2.2)] a ∧ Sep w0 B w (fs)) (assoc_b hm) ⟨hF.weak [0, 4, 5, 11, 12, 13, 14, 15] (by kernel_rfl), hS⟩ ?_
              clear hF hS hm
              rintro nn5 ⟨one1, two1, i2⟩ a w ⟨hF, hS⟩ hm
              generalize hφ5 : stK (gameroomref_MagicKind_L5 l1 r1 k2) nn5 (fun x => ((gameroomref_MagicKind_K5 want2 kind1 k2) x).bind φ4) = φ5 at hm
              unfold gameroomref_MagicKind_L5 at hm
              dsimp only at hF hS hm
              refine seq_cut (fun a w => Fr 121 [pl 0 (.slice A1 l1.length c1), pl 4 (.int .i64 r1), pl 5 (.int .i64 want2), pl 11 (.int .i64 kind1), pl 12 (.int .i64 k2), pl 13 (.int .i64 one1), pl 14 (.int .i64 two1), pl 15 (.int .i64 i2)] a ∧ Sep w0 B w (fs) ∧ ((gameroomref_MagicKind_J14 l1 r1 k2 one1 two1 i2)).bind φ5 = some r) ?_ ?_
              · rintro a w ⟨hF, hS, hm⟩
                unfold gameroomref_MagicKind_J14 at hm
                refine seq_cut (fun a w => Fr 121 [pl 0 (.slice A1 l1.length c1), pl 4 (.int .i64 r1), pl 5 (.int .i64 want2), pl 11 (.int .i64 kind1), pl 12 (.int .i64 k2), pl 13 (.int .i64 (w64 (one1 + (geti l1 (w64 ((w64 (i2 * r1)) + (Int.tmod (w64 (i2 + k2)) r1))))))), pl 14 (.int .i64 (w64 (two1 + (geti l1 (w64 ((w64 (i2 * r1)) + (Int.tmod (w64 ((w64 ((w64 (r1 - 1)) - i2)) + k2)) r1))))))), pl 15 (.int .i64 i2)] a ∧ Sep w0 B w (fs) ∧ ((gameroomref_MagicKind_J15 l1 r1 k2 one1 two1 i2)).bind φ5 = some r) ?_ ?_
                · rintro a w ⟨hF, hS, hm⟩
                  unfold gameroomref_MagicKind_J15 at hm
                  refine reg1 [] [] [0, 4, 5, 11, 12, 13, 14, 15] [pl 0 (.slice A1 l1.length c1), pl 4 (.int .i64 r1), pl 5 (.int .i64 want2), pl 11 (.int .i64 kind1), pl 12 (.int .i64 k2), pl 13 (.int .i64 (w64 (one1 + (geti l1 (w64 ((w64 (i2 * r1)) + (Int.tmod (w64 (i2 + k2)) r1))))))), pl 14 (.int .i64 (w64 (two1 + (geti l1 (w64 ((w64 (i2 * r1)) + (Int.tmod (w64 ((w64 ((w64 (r1 - 1)) - i2)) + k2)) r1))))))), pl 15 (.int .i64 (w64 (i2 + 1)))] hF hS Fol (by kernel_rfl) (by kernel_rfl) (by kernel_rfl) ?_ (fun a w hF hS => ?_)
                  · exact obs_nil
                  refine then_n ?_
                  rw [← hφ5] at hm
                  exact ⟨((w64 (one1 + (geti l1 (w64 ((w64 (i2 * r1)) + (Int.tmod (w64 (i2 + k2)) r1)))))), (w64 (two1 + (geti l1 (w64 ((w64 (i2 * r1)) + (Int.tmod (w64 ((w64 ((w64 (r1 - 1)) - i2)) + k2)) r1)))))), (w64 (i2 + 1))), ⟨hF.weak [0, 4, 5, 11, 12, 13, 14, 15] (by kernel_rfl), hS⟩, hm⟩
                · refine wpIn_block ?_
                  obtain ⟨hp4, hm⟩ := asrt_b hm
                  obtain ⟨hp5, hm⟩ := asrt_b hm
                  refine reg [⟨true, [], vS (Op.intDiv .rem .i64 (w64 (i2 + k2)) r1), .int .i64 (Int.tmod (w64 (i2 + k2)) r1)⟩, ⟨true, [], vS (Instr.indexAt 22 (.slice A1 l1.length c1) (.int .i64 (w64 ((w64 (i2 * r1)) + (Int.tmod (w64 (i2 + k2)) r1))))), .pointer (some (sAddr A1 (w64 ((w64 (i2 * r1)) + (Int.tmod (w64 (i2 + k2)) r1)))))⟩, ⟨false, [], vS (Instr.loadAt 3 (.pointer (some (sAddr A1 (w64 ((w64 (i2 * r1)) + (Int.tmod (w64 (i2 + k2)) r1))))))), .int .i64 (geti l1 (w64 ((w64 (i2 * r1)) + (Int.tmod (w64 (i2 + k2)) r1))))⟩] [none, none, none, none, none, none, none, none, none, some (.int .i64 (Int.tmod (w64 (i2 + k2)) r1)), none, some (.pointer (some (sAddr A1 (w64 ((w64 (i2 * r1)) + (Int.tmod (w64 (i2 + k2)) r1)))))), some (.int .i64 (geti l1 (w64 ((w64 (i2 * r1)) + (Int.tmod (w64 (i2 + k2)) r1))))), none, none] [0, 4, 5, 11, 12, 13, 14, 15] [pl 0 (.slice A1 l1.length c1), pl 4 (.int .i64 r1), pl 5 (.int .i64 want2), pl 11 (.int .i64 kind1), pl 12 (.int .i64 k2), pl 13 (.int .i64 (w64 (one1 + (geti l1 (w64 ((w64 (i2 * r1)) + (Int.tmod (w64 (i2 + k2)) r1))))))), pl 14 (.int .i64 two1), pl 15 (.int .i64 i2)] hF hS Fol (by kernel_rfl) (by kernel_rfl) (by kernel_rfl) ?_ (fun a w hF hS => ?_)
                  · exact obs_cons (ob_rem rfl (fun _ => hp4)) <| obs_cons (ob_ix1 (f := (Value.int .i64)) (m := l1) Und22 hi3 hs3 (hr_l1 _ (hS.dropN 0)) rfl (fun _ => hp5)) <| obs_cons (ob_get1 (n := l1.length) (m := l1) (Value.int .i64) (0 : Int) Agg3 (fun _ hS => ⟨_, (hr_l1 _ (hS.dropN 0))⟩) (fun _ hS => rfl) (fun _ => hp5)) <| obs_nil
                  obtain ⟨hp6, hm⟩ := asrt_b hm
                  obtain ⟨hp7, hm⟩ := asrt_b hm
                  refine reg1 [⟨true, [], vS (Op.intDiv .rem .i64 (w64 ((w64 ((w64 (r1 - 1)) - i2)) + k2)) r1), .int .i64 (Int.tmod (w64 ((w64 ((w64 (r1 - 1)) - i2)) + k2)) r1)⟩, ⟨true, [], vS (Instr.indexAt 22 (.slice A1 l1.length c1) (.int .i64 (w64 ((w64 (i2 * r1)) + (Int.tmod (w64 ((w64 ((w64 (r1 - 1)) - i2)) + k2)) r1))))), .pointer (some (sAddr A1 (w64 ((w64 (i2 * r1)) + (Int.tmod (w64 ((w64 ((w64 (r1 - 1)) - i2)) + k2)) r1)))))⟩, ⟨false, [], vS (Instr.loadAt 3 (.pointer (some (sAddr A1 (w64 ((w64 (i2 * r1)) + (Int.tmod (w64 ((w64 ((w64 (r1 - 1)) - i2)) + k2)) r1))))))), .int .i64 (geti l1 (w64 ((w64 (i2 * r1)) + (Int.tmod (w64 ((w64 ((w64 (r1 - 1)) - i2)) + k2)) r1))))⟩] [none, none, none, none, none, none, none, none, none, none, none, none, some (.int .i64 (Int.tmod (w64 ((w64 ((w64 (r1 - 1)) - i2)) + k2)) r1)), none, some (.pointer (some (sAddr A1 (w64 ((w64 (i2 * r1)) + (Int.tmod (w64 ((w64 ((w64 (r1 - 1)) - i2)) + k2)) r1)))))), some (.int .i64 (geti l1 (w64 ((w64 (i2 * r1)) + (Int.tmod (w64 ((w64 ((w64 (r1 - 1)) - i2)) + k2)) r1))))), none, none] [0, 4, 5, 11, 12, 13, 14, 15] [pl 0 (.slice A1 l1.length c1), pl 4 (.int .i64 r1), pl 5 (.int .i64 want2), pl 11 (.int .i64 kind1), pl 12 (.int .i64 k2), pl 13 (.int .i64 (w64 (one1 + (geti l1 (w64 ((w64 (i2 * r1)) + (Int.tmod (w64 (i2 + k2)) r1))))))), pl 14 (.int .i64 (w64 (two1 + (geti l1 (w64 ((w64 (i2 * r1)) + (Int.tmod (w64 ((w64 ((w64 (r1 - 1)) - i2)) + k2)) r1))))))), pl 15 (.int .i64 i2)] hF hS Fol (by kernel_rfl) (by kernel_rfl) (by kernel_rfl) ?_ (fun a w hF hS => ?_)
                  · exact obs_cons (ob_rem rfl (fun _ => hp6)) <| obs_cons (ob_ix1 (f := (Value.int .i64)) (m := l1) Und22 hi3 hs3 (hr_l1 _ (hS.dropN 0)) rfl (fun _ => hp7)) <| obs_cons (ob_get1 (n := l1.length) (m := l1) (Value.int .i64) (0 : Int) Agg3 (fun _ hS => ⟨_, (hr_l1 _ (hS.dropN 0))⟩) (fun _ hS => rfl) (fun _ => hp7)) <| obs_nil
                  refine block_n ?_
                  refine then_n ?_
                  exact ⟨hF.weak [0, 4, 5, 11, 12, 13, 14, 15] (by kernel_rfl), hS, hm⟩
              · refine reg [] [] [0, 4, 5, 11, 12, 13, 14, 15, 75] [pl 0 (.slice A1 l1.length c1), pl 4 (.int .i64 r1), pl 5 (.int .i64 want2), pl 11 (.int .i64 kind1), pl 12 (.int .i64 k2), pl 13 (.int .i64 one1), pl 14 (.int .i64 two1), pl 15 (.int .i64 i2), pl 75 (.bool (decide (i2 < r1)))] hF hS Fol (by kernel_rfl) (by kernel_rfl) (by kernel_rfl) ?_ (fun a w hF hS => ?_)
                · exact obs_nil
                refine cond_ev (t := 75) (b := decide (i2 < r1)) hF (by kernel_rfl) (fun hb => ?_) (fun hb => ?_)
                · replace hm := if_t hm hb
                  refine wpIn_skip ?_
                  refine then_n ?_
                  exact ⟨hF.weak [0, 4, 5, 11, 12, 13, 14, 15] (by kernel_rfl), hS, hm⟩
                · replace hm := if_f hm hb
                  refine wpIn_exit ?_
                  refine then_e (then_e (block_e (then_n ?_)))
                  rw [← hφ5] at hm
                  replace hm := done_b hm
                  unfold gameroomref_MagicKind_K5 at hm
                  try dsimp only at hm
                  have hm : ((gameroomref_MagicKind_J13 want2 kind1 k2) one1 two1).bind φ4 = some r := hm
                  exact ⟨one1, two1, hF.weak [0, 4, 5, 11, 12, 13, 14] (by kernel_rfl), hS, hm⟩
        · refine reg [] [] [0, 4, 5, 11, 12, 70] [pl 0 (.slice A1 l1.length c1), pl 4 (.int .i64 r1), pl 5 (.int .i64 want2), pl 11 (.int .i64 kind1), pl 12 (.int .i64 k2), pl 70 (.bool (decide ((0 : Int) ≤ k2)))] hF hS Fol (by kernel_rfl) (by kernel_rfl) (by kernel_rfl) ?_ (fun a w hF hS => ?_)
          · exact obs_nil
          refine cond_ev (t := 70) (b := decide ((0 : Int) ≤ k2)) hF (by kernel_rfl) (fun hb => ?_) (fun hb => ?_)
          · replace hm := if_t hm hb
            refine wpIn_skip ?_
            refine then_n ?_
            exact ⟨hF.weak [0, 4, 5, 11, 12] (by kernel_rfl), hS, hm⟩
          · replace hm := if_f hm hb
            refine wpIn_exit ?_
            refine then_e (then_e (block_e (then_n ?_)))
            rw [← hφ4] at hm
            replace hm := done_b hm
            unfold gameroomref_MagicKind_K4 at hm
            try dsimp only at hm
            have hm : ((gameroomref_MagicKind_J10 want2) kind1).bind some = some r := hm
            exact ⟨kind1, hF.weak [5, 11] (by kernel_rfl), hS, hm⟩
    · refine reg [] [] [0, 4, 5, 7] [pl 0 (.slice A1 l1.length c1), pl 4 (.int .i64 r1), pl 5 (.int .i64 want2), pl 7 (.int .i64 0)] hF hS Fol (by kernel_rfl) (by kernel_rfl) (by kernel_rfl) ?_ (fun a w hF hS => ?_)
      · exact obs_nil
      refine wpIn_block ?_
      refine wp_loop_model (S := Int) (R := (Fl Unit (Int × Int))) (gameroomref_MagicKind_L2 l1 r1 want2) (fun x => ((gameroomref_MagicKind_K2 l1 r1 want2) x).bind some) r (fun (x : Int) a w => Fr 121 [pl 0 (.slice A1 l1.length c1), pl 4 (.int .i64 r1), pl 5 (.int .i64 want2), pl 7 (.int .i64 x)] a ∧ Sep w0 B w (fs)) (assoc_b hm) ⟨hF.weak [0, 4, 5, 7] (by kernel_rfl), hS⟩ ?_
      clear hF hS hm
      rintro nn2 k1 a w ⟨hF, hS⟩ hm
      generalize hφ2 : stK (gameroomref_MagicKind_L2 l1 r1 want2) nn2 (fun x => ((gameroomref_MagicKind_K2 l1 r1 want2) x).bind some) = φ2 at hm
      unfold gameroomref_MagicKind_L2 at hm
      dsimp only at hm
      refine seq_cut (fun a w => Fr 121 [pl 0 (.slice A1 l1.length c1), pl 4 (.int .i64 r1), pl 5 (.int .i64 want2), pl 7 (.int .i64 k1)] a ∧ Sep w0 B w (fs) ∧ ((gameroomref_MagicKind_J5 l1 r1 want2 k1)).bind φ2 = some r) ?_ ?_
      · rintro a w ⟨hF, hS, hm⟩
        unfold gameroomref_MagicKind_J5 at hm
        refine seq_cut (fun a w => Fr 121 [pl 0 (.slice A1 l1.length c1), pl 4 (.int .i64 r1), pl 5 (.int .i64 want2), pl 7 (.int .i64 k1)] a ∧ Sep w0 B w (fs) ∧ ((gameroomref_MagicKind_J6 k1)).bind φ2 = some r) ?_ ?_
        · rintro a w ⟨hF, hS, hm⟩
          unfold gameroomref_MagicKind_J6 at hm
          refine reg1 [] [] [0, 4, 5, 7] [pl 0 (.slice A1 l1.length c1), pl 4 (.int .i64 r1), pl 5 (.int .i64 want2), pl 7 (.int .i64 (w64 (k1 + 1)))] hF hS Fol (by kernel_rfl) (by kernel_rfl) (by kernel_rfl) ?_ (fun a w hF hS => ?_)
          · exact obs_nil
          refine then_n ?_
          rw [← hφ2] at hm
          exact ⟨(w64 (k1 + 1)), ⟨hF.weak [0, 4, 5, 7] (by kernel_rfl), hS⟩, hm⟩
        · refine wpIn_block ?_
          refine reg [] [] [0, 4, 5, 7, 8, 9] [pl 0 (.slice A1 l1.length c1), pl 4 (.int .i64 r1), pl 5 (.int .i64 want2), pl 7 (.int .i64 k1), pl 8 (.int .i64 0), pl 9 (.int .i64 0)] hF hS Fol (by kernel_rfl) (by kernel_rfl) (by kernel_rfl) ?_ (fun a w hF hS => ?_)
          · exact obs_nil
          refine seq_cut (fun a w => ∃ (row2 : Int) (column2 : Int), Fr 121 [pl 0 (.slice A1 l1.length c1), pl 4 (.int .i64 r1), pl 5 (.int .i64 want2), pl 7 (.int .i64 k1), pl 8 (.int .i64 row2), pl 9 (.int .i64 column2)] a ∧ Sep w0 B w (fs) ∧ ((gameroomref_MagicKind_J7 want2 k1) row2 column2).bind φ2 = some r) ?_ ?_
          · rintro a w ⟨row2, column2, hF, hS, hm⟩
            unfold gameroomref_MagicKind_J7 at hm
            refine reg [] [] [0, 4, 5, 7, 66] [pl 0 (.slice A1 l1.length c1), pl 4 (.int .i64 r1), pl 5 (.int .i64 want2), pl 7 (.int .i64 k1), pl 66 (.bool ((row2 != want2) || (column2 != want2)))] hF hS Fol (by kernel_rfl) (by kernel_rfl) (by kernel_rfl) ?_ (fun a w hF hS => ?_)
            · exact obs_nil
            refine cond_ev (t := 66) (b := (row2 != want2) || (column2 != want2)) hF (by kernel_rfl) (fun hb => ?_) (fun hb => ?_)
            · replace hm := if_t hm hb
              refine reg [] [] [2, 3] [pl 2 (.int .i64 0), pl 3 (.int .i64 0)] hF hS Fol (by kernel_rfl) (by kernel_rfl) (by kernel_rfl) ?_ (fun a w hF hS => ?_)
              · exact obs_nil
              refine wpIn_ret ?_
              refine block_r (then_r (then_r (block_r (then_r ?_))))
              rw [← hφ2] at hm
              replace hm := done_b hm
              unfold gameroomref_MagicKind_K2 at hm
              try dsimp only at hm
              have hm : some (0, 0) = some r := hm
              obtain rfl := Option.some.inj hm
              exact retV (rs := [.tmp 2, .tmp 3]) (vs := [.int .i64 0, .int .i64 0]) hF rfl (rv_t (by kernel_rfl) <| rv_t (by kernel_rfl) <| rv_nil) rfl ⟨rfl, hS⟩
            · replace hm := if_f hm hb
              refine wpIn_skip ?_
              refine block_n ?_
              refine then_n ?_
              exact ⟨hF.weak [0, 4, 5, 7] (by kernel_rfl), hS, hm⟩
          · refine reg [] [] [0, 4, 5, 7, 8, 9, 10] [pl 0 (.slice A1 l1.length c1), pl 4 (.int .i64 r1), pl 5 (.int .i64 want2), pl 7 (.int .i64 k1), pl 8 (.int .i64 0), pl 9 (.int .i64 0), pl 10 (.int .i64 0)] hF hS Fol (by kernel_rfl) (by kernel_rfl) (by kernel_rfl) ?_ (fun a w hF hS => ?_)
            · exact obs_nil
            refine wpIn_block ?_
            refine wp_loop_model (S := (Int × Int × Int)) (R := (Int × Int)) (gameroomref_MagicKind_L3 l1 r1 k1) (fun x => ((gameroomref_MagicKind_K3 want2 k1) x).bind φ2) r (fun (x : (Int × Int × Int)) a w => Fr 121 [pl 0 (.slice A1 l1.length c1), pl 4 (.int .i64 r1), pl 5 (.int .i64 want2), pl 7 (.int .i64 k1), pl 8 (.int .i64 x.1), pl 9 (.int .i64 x.2.1), pl 10 (.int .i64 x.2.2)] a ∧ Sep w0 B w (fs)) (assoc_b hm) ⟨hF.weak [0, 4, 5, 7, 8, 9, 10] (by kernel_rfl), hS⟩ ?_
            clear hF hS hm
            rintro nn3 ⟨row1, column1, i1⟩ a w ⟨hF, hS⟩ hm
            generalize hφ3 : stK (gameroomref_MagicKind_L3 l1 r1 k1) nn3 (fun x => ((gameroomref_MagicKind_K3 want2 k1) x).bind φ2) = φ3 at hm
            unfold gameroomref_MagicKind_L3 at hm
            dsimp only at hF hS hm
            refine seq_cut (fun a w => Fr 121 [pl 0 (.slice A1 l1.length c1), pl 4 (.int .i64 r1), pl 5 (.int .i64 want2), pl 7 (.int .i64 k1), pl 8 (.int .i64 row1), pl 9 (.int .i64 column1), pl 10 (.int .i64 i1)] a ∧ Sep w0 B w (fs) ∧ ((gameroomref_MagicKind_J8 l1 r1 k1 row1 column1 i1)).bind φ3 = some r) ?_ ?_
            · rintro a w ⟨hF, hS, hm⟩
              unfold gameroomref_MagicKind_J8 at hm
              refine seq_cut (fun a w => Fr 121 [pl 0 (.slice A1 l1.length c1), pl 4 (.int .i64 r1), pl 5 (.int .i64 want2), pl 7 (.int .i64 k1), pl 8 (.int .i64 (w64 (row1 + (geti l1 (w64 ((w64 (k1 * r1)) + i1)))))), pl 9 (.int .i64 (w64 (column1 + (geti l1 (w64 ((w64 (i1 * r1)) + k1)))))), pl 10 (.int .i64 i1)] a ∧ Sep w0 B w (fs) ∧ ((gameroomref_MagicKind_J9 l1 r1 k1 row1 column1 i1)).bind φ3 = some r) ?_ ?_
              · rintro a w ⟨hF, hS, hm⟩
                unfold gameroomref_MagicKind_J9 at hm
                refine reg1 [] [] [0, 4, 5, 7, 8, 9, 10] [pl 0 (.slice A1 l1.length c1), pl 4 (.int .i64 r1), pl 5 (.int .i64 want2), pl 7 (.int .i64 k1), pl 8 (.int .i64 (w64 (row1 + (geti l1 (w64 ((w64 (k1 * r1)) + i1)))))), pl 9 (.int .i64 (w64 (column1 + (geti l1 (w64 ((w64 (i1 * r1)) + k1)))))), pl 10 (.int .i64 (w64 (i1 + 1)))] hF hS Fol (by kernel_rfl) (by kernel_rfl) (by kernel_rfl) ?_ (fun a w hF hS => ?_)
                · exact obs_nil
                refine then_n ?_
                rw [← hφ3] at hm
                exact ⟨((w64 (row1 + (geti l1 (w64 ((w64 (k1 * r1)) + i1))))), (w64 (column1 + (geti l1 (w64 ((w64 (i1 * r1)) + k1))))), (w64 (i1 + 1))), ⟨hF.weak [0, 4, 5, 7, 8, 9, 10] (by kernel_rfl), hS⟩, hm⟩
              · refine wpIn_block ?_
                obtain ⟨hp2, hm⟩ := asrt_b hm
                refine reg [⟨true, [], vS (Instr.indexAt 22 (.slice A1 l1.length c1) (.int .i64 (w64 ((w64 (k1 * r1)) + i1)))), .pointer (some (sAddr A1 (w64 ((w64 (k1 * r1)) + i1))))⟩, ⟨false, [], vS (Instr.loadAt 3 (.pointer (some (sAddr A1 (w64 ((w64 (k1 * r1)) + i1)))))), .int .i64 (geti l1 (w64 ((w64 (k1 * r1)) + i1)))⟩] [none, none, none, none, none, none, none, some (.pointer (some (sAddr A1 (w64 ((w64 (k1 * r1)) + i1))))), some (.int .i64 (geti l1 (w64 ((w64 (k1 * r1)) + i1)))), none, none] [0, 4, 5, 7, 8, 9, 10] [pl 0 (.slice A1 l1.length c1), pl 4 (.int .i64 r1), pl 5 (.int .i64 want2), pl 7 (.int .i64 k1), pl 8 (.int .i64 (w64 (row1 + (geti l1 (w64 ((w64 (k1 * r1)) + i1)))))), pl 9 (.int .i64 column1), pl 10 (.int .i64 i1)] hF hS Fol (by kernel_rfl) (by kernel_rfl) (by kernel_rfl) ?_ (fun a w hF hS => ?_)
                · exact obs_cons (ob_ix1 (f := (Value.int .i64)) (m := l1) Und22 hi3 hs3 (hr_l1 _ (hS.dropN 0)) rfl (fun _ => hp2)) <| obs_cons (ob_get1 (n := l1.length) (m := l1) (Value.int .i64) (0 : Int) Agg3 (fun _ hS => ⟨_, (hr_l1 _ (hS.dropN 0))⟩) (fun _ hS => rfl) (fun _ => hp2)) <| obs_nil
                obtain ⟨hp3, hm⟩ := asrt_b hm
                refine reg1 [⟨true, [], vS (Instr.indexAt 22 (.slice A1 l1.length c1) (.int .i64 (w64 ((w64 (i1 * r1)) + k1)))), .pointer (some (sAddr A1 (w64 ((w64 (i1 * r1)) + k1))))⟩, ⟨false, [], vS (Instr.loadAt 3 (.pointer (some (sAddr A1 (w64 ((w64 (i1 * r1)) + k1)))))), .int .i64 (geti l1 (w64 ((w64 (i1 * r1)) + k1)))⟩] [none, none, none, none, none, none, none, some (.pointer (some (sAddr A1 (w64 ((w64 (i1 * r1)) + k1))))), some (.int .i64 (geti l1 (w64 ((w64 (i1 * r1)) + k1)))), none, none] [0, 4, 5, 7, 8, 9, 10] [pl 0 (.slice A1 l1.length c1), pl 4 (.int .i64 r1), pl 5 (.int .i64 want2), pl 7 (.int .i64 k1), pl 8 (.int .i64 (w64 (row1 + (geti l1 (w64 ((w64 (k1 * r1)) + i1)))))), pl 9 (.int .i64 (w64 (column1 + (geti l1 (w64 ((w64 (i1 * r1)) + k1)))))), pl 10 (.int .i64 i1)] hF hS Fol (by kernel_rfl) (by kernel_rfl) (by kernel_rfl) ?_ (fun a w hF hS => ?_)
                · exact obs_cons (ob_ix1 (f := (Value.int .i64)) (m := l1) Und22 hi3 hs3 (hr_l1 _ (hS.dropN 0)) rfl (fun _ => hp3)) <| obs_cons (ob_get1 (n := l1.length) (m := l1) (Value.int .i64) (0 : Int) Agg3 (fun _ hS => ⟨_, (hr_l1 _ (hS.dropN 0))⟩) (fun _ hS => rfl) (fun _ => hp3)) <| obs_nil
                refine block_n ?_
                refine then_n ?_
                exact ⟨hF.weak [0, 4, 5, 7, 8, 9, 10] (by kernel_rfl), hS, hm⟩
            · refine reg [] [] [0, 4, 5, 7, 8, 9, 10, 36] [pl 0 (.slice A1 l1.length c1), pl 4 (.int .i64 r1), pl 5 (.int .i64 want2), pl 7 (.int .i64 k1), pl 8 (.int .i64 row1), pl 9 (.int .i64 column1), pl 10 (.int .i64 i1), pl 36 (.bool (decide (i1 < r1)))] hF hS Fol (by kernel_rfl) (by kernel_rfl) (by kernel_rfl) ?_ (fun a w hF hS => ?_)
              · exact obs_nil
              refine cond_ev (t := 36) (b := decide (i1 < r1)) hF (by kernel_rfl) (fun hb => ?_) (fun hb => ?_)
              · replace hm := if_t hm hb
                refine wpIn_skip ?_
                refine then_n ?_
                exact ⟨hF.weak [0, 4, 5, 7, 8, 9, 10] (by kernel_rfl), hS, hm⟩
              · replace hm := if_f hm hb
                refine wpIn_exit ?_
                refine then_e (then_e (block_e (then_n ?_)))
                rw [← hφ3] at hm
                replace hm := done_b hm
                unfold gameroomref_MagicKind_K3 at hm
                try dsimp only at hm
                have hm : ((gameroomref_MagicKind_J7 want2 k1) row1 column1).bind φ2 = some r := hm
                exact ⟨row1, column1, hF.weak [0, 4, 5, 7, 8, 9] (by kernel_rfl), hS, hm⟩
      · refine reg [] [] [0, 4, 5, 7, 31] [pl 0 (.slice A1 l1.length c1), pl 4 (.int .i64 r1), pl 5 (.int .i64 want2), pl 7 (.int .i64 k1), pl 31 (.bool (decide (k1 < r1)))] hF hS Fol (by kernel_rfl) (by kernel_rfl) (by kernel_rfl) ?_ (fun a w hF hS => ?_)
        · exact obs_nil
        refine cond_ev (t := 31) (b := decide (k1 < r1)) hF (by kernel_rfl) (fun hb => ?_) (fun hb => ?_)
        · replace hm := if_t hm hb
          refine wpIn_skip ?_
          refine then_n ?_
          exact ⟨hF.weak [0, 4, 5, 7] (by kernel_rfl), hS, hm⟩
        · replace hm := if_f hm hb
          refine wpIn_exit ?_
          refine then_e (then_e (block_e (then_n ?_)))
          rw [← hφ2] at hm
          replace hm := done_b hm
          unfold gameroomref_MagicKind_K2 at hm
          try dsimp only at hm
          have hm : ((gameroomref_MagicKind_J4 l1 r1 want2)).bind some = some r := hm
          exact ⟨hF.weak [0, 4, 5] (by kernel_rfl), hS, hm⟩
  · refine reg [] [] [0, 4, 5, 6] [pl 0 (.slice A1 l1.length c1), pl 4 (.int .i64 r1), pl 5 (.int .i64 0), pl 6 (.int .i64 0)] hF hS Fol (by kernel_rfl) (by kernel_rfl) (by kernel_rfl) ?_ (fun a w hF hS => ?_)
    · exact obs_nil
    refine wpIn_block ?_
    refine wp_loop_model (S := (Int × Int)) (R := Int) (gameroomref_MagicKind_L1 l1 r1) (fun x => ((gameroomref_MagicKind_K1 l1 r1) x).bind some) r (fun (x : (Int × Int)) a w => Fr 121 [pl 0 (.slice A1 l1.length c1), pl 4 (.int .i64 r1), pl 5 (.int .i64 x.1), pl 6 (.int .i64 x.2)] a ∧ Sep w0 B w (fs)) (assoc_b hm) ⟨hF.weak [0, 4, 5, 6] (by kernel_rfl), hS⟩ ?_
    clear hF hS hm
    rintro nn1 ⟨want1, x1⟩ a w ⟨hF, hS⟩ hm
    generalize hφ1 : stK (gameroomref_MagicKind_L1 l1 r1) nn1 (fun x => ((gameroomref_MagicKind_K1 l1 r1) x).bind some) = φ1 at hm
    unfold gameroomref_MagicKind_L1 at hm
    dsimp only at hF hS hm
    refine seq_cut (fun a w => Fr 121 [pl 0 (.slice A1 l1.length c1), pl 4 (.int .i64 r1), pl 5 (.int .i64 want1), pl 6 (.int .i64 x1)] a ∧ Sep w0 B w (fs) ∧ ((gameroomref_MagicKind_J2 l1 want1 x1)).bind φ1 = some r) ?_ ?_
    · rintro a w ⟨hF, hS, hm⟩
      unfold gameroomref_MagicKind_J2 at hm
      refine seq_cut (fun a w => Fr 121 [pl 0 (.slice A1 l1.length c1), pl 4 (.int .i64 r1), pl 5 (.int .i64 (w64 (want1 + (geti l1 x1)))), pl 6 (.int .i64 x1)] a ∧ Sep w0 B w (fs) ∧ ((gameroomref_MagicKind_J3 l1 want1 x1)).bind φ1 = some r) ?_ ?_
      · rintro a w ⟨hF, hS, hm⟩
        unfold gameroomref_MagicKind_J3 at hm
        refine reg1 [] [] [0, 4, 5, 6] [pl 0 (.slice A1 l1.length c1), pl 4 (.int .i64 r1), pl 5 (.int .i64 (w64 (want1 + (geti l1 x1)))), pl 6 (.int .i64 (w64 (x1 + 1)))] hF hS Fol (by kernel_rfl) (by kernel_rfl) (by kernel_rfl) ?_ (fun a w hF hS => ?_)
        · exact obs_nil
        refine then_n ?_
        rw [← hφ1] at hm
        exact ⟨((w64 (want1 + (geti l1 x1))), (w64 (x1 + 1))), ⟨hF.weak [0, 4, 5, 6] (by kernel_rfl), hS⟩, hm⟩
      · refine wpIn_block ?_
        obtain ⟨hp1, hm⟩ := asrt_b hm
        refine reg1 [⟨true, [], vS (Instr.indexAt 22 (.slice A1 l1.length c1) (.int .i64 x1)), .pointer (some (sAddr A1 x1))⟩, ⟨false, [], vS (Instr.loadAt 3 (.pointer (some (sAddr A1 x1)))), .int .i64 (geti l1 x1)⟩] [none, none, none, some (.pointer (some (sAddr A1 x1))), some (.int .i64 (geti l1 x1)), none, none] [0, 4, 5, 6] [pl 0 (.slice A1 l1.length c1), pl 4 (.int .i64 r1), pl 5 (.int .i64 (w64 (want1 + (geti l1 x1)))), pl 6 (.int .i64 x1)] hF hS Fol (by kernel_rfl) (by kernel_rfl) (by kernel_rfl) ?_ (fun a w hF hS => ?_)
        · exact obs_cons (ob_ix1 (f := (Value.int .i64)) (m := l1) Und22 hi3 hs3 (hr_l1 _ (hS.dropN 0)) rfl (fun _ => hp1)) <| obs_cons (ob_get1 (n := l1.length) (m := l1) (Value.int .i64) (0 : Int) Agg3 (fun _ hS => ⟨_, (hr_l1 _ (hS.dropN 0))⟩) (fun _ hS => rfl) (fun _ => hp1)) <| obs_nil
        refine block_n ?_
        refine then_n ?_
        exact ⟨hF.weak [0, 4, 5, 6] (by kernel_rfl), hS, hm⟩
    · refine reg [] [] [0, 4, 5, 6, 20] [pl 0 (.slice A1 l1.length c1), pl 4 (.int .i64 r1), pl 5 (.int .i64 want1), pl 6 (.int .i64 x1), pl 20 (.bool (decide (x1 < r1)))] hF hS Fol (by kernel_rfl) (by kernel_rfl) (by kernel_rfl) ?_ (fun a w hF hS => ?_)
      · exact obs_nil
      refine cond_ev (t := 20) (b := decide (x1 < r1)) hF (by kernel_rfl) (fun hb => ?_) (fun hb => ?_)
      · replace hm := if_t hm hb
        refine wpIn_skip ?_
        refine then_n ?_
        exact ⟨hF.weak [0, 4, 5, 6] (by kernel_rfl), hS, hm⟩
      · replace hm := if_f hm hb
        refine wpIn_exit ?_
        refine then_e (then_e (block_e (then_n ?_)))
        rw [← hφ1] at hm
        replace hm := done_b hm
        unfold gameroomref_MagicKind_K1 at hm
        try dsimp only at hm
        have hm : ((gameroomref_MagicKind_J1 l1 r1) want1).bind some = some r := hm
        exact ⟨want1, hF.weak [0, 4, 5] (by kernel_rfl), hS, hm⟩

noncomputable def gameroomref_lessInts_J3  (i1 : Int) : Option (St Int (Fl Unit Bool)) :=
  some (.next (w64 (i1 + 1)))

noncomputable def gameroomref_lessInts_J2  (a1 : List Int) (b1 : List Int) (i1 : Int) : Option (St Int (Fl Unit Bool)) :=
  asrt (0 ≤ i1 ∧ i1 < (a1.length : Int)) <| asrt (0 ≤ i1 ∧ i1 < (b1.length : Int)) <| if ((geti a1 i1) != (geti b1 i1)) then (asrt (0 ≤ i1 ∧ i1 < (a1.length : Int)) <| asrt (0 ≤ i1 ∧ i1 < (b1.length : Int)) <| some (.done (.ret (decide ((geti a1 i1) < (geti b1 i1)))))) else ((gameroomref_lessInts_J3 i1))

noncomputable def gameroomref_lessInts_J1  (a1 : List Int) (b1 : List Int) : Option Bool :=
  some (decide ((a1.length : Int) < (b1.length : Int)))

noncomputable def gameroomref_lessInts_K1  (a1 : List Int) (b1 : List Int) : (Fl Unit Bool) → Option Bool :=
  fun (x : (Fl Unit Bool)) => match x with | .go _ => (gameroomref_lessInts_J1 a1 b1) | .ret x => some x

noncomputable def gameroomref_lessInts_L1  (a1 : List Int) (b1 : List Int) : Int → Option (St Int (Fl Unit Bool)) :=
  fun (x : Int) => match x with | i1 => if ((decide (i1 < (a1.length : Int))) && (decide (i1 < (b1.length : Int)))) then ((gameroomref_lessInts_J2 a1 b1 i1)) else (some (.done (.go ())))

noncomputable def gameroomref_lessInts_m  (a1 : List Int) (b1 : List Int) : Option Bool :=
  (loop (gameroomref_lessInts_L1 a1 b1) 0).bind (gameroomref_lessInts_K1 a1 b1)

set_option maxRecDepth 100000 in
set_option maxHeartbeats 4000000 in
theorem gameroomref_lessInts_w  {A1 : Option Addr} {c1 : Nat} {n1 : Nat} {a1 : List Int} {A2 : Option Addr} {c2 : Nat} {n2 : Nat} {b1 : List Int} {r : Bool} {w0 w : World} {B : Nat} {fs : List HP} (hm : gameroomref_lessInts_m a1 b1 = some r) (hS : Sep w0 B w (fs)) (hr_a1 : RdF w0 B fs A1 (vI a1)) (_hc_a1 : a1.length ≤ c1) (_hn_a1 : n1 = a1.length) (hr_b1 : RdF w0 B fs A2 (vI b1)) (_hc_b1 : b1.length ≤ c2) (_hn_b1 : n2 = b1.length) :
    Calls Try.prog 200 #[.slice A1 n1 c1, .slice A2 n2 c2] w fun e w' => e = .returned (.bool r) ∧ Sep w0 B w' (fs) := by
  obtain ⟨i3, hi3, hz3, hs3, hb3⟩ := info_parts Info3
  obtain rfl := _hn_a1
  obtain rfl := _hn_b1
  unfold gameroomref_lessInts_m at hm
  replace hm := start_b hm
  refine enter (l := [.slice A1 a1.length c1, .slice A2 b1.length c2]) (n := 41) Try.func200 rfl rfl (by simp) (fun a hF => ?_)
  refine reg [] [] [0, 1] [pl 0 (.slice A1 a1.length c1), pl 1 (.slice A2 b1.length c2)] hF hS Fol (by kernel_rfl) (by kernel_rfl) (by kernel_rfl) ?_ (fun a w hF hS => ?_)
  · exact obs_nil
  refine seq_cut (fun a w => Fr 41 [pl 0 (.slice A1 a1.length c1), pl 1 (.slice A2 b1.length c2)] a ∧ Sep w0 B w (fs) ∧ ((gameroomref_lessInts_J1 a1 b1)).bind some = some r) ?_ ?_
  · rintro a w ⟨hF, hS, hm⟩
    unfold gameroomref_lessInts_J1 at hm
    refine reg [] [] [4] [pl 4 (.bool (decide ((a1.length : Int) < (b1.length : Int))))] hF hS Fol (by kernel_rfl) (by kernel_rfl) (by kernel_rfl) ?_ (fun a w hF hS => ?_)
    · exact obs_nil
    refine wpIn_ret ?_
    have hm : some (decide ((a1.length : Int) < (b1.length : Int))) = some r := hm
    obtain rfl := Option.some.inj hm
    exact retV (rs := [.tmp 4]) (vs := [.bool (decide ((a1.length : Int) < (b1.length : Int)))]) hF rfl (rv_t (by kernel_rfl) <| rv_nil) rfl ⟨rfl, hS⟩
  · refine reg [] [] [0, 1, 5] [pl 0 (.slice A1 a1.length c1), pl 1 (.slice A2 b1.length c2), pl 5 (.int .i64 0)] hF hS Fol (by kernel_rfl) (by kernel_rfl) (by kernel_rfl) ?_ (fun a w hF hS => ?_)
    · exact obs_nil
    refine wpIn_block ?_
    refine wp_loop_model (S := Int) (R := (Fl Unit Bool)) (gameroomref_lessInts_L1 a1 b1) (fun x => ((gameroomref_lessInts_K1 a1 b1) x).bind some) r (fun (x : Int) a w => Fr 41 [pl 0 (.slice A1 a1.length c1), pl 1 (.slice A2 b1.length c2), pl 5 (.int .i64 x)] a ∧ Sep w0 B w (fs)) (assoc_b hm) ⟨hF.weak [0, 1, 5] (by kernel_rfl), hS⟩ ?_
    clear hF hS hm
    rintro nn1 i1 a w ⟨hF, hS⟩ hm
    generalize hφ1 : stK (gameroomref_lessInts_L1 a1 b1) nn1 (fun x => ((gameroomref_lessInts_K1 a1 b1) x).bind some) = φ1 at hm
    unfold gameroomref_lessInts_L1 at hm
    dsimp only at hm
    refine seq_cut (fun a w => Fr 41 [pl 0 (.slice A1 a1.length c1), pl 1 (.slice A2 b1.length c2), pl 5 (.int .i64 i1)] a ∧ Sep w0 B w (fs) ∧ ((gameroomref_lessInts_J2 a1 b1 i1)).bind φ1 = some r) ?_ ?_
    · rintro a w ⟨hF, hS, hm⟩
      unfold gameroomref_lessInts_J2 at hm
      refine seq_cut (fun a w => Fr 41 [pl 0 (.slice A1 a1.length c1), pl 1 (.slice A2 b1.length c2), pl 5 (.int .i64 i1)] a ∧ Sep w0 B w (fs) ∧ ((gameroomref_lessInts_J3 i1)).bind φ1 = some r) ?_ ?_
      · rintro a w ⟨hF, hS, hm⟩
        unfold gameroomref_lessInts_J3 at hm
        refine reg1 [] [] [0, 1, 5] [pl 0 (.slice A1 a1.length c1), pl 1 (.slice A2 b1.length c2), pl 5 (.int .i64 (w64 (i1 + 1)))] hF hS Fol (by kernel_rfl) (by kernel_rfl) (by kernel_rfl) ?_ (fun a w hF hS => ?_)
        · exact obs_nil
        refine then_n ?_
        rw [← hφ1] at hm
        exact ⟨(w64 (i1 + 1)), ⟨hF.weak [0, 1, 5] (by kernel_rfl), hS⟩, hm⟩
      · refine wpIn_block ?_
        obtain ⟨hp1, hm⟩ := asrt_b hm
        obtain ⟨hp2, hm⟩ := asrt_b hm
        refine reg [⟨true, [], vS (Instr.indexAt 22 (.slice A1 a1.length c1) (.int .i64 i1)), .pointer (some (sAddr A1 i1))⟩, ⟨false, [], vS (Instr.loadAt 3 (.pointer (some (sAddr A1 i1)))), .int .i64 (geti a1 i1)⟩, ⟨true, [], vS (Instr.indexAt 22 (.slice A2 b1.length c2) (.int .i64 i1)), .pointer (some (sAddr A2 i1))⟩, ⟨false, [], vS (Instr.loadAt 3 (.pointer (some (sAddr A2 i1)))), .int .i64 (geti b1 i1)⟩] [none, none, some (.pointer (some (sAddr A1 i1))), some (.int .i64 (geti a1 i1)), none, none, some (.pointer (some (sAddr A2 i1))), some (.int .i64 (geti b1 i1)), none] [0, 1, 5, 26] [pl 0 (.slice A1 a1.length c1), pl 1 (.slice A2 b1.length c2), pl 5 (.int .i64 i1), pl 26 (.bool ((geti a1 i1) != (geti b1 i1)))] hF hS Fol (by kernel_rfl) (by kernel_rfl) (by kernel_rfl) ?_ (fun a w hF hS => ?_)
        · exact obs_cons (ob_ix1 (f := (Value.int .i64)) (m := a1) Und22 hi3 hs3 (hr_a1 _ (hS.dropN 0)) rfl (fun _ => hp1)) <| obs_cons (ob_get1 (n := a1.length) (m := a1) (Value.int .i64) (0 : Int) Agg3 (fun _ hS => ⟨_, (hr_a1 _ (hS.dropN 0))⟩) (fun _ hS => rfl) (fun _ => hp1)) <| obs_cons (ob_ix1 (f := (Value.int .i64)) (m := b1) Und22 hi3 hs3 (hr_b1 _ (hS.dropN 0)) rfl (fun _ => hp2)) <| obs_cons (ob_get1 (n := b1.length) (m := b1) (Value.int .i64) (0 : Int) Agg3 (fun _ hS => ⟨_, (hr_b1 _ (hS.dropN 0))⟩) (fun _ hS => rfl) (fun _ => hp2)) <| obs_nil
        refine cond_ev (t := 26) (b := ((geti a1 i1) != (geti b1 i1))) hF (by kernel_rfl) (fun hb => ?_) (fun hb => ?_)
        · replace hm := if_t hm hb
          obtain ⟨hp3, hm⟩ := asrt_b hm
          obtain ⟨hp4, hm⟩ := asrt_b hm
          refine reg [⟨true, [], vS (Instr.indexAt 22 (.slice A1 a1.length c1) (.int .i64 i1)), .pointer (some (sAddr A1 i1))⟩, ⟨false, [], vS (Instr.loadAt 3 (.pointer (some (sAddr A1 i1)))), .int .i64 (geti a1 i1)⟩, ⟨true, [], vS (Instr.indexAt 22 (.slice A2 b1.length c2) (.int .i64 i1)), .pointer (some (sAddr A2 i1))⟩, ⟨false, [], vS (Instr.loadAt 3 (.pointer (some (sAddr A2 i1)))), .int .i64 (geti b1 i1)⟩] [none, none, some (.pointer (some (sAddr A1 i1))), some (.int .i64 (geti a1 i1)), none, none, some (.pointer (some (sAddr A2 i1))), some (.int .i64 (geti b1 i1)), none, none] [4] [pl 4 (.bool (decide ((geti a1 i1) < (geti b1 i1))))] hF hS Fol (by kernel_rfl) (by kernel_rfl) (by kernel_rfl) ?_ (fun a w hF hS => ?_)
          · exact obs_cons (ob_ix1 (f := (Value.int .i64)) (m := a1) Und22 hi3 hs3 (hr_a1 _ (hS.dropN 0)) rfl (fun _ => hp3)) <| obs_cons (ob_get1 (n := a1.length) (m := a1) (Value.int .i64) (0 : Int) Agg3 (fun _ hS => ⟨_, (hr_a1 _ (hS.dropN 0))⟩) (fun _ hS => rfl) (fun _ => hp3)) <| obs_cons (ob_ix1 (f := (Value.int .i64)) (m := b1) Und22 hi3 hs3 (hr_b1 _ (hS.dropN 0)) rfl (fun _ => hp4)) <| obs_cons (ob_get1 (n := b1.length) (m := b1) (Value.int .i64) (0 : Int) Agg3 (fun _ hS => ⟨_, (hr_b1 _ (hS.dropN 0))⟩) (fun _ hS => rfl) (fun _ => hp4)) <| obs_nil
          refine wpIn_ret ?_
          refine block_r (then_r (then_r (block_r (then_r ?_))))
          rw [← hφ1] at hm
          replace hm := done_b hm
          unfold gameroomref_lessInts_K1 at hm
          try dsimp only at hm
          have hm : some (decide ((geti a1 i1) < (geti b1 i1))) = some r := hm
          obtain rfl := Option.some.inj hm
          exact retV (rs := [.tmp 4]) (vs := [.bool (decide ((geti a1 i1) < (geti b1 i1)))]) hF rfl (rv_t (by kernel_rfl) <| rv_nil) rfl ⟨rfl, hS⟩
        · replace hm := if_f hm hb
          refine wpIn_skip ?_
          refine block_n ?_
          refine then_n ?_
          exact ⟨hF.weak [0, 1, 5] (by kernel_rfl), hS, hm⟩
    · refine reg [] [] [0, 1, 5, 15] [pl 0 (.slice A1 a1.length c1), pl 1 (.slice A2 b1.length c2), pl 5 (.int .i64 i1), pl 15 (.bool ((decide (i1 < (a1.length : Int))) && (decide (i1 < (b1.length : Int)))))] hF hS Fol (by kernel_rfl) (by kernel_rfl) (by kernel_rfl) ?_ (fun a w hF hS => ?_)
      · exact obs_nil
      refine cond_ev (t := 15) (b := (decide (i1 < (a1.length : Int))) && (decide (i1 < (b1.length : Int)))) hF (by kernel_rfl) (fun hb => ?_) (fun hb => ?_)
      · replace hm := if_t hm hb
        refine wpIn_skip ?_
        refine then_n ?_
        exact ⟨hF.weak [0, 1, 5] (by kernel_rfl), hS, hm⟩
      · replace hm := if_f hm hb
        refine wpIn_exit ?_
        refine then_e (then_e (block_e (then_n ?_)))
        rw [← hφ1] at hm
        replace hm := done_b hm
        unfold gameroomref_lessInts_K1 at hm
        try dsimp only at hm
        have hm : ((gameroomref_lessInts_J1 a1 b1)).bind some = some r := hm
        exact ⟨hF.weak [0, 1] (by kernel_rfl), hS, hm⟩

noncomputable def gameroomref_sameInts_J4  (i1 : Int) : Option (St Int (Fl Unit Bool)) :=
  some (.next (w64 (i1 + 1)))

noncomputable def gameroomref_sameInts_J3  (a1 : List Int) (b1 : List Int) (i1 : Int) : Option (St Int (Fl Unit Bool)) :=
  asrt (0 ≤ i1 ∧ i1 < (a1.length : Int)) <| asrt (0 ≤ i1 ∧ i1 < (b1.length : Int)) <| if ((geti a1 i1) != (geti b1 i1)) then (some (.done (.ret false))) else ((gameroomref_sameInts_J4 i1))

noncomputable def gameroomref_sameInts_J2  : Option Bool :=
  some true

noncomputable def gameroomref_sameInts_K1  : (Fl Unit Bool) → Option Bool :=
  fun (x : (Fl Unit Bool)) => match x with | .go _ => gameroomref_sameInts_J2 | .ret x => some x

noncomputable def gameroomref_sameInts_L1  (a1 : List Int) (b1 : List Int) : Int → Option (St Int (Fl Unit Bool)) :=
  fun (x : Int) => match x with | i1 => if (decide (i1 < (a1.length : Int))) then ((gameroomref_sameInts_J3 a1 b1 i1)) else (some (.done (.go ())))

noncomputable def gameroomref_sameInts_J1  (a1 : List Int) (b1 : List Int) : Option Bool :=
  (loop (gameroomref_sameInts_L1 a1 b1) 0).bind gameroomref_sameInts_K1

noncomputable def gameroomref_sameInts_m  (a1 : List Int) (b1 : List Int) : Option Bool :=
  if ((a1.length : Int) != (b1.length : Int)) then (some false) else ((gameroomref_sameInts_J1 a1 b1))

set_option maxRecDepth 100000 in
set_option maxHeartbeats 4000000 in
theorem gameroomref_sameInts_w  {A1 : Option Addr} {c1 : Nat} {n1 : Nat} {a1 : List Int} {A2 : Option Addr} {c2 : Nat} {n2 : Nat} {b1 : List Int} {r : Bool} {w0 w : World} {B : Nat} {fs : List HP} (hm : gameroomref_sameInts_m a1 b1 = some r) (hS : Sep w0 B w (fs)) (hr_a1 : RdF w0 B fs A1 (vI a1)) (_hc_a1 : a1.length ≤ c1) (_hn_a1 : n1 = a1.length) (hr_b1 : RdF w0 B fs A2 (vI b1)) (_hc_b1 : b1.length ≤ c2) (_hn_b1 : n2 = b1.length) :
    Calls Try.prog 87 #[.slice A1 n1 c1, .slice A2 n2 c2] w fun e w' => e = .returned (.bool r) ∧ Sep w0 B w' (fs) := by
  obtain ⟨i3, hi3, hz3, hs3, hb3⟩ := info_parts Info3
  obtain rfl := _hn_a1
  obtain rfl := _hn_b1
  unfold gameroomref_sameInts_m at hm
  replace hm := start_b hm
  refine enter (l := [.slice A1 a1.length c1, .slice A2 b1.length c2]) (n := 26) Try.func87 rfl rfl (by simp) (fun a hF => ?_)
  refine reg [] [] [0, 1] [pl 0 (.slice A1 a1.length c1), pl 1 (.slice A2 b1.length c2)] hF hS Fol (by kernel_rfl) (by kernel_rfl) (by kernel_rfl) ?_ (fun a w hF hS => ?_)
  · exact obs_nil
  refine seq_cut (fun a w => Fr 26 [pl 0 (.slice A1 a1.length c1), pl 1 (.slice A2 b1.length c2)] a ∧ Sep w0 B w (fs) ∧ ((gameroomref_sameInts_J1 a1 b1)).bind some = some r) ?_ ?_
  · rintro a w ⟨hF, hS, hm⟩
    unfold gameroomref_sameInts_J1 at hm
    refine seq_cut (fun a w => Fr 26 [] a ∧ Sep w0 B w (fs) ∧ (gameroomref_sameInts_J2).bind some = some r) ?_ ?_
    · rintro a w ⟨hF, hS, hm⟩
      unfold gameroomref_sameInts_J2 at hm
      refine reg [] [] [4] [pl 4 (.bool true)] hF hS Fol (by kernel_rfl) (by kernel_rfl) (by kernel_rfl) ?_ (fun a w hF hS => ?_)
      · exact obs_nil
      refine wpIn_ret ?_
      have hm : some true = some r := hm
      obtain rfl := Option.some.inj hm
      exact retV (rs := [.tmp 4]) (vs := [.bool true]) hF rfl (rv_t (by kernel_rfl) <| rv_nil) rfl ⟨rfl, hS⟩
    · refine reg [] [] [0, 1, 5] [pl 0 (.slice A1 a1.length c1), pl 1 (.slice A2 b1.length c2), pl 5 (.int .i64 0)] hF hS Fol (by kernel_rfl) (by kernel_rfl) (by kernel_rfl) ?_ (fun a w hF hS => ?_)
      · exact obs_nil
      refine wpIn_block ?_
      refine wp_loop_model (S := Int) (R := (Fl Unit Bool)) (gameroomref_sameInts_L1 a1 b1) (fun x => (gameroomref_sameInts_K1 x).bind some) r (fun (x : Int) a w => Fr 26 [pl 0 (.slice A1 a1.length c1), pl 1 (.slice A2 b1.length c2), pl 5 (.int .i64 x)] a ∧ Sep w0 B w (fs)) (assoc_b hm) ⟨hF.weak [0, 1, 5] (by kernel_rfl), hS⟩ ?_
      clear hF hS hm
      rintro nn1 i1 a w ⟨hF, hS⟩ hm
      generalize hφ1 : stK (gameroomref_sameInts_L1 a1 b1) nn1 (fun x => (gameroomref_sameInts_K1 x).bind some) = φ1 at hm
      unfold gameroomref_sameInts_L1 at hm
      dsimp only at hm
      refine seq_cut (fun a w => Fr 26 [pl 0 (.slice A1 a1.length c1), pl 1 (.slice A2 b1.length c2), pl 5 (.int .i64 i1)] a ∧ Sep w0 B w (fs) ∧ ((gameroomref_sameInts_J3 a1 b1 i1)).bind φ1 = some r) ?_ ?_
      · rintro a w ⟨hF, hS, hm⟩
        unfold gameroomref_sameInts_J3 at hm
        refine seq_cut (fun a w => Fr 26 [pl 0 (.slice A1 a1.length c1), pl 1 (.slice A2 b1.length c2), pl 5 (.int .i64 i1)] a ∧ Sep w0 B w (fs) ∧ ((gameroomref_sameInts_J4 i1)).bind φ1 = some r) ?_ ?_
        · rintro a w ⟨hF, hS, hm⟩
          unfold gameroomref_sameInts_J4 at hm
          refine reg1 [] [] [0, 1, 5] [pl 0 (.slice A1 a1.length c1), pl 1 (.slice A2 b1.length c2), pl 5 (.int .i64 (w64 (i1 + 1)))] hF hS Fol (by kernel_rfl) (by kernel_rfl) (by kernel_rfl) ?_ (fun a w hF hS => ?_)
          · exact obs_nil
          refine then_n ?_
          rw [← hφ1] at hm
          exact ⟨(w64 (i1 + 1)), ⟨hF.weak [0, 1, 5] (by kernel_rfl), hS⟩, hm⟩
        · refine wpIn_block ?_
          obtain ⟨hp1, hm⟩ := asrt_b hm
          obtain ⟨hp2, hm⟩ := asrt_b hm
          refine reg [⟨true, [], vS (Instr.indexAt 22 (.slice A1 a1.length c1) (.int .i64 i1)), .pointer (some (sAddr A1 i1))⟩, ⟨false, [], vS (Instr.loadAt 3 (.pointer (some (sAddr A1 i1)))), .int .i64 (geti a1 i1)⟩, ⟨true, [], vS (Instr.indexAt 22 (.slice A2 b1.length c2) (.int .i64 i1)), .pointer (some (sAddr A2 i1))⟩, ⟨false, [], vS (Instr.loadAt 3 (.pointer (some (sAddr A2 i1)))), .int .i64 (geti b1 i1)⟩] [none, none, some (.pointer (some (sAddr A1 i1))), some (.int .i64 (geti a1 i1)), none, none, some (.pointer (some (sAddr A2 i1))), some (.int .i64 (geti b1 i1)), none] [0, 1, 5, 25] [pl 0 (.slice A1 a1.length c1), pl 1 (.slice A2 b1.length c2), pl 5 (.int .i64 i1), pl 25 (.bool ((geti a1 i1) != (geti b1 i1)))] hF hS Fol (by kernel_rfl) (by kernel_rfl) (by kernel_rfl) ?_ (fun a w hF hS => ?_)
          · exact obs_cons (ob_ix1 (f := (Value.int .i64)) (m := a1) Und22 hi3 hs3 (hr_a1 _ (hS.dropN 0)) rfl (fun _ => hp1)) <| obs_cons (ob_get1 (n := a1.length) (m := a1) (Value.int .i64) (0 : Int) Agg3 (fun _ hS => ⟨_, (hr_a1 _ (hS.dropN 0))⟩) (fun _ hS => rfl) (fun _ => hp1)) <| obs_cons (ob_ix1 (f := (Value.int .i64)) (m := b1) Und22 hi3 hs3 (hr_b1 _ (hS.dropN 0)) rfl (fun _ => hp2)) <| obs_cons (ob_get1 (n := b1.length) (m := b1) (Value.int .i64) (0 : Int) Agg3 (fun _ hS => ⟨_, (hr_b1 _ (hS.dropN 0))⟩) (fun _ hS => rfl) (fun _ => hp2)) <| obs_nil
          refine cond_ev (t := 25) (b := ((geti a1 i1) != (geti b1 i1))) hF (by kernel_rfl) (fun hb => ?_) (fun hb => ?_)
          · replace hm := if_t hm hb
            refine reg [] [] [4] [pl 4 (.bool false)] hF hS Fol (by kernel_rfl) (by kernel_rfl) (by kernel_rfl) ?_ (fun a w hF hS => ?_)
            · exact obs_nil
            refine wpIn_ret ?_
            refine block_r (then_r (then_r (block_r (then_r ?_))))
            rw [← hφ1] at hm
            replace hm := done_b hm
            unfold gameroomref_sameInts_K1 at hm
            try dsimp only at hm
            have hm : some false = some r := hm
            obtain rfl := Option.some.inj hm
            exact retV (rs := [.tmp 4]) (vs := [.bool false]) hF rfl (rv_t (by kernel_rfl) <| rv_nil) rfl ⟨rfl, hS⟩
          · replace hm := if_f hm hb
            refine wpIn_skip ?_
            refine block_n ?_
            refine then_n ?_
            exact ⟨hF.weak [0, 1, 5] (by kernel_rfl), hS, hm⟩
      · refine reg [] [] [0, 1, 5, 14] [pl 0 (.slice A1 a1.length c1), pl 1 (.slice A2 b1.length c2), pl 5 (.int .i64 i1), pl 14 (.bool (decide (i1 < (a1.length : Int))))] hF hS Fol (by kernel_rfl) (by kernel_rfl) (by kernel_rfl) ?_ (fun a w hF hS => ?_)
        · exact obs_nil
        refine cond_ev (t := 14) (b := decide (i1 < (a1.length : Int))) hF (by kernel_rfl) (fun hb => ?_) (fun hb => ?_)
        · replace hm := if_t hm hb
          refine wpIn_skip ?_
          refine then_n ?_
          exact ⟨hF.weak [0, 1, 5] (by kernel_rfl), hS, hm⟩
        · replace hm := if_f hm hb
          refine wpIn_exit ?_
          refine then_e (then_e (block_e (then_n ?_)))
          rw [← hφ1] at hm
          replace hm := done_b hm
          unfold gameroomref_sameInts_K1 at hm
          try dsimp only at hm
          have hm : (gameroomref_sameInts_J2).bind some = some r := hm
          exact ⟨hF.weak [] (by kernel_rfl), hS, hm⟩
  · refine reg [] [] [0, 1, 10] [pl 0 (.slice A1 a1.length c1), pl 1 (.slice A2 b1.length c2), pl 10 (.bool ((a1.length : Int) != (b1.length : Int)))] hF hS Fol (by kernel_rfl) (by kernel_rfl) (by kernel_rfl) ?_ (fun a w hF hS => ?_)
    · exact obs_nil
    refine cond_ev (t := 10) (b := ((a1.length : Int) != (b1.length : Int))) hF (by kernel_rfl) (fun hb => ?_) (fun hb => ?_)
    · replace hm := if_t hm hb
      refine reg [] [] [4] [pl 4 (.bool false)] hF hS Fol (by kernel_rfl) (by kernel_rfl) (by kernel_rfl) ?_ (fun a w hF hS => ?_)
      · exact obs_nil
      refine wpIn_ret ?_
      refine then_r ?_
      have hm : some false = some r := hm
      obtain rfl := Option.some.inj hm
      exact retV (rs := [.tmp 4]) (vs := [.bool false]) hF rfl (rv_t (by kernel_rfl) <| rv_nil) rfl ⟨rfl, hS⟩
    · replace hm := if_f hm hb
      refine wpIn_skip ?_
      refine then_n ?_
      exact ⟨hF.weak [0, 1] (by kernel_rfl), hS, hm⟩

noncomputable def gameroomref_putWay_3_J2  (k1 : Int) : Option (St Int Int) :=
  some (.next (w64 (k1 + 1)))

noncomputable def gameroomref_putWay_3_J3  (l1 : List (List Int)) (w1 : List Int) (k2 : Int) : Option (List (List Int)) :=
  asrt (0 ≤ (0 : Int) ∧ (0 : Int) ≤ k2 ∧ k2 ≤ (l1.length : Int)) <| asrt ((0 : Int) + (((cut l1 (0 : Int) k2).length : Nat) : Int) ≤ bigR) <| asrt ((((([] : List (List Int)) ++ (cut l1 (0 : Int) k2)).length : Nat) : Int) + 1 ≤ bigR) <| asrt (0 ≤ k2 ∧ k2 ≤ (l1.length : Int) ∧ (l1.length : Int) ≤ (l1.length : Int)) <| asrt (((((([] : List (List Int)) ++ (cut l1 (0 : Int) k2)) ++ ([w1] : List (List Int))).length : Nat) : Int) + (((cut l1 k2 (l1.length : Int)).length : Nat) : Int) ≤ bigR) <| some (((([] : List (List Int)) ++ (cut l1 (0 : Int) k2)) ++ ([w1] : List (List Int))) ++ (cut l1 k2 (l1.length : Int)))

noncomputable def gameroomref_putWay_3_J1  (l1 : List (List Int)) (w1 : List Int) (k2 : Int) : Option (List (List Int)) :=
  asrt ((decide (k2 < (l1.length : Int))) = true → 0 ≤ k2 ∧ k2 < (l1.length : Int)) <| ((if (decide (k2 < (l1.length : Int))) then gameroomref_sameInts_m (geti2 l1 k2) w1 else some false)).bind fun r2 => if ((decide (k2 < (l1.length : Int))) && r2) then (some l1) else ((gameroomref_putWay_3_J3 l1 w1 k2))

noncomputable def gameroomref_putWay_3_K1  (l1 : List (List Int)) (w1 : List Int) : Int → Option (List (List Int)) :=
  fun (x : Int) => match x with | k2 => (gameroomref_putWay_3_J1 l1 w1) k2

noncomputable def gameroomref_putWay_3_L1  (l1 : List (List Int)) (w1 : List Int) : Int → Option (St Int Int) :=
  fun (x : Int) => match x with | k1 => asrt ((decide (k1 < (l1.length : Int))) = true → 0 ≤ k1 ∧ k1 < (l1.length : Int)) <| ((if (decide (k1 < (l1.length : Int))) then gameroomref_lessInts_m (geti2 l1 k1) w1 else some false)).bind fun r1 => if ((decide (k1 < (l1.length : Int))) && r1) then ((gameroomref_putWay_3_J2 k1)) else (some (.done k1))

noncomputable def gameroomref_putWay_3_m  (l1 : List (List Int)) (w1 : List Int) : Option (List (List Int)) :=
  (loop (gameroomref_putWay_3_L1 l1 w1) 0).bind (gameroomref_putWay_3_K1 l1 w1)

set_option maxRecDepth 100000 in
set_option maxHeartbeats 4000000 in
theorem gameroomref_putWay_3_w  {A1 : Option Addr} {c1 : Nat} {n1 : Nat} {hd1 : List Hd} {l1 : List (List Int)} {pg1 : HP} {A2 : Option Addr} {c2 : Nat} {n2 : Nat} {w1 : List Int} {r : (List (List Int))} {w0 w : World} {B : Nat} {fs : List HP} (hm : gameroomref_putWay_3_m l1 w1 = some r) (hS : Sep w0 B w (pg1 :: fs)) (hr_l1 : PoolR pg1 A1 hd1 l1) (_hc_l1 : l1.length ≤ c1) (_hn_l1 : n1 = l1.length) (hr_w1 : PoolW pg1 A2 w1) (_hc_w1 : w1.length ≤ c2) (_hn_w1 : n2 = w1.length) :
    Calls Try.prog 119 #[.slice A1 n1 c1, .slice A2 n2 c2] w fun e w' => ∃ v, e = .returned v ∧ ∃ (pg2 : HP) (A6 : Option Addr) (c6 : Nat) (hd2 : List Hd), v = .slice A6 r.length c6 ∧ (PoolR pg2 A6 hd2 r) ∧ (r.length ≤ c6) ∧ (PoolLe pg1 pg2) ∧ Sep w0 B w' (pg2 :: fs) := by
  obtain ⟨i3, hi3, hz3, hs3, hb3⟩ := info_parts Info3
  obtain ⟨i22, hi22, hz22, hs22, hb22⟩ := info_parts Info22
  obtain rfl := _hn_l1
  obtain rfl := _hn_w1
  unfold gameroomref_putWay_3_m at hm
  replace hm := start_b hm
  refine enter (l := [.slice A1 l1.length c1, .slice A2 w1.length c2]) (n := 48) Try.func119 rfl rfl (by simp) (fun a hF => ?_)
  refine reg [] [] [0, 1] [pl 0 (.slice A1 l1.length c1), pl 1 (.slice A2 w1.length c2)] hF hS Fol (by kernel_rfl) (by kernel_rfl) (by kernel_rfl) ?_ (fun a w hF hS => ?_)
  · exact obs_nil
  refine reg [] [] [0, 1, 5] [pl 0 (.slice A1 l1.length c1), pl 1 (.slice A2 w1.length c2), pl 5 (.int .i64 0)] hF hS Fol (by kernel_rfl) (by kernel_rfl) (by kernel_rfl) ?_ (fun a w hF hS => ?_)
  · exact obs_nil
  refine seq_cut (fun a w => ∃ (k2 : Int), Fr 48 [pl 0 (.slice A1 l1.length c1), pl 1 (.slice A2 w1.length c2), pl 5 (.int .i64 k2)] a ∧ Sep w0 B w (pg1 :: fs) ∧ ((gameroomref_putWay_3_J1 l1 w1) k2).bind some = some r) ?_ ?_
  · rintro a w ⟨k2, hF, hS, hm⟩
    unfold gameroomref_putWay_3_J1 at hm
    refine seq_cut (fun a w => Fr 48 [pl 0 (.slice A1 l1.length c1), pl 1 (.slice A2 w1.length c2), pl 5 (.int .i64 k2)] a ∧ Sep w0 B w (pg1 :: fs) ∧ ((gameroomref_putWay_3_J3 l1 w1 k2)).bind some = some r) ?_ ?_
    · rintro a w ⟨hF, hS, hm⟩
      unfold gameroomref_putWay_3_J3 at hm
      refine reg [] [] [0, 1, 5, 6] [pl 0 (.slice A1 l1.length c1), pl 1 (.slice A2 w1.length c2), pl 5 (.int .i64 k2), pl 6 (.slice none 0 0)] hF hS Fol (by kernel_rfl) (by kernel_rfl) (by kernel_rfl) ?_ (fun a w hF hS => ?_)
      · exact obs_nil
      refine seqR ?_
      obtain ⟨hp3, hm⟩ := asrt_b hm
      obtain ⟨hp4, hm⟩ := asrt_b hm
      refine at_run 4 [⟨true, [], vS (Instr.sliceAt 42 (.slice A1 l1.length c1) none (some (.int .i64 k2)) none), .slice (cutAddr A1 c1 (0 : Int)) ((cut l1 (0 : Int) k2).length) (c1 - Int.toNat (0 : Int))⟩] [none, none, none, some (.slice (cutAddr A1 c1 (0 : Int)) ((cut l1 (0 : Int) k2).length) (c1 - Int.toNat (0 : Int)))] [0, 1, 5, 34, 37] [pl 0 (.slice A1 l1.length c1), pl 1 (.slice A2 w1.length c2), pl 5 (.int .i64 k2), pl 34 (.slice none 0 0), pl 37 (.slice (cutAddr A1 c1 (0 : Int)) ((cut l1 (0 : Int) k2).length) (c1 - Int.toNat (0 : Int)))] hF hS (by kernel_rfl) (by kernel_rfl) ?_ (fun a w hF hS => ?_)
      · exact obs_cons (ob_cutn (l := l1) (k := .i64) (k' := .i64) Und42 hi22 hs22 rfl (.inr ⟨rfl, rfl⟩) (.inl rfl) (fun _ => hp3) _hc_l1) <| obs_nil
      have hS : Sep w0 B w (hdrs 22 none 0 0 ([]) ([] : List (List Int)) :: pg1 :: fs) := hS.nilHdr 22
      obtain ⟨A3, c3, w, hrun, hS⟩ := run_appHdr (P := Try.prog) (t := 42) (A2 := (cutAddr A1 c1 (0 : Int))) (n2 := (cut l1 (0 : Int) k2).length) (c2 := (c1 - Int.toNat (0 : Int))) (hS.at_ 0 rfl) (RdRows.cut (hr_l1.at_ hS 1 rfl) hp3 _hc_l1) rfl 42 Und42 hi22 hz22 hs22 hb22 hp4
      have hS : Sep w0 B w (hdrs 22 A3 ((([] : List (List Int)) ++ (cut l1 (0 : Int) k2)).length) c3 (([]) ++ (cut hd1 (0 : Int) k2)) (([] : List (List Int)) ++ (cut l1 (0 : Int) k2)) :: pg1 :: fs) := hS
      refine at_do (d := 38) hF (by kernel_rfl) (by kernel_rfl) hrun (fun a hF => ?_)
      refine at_run 1 [] [] [0, 1, 5, 6] [pl 0 (.slice A1 l1.length c1), pl 1 (.slice A2 w1.length c2), pl 5 (.int .i64 k2), pl 6 (.slice A3 ((([] : List (List Int)) ++ (cut l1 (0 : Int) k2)).length) c3)] hF hS (by kernel_rfl) (by kernel_rfl) ?_ (fun a w hF hS => ?_)
      · exact obs_nil
      refine at_end [0, 1, 5, 6] [pl 0 (.slice A1 l1.length c1), pl 1 (.slice A2 w1.length c2), pl 5 (.int .i64 k2), pl 6 (.slice A3 ((([] : List (List Int)) ++ (cut l1 (0 : Int) k2)).length) c3)] hF rfl (by kernel_rfl) (fun hF => ?_)
      refine then_n ?_
      refine seqR ?_
      obtain ⟨hp5, hm⟩ := asrt_b hm
      refine at_run 2 [] [] [0, 5, 39, 40] [pl 0 (.slice A1 l1.length c1), pl 5 (.int .i64 k2), pl 39 (.slice A3 ((([] : List (List Int)) ++ (cut l1 (0 : Int) k2)).length) c3), pl 40 (.slice A2 w1.length c2)] hF hS (by kernel_rfl) (by kernel_rfl) ?_ (fun a w hF hS => ?_)
      · exact obs_nil
      refine at_do (d := 41) (s := vS (Instr.buildSlice 42 1 #[(0, .slice A2 w1.length c2)])) (v := .slice (some ⟨w.heap.size, 0, none⟩) 1 1) (w' := w.alloc (.cells #[.slice A2 w1.length c2] 22)) hF (by kernel_rfl) (by kernel_rfl) (by kernel_rfl) (fun a hF => ?_)
      have hS : Sep w0 B (w.alloc (.cells #[.slice A2 w1.length c2] 22)) (own 22 (.slice (some (⟨w.heap.size, 0, none⟩ : Addr)) 1 1) [.slice A2 w1.length c2] :: (hdrs 22 A3 ((([] : List (List Int)) ++ (cut l1 (0 : Int) k2)).length) c3 (([]) ++ (cut hd1 (0 : Int) k2)) (([] : List (List Int)) ++ (cut l1 (0 : Int) k2)) :: pg1 :: fs)) := hS.lit 22 #[.slice A2 w1.length c2] 1 rfl (by omega)
      generalize (some (⟨w.heap.size, 0, none⟩ : Addr)) = g1 at hF hS
      generalize w.alloc (.cells #[.slice A2 w1.length c2] 22) = w at hS ⊢
      obtain ⟨A4, c4, w, hrun, hS⟩ := run_appHdr (P := Try.prog) (t := 42) (A2 := g1) (n2 := 1) (c2 := 1) (hS.at_ 1 rfl) (rdLit (hd := ([(A2, c2)] : List Hd)) (m := ([w1] : List (List Int))) hS 0 rfl ⟨⟨(hr_w1.at_ hS 2 rfl), _hc_w1⟩, trivial⟩) rfl 42 Und42 hi22 hz22 hs22 hb22 hp5
      have hS : Sep w0 B w (own 22 (.slice g1 1 1) [.slice A2 w1.length c2] :: hdrs 22 A4 (((([] : List (List Int)) ++ (cut l1 (0 : Int) k2)) ++ ([w1] : List (List Int))).length) c4 ((([]) ++ (cut hd1 (0 : Int) k2)) ++ ([(A2, c2)] : List Hd)) ((([] : List (List Int)) ++ (cut l1 (0 : Int) k2)) ++ ([w1] : List (List Int))) :: pg1 :: fs) := hS
      refine at_do (d := 42) hF (by kernel_rfl) (by kernel_rfl) hrun (fun a hF => ?_)
      refine at_run 1 [] [] [0, 5, 6] [pl 0 (.slice A1 l1.length c1), pl 5 (.int .i64 k2), pl 6 (.slice A4 (((([] : List (List Int)) ++ (cut l1 (0 : Int) k2)) ++ ([w1] : List (List Int))).length) c4)] hF hS (by kernel_rfl) (by kernel_rfl) ?_ (fun a w hF hS => ?_)
      · exact obs_nil
      refine at_end [0, 5, 6] [pl 0 (.slice A1 l1.length c1), pl 5 (.int .i64 k2), pl 6 (.slice A4 (((([] : List (List Int)) ++ (cut l1 (0 : Int) k2)) ++ ([w1] : List (List Int))).length) c4)] hF rfl (by kernel_rfl) (fun hF => ?_)
      refine then_n ?_
      refine seqR ?_
      obtain ⟨hp6, hm⟩ := asrt_b hm
      obtain ⟨hp7, hm⟩ := asrt_b hm
      refine at_run 4 [⟨true, [], vS (Instr.sliceAt 42 (.slice A1 l1.length c1) (some (.int .i64 k2)) none none), .slice (cutAddr A1 c1 k2) ((cut l1 k2 (l1.length : Int)).length) (c1 - Int.toNat k2)⟩] [none, none, none, some (.slice (cutAddr A1 c1 k2) ((cut l1 k2 (l1.length : Int)).length) (c1 - Int.toNat k2))] [43, 46] [pl 43 (.slice A4 (((([] : List (List Int)) ++ (cut l1 (0 : Int) k2)) ++ ([w1] : List (List Int))).length) c4), pl 46 (.slice (cutAddr A1 c1 k2) ((cut l1 k2 (l1.length : Int)).length) (c1 - Int.toNat k2))] hF hS (by kernel_rfl) (by kernel_rfl) ?_ (fun a w hF hS => ?_)
      · exact obs_cons (ob_cutn (l := l1) (k := .i64) (k' := .i64) Und42 hi22 hs22 rfl (.inl rfl) (.inr ⟨rfl, rfl⟩) (fun _ => hp6) _hc_l1) <| obs_nil
      obtain ⟨A5, c5, w, hrun, hS⟩ := run_appHdr (P := Try.prog) (t := 42) (A2 := (cutAddr A1 c1 k2)) (n2 := (cut l1 k2 (l1.length : Int)).length) (c2 := (c1 - Int.toNat k2)) (hS.at_ 1 rfl) (RdRows.cut (hr_l1.at_ hS 2 rfl) hp6 _hc_l1) rfl 42 Und42 hi22 hz22 hs22 hb22 hp7
      have hS : Sep w0 B w (own 22 (.slice g1 1 1) [.slice A2 w1.length c2] :: hdrs 22 A5 ((((([] : List (List Int)) ++ (cut l1 (0 : Int) k2)) ++ ([w1] : List (List Int))) ++ (cut l1 k2 (l1.length : Int))).length) c5 (((([]) ++ (cut hd1 (0 : Int) k2)) ++ ([(A2, c2)] : List Hd)) ++ (cut hd1 k2 (l1.length : Int))) (((([] : List (List Int)) ++ (cut l1 (0 : Int) k2)) ++ ([w1] : List (List Int))) ++ (cut l1 k2 (l1.length : Int))) :: pg1 :: fs) := hS
      refine at_do (d := 47) hF (by kernel_rfl) (by kernel_rfl) hrun (fun a hF => ?_)
      refine at_run 1 [] [] [4] [pl 4 (.slice A5 ((((([] : List (List Int)) ++ (cut l1 (0 : Int) k2)) ++ ([w1] : List (List Int))) ++ (cut l1 k2 (l1.length : Int))).length) c5)] hF hS (by kernel_rfl) (by kernel_rfl) ?_ (fun a w hF hS => ?_)
      · exact obs_nil
      refine at_end [4] [pl 4 (.slice A5 ((((([] : List (List Int)) ++ (cut l1 (0 : Int) k2)) ++ ([w1] : List (List Int))) ++ (cut l1 k2 (l1.length : Int))).length) c5)] hF rfl (by kernel_rfl) (fun hF => ?_)
      refine then_n ?_
      refine wpIn_ret ?_
      have hp8 := (PoolA.app (PoolA.app (PoolA.app (PoolA.nil pg1) (PoolR.all (PoolR.cut hr_l1 hp3 _hc_l1))) (PoolA.one hr_w1 _hc_w1)) (PoolR.all (PoolR.cut hr_l1 hp6 _hc_l1)))
      have hc1 := (hS.at_ 1 rfl).capH
      have hS := hS.pickN 3 [1, 2, 0] (by decide)
      have hS : Sep w0 B w ((twoB (hdrs 22 A5 ((((([] : List (List Int)) ++ (cut l1 (0 : Int) k2)) ++ ([w1] : List (List Int))) ++ (cut l1 k2 (l1.length : Int))).length) c5 (((([]) ++ (cut hd1 (0 : Int) k2)) ++ ([(A2, c2)] : List Hd)) ++ (cut hd1 k2 (l1.length : Int))) (((([] : List (List Int)) ++ (cut l1 (0 : Int) k2)) ++ ([w1] : List (List Int))) ++ (cut l1 k2 (l1.length : Int)))) pg1) :: own 22 (.slice g1 1 1) [.slice A2 w1.length c2] :: fs) := hS.two
      have hS := hS.pickN 2 [0] (by decide)
      have hm : some (((([] : List (List Int)) ++ (cut l1 (0 : Int) k2)) ++ ([w1] : List (List Int))) ++ (cut l1 k2 (l1.length : Int))) = some r := hm
      obtain rfl := Option.some.inj hm
      exact retV (rs := [.tmp 4]) (vs := [.slice A5 ((((([] : List (List Int)) ++ (cut l1 (0 : Int) k2)) ++ ([w1] : List (List Int))) ++ (cut l1 k2 (l1.length : Int))).length) c5]) hF rfl (rv_t (by kernel_rfl) <| rv_nil) rfl ⟨_, rfl, (twoB (hdrs 22 A5 ((((([] : List (List Int)) ++ (cut l1 (0 : Int) k2)) ++ ([w1] : List (List Int))) ++ (cut l1 k2 (l1.length : Int))).length) c5 (((([]) ++ (cut hd1 (0 : Int) k2)) ++ ([(A2, c2)] : List Hd)) ++ (cut hd1 k2 (l1.length : Int))) (((([] : List (List Int)) ++ (cut l1 (0 : Int) k2)) ++ ([w1] : List (List Int))) ++ (cut l1 k2 (l1.length : Int)))) pg1), A5, c5, (((([]) ++ (cut hd1 (0 : Int) k2)) ++ ([(A2, c2)] : List Hd)) ++ (cut hd1 k2 (l1.length : Int))), rfl, (PoolR.hdrs hp8 : PoolR (twoB (hdrs 22 A5 ((((([] : List (List Int)) ++ (cut l1 (0 : Int) k2)) ++ ([w1] : List (List Int))) ++ (cut l1 k2 (l1.length : Int))).length) c5 (((([]) ++ (cut hd1 (0 : Int) k2)) ++ ([(A2, c2)] : List Hd)) ++ (cut hd1 k2 (l1.length : Int))) (((([] : List (List Int)) ++ (cut l1 (0 : Int) k2)) ++ ([w1] : List (List Int))) ++ (cut l1 k2 (l1.length : Int)))) pg1) A5 (((([]) ++ (cut hd1 (0 : Int) k2)) ++ ([(A2, c2)] : List Hd)) ++ (cut hd1 k2 (l1.length : Int))) (((([] : List (List Int)) ++ (cut l1 (0 : Int) k2)) ++ ([w1] : List (List Int))) ++ (cut l1 k2 (l1.length : Int)))), hc1, (PoolLe.trans (PoolLe.refl _) PoolLe.right), hS⟩
    · obtain ⟨hp2, hm⟩ := asrt_b hm
      obtain ⟨r2, hr2, hm⟩ := call_b hm
      refine reg [⟨true, [(decide (k2 < (l1.length : Int)), true)], vS (Instr.indexAt 42 (.slice A1 l1.length c1) (.int .i64 k2)), .pointer (some (sAddr A1 k2))⟩, ⟨false, [(decide (k2 < (l1.length : Int)), true)], vS (Instr.loadAt 22 (.pointer (some (sAddr A1 k2)))), .slice (hdA hd1 k2) ((geti2 l1 k2).length) (hdC hd1 k2)⟩, ⟨false, [(decide (k2 < (l1.length : Int)), true)], callFunc 87 #[.slice (hdA hd1 k2) ((geti2 l1 k2).length) (hdC hd1 k2), .slice A2 w1.length c2], .bool r2⟩] [none, none, none, none, none, none, none, some (.pointer (some (sAddr A1 k2))), some (.slice (hdA hd1 k2) ((geti2 l1 k2).length) (hdC hd1 k2)), none, some (.bool r2), none] [0, 1, 5, 32] [pl 0 (.slice A1 l1.length c1), pl 1 (.slice A2 w1.length c2), pl 5 (.int .i64 k2), pl 32 (.bool ((decide (k2 < (l1.length : Int))) && r2))] hF hS Fol (by kernel_rfl) (by kernel_rfl) (by kernel_rfl) ?_ (fun a w hF hS => ?_)
      · exact obs_cons (ob_ixRn Und42 hi22 hs22 (hr_l1.at_ hS 0 rfl) rfl (fun hy => hp2 (hy (decide (k2 < (l1.length : Int)), true) (by simp)))) <| obs_cons (ob_getR Agg22 (fun _ hS => ⟨_, (hr_l1.at_ hS 0 rfl)⟩) (fun hy => hp2 (hy (decide (k2 < (l1.length : Int)), true) (by simp)))) <| obs_cons (ob_call Try.func87 (by kernel_rfl) rfl (fun hy _ hS => gameroomref_sameInts_w (ite_some hr2 (by rw [show (decide (k2 < (l1.length : Int))) = true from hy (decide (k2 < (l1.length : Int)), true) (by simp)]; try rfl)) hS (fun _ hS => ((hr_l1.at_ hS 0 rfl).rowAny k2).1) ((hr_l1.at_ hS 0 rfl).rowAny k2).2 rfl (fun _ hS => (hr_w1.at_ hS 0 rfl)) _hc_w1 rfl)) <| obs_nil
      refine cond_ev (t := 32) (b := (decide (k2 < (l1.length : Int))) && r2) hF (by kernel_rfl) (fun hb => ?_) (fun hb => ?_)
      · replace hm := if_t hm hb
        refine reg [] [] [4] [pl 4 (.slice A1 l1.length c1)] hF hS Fol (by kernel_rfl) (by kernel_rfl) (by kernel_rfl) ?_ (fun a w hF hS => ?_)
        · exact obs_nil
        refine wpIn_ret ?_
        refine then_r ?_
        have hm : some l1 = some r := hm
        obtain rfl := Option.some.inj hm
        exact retV (rs := [.tmp 4]) (vs := [.slice A1 l1.length c1]) hF rfl (rv_t (by kernel_rfl) <| rv_nil) rfl ⟨_, rfl, pg1, A1, c1, hd1, rfl, hr_l1, _hc_l1, (PoolLe.refl _), hS⟩
      · replace hm := if_f hm hb
        refine wpIn_skip ?_
        refine then_n ?_
        exact ⟨hF.weak [0, 1, 5] (by kernel_rfl), hS, hm⟩
  · refine wpIn_block ?_
    refine wp_loop_model (S := Int) (R := Int) (gameroomref_putWay_3_L1 l1 w1) (fun x => ((gameroomref_putWay_3_K1 l1 w1) x).bind some) r (fun (x : Int) a w => Fr 48 [pl 0 (.slice A1 l1.length c1), pl 1 (.slice A2 w1.length c2), pl 5 (.int .i64 x)] a ∧ Sep w0 B w (pg1 :: fs)) (assoc_b hm) ⟨hF.weak [0, 1, 5] (by kernel_rfl), hS⟩ ?_
    clear hF hS hm
    rintro nn1 k1 a w ⟨hF, hS⟩ hm
    generalize hφ1 : stK (gameroomref_putWay_3_L1 l1 w1) nn1 (fun x => ((gameroomref_putWay_3_K1 l1 w1) x).bind some) = φ1 at hm
    unfold gameroomref_putWay_3_L1 at hm
    dsimp only at hm
    refine seq_cut (fun a w => Fr 48 [pl 0 (.slice A1 l1.length c1), pl 1 (.slice A2 w1.length c2), pl 5 (.int .i64 k1)] a ∧ Sep w0 B w (pg1 :: fs) ∧ ((gameroomref_putWay_3_J2 k1)).bind φ1 = some r) ?_ ?_
    · rintro a w ⟨hF, hS, hm⟩
      unfold gameroomref_putWay_3_J2 at hm
      refine wpIn_block ?_
      refine reg1 [] [] [0, 1, 5] [pl 0 (.slice A1 l1.length c1), pl 1 (.slice A2 w1.length c2), pl 5 (.int .i64 (w64 (k1 + 1)))] hF hS Fol (by kernel_rfl) (by kernel_rfl) (by kernel_rfl) ?_ (fun a w hF hS => ?_)
      · exact obs_nil
      refine block_n ?_
      refine then_n ?_
      rw [← hφ1] at hm
      exact ⟨(w64 (k1 + 1)), ⟨hF.weak [0, 1, 5] (by kernel_rfl), hS⟩, hm⟩
    · obtain ⟨hp1, hm⟩ := asrt_b hm
      obtain ⟨r1, hr1, hm⟩ := call_b hm
      refine reg [⟨true, [(decide (k1 < (l1.length : Int)), true)], vS (Instr.indexAt 42 (.slice A1 l1.length c1) (.int .i64 k1)), .pointer (some (sAddr A1 k1))⟩, ⟨false, [(decide (k1 < (l1.length : Int)), true)], vS (Instr.loadAt 22 (.pointer (some (sAddr A1 k1)))), .slice (hdA hd1 k1) ((geti2 l1 k1).length) (hdC hd1 k1)⟩, ⟨false, [(decide (k1 < (l1.length : Int)), true)], callFunc 200 #[.slice (hdA hd1 k1) ((geti2 l1 k1).length) (hdC hd1 k1), .slice A2 w1.length c2], .bool r1⟩] [none, none, none, none, none, none, none, some (.pointer (some (sAddr A1 k1))), some (.slice (hdA hd1 k1) ((geti2 l1 k1).length) (hdC hd1 k1)), none, some (.bool r1), none] [0, 1, 5, 18] [pl 0 (.slice A1 l1.length c1), pl 1 (.slice A2 w1.length c2), pl 5 (.int .i64 k1), pl 18 (.bool ((decide (k1 < (l1.length : Int))) && r1))] hF hS Fol (by kernel_rfl) (by kernel_rfl) (by kernel_rfl) ?_ (fun a w hF hS => ?_)
      · exact obs_cons (ob_ixRn Und42 hi22 hs22 (hr_l1.at_ hS 0 rfl) rfl (fun hy => hp1 (hy (decide (k1 < (l1.length : Int)), true) (by simp)))) <| obs_cons (ob_getR Agg22 (fun _ hS => ⟨_, (hr_l1.at_ hS 0 rfl)⟩) (fun hy => hp1 (hy (decide (k1 < (l1.length : Int)), true) (by simp)))) <| obs_cons (ob_call Try.func200 (by kernel_rfl) rfl (fun hy _ hS => gameroomref_lessInts_w (ite_some hr1 (by rw [show (decide (k1 < (l1.length : Int))) = true from hy (decide (k1 < (l1.length : Int)), true) (by simp)]; try rfl)) hS (fun _ hS => ((hr_l1.at_ hS 0 rfl).rowAny k1).1) ((hr_l1.at_ hS 0 rfl).rowAny k1).2 rfl (fun _ hS => (hr_w1.at_ hS 0 rfl)) _hc_w1 rfl)) <| obs_nil
      refine cond_ev (t := 18) (b := (decide (k1 < (l1.length : Int))) && r1) hF (by kernel_rfl) (fun hb => ?_) (fun hb => ?_)
      · replace hm := if_t hm hb
        refine wpIn_skip ?_
        refine then_n ?_
        exact ⟨hF.weak [0, 1, 5] (by kernel_rfl), hS, hm⟩
      · replace hm := if_f hm hb
        refine wpIn_exit ?_
        refine then_e (then_e (block_e (then_n ?_)))
        rw [← hφ1] at hm
        replace hm := done_b hm
        unfold gameroomref_putWay_3_K1 at hm
        try dsimp only at hm
        have hm : ((gameroomref_putWay_3_J1 l1 w1) k1).bind some = some r := hm
        exact ⟨k1, hF.weak [0, 1, 5] (by kernel_rfl), hS, hm⟩

noncomputable def gameroomref_MagicForms_J6  (i1 : Int) (x3 : List Int) : Option (St (List Int × Int) (List Int)) :=
  some (.next (x3, (w64 (i1 + 1))))

noncomputable def gameroomref_MagicForms_J9  (l1 : List Int) (r1 : Int) (x1 : List Int) (i1 : Int) (a2 : Int) (b2 : Int) : Option (St (List Int × Int) (List Int)) :=
  asrt (0 ≤ i1 ∧ i1 < (l1.length : Int)) <| asrt (0 ≤ (w64 ((w64 (b2 * r1)) + a2)) ∧ (w64 ((w64 (b2 * r1)) + a2)) < (((Int.toNat (l1.length : Int)) : Nat) : Int)) <| (gameroomref_MagicForms_J6 i1) (x1.set (Int.toNat (w64 ((w64 (b2 * r1)) + a2))) (geti l1 i1))

noncomputable def gameroomref_MagicForms_J8  (l1 : List Int) (r1 : Int) (way1 : Int) (x1 : List Int) (i1 : Int) (a1 : Int) (b1 : Int) : Option (St (List Int × Int) (List Int)) :=
  if ((bAnd way1 4) == 4) then ((gameroomref_MagicForms_J9 l1 r1 x1 i1) b1 a1) else ((gameroomref_MagicForms_J9 l1 r1 x1 i1) a1 b1)

noncomputable def gameroomref_MagicForms_J7  (l1 : List Int) (r1 : Int) (way1 : Int) (x1 : List Int) (i1 : Int) (a1 : Int) : Option (St (List Int × Int) (List Int)) :=
  if ((bAnd way1 2) == 2) then ((gameroomref_MagicForms_J8 l1 r1 way1 x1 i1 a1) (w64 ((w64 (r1 - 1)) - (w64 (Int.tdiv i1 r1))))) else ((gameroomref_MagicForms_J8 l1 r1 way1 x1 i1 a1) (w64 (Int.tdiv i1 r1)))

noncomputable def gameroomref_MagicForms_J5  (l1 : List Int) (r1 : Int) (way1 : Int) (x1 : List Int) (i1 : Int) : Option (St (List Int × Int) (List Int)) :=
  asrt (r1 ≠ (0 : Int)) <| asrt (r1 ≠ (0 : Int)) <| if ((bAnd way1 1) == 1) then ((gameroomref_MagicForms_J7 l1 r1 way1 x1 i1) (w64 ((w64 (r1 - 1)) - (Int.tmod i1 r1)))) else ((gameroomref_MagicForms_J7 l1 r1 way1 x1 i1) (Int.tmod i1 r1))

noncomputable def gameroomref_MagicForms_J3  (way1 : Int) (out3 : List (List Int)) : Option (St (List (List Int) × Int) (List (List Int))) :=
  some (.next (out3, (w64 (way1 + 1))))

noncomputable def gameroomref_MagicForms_J4  (out1 : List (List Int)) (way1 : Int) (x2 : List Int) : Option (St (List (List Int) × Int) (List (List Int))) :=
  (gameroomref_putWay_3_m out1 x2).bind fun r2 => (gameroomref_MagicForms_J3 way1) r2

noncomputable def gameroomref_MagicForms_K2  (out1 : List (List Int)) (way1 : Int) : (List Int) → Option (St (List (List Int) × Int) (List (List Int))) :=
  fun (x : (List Int)) => match x with | x2 => (gameroomref_MagicForms_J4 out1 way1) x2

noncomputable def gameroomref_MagicForms_L2  (l1 : List Int) (r1 : Int) (way1 : Int) : (List Int × Int) → Option (St (List Int × Int) (List Int)) :=
  fun (x : (List Int × Int)) => match x with | (x1, i1) => if (decide (i1 < (l1.length : Int))) then ((gameroomref_MagicForms_J5 l1 r1 way1 x1 i1)) else (some (.done x1))

noncomputable def gameroomref_MagicForms_J2  (l1 : List Int) (r1 : Int) (out1 : List (List Int)) (way1 : Int) : Option (St (List (List Int) × Int) (List (List Int))) :=
  asrt ((0 : Int) ≤ (l1.length : Int) ∧ (l1.length : Int) ≤ bigN) <| (loop (gameroomref_MagicForms_L2 l1 r1 way1) ((List.replicate (Int.toNat (l1.length : Int)) (0 : Int)), 0)).bind (gameroomref_MagicForms_K2 out1 way1)

noncomputable def gameroomref_MagicForms_J1  (out2 : List (List Int)) : Option (List (List Int)) :=
  some out2

noncomputable def gameroomref_MagicForms_K1  : (List (List Int)) → Option (List (List Int)) :=
  fun (x : (List (List Int))) => match x with | out2 => gameroomref_MagicForms_J1 out2

noncomputable def gameroomref_MagicForms_L1  (l1 : List Int) (r1 : Int) : (List (List Int) × Int) → Option (St (List (List Int) × Int) (List (List Int))) :=
  fun (x : (List (List Int) × Int)) => match x with | (out1, way1) => if (decide (way1 < 8)) then ((gameroomref_MagicForms_J2 l1 r1 out1 way1)) else (some (.done out1))

noncomputable def gameroomref_MagicForms_m  (l1 : List Int) : Option (List (List Int)) :=
  (gameroomref_MagicSide_m l1).bind fun r1 => (loop (gameroomref_MagicForms_L1 l1 r1) (([] : List (List Int)), 0)).bind gameroomref_MagicForms_K1

set_option maxRecDepth 100000 in
set_option maxHeartbeats 4000000 in
theorem gameroomref_MagicForms_w  {A1 : Option Addr} {c1 : Nat} {n1 : Nat} {l1 : List Int} {r : (List (List Int))} {w0 w : World} {B : Nat} {fs : List HP} (hm : gameroomref_MagicForms_m l1 = some r) (hS : Sep w0 B w (fs)) (hr_l1 : RdF w0 B fs A1 (vI l1)) (_hc_l1 : l1.length ≤ c1) (_hn_l1 : n1 = l1.length) :
    Calls Try.prog 58 #[.slice A1 n1 c1] w fun e w' => ∃ v, e = .returned v ∧ ∃ (pg5 : HP) (A7 : Option Addr) (c7 : Nat) (hd5 : List Hd), v = .slice A7 r.length c7 ∧ (PoolR pg5 A7 hd5 r) ∧ (r.length ≤ c7) ∧ Sep w0 B w' (pg5 :: fs) := by
  obtain ⟨i3, hi3, hz3, hs3, hb3⟩ := info_parts Info3
  obtain rfl := _hn_l1
  unfold gameroomref_MagicForms_m at hm
  replace hm := start_b hm
  refine enter (l := [.slice A1 l1.length c1]) (n := 65) Try.func58 rfl rfl (by simp) (fun a hF => ?_)
  refine reg [] [] [0] [pl 0 (.slice A1 l1.length c1)] hF hS Fol (by kernel_rfl) (by kernel_rfl) (by kernel_rfl) ?_ (fun a w hF hS => ?_)
  · exact obs_nil
  obtain ⟨r1, hr1, hm⟩ := call_b hm
  refine reg [⟨false, [], callFunc 56 #[.slice A1 l1.length c1], .int .i64 r1⟩] [none, some (.int .i64 r1), none] [0, 3] [pl 0 (.slice A1 l1.length c1), pl 3 (.int .i64 r1)] hF hS Fol (by kernel_rfl) (by kernel_rfl) (by kernel_rfl) ?_ (fun a w hF hS => ?_)
  · exact obs_cons (ob_call Try.func56 (by kernel_rfl) rfl (fun _ _ hS => gameroomref_MagicSide_w hr1 hS (fun _ hS => (hr_l1 _ (hS.dropN 0))) _hc_l1 rfl)) <| obs_nil
  refine reg [] [] [0, 3, 4] [pl 0 (.slice A1 l1.length c1), pl 3 (.int .i64 r1), pl 4 (.slice none 0 0)] hF hS Fol (by kernel_rfl) (by kernel_rfl) (by kernel_rfl) ?_ (fun a w hF hS => ?_)
  · exact obs_nil
  refine seq_cut (fun a w => ∃ (out2 : List (List Int)) (pg2 : HP) (A3 : Option Addr) (c3 : Nat) (hd2 : List Hd), Fr 65 [pl 4 (.slice A3 out2.length c3)] a ∧ Sep w0 B w (pg2 :: fs) ∧ PoolR pg2 A3 hd2 out2 ∧ out2.length ≤ c3 ∧ (gameroomref_MagicForms_J1 out2).bind some = some r) ?_ ?_
  · rintro a w ⟨out2, pg2, A3, c3, hd2, hF, hS, hp2, hc2, hm⟩
    unfold gameroomref_MagicForms_J1 at hm
    refine reg [] [] [2] [pl 2 (.slice A3 out2.length c3)] hF hS Fol (by kernel_rfl) (by kernel_rfl) (by kernel_rfl) ?_ (fun a w hF hS => ?_)
    · exact obs_nil
    refine wpIn_ret ?_
    have hm : some out2 = some r := hm
    obtain rfl := Option.some.inj hm
    exact retV (rs := [.tmp 2]) (vs := [.slice A3 out2.length c3]) hF rfl (rv_t (by kernel_rfl) <| rv_nil) rfl ⟨_, rfl, pg2, A3, c3, hd2, rfl, hp2, hc2, hS⟩
  · refine reg [] [] [0, 3, 4, 5] [pl 0 (.slice A1 l1.length c1), pl 3 (.int .i64 r1), pl 4 (.slice none 0 0), pl 5 (.int .i64 0)] hF hS Fol (by kernel_rfl) (by kernel_rfl) (by kernel_rfl) ?_ (fun a w hF hS => ?_)
    · exact obs_nil
    refine wpIn_block ?_
    have hS : Sep w0 B w (noB :: fs) := hS.noB
    refine wp_loop_model (S := (List (List Int) × Int)) (R := (List (List Int))) (gameroomref_MagicForms_L1 l1 r1) (fun x => (gameroomref_MagicForms_K1 x).bind some) r (fun (x : (List (List Int) × Int)) a w => ∃ (pg1 : HP) (A2 : Option Addr) (c2 : Nat) (hd1 : List Hd), Fr 65 [pl 0 (.slice A1 l1.length c1), pl 3 (.int .i64 r1), pl 4 (.slice A2 x.1.length c2), pl 5 (.int .i64 x.2)] a ∧ Sep w0 B w (pg1 :: fs) ∧ PoolR pg1 A2 hd1 x.1 ∧ x.1.length ≤ c2) (assoc_b hm) ⟨noB, none, 0, ([] : List Hd), hF.weak [0, 3, 4, 5] (by kernel_rfl), hS, (PoolR.nil noB), (Nat.le_refl _)⟩ ?_
    clear hF hS hm
    rintro nn1 ⟨out1, way1⟩ a w ⟨pg1, A2, c2, hd1, hF, hS, hp1, hc1⟩ hm
    generalize hφ1 : stK (gameroomref_MagicForms_L1 l1 r1) nn1 (fun x => (gameroomref_MagicForms_K1 x).bind some) = φ1 at hm
    unfold gameroomref_MagicForms_L1 at hm
    dsimp only at hF hS hm
    refine seq_cut (fun a w => Fr 65 [pl 0 (.slice A1 l1.length c1), pl 3 (.int .i64 r1), pl 4 (.slice A2 out1.length c2), pl 5 (.int .i64 way1)] a ∧ Sep w0 B w (pg1 :: fs) ∧ ((gameroomref_MagicForms_J2 l1 r1 out1 way1)).bind φ1 = some r) ?_ ?_
    · rintro a w ⟨hF, hS, hm⟩
      unfold gameroomref_MagicForms_J2 at hm
      refine seq_cut (fun a w => ∃ (out3 : List (List Int)) (pg4 : HP) (A6 : Option Addr) (c6 : Nat) (hd4 : List Hd), Fr 65 [pl 0 (.slice A1 l1.length c1), pl 3 (.int .i64 r1), pl 4 (.slice A6 out3.length c6), pl 5 (.int .i64 way1)] a ∧ Sep w0 B w (pg4 :: fs) ∧ PoolR pg4 A6 hd4 out3 ∧ out3.length ≤ c6 ∧ ((gameroomref_MagicForms_J3 way1) out3).bind φ1 = some r) ?_ ?_
      · rintro a w ⟨out3, pg4, A6, c6, hd4, hF, hS, hp9, hc5, hm⟩
        unfold gameroomref_MagicForms_J3 at hm
        refine reg1 [] [] [0, 3, 4, 5] [pl 0 (.slice A1 l1.length c1), pl 3 (.int .i64 r1), pl 4 (.slice A6 out3.length c6), pl 5 (.int .i64 (w64 (way1 + 1)))] hF hS Fol (by kernel_rfl) (by kernel_rfl) (by kernel_rfl) ?_ (fun a w hF hS => ?_)
        · exact obs_nil
        refine then_n ?_
        rw [← hφ1] at hm
        exact ⟨(out3, (w64 (way1 + 1))), ⟨pg4, A6, c6, hd4, hF.weak [0, 3, 4, 5] (by kernel_rfl), hS, hp9, hc5⟩, hm⟩
      · refine wpIn_block ?_
        refine seqR ?_
        obtain ⟨hp3, hm⟩ := asrt_b hm
        refine at_run 2 [] [] [0, 3, 4, 5, 17] [pl 0 (.slice A1 l1.length c1), pl 3 (.int .i64 r1), pl 4 (.slice A2 out1.length c2), pl 5 (.int .i64 way1), pl 17 (.int .i64 (l1.length : Int))] hF hS (by kernel_rfl) (by kernel_rfl) ?_ (fun a w hF hS => ?_)
        · exact obs_nil
        obtain ⟨A4, c4, w, hrun, hS⟩ := run_mk1 (P := Try.prog) (t := 22) (Value.int .i64) (0 : Int) hS .i64 .i64 Und22 hi3 hz3 hs3 (by omega) rfl hp3
        have hS : Sep w0 B w (own 3 (.slice A4 (Int.toNat (l1.length : Int)) c4) (vI (List.replicate (Int.toNat (l1.length : Int)) (0 : Int))) :: pg1 :: fs) := hS
        refine at_do (d := 18) hF (by kernel_rfl) (by kernel_rfl) hrun (fun a hF => ?_)
        refine at_run 1 [] [] [0, 3, 4, 5, 6] [pl 0 (.slice A1 l1.length c1), pl 3 (.int .i64 r1), pl 4 (.slice A2 out1.length c2), pl 5 (.int .i64 way1), pl 6 (.slice A4 (Int.toNat (l1.length : Int)) c4)] hF hS (by kernel_rfl) (by kernel_rfl) ?_ (fun a w hF hS => ?_)
        · exact obs_nil
        refine at_end [0, 3, 4, 5, 6] [pl 0 (.slice A1 l1.length c1), pl 3 (.int .i64 r1), pl 4 (.slice A2 out1.length c2), pl 5 (.int .i64 way1), pl 6 (.slice A4 (Int.toNat (l1.length : Int)) c4)] hF rfl (by kernel_rfl) (fun hF => ?_)
        refine then_n ?_
        refine seq_cut (fun a w => ∃ (x2 : List Int), Fr 65 [pl 0 (.slice A1 l1.length c1), pl 3 (.int .i64 r1), pl 4 (.slice A2 out1.length c2), pl 5 (.int .i64 way1), pl 6 (.slice A4 (Int.toNat (l1.length : Int)) c4)] a ∧ Sep w0 B w (pg1 :: own 3 (.slice A4 (Int.toNat (l1.length : Int)) c4) (vI x2) :: fs) ∧ ((gameroomref_MagicForms_J4 out1 way1) x2).bind φ1 = some r) ?_ ?_
        · rintro a w ⟨x2, hF, hS, hm⟩
          unfold gameroomref_MagicForms_J4 at hm
          refine oneR ?_
          obtain ⟨r2, hr2, hm⟩ := call_b hm
          refine at_run 2 [] [] [0, 3, 5, 61, 62] [pl 0 (.slice A1 l1.length c1), pl 3 (.int .i64 r1), pl 5 (.int .i64 way1), pl 61 (.slice A2 out1.length c2), pl 62 (.slice A4 (Int.toNat (l1.length : Int)) c4)] hF hS (by kernel_rfl) (by kernel_rfl) ?_ (fun a w hF hS => ?_)
          · exact obs_nil
          have hl1 := (hS.at_ 1 rfl).len1
          have hS := (hS.at_ 1 rfl).reN hl1
          have hS : Sep w0 B w (pg1 :: own 3 (.slice A4 x2.length c4) (vI x2) :: fs) := hS
          have hF := hF.cast (t := 62) (v := .slice A4 (Int.toNat (l1.length : Int)) c4) (v' := .slice A4 x2.length c4) rfl rfl (congrArg (fun k => Value.slice A4 k c4) hl1)
          have hc3 := (hS.at_ 1 rfl).cap1
          have hS := hS.pickN 2 [1, 0] (by decide)
          have hS : Sep w0 B w ((twoB (own 3 (.slice A4 x2.length c4) (vI x2)) pg1) :: fs) := hS.two
          refine at_call (f := 119) (args := #[.slice A2 out1.length c2, .slice A4 x2.length c4]) (d := 63) hF (by kernel_rfl) (by kernel_rfl) Try.func119 (by kernel_rfl) rfl (gameroomref_putWay_3_w hr2 hS (PoolR.mono PoolLe.right hp1) hc1 rfl (PoolW.own : PoolW (twoB (own 3 (.slice A4 x2.length c4) (vI x2)) pg1) A4 x2) hc3 rfl) (fun v a w hR hF => ?_)
          clear hS
          obtain ⟨pg3, A5, c5, hd3, rfl, hp8, hc4, hle1, hS⟩ := hR
          have hS : Sep w0 B w (pg3 :: fs) := hS
          refine at_run 1 [] [] [0, 3, 4, 5] [pl 0 (.slice A1 l1.length c1), pl 3 (.int .i64 r1), pl 4 (.slice A5 r2.length c5), pl 5 (.int .i64 way1)] hF hS (by kernel_rfl) (by kernel_rfl) ?_ (fun a w hF hS => ?_)
          · exact obs_nil
          refine at_end [0, 3, 4, 5] [pl 0 (.slice A1 l1.length c1), pl 3 (.int .i64 r1), pl 4 (.slice A5 r2.length c5), pl 5 (.int .i64 way1)] hF rfl (by kernel_rfl) (fun hF => ?_)
          refine block_n ?_
          refine then_n ?_
          exact ⟨r2, pg3, A5, c5, hd3, hF.weak [0, 3, 4, 5] (by kernel_rfl), hS, hp8, hc4, hm⟩
        · refine reg [] [] [0, 3, 4, 5, 6, 7] [pl 0 (.slice A1 l1.length c1), pl 3 (.int .i64 r1), pl 4 (.slice A2 out1.length c2), pl 5 (.int .i64 way1), pl 6 (.slice A4 (Int.toNat (l1.length : Int)) c4), pl 7 (.int .i64 0)] hF hS Fol (by kernel_rfl) (by kernel_rfl) (by kernel_rfl) ?_ (fun a w hF hS => ?_)
          · exact obs_nil
          refine wpIn_block ?_
          have hS := hS.pickN 2 [1, 0] (by decide)
          refine wp_loop_model (S := (List Int × Int)) (R := (List Int)) (gameroomref_MagicForms_L2 l1 r1 way1) (fun x => ((gameroomref_MagicForms_K2 out1 way1) x).bind φ1) r (fun (x : (List Int × Int)) a w => Fr 65 [pl 0 (.slice A1 l1.length c1), pl 3 (.int .i64 r1), pl 4 (.slice A2 out1.length c2), pl 5 (.int .i64 way1), pl 6 (.slice A4 (Int.toNat (l1.length : Int)) c4), pl 7 (.int .i64 x.2)] a ∧ Sep w0 B w (pg1 :: own 3 (.slice A4 (Int.toNat (l1.length : Int)) c4) (vI x.1) :: fs)) (assoc_b hm) ⟨hF.weak [0, 3, 4, 5, 6, 7] (by kernel_rfl), hS⟩ ?_
          clear hF hS hm
          rintro nn2 ⟨x1, i1⟩ a w ⟨hF, hS⟩ hm
          generalize hφ2 : stK (gameroomref_MagicForms_L2 l1 r1 way1) nn2 (fun x => ((gameroomref_MagicForms_K2 out1 way1) x).bind φ1) = φ2 at hm
          unfold gameroomref_MagicForms_L2 at hm
          dsimp only at hF hS hm
          refine seq_cut (fun a w => Fr 65 [pl 0 (.slice A1 l1.length c1), pl 3 (.int .i64 r1), pl 4 (.slice A2 out1.length c2), pl 5 (.int .i64 way1), pl 6 (.slice A4 (Int.toNat (l1.length : Int)) c4), pl 7 (.int .i64 i1)] a ∧ Sep w0 B w (pg1 :: own 3 (.slice A4 (Int.toNat (l1.length : Int)) c4) (vI x1) :: fs) ∧ ((gameroomref_MagicForms_J5 l1 r1 way1 x1 i1)).bind φ2 = some r) ?_ ?_
          · rintro a w ⟨hF, hS, hm⟩
            unfold gameroomref_MagicForms_J5 at hm
            refine seq_cut (fun a w => ∃ (x3 : List Int), Fr 65 [pl 0 (.slice A1 l1.length c1), pl 3 (.int .i64 r1), pl 4 (.slice A2 out1.length c2), pl 5 (.int .i64 way1), pl 6 (.slice A4 (Int.toNat (l1.length : Int)) c4), pl 7 (.int .i64 i1)] a ∧ Sep w0 B w (pg1 :: own 3 (.slice A4 (Int.toNat (l1.length : Int)) c4) (vI x3) :: fs) ∧ ((gameroomref_MagicForms_J6 i1) x3).bind φ2 = some r) ?_ ?_
            · rintro a w ⟨x3, hF, hS, hm⟩
              unfold gameroomref_MagicForms_J6 at hm
              refine reg1 [] [] [0, 3, 4, 5, 6, 7] [pl 0 (.slice A1 l1.length c1), pl 3 (.int .i64 r1), pl 4 (.slice A2 out1.length c2), pl 5 (.int .i64 way1), pl 6 (.slice A4 (Int.toNat (l1.length : Int)) c4), pl 7 (.int .i64 (w64 (i1 + 1)))] hF hS Fol (by kernel_rfl) (by kernel_rfl) (by kernel_rfl) ?_ (fun a w hF hS => ?_)
              · exact obs_nil
              refine then_n ?_
              rw [← hφ2] at hm
              exact ⟨(x3, (w64 (i1 + 1))), ⟨hF.weak [0, 3, 4, 5, 6, 7] (by kernel_rfl), hS⟩, hm⟩
            · refine wpIn_block ?_
              obtain ⟨hp4, hm⟩ := asrt_b hm
              obtain ⟨hp5, hm⟩ := asrt_b hm
              refine reg [⟨true, [], vS (Op.intDiv .rem .i64 i1 r1), .int .i64 (Int.tmod i1 r1)⟩, ⟨true, [], vS (Op.intDiv .quo .i64 i1 r1), .int .i64 (w64 (Int.tdiv i1 r1))⟩] [none, none, some (.int .i64 (Int.tmod i1 r1)), none, none, some (.int .i64 (w64 (Int.tdiv i1 r1))), none, none] [0, 3, 4, 5, 6, 7, 8, 9] [pl 0 (.slice A1 l1.length c1), pl 3 (.int .i64 r1), pl 4 (.slice A2 out1.length c2), pl 5 (.int .i64 way1), pl 6 (.slice A4 (Int.toNat (l1.length : Int)) c4), pl 7 (.int .i64 i1), pl 8 (.int .i64 (Int.tmod i1 r1)), pl 9 (.int .i64 (w64 (Int.tdiv i1 r1)))] hF hS Fol (by kernel_rfl) (by kernel_rfl) (by kernel_rfl) ?_ (fun a w hF hS => ?_)
              · exact obs_cons (ob_rem rfl (fun _ => hp4)) <| obs_cons (ob_quo rfl (fun _ => hp5)) <| obs_nil
              refine seq_cut (fun a w => ∃ (a1 : Int), Fr 65 [pl 0 (.slice A1 l1.length c1), pl 3 (.int .i64 r1), pl 4 (.slice A2 out1.length c2), pl 5 (.int .i64 way1), pl 6 (.slice A4 (Int.toNat (l1.length : Int)) c4), pl 7 (.int .i64 i1), pl 8 (.int .i64 a1), pl 9 (.int .i64 (w64 (Int.tdiv i1 r1)))] a ∧ Sep w0 B w (pg1 :: own 3 (.slice A4 (Int.toNat (l1.length : Int)) c4) (vI x1) :: fs) ∧ ((gameroomref_MagicForms_J7 l1 r1 way1 x1 i1) a1).bind φ2 = some r) ?_ ?_
              · rintro a w ⟨a1, hF, hS, hm⟩
                unfold gameroomref_MagicForms_J7 at hm
                refine seq_cut (fun a w => ∃ (b1 : Int), Fr 65 [pl 0 (.slice A1 l1.length c1), pl 3 (.int .i64 r1), pl 4 (.slice A2 out1.length c2), pl 5 (.int .i64 way1), pl 6 (.slice A4 (Int.toNat (l1.length : Int)) c4), pl 7 (.int .i64 i1), pl 8 (.int .i64 a1), pl 9 (.int .i64 b1)] a ∧ Sep w0 B w (pg1 :: own 3 (.slice A4 (Int.toNat (l1.length : Int)) c4) (vI x1) :: fs) ∧ ((gameroomref_MagicForms_J8 l1 r1 way1 x1 i1 a1) b1).bind φ2 = some r) ?_ ?_
                · rintro a w ⟨b1, hF, hS, hm⟩
                  unfold gameroomref_MagicForms_J8 at hm
                  refine seq_cut (fun a w => ∃ (a2 : Int) (b2 : Int), Fr 65 [pl 0 (.slice A1 l1.length c1), pl 3 (.int .i64 r1), pl 4 (.slice A2 out1.length c2), pl 5 (.int .i64 way1), pl 6 (.slice A4 (Int.toNat (l1.length : Int)) c4), pl 7 (.int .i64 i1), pl 8 (.int .i64 a2), pl 9 (.int .i64 b2)] a ∧ Sep w0 B w (pg1 :: own 3 (.slice A4 (Int.toNat (l1.length : Int)) c4) (vI x1) :: fs) ∧ ((gameroomref_MagicForms_J9 l1 r1 x1 i1) a2 b2).bind φ2 = some r) ?_ ?_
                  · rintro a w ⟨a2, b2, hF, hS, hm⟩
                    unfold gameroomref_MagicForms_J9 at hm
                    refine oneR ?_
                    obtain ⟨hp6, hm⟩ := asrt_b hm
                    obtain ⟨hp7, hm⟩ := asrt_b hm
                    refine at_run 11 [⟨true, [], vS (Instr.indexAt 22 (.slice A1 l1.length c1) (.int .i64 i1)), .pointer (some (sAddr A1 i1))⟩, ⟨false, [], vS (Instr.loadAt 3 (.pointer (some (sAddr A1 i1)))), .int .i64 (geti l1 i1)⟩, ⟨true, [], vS (Instr.indexAt 22 (.slice A4 (Int.toNat (l1.length : Int)) c4) (.int .i64 (w64 ((w64 (b2 * r1)) + a2)))), .pointer (some (sAddr A4 (w64 ((w64 (b2 * r1)) + a2))))⟩] [none, none, none, none, none, none, none, none, some (.pointer (some (sAddr A1 i1))), some (.int .i64 (geti l1 i1)), some (.pointer (some (sAddr A4 (w64 ((w64 (b2 * r1)) + a2)))))] [0, 3, 4, 5, 6, 7, 59, 60] [pl 0 (.slice A1 l1.length c1), pl 3 (.int .i64 r1), pl 4 (.slice A2 out1.length c2), pl 5 (.int .i64 way1), pl 6 (.slice A4 (Int.toNat (l1.length : Int)) c4), pl 7 (.int .i64 i1), pl 59 (.int .i64 (geti l1 i1)), pl 60 (.pointer (some (sAddr A4 (w64 ((w64 (b2 * r1)) + a2)))))] hF hS (by kernel_rfl) (by kernel_rfl) ?_ (fun a w hF hS => ?_)
                    · exact obs_cons (ob_ix1 (f := (Value.int .i64)) (m := l1) Und22 hi3 hs3 (hr_l1 _ (hS.dropN 2)) rfl (fun _ => hp6)) <| obs_cons (ob_get1 (n := l1.length) (m := l1) (Value.int .i64) (0 : Int) Agg3 (fun _ hS => ⟨_, (hr_l1 _ (hS.dropN 2))⟩) (fun _ hS => rfl) (fun _ => hp6)) <| obs_cons (ob_ix1 (f := (Value.int .i64)) (m := x1) Und22 hi3 hs3 (hS.at_ 1 rfl).rd ((hS.at_ 1 rfl).len1) (fun _ => hp7)) <| obs_nil
                    obtain ⟨w, hrun, hS⟩ := run_set1 (P := Try.prog) (t := 3) (x := (geti l1 i1)) (Value.int .i64) (hS.at_ 1 rfl) hi3 hs3 rfl rfl hp7
                    refine at_skip hF (by kernel_rfl) hrun ?_
                    have hS : Sep w0 B w (pg1 :: own 3 (.slice A4 (Int.toNat (l1.length : Int)) c4) (vI (x1.set (Int.toNat (w64 ((w64 (b2 * r1)) + a2))) (geti l1 i1))) :: fs) := hS
                    refine at_end [0, 3, 4, 5, 6, 7] [pl 0 (.slice A1 l1.length c1), pl 3 (.int .i64 r1), pl 4 (.slice A2 out1.length c2), pl 5 (.int .i64 way1), pl 6 (.slice A4 (Int.toNat (l1.length : Int)) c4), pl 7 (.int .i64 i1)] hF rfl (by kernel_rfl) (fun hF => ?_)
                    refine block_n ?_
                    refine then_n ?_
                    exact ⟨(x1.set (Int.toNat (w64 ((w64 (b2 * r1)) + a2))) (geti l1 i1)), hF.weak [0, 3, 4, 5, 6, 7] (by kernel_rfl), hS, hm⟩
                  · refine reg [] [] [0, 3, 4, 5, 6, 7, 8, 9, 47] [pl 0 (.slice A1 l1.length c1), pl 3 (.int .i64 r1), pl 4 (.slice A2 out1.length c2), pl 5 (.int .i64 way1), pl 6 (.slice A4 (Int.toNat (l1.length : Int)) c4), pl 7 (.int .i64 i1), pl 8 (.int .i64 a1), pl 9 (.int .i64 b1), pl 47 (.bool ((bAnd way1 4) == 4))] hF hS Fol (by kernel_rfl) (by kernel_rfl) (by kernel_rfl) ?_ (fun a w hF hS => ?_)
                    · exact obs_nil
                    refine cond_ev (t := 47) (b := ((bAnd way1 4) == 4)) hF (by kernel_rfl) (fun hb => ?_) (fun hb => ?_)
                    · replace hm := if_t hm hb
                      refine reg1 [] [] [0, 3, 4, 5, 6, 7, 8, 9] [pl 0 (.slice A1 l1.length c1), pl 3 (.int .i64 r1), pl 4 (.slice A2 out1.length c2), pl 5 (.int .i64 way1), pl 6 (.slice A4 (Int.toNat (l1.length : Int)) c4), pl 7 (.int .i64 i1), pl 8 (.int .i64 b1), pl 9 (.int .i64 a1)] hF hS Fol (by kernel_rfl) (by kernel_rfl) (by kernel_rfl) ?_ (fun a w hF hS => ?_)
                      · exact obs_nil
                      refine then_n ?_
                      exact ⟨b1, a1, hF.weak [0, 3, 4, 5, 6, 7, 8, 9] (by kernel_rfl), hS, hm⟩
                    · replace hm := if_f hm hb
                      refine wpIn_skip ?_
                      refine then_n ?_
                      exact ⟨a1, b1, hF.weak [0, 3, 4, 5, 6, 7, 8, 9] (by kernel_rfl), hS, hm⟩
                · refine reg [] [] [0, 3, 4, 5, 6, 7, 8, 9, 40] [pl 0 (.slice A1 l1.length c1), pl 3 (.int .i64 r1), pl 4 (.slice A2 out1.length c2), pl 5 (.int .i64 way1), pl 6 (.slice A4 (Int.toNat (l1.length : Int)) c4), pl 7 (.int .i64 i1), pl 8 (.int .i64 a1), pl 9 (.int .i64 (w64 (Int.tdiv i1 r1))), pl 40 (.bool ((bAnd way1 2) == 2))] hF hS Fol (by kernel_rfl) (by kernel_rfl) (by kernel_rfl) ?_ (fun a w hF hS => ?_)
                  · exact obs_nil
                  refine cond_ev (t := 40) (b := ((bAnd way1 2) == 2)) hF (by kernel_rfl) (fun hb => ?_) (fun hb => ?_)
                  · replace hm := if_t hm hb
                    refine reg1 [] [] [0, 3, 4, 5, 6, 7, 8, 9] [pl 0 (.slice A1 l1.length c1), pl 3 (.int .i64 r1), pl 4 (.slice A2 out1.length c2), pl 5 (.int .i64 way1), pl 6 (.slice A4 (Int.toNat (l1.length : Int)) c4), pl 7 (.int .i64 i1), pl 8 (.int .i64 a1), pl 9 (.int .i64 (w64 ((w64 (r1 - 1)) - (w64 (Int.tdiv i1 r1)))))] hF hS Fol (by kernel_rfl) (by kernel_rfl) (by kernel_rfl) ?_ (fun a w hF hS => ?_)
                    · exact obs_nil
                    refine then_n ?_
                    exact ⟨(w64 ((w64 (r1 - 1)) - (w64 (Int.tdiv i1 r1)))), hF.weak [0, 3, 4, 5, 6, 7, 8, 9] (by kernel_rfl), hS, hm⟩
                  · replace hm := if_f hm hb
                    refine wpIn_skip ?_
                    refine then_n ?_
                    exact ⟨(w64 (Int.tdiv i1 r1)), hF.weak [0, 3, 4, 5, 6, 7, 8, 9] (by kernel_rfl), hS, hm⟩
              · refine reg [] [] [0, 3, 4, 5, 6, 7, 8, 9, 33] [pl 0 (.slice A1 l1.length c1), pl 3 (.int .i64 r1), pl 4 (.slice A2 out1.length c2), pl 5 (.int .i64 way1), pl 6 (.slice A4 (Int.toNat (l1.length : Int)) c4), pl 7 (.int .i64 i1), pl 8 (.int .i64 (Int.tmod i1 r1)), pl 9 (.int .i64 (w64 (Int.tdiv i1 r1))), pl 33 (.bool ((bAnd way1 1) == 1))] hF hS Fol (by kernel_rfl) (by kernel_rfl) (by kernel_rfl) ?_ (fun a w hF hS => ?_)
                · exact obs_nil
                refine cond_ev (t := 33) (b := ((bAnd way1 1) == 1)) hF (by kernel_rfl) (fun hb => ?_) (fun hb => ?_)
                · replace hm := if_t hm hb
                  refine reg1 [] [] [0, 3, 4, 5, 6, 7, 8, 9] [pl 0 (.slice A1 l1.length c1), pl 3 (.int .i64 r1), pl 4 (.slice A2 out1.length c2), pl 5 (.int .i64 way1), pl 6 (.slice A4 (Int.toNat (l1.length : Int)) c4), pl 7 (.int .i64 i1), pl 8 (.int .i64 (w64 ((w64 (r1 - 1)) - (Int.tmod i1 r1)))), pl 9 (.int .i64 (w64 (Int.tdiv i1 r1)))] hF hS Fol (by kernel_rfl) (by kernel_rfl) (by kernel_rfl) ?_ (fun a w hF hS => ?_)
                  · exact obs_nil
                  refine then_n ?_
                  exact ⟨(w64 ((w64 (r1 - 1)) - (Int.tmod i1 r1))), hF.weak [0, 3, 4, 5, 6, 7, 8, 9] (by kernel_rfl), hS, hm⟩
                · replace hm := if_f hm hb
                  refine wpIn_skip ?_
                  refine then_n ?_
                  exact ⟨(Int.tmod i1 r1), hF.weak [0, 3, 4, 5, 6, 7, 8, 9] (by kernel_rfl), hS, hm⟩
          · refine reg [] [] [0, 3, 4, 5, 6, 7, 22] [pl 0 (.slice A1 l1.length c1), pl 3 (.int .i64 r1), pl 4 (.slice A2 out1.length c2), pl 5 (.int .i64 way1), pl 6 (.slice A4 (Int.toNat (l1.length : Int)) c4), pl 7 (.int .i64 i1), pl 22 (.bool (decide (i1 < (l1.length : Int))))] hF hS Fol (by kernel_rfl) (by kernel_rfl) (by kernel_rfl) ?_ (fun a w hF hS => ?_)
            · exact obs_nil
            refine cond_ev (t := 22) (b := decide (i1 < (l1.length : Int))) hF (by kernel_rfl) (fun hb => ?_) (fun hb => ?_)
            · replace hm := if_t hm hb
              refine wpIn_skip ?_
              refine then_n ?_
              exact ⟨hF.weak [0, 3, 4, 5, 6, 7] (by kernel_rfl), hS, hm⟩
            · replace hm := if_f hm hb
              refine wpIn_exit ?_
              refine then_e (then_e (block_e (then_n ?_)))
              rw [← hφ2] at hm
              replace hm := done_b hm
              unfold gameroomref_MagicForms_K2 at hm
              try dsimp only at hm
              have hm : ((gameroomref_MagicForms_J4 out1 way1) x1).bind φ1 = some r := hm
              exact ⟨x1, hF.weak [0, 3, 4, 5, 6] (by kernel_rfl), hS, hm⟩
    · refine reg [] [] [0, 3, 4, 5, 13] [pl 0 (.slice A1 l1.length c1), pl 3 (.int .i64 r1), pl 4 (.slice A2 out1.length c2), pl 5 (.int .i64 way1), pl 13 (.bool (decide (way1 < 8)))] hF hS Fol (by kernel_rfl) (by kernel_rfl) (by kernel_rfl) ?_ (fun a w hF hS => ?_)
      · exact obs_nil
      refine cond_ev (t := 13) (b := decide (way1 < 8)) hF (by kernel_rfl) (fun hb => ?_) (fun hb => ?_)
      · replace hm := if_t hm hb
        refine wpIn_skip ?_
        refine then_n ?_
        exact ⟨hF.weak [0, 3, 4, 5] (by kernel_rfl), hS, hm⟩
      · replace hm := if_f hm hb
        refine wpIn_exit ?_
        refine then_e (then_e (block_e (then_n ?_)))
        rw [← hφ1] at hm
        replace hm := done_b hm
        unfold gameroomref_MagicForms_K1 at hm
        try dsimp only at hm
        have hm : (gameroomref_MagicForms_J1 out1).bind some = some r := hm
        exact ⟨out1, pg1, A2, c2, hd1, hF.weak [4] (by kernel_rfl), hS, hp1, hc1, hm⟩

noncomputable def gameroomlaw_sameInts_J4  (i1 : Int) : Option (St Int (Fl Unit Bool)) :=
  some (.next (w64 (i1 + 1)))

noncomputable def gameroomlaw_sameInts_J3  (a1 : List Int) (b1 : List Int) (i1 : Int) : Option (St Int (Fl Unit Bool)) :=
  asrt (0 ≤ i1 ∧ i1 < (a1.length : Int)) <| asrt (0 ≤ i1 ∧ i1 < (b1.length : Int)) <| if ((geti a1 i1) != (geti b1 i1)) then (some (.done (.ret false))) else ((gameroomlaw_sameInts_J4 i1))

noncomputable def gameroomlaw_sameInts_J2  : Option Bool :=
  some true

noncomputable def gameroomlaw_sameInts_K1  : (Fl Unit Bool) → Option Bool :=
  fun (x : (Fl Unit Bool)) => match x with | .go _ => gameroomlaw_sameInts_J2 | .ret x => some x

noncomputable def gameroomlaw_sameInts_L1  (a1 : List Int) (b1 : List Int) : Int → Option (St Int (Fl Unit Bool)) :=
  fun (x : Int) => match x with | i1 => if (decide (i1 < (a1.length : Int))) then ((gameroomlaw_sameInts_J3 a1 b1 i1)) else (some (.done (.go ())))

noncomputable def gameroomlaw_sameInts_J1  (a1 : List Int) (b1 : List Int) : Option Bool :=
  (loop (gameroomlaw_sameInts_L1 a1 b1) 0).bind gameroomlaw_sameInts_K1

noncomputable def gameroomlaw_sameInts_m  (a1 : List Int) (b1 : List Int) : Option Bool :=
  if ((a1.length : Int) != (b1.length : Int)) then (some false) else ((gameroomlaw_sameInts_J1 a1 b1))

set_option maxRecDepth 100000 in
set_option maxHeartbeats 4000000 in
theorem gameroomlaw_sameInts_w  {A1 : Option Addr} {c1 : Nat} {n1 : Nat} {a1 : List Int} {A2 : Option Addr} {c2 : Nat} {n2 : Nat} {b1 : List Int} {r : Bool} {w0 w : World} {B : Nat} {fs : List HP} (hm : gameroomlaw_sameInts_m a1 b1 = some r) (hS : Sep w0 B w (fs)) (hr_a1 : RdF w0 B fs A1 (vI a1)) (_hc_a1 : a1.length ≤ c1) (_hn_a1 : n1 = a1.length) (hr_b1 : RdF w0 B fs A2 (vI b1)) (_hc_b1 : b1.length ≤ c2) (_hn_b1 : n2 = b1.length) :
    Calls Try.prog 25 #[.slice A1 n1 c1, .slice A2 n2 c2] w fun e w' => e = .returned (.bool r) ∧ Sep w0 B w' (fs) := by
  obtain ⟨i3, hi3, hz3, hs3, hb3⟩ := info_parts Info3
  obtain rfl := _hn_a1
  obtain rfl := _hn_b1
  unfold gameroomlaw_sameInts_m at hm
  replace hm := start_b hm
  refine enter (l := [.slice A1 a1.length c1, .slice A2 b1.length c2]) (n := 26) Try.func25 rfl rfl (by simp) (fun a hF => ?_)
  refine reg [] [] [0, 1] [pl 0 (.slice A1 a1.length c1), pl 1 (.slice A2 b1.length c2)] hF hS Fol (by kernel_rfl) (by kernel_rfl) (by kernel_rfl) ?_ (fun a w hF hS => ?_)
  · exact obs_nil
  refine seq_cut (fun a w => Fr 26 [pl 0 (.slice A1 a1.length c1), pl 1 (.slice A2 b1.length c2)] a ∧ Sep w0 B w (fs) ∧ ((gameroomlaw_sameInts_J1 a1 b1)).bind some = some r) ?_ ?_
  · rintro a w ⟨hF, hS, hm⟩
    unfold gameroomlaw_sameInts_J1 at hm
    refine seq_cut (fun a w => Fr 26 [] a ∧ Sep w0 B w (fs) ∧ (gameroomlaw_sameInts_J2).bind some = some r) ?_ ?_
    · rintro a w ⟨hF, hS, hm⟩
      unfold gameroomlaw_sameInts_J2 at hm
      refine reg [] [] [4] [pl 4 (.bool true)] hF hS Fol (by kernel_rfl) (by kernel_rfl) (by kernel_rfl) ?_ (fun a w hF hS => ?_)
      · exact obs_nil
      refine wpIn_ret ?_
      have hm : some true = some r := hm
      obtain rfl := Option.some.inj hm
      exact retV (rs := [.tmp 4]) (vs := [.bool true]) hF rfl (rv_t (by kernel_rfl) <| rv_nil) rfl ⟨rfl, hS⟩
    · refine reg [] [] [0, 1, 5] [pl 0 (.slice A1 a1.length c1), pl 1 (.slice A2 b1.length c2), pl 5 (.int .i64 0)] hF hS Fol (by kernel_rfl) (by kernel_rfl) (by kernel_rfl) ?_ (fun a w hF hS => ?_)
      · exact obs_nil
      refine wpIn_block ?_
      refine wp_loop_model (S := Int) (R := (Fl Unit Bool)) (gameroomlaw_sameInts_L1 a1 b1) (fun x => (gameroomlaw_sameInts_K1 x).bind some) r (fun (x : Int) a w => Fr 26 [pl 0 (.slice A1 a1.length c1), pl 1 (.slice A2 b1.length c2), pl 5 (.int .i64 x)] a ∧ Sep w0 B w (fs)) (assoc_b hm) ⟨hF.weak [0, 1, 5] (by kernel_rfl), hS⟩ ?_
      clear hF hS hm
      rintro nn1 i1 a w ⟨hF, hS⟩ hm
      generalize hφ1 : stK (gameroomlaw_sameInts_L1 a1 b1) nn1 (fun x => (gameroomlaw_sameInts_K1 x).bind some) = φ1 at hm
      unfold gameroomlaw_sameInts_L1 at hm
      dsimp only at hm
      refine seq_cut (fun a w => Fr 26 [pl 0 (.slice A1 a1.length c1), pl 1 (.slice A2 b1.length c2), pl 5 (.int .i64 i1)] a ∧ Sep w0 B w (fs) ∧ ((gameroomlaw_sameInts_J3 a1 b1 i1)).bind φ1 = some r) ?_ ?_
      · rintro a w ⟨hF, hS, hm⟩
        unfold gameroomlaw_sameInts_J3 at hm
        refine seq_cut (fun a w => Fr 26 [pl 0 (.slice A1 a1.length c1), pl 1 (.slice A2 b1.length c2), pl 5 (.int .i64 i1)] a ∧ Sep w0 B w (fs) ∧ ((gameroomlaw_sameInts_J4 i1)).bind φ1 = some r) ?_ ?_
        · rintro a w ⟨hF, hS, hm⟩
          unfold gameroomlaw_sameInts_J4 at hm
          refine reg1 [] [] [0, 1, 5] [pl 0 (.slice A1 a1.length c1), pl 1 (.slice A2 b1.length c2), pl 5 (.int .i64 (w64 (i1 + 1)))] hF hS Fol (by kernel_rfl) (by kernel_rfl) (by kernel_rfl) ?_ (fun a w hF hS => ?_)
          · exact obs_nil
          refine then_n ?_
          rw [← hφ1] at hm
          exact ⟨(w64 (i1 + 1)), ⟨hF.weak [0, 1, 5] (by kernel_rfl), hS⟩, hm⟩
        · refine wpIn_block ?_
          obtain ⟨hp1, hm⟩ := asrt_b hm
          obtain ⟨hp2, hm⟩ := asrt_b hm
          refine reg [⟨true, [], vS (Instr.indexAt 22 (.slice A1 a1.length c1) (.int .i64 i1)), .pointer (some (sAddr A1 i1))⟩, ⟨false, [], vS (Instr.loadAt 3 (.pointer (some (sAddr A1 i1)))), .int .i64 (geti a1 i1)⟩, ⟨true, [], vS (Instr.indexAt 22 (.slice A2 b1.length c2) (.int .i64 i1)), .pointer (some (sAddr A2 i1))⟩, ⟨false, [], vS (Instr.loadAt 3 (.pointer (some (sAddr A2 i1)))), .int .i64 (geti b1 i1)⟩] [none, none, some (.pointer (some (sAddr A1 i1))), some (.int .i64 (geti a1 i1)), none, none, some (.pointer (some (sAddr A2 i1))), some (.int .i64 (geti b1 i1)), none] [0, 1, 5, 25] [pl 0 (.slice A1 a1.length c1), pl 1 (.slice A2 b1.length c2), pl 5 (.int .i64 i1), pl 25 (.bool ((geti a1 i1) != (geti b1 i1)))] hF hS Fol (by kernel_rfl) (by kernel_rfl) (by kernel_rfl) ?_ (fun a w hF hS => ?_)
          · exact obs_cons (ob_ix1 (f := (Value.int .i64)) (m := a1) Und22 hi3 hs3 (hr_a1 _ (hS.dropN 0)) rfl (fun _ => hp1)) <| obs_cons (ob_get1 (n := a1.length) (m := a1) (Value.int .i64) (0 : Int) Agg3 (fun _ hS => ⟨_, (hr_a1 _ (hS.dropN 0))⟩) (fun _ hS => rfl) (fun _ => hp1)) <| obs_cons (ob_ix1 (f := (Value.int .i64)) (m := b1) Und22 hi3 hs3 (hr_b1 _ (hS.dropN 0)) rfl (fun _ => hp2)) <| obs_cons (ob_get1 (n := b1.length) (m := b1) (Value.int .i64) (0 : Int) Agg3 (fun _ hS => ⟨_, (hr_b1 _ (hS.dropN 0))⟩) (fun _ hS => rfl) (fun _ => hp2)) <| obs_nil
          refine cond_ev (t := 25) (b := ((geti a1 i1) != (geti b1 i1))) hF (by kernel_rfl) (fun hb => ?_) (fun hb => ?_)
          · replace hm := if_t hm hb
            refine reg [] [] [4] [pl 4 (.bool false)] hF hS Fol (by kernel_rfl) (by kernel_rfl) (by kernel_rfl) ?_ (fun a w hF hS => ?_)
            · exact obs_nil
            refine wpIn_ret ?_
            refine block_r (then_r (then_r (block_r (then_r ?_))))
            rw [← hφ1] at hm
            replace hm := done_b hm
            unfold gameroomlaw_sameInts_K1 at hm
            try dsimp only at hm
            have hm : some false = some r := hm
            obtain rfl := Option.some.inj hm
            exact retV (rs := [.tmp 4]) (vs := [.bool false]) hF rfl (rv_t (by kernel_rfl) <| rv_nil) rfl ⟨rfl, hS⟩
          · replace hm := if_f hm hb
            refine wpIn_skip ?_
            refine block_n ?_
            refine then_n ?_
            exact ⟨hF.weak [0, 1, 5] (by kernel_rfl), hS, hm⟩
      · refine reg [] [] [0, 1, 5, 14] [pl 0 (.slice A1 a1.length c1), pl 1 (.slice A2 b1.length c2), pl 5 (.int .i64 i1), pl 14 (.bool (decide (i1 < (a1.length : Int))))] hF hS Fol (by kernel_rfl) (by kernel_rfl) (by kernel_rfl) ?_ (fun a w hF hS => ?_)
        · exact obs_nil
        refine cond_ev (t := 14) (b := decide (i1 < (a1.length : Int))) hF (by kernel_rfl) (fun hb => ?_) (fun hb => ?_)
        · replace hm := if_t hm hb
          refine wpIn_skip ?_
          refine then_n ?_
          exact ⟨hF.weak [0, 1, 5] (by kernel_rfl), hS, hm⟩
        · replace hm := if_f hm hb
          refine wpIn_exit ?_
          refine then_e (then_e (block_e (then_n ?_)))
          rw [← hφ1] at hm
          replace hm := done_b hm
          unfold gameroomlaw_sameInts_K1 at hm
          try dsimp only at hm
          have hm : (gameroomlaw_sameInts_J2).bind some = some r := hm
          exact ⟨hF.weak [] (by kernel_rfl), hS, hm⟩
  · refine reg [] [] [0, 1, 10] [pl 0 (.slice A1 a1.length c1), pl 1 (.slice A2 b1.length c2), pl 10 (.bool ((a1.length : Int) != (b1.length : Int)))] hF hS Fol (by kernel_rfl) (by kernel_rfl) (by kernel_rfl) ?_ (fun a w hF hS => ?_)
    · exact obs_nil
    refine cond_ev (t := 10) (b := ((a1.length : Int) != (b1.length : Int))) hF (by kernel_rfl) (fun hb => ?_) (fun hb => ?_)
    · replace hm := if_t hm hb
      refine reg [] [] [4] [pl 4 (.bool false)] hF hS Fol (by kernel_rfl) (by kernel_rfl) (by kernel_rfl) ?_ (fun a w hF hS => ?_)
      · exact obs_nil
      refine wpIn_ret ?_
      refine then_r ?_
      have hm : some false = some r := hm
      obtain rfl := Option.some.inj hm
      exact retV (rs := [.tmp 4]) (vs := [.bool false]) hF rfl (rv_t (by kernel_rfl) <| rv_nil) rfl ⟨rfl, hS⟩
    · replace hm := if_f hm hb
      refine wpIn_skip ?_
      refine then_n ?_
      exact ⟨hF.weak [0, 1] (by kernel_rfl), hS, hm⟩

noncomputable def gameroomlaw_sameRows_J4  (i1 : Int) : Option (St Int (Fl Unit Bool)) :=
  some (.next (w64 (i1 + 1)))

noncomputable def gameroomlaw_sameRows_J3  (a1 : List (List Int)) (b1 : List (List Int)) (i1 : Int) : Option (St Int (Fl Unit Bool)) :=
  asrt (0 ≤ i1 ∧ i1 < (a1.length : Int)) <| asrt (0 ≤ i1 ∧ i1 < (b1.length : Int)) <| (gameroomlaw_sameInts_m (geti2 a1 i1) (geti2 b1 i1)).bind fun r1 => if (!r1) then (some (.done (.ret false))) else ((gameroomlaw_sameRows_J4 i1))

noncomputable def gameroomlaw_sameRows_J2  : Option Bool :=
  some true

noncomputable def gameroomlaw_sameRows_K1  : (Fl Unit Bool) → Option Bool :=
  fun (x : (Fl Unit Bool)) => match x with | .go _ => gameroomlaw_sameRows_J2 | .ret x => some x

noncomputable def gameroomlaw_sameRows_L1  (a1 : List (List Int)) (b1 : List (List Int)) : Int → Option (St Int (Fl Unit Bool)) :=
  fun (x : Int) => match x with | i1 => if (decide (i1 < (a1.length : Int))) then ((gameroomlaw_sameRows_J3 a1 b1 i1)) else (some (.done (.go ())))

noncomputable def gameroomlaw_sameRows_J1  (a1 : List (List Int)) (b1 : List (List Int)) : Option Bool :=
  (loop (gameroomlaw_sameRows_L1 a1 b1) 0).bind gameroomlaw_sameRows_K1

noncomputable def gameroomlaw_sameRows_m  (a1 : List (List Int)) (b1 : List (List Int)) : Option Bool :=
  if ((a1.length : Int) != (b1.length : Int)) then (some false) else ((gameroomlaw_sameRows_J1 a1 b1))

set_option maxRecDepth 100000 in
set_option maxHeartbeats 4000000 in
theorem gameroomlaw_sameRows_w  {A1 : Option Addr} {c1 : Nat} {n1 : Nat} {hd1 : List Hd} {a1 : List (List Int)} {A2 : Option Addr} {c2 : Nat} {n2 : Nat} {hd2 : List Hd} {b1 : List (List Int)} {r : Bool} {w0 w : World} {B : Nat} {fs : List HP} (hm : gameroomlaw_sameRows_m a1 b1 = some r) (hS : Sep w0 B w (fs)) (hr_a1 : RdRowsF w0 B fs A1 hd1 a1) (_hc_a1 : a1.length ≤ c1) (_hn_a1 : n1 = a1.length) (hr_b1 : RdRowsF w0 B fs A2 hd2 b1) (_hc_b1 : b1.length ≤ c2) (_hn_b1 : n2 = b1.length) :
    Calls Try.prog 47 #[.slice A1 n1 c1, .slice A2 n2 c2] w fun e w' => e = .returned (.bool r) ∧ Sep w0 B w' (fs) := by
  obtain ⟨i22, hi22, hz22, hs22, hb22⟩ := info_parts Info22
  obtain rfl := _hn_a1
  obtain rfl := _hn_b1
  unfold gameroomlaw_sameRows_m at hm
  replace hm := start_b hm
  refine enter (l := [.slice A1 a1.length c1, .slice A2 b1.length c2]) (n := 27) Try.func47 rfl rfl (by simp) (fun a hF => ?_)
  refine reg [] [] [0, 1] [pl 0 (.slice A1 a1.length c1), pl 1 (.slice A2 b1.length c2)] hF hS Fol (by kernel_rfl) (by kernel_rfl) (by kernel_rfl) ?_ (fun a w hF hS => ?_)
  · exact obs_nil
  refine seq_cut (fun a w => Fr 27 [pl 0 (.slice A1 a1.length c1), pl 1 (.slice A2 b1.length c2)] a ∧ Sep w0 B w (fs) ∧ ((gameroomlaw_sameRows_J1 a1 b1)).bind some = some r) ?_ ?_
  · rintro a w ⟨hF, hS, hm⟩
    unfold gameroomlaw_sameRows_J1 at hm
    refine seq_cut (fun a w => Fr 27 [] a ∧ Sep w0 B w (fs) ∧ (gameroomlaw_sameRows_J2).bind some = some r) ?_ ?_
    · rintro a w ⟨hF, hS, hm⟩
      unfold gameroomlaw_sameRows_J2 at hm
      refine reg [] [] [4] [pl 4 (.bool true)] hF hS Fol (by kernel_rfl) (by kernel_rfl) (by kernel_rfl) ?_ (fun a w hF hS => ?_)
      · exact obs_nil
      refine wpIn_ret ?_
      have hm : some true = some r := hm
      obtain rfl := Option.some.inj hm
      exact retV (rs := [.tmp 4]) (vs := [.bool true]) hF rfl (rv_t (by kernel_rfl) <| rv_nil) rfl ⟨rfl, hS⟩
    · refine reg [] [] [0, 1, 5] [pl 0 (.slice A1 a1.length c1), pl 1 (.slice A2 b1.length c2), pl 5 (.int .i64 0)] hF hS Fol (by kernel_rfl) (by kernel_rfl) (by kernel_rfl) ?_ (fun a w hF hS => ?_)
      · exact obs_nil
      refine wpIn_block ?_
      refine wp_loop_model (S := Int) (R := (Fl Unit Bool)) (gameroomlaw_sameRows_L1 a1 b1) (fun x => (gameroomlaw_sameRows_K1 x).bind some) r (fun (x : Int) a w => Fr 27 [pl 0 (.slice A1 a1.length c1), pl 1 (.slice A2 b1.length c2), pl 5 (.int .i64 x)] a ∧ Sep w0 B w (fs)) (assoc_b hm) ⟨hF.weak [0, 1, 5] (by kernel_rfl), hS⟩ ?_
      clear hF hS hm
      rintro nn1 i1 a w ⟨hF, hS⟩ hm
      generalize hφ1 : stK (gameroomlaw_sameRows_L1 a1 b1) nn1 (fun x => (gameroomlaw_sameRows_K1 x).bind some) = φ1 at hm
      unfold gameroomlaw_sameRows_L1 at hm
      dsimp only at hm
      refine seq_cut (fun a w => Fr 27 [pl 0 (.slice A1 a1.length c1), pl 1 (.slice A2 b1.length c2), pl 5 (.int .i64 i1)] a ∧ Sep w0 B w (fs) ∧ ((gameroomlaw_sameRows_J3 a1 b1 i1)).bind φ1 = some r) ?_ ?_
      · rintro a w ⟨hF, hS, hm⟩
        unfold gameroomlaw_sameRows_J3 at hm
        refine seq_cut (fun a w => Fr 27 [pl 0 (.slice A1 a1.length c1), pl 1 (.slice A2 b1.length c2), pl 5 (.int .i64 i1)] a ∧ Sep w0 B w (fs) ∧ ((gameroomlaw_sameRows_J4 i1)).bind φ1 = some r) ?_ ?_
        · rintro a w ⟨hF, hS, hm⟩
          unfold gameroomlaw_sameRows_J4 at hm
          refine reg1 [] [] [0, 1, 5] [pl 0 (.slice A1 a1.length c1), pl 1 (.slice A2 b1.length c2), pl 5 (.int .i64 (w64 (i1 + 1)))] hF hS Fol (by kernel_rfl) (by kernel_rfl) (by kernel_rfl) ?_ (fun a w hF hS => ?_)
          · exact obs_nil
          refine then_n ?_
          rw [← hφ1] at hm
          exact ⟨(w64 (i1 + 1)), ⟨hF.weak [0, 1, 5] (by kernel_rfl), hS⟩, hm⟩
        · refine wpIn_block ?_
          obtain ⟨hp1, hm⟩ := asrt_b hm
          obtain ⟨hp2, hm⟩ := asrt_b hm
          obtain ⟨r1, hr1, hm⟩ := call_b hm
          refine reg [⟨true, [], vS (Instr.indexAt 42 (.slice A1 a1.length c1) (.int .i64 i1)), .pointer (some (sAddr A1 i1))⟩, ⟨false, [], vS (Instr.loadAt 22 (.pointer (some (sAddr A1 i1)))), .slice (hdA hd1 i1) ((geti2 a1 i1).length) (hdC hd1 i1)⟩, ⟨true, [], vS (Instr.indexAt 42 (.slice A2 b1.length c2) (.int .i64 i1)), .pointer (some (sAddr A2 i1))⟩, ⟨false, [], vS (Instr.loadAt 22 (.pointer (some (sAddr A2 i1)))), .slice (hdA hd2 i1) ((geti2 b1 i1).length) (hdC hd2 i1)⟩, ⟨false, [], callFunc 25 #[.slice (hdA hd1 i1) ((geti2 a1 i1).length) (hdC hd1 i1), .slice (hdA hd2 i1) ((geti2 b1 i1).length) (hdC hd2 i1)], .bool r1⟩] [none, none, some (.pointer (some (sAddr A1 i1))), some (.slice (hdA hd1 i1) ((geti2 a1 i1).length) (hdC hd1 i1)), none, none, some (.pointer (some (sAddr A2 i1))), some (.slice (hdA hd2 i1) ((geti2 b1 i1).length) (hdC hd2 i1)), some (.bool r1), none] [0, 1, 5, 26] [pl 0 (.slice A1 a1.length c1), pl 1 (.slice A2 b1.length c2), pl 5 (.int .i64 i1), pl 26 (.bool (!r1))] hF hS Fol (by kernel_rfl) (by kernel_rfl) (by kernel_rfl) ?_ (fun a w hF hS => ?_)
          · exact obs_cons (ob_ixRn Und42 hi22 hs22 (hr_a1 _ (hS.dropN 0)) rfl (fun _ => hp1)) <| obs_cons (ob_getR Agg22 (fun _ hS => ⟨_, (hr_a1 _ (hS.dropN 0))⟩) (fun _ => hp1)) <| obs_cons (ob_ixRn Und42 hi22 hs22 (hr_b1 _ (hS.dropN 0)) rfl (fun _ => hp2)) <| obs_cons (ob_getR Agg22 (fun _ hS => ⟨_, (hr_b1 _ (hS.dropN 0))⟩) (fun _ => hp2)) <| obs_cons (ob_call Try.func25 (by kernel_rfl) rfl (fun _ _ hS => gameroomlaw_sameInts_w hr1 hS (fun _ hS => ((hr_a1 _ (hS.dropN 0)).row _ hp1).1) ((hr_a1 _ (hS.dropN 0)).row _ hp1).2 rfl (fun _ hS => ((hr_b1 _ (hS.dropN 0)).row _ hp2).1) ((hr_b1 _ (hS.dropN 0)).row _ hp2).2 rfl)) <| obs_nil
          refine cond_ev (t := 26) (b := !r1) hF (by kernel_rfl) (fun hb => ?_) (fun hb => ?_)
          · replace hm := if_t hm hb
            refine reg [] [] [4] [pl 4 (.bool false)] hF hS Fol (by kernel_rfl) (by kernel_rfl) (by kernel_rfl) ?_ (fun a w hF hS => ?_)
            · exact obs_nil
            refine wpIn_ret ?_
            refine block_r (then_r (then_r (block_r (then_r ?_))))
            rw [← hφ1] at hm
            replace hm := done_b hm
            unfold gameroomlaw_sameRows_K1 at hm
            try dsimp only at hm
            have hm : some false = some r := hm
            obtain rfl := Option.some.inj hm
            exact retV (rs := [.tmp 4]) (vs := [.bool false]) hF rfl (rv_t (by kernel_rfl) <| rv_nil) rfl ⟨rfl, hS⟩
          · replace hm := if_f hm hb
            refine wpIn_skip ?_
            refine block_n ?_
            refine then_n ?_
            exact ⟨hF.weak [0, 1, 5] (by kernel_rfl), hS, hm⟩
      · refine reg [] [] [0, 1, 5, 14] [pl 0 (.slice A1 a1.length c1), pl 1 (.slice A2 b1.length c2), pl 5 (.int .i64 i1), pl 14 (.bool (decide (i1 < (a1.length : Int))))] hF hS Fol (by kernel_rfl) (by kernel_rfl) (by kernel_rfl) ?_ (fun a w hF hS => ?_)
        · exact obs_nil
        refine cond_ev (t := 14) (b := decide (i1 < (a1.length : Int))) hF (by kernel_rfl) (fun hb => ?_) (fun hb => ?_)
        · replace hm := if_t hm hb
          refine wpIn_skip ?_
          refine then_n ?_
          exact ⟨hF.weak [0, 1, 5] (by kernel_rfl), hS, hm⟩
        · replace hm := if_f hm hb
          refine wpIn_exit ?_
          refine then_e (then_e (block_e (then_n ?_)))
          rw [← hφ1] at hm
          replace hm := done_b hm
          unfold gameroomlaw_sameRows_K1 at hm
          try dsimp only at hm
          have hm : (gameroomlaw_sameRows_J2).bind some = some r := hm
          exact ⟨hF.weak [] (by kernel_rfl), hS, hm⟩
  · refine reg [] [] [0, 1, 10] [pl 0 (.slice A1 a1.length c1), pl 1 (.slice A2 b1.length c2), pl 10 (.bool ((a1.length : Int) != (b1.length : Int)))] hF hS Fol (by kernel_rfl) (by kernel_rfl) (by kernel_rfl) ?_ (fun a w hF hS => ?_)
    · exact obs_nil
    refine cond_ev (t := 10) (b := ((a1.length : Int) != (b1.length : Int))) hF (by kernel_rfl) (fun hb => ?_) (fun hb => ?_)
    · replace hm := if_t hm hb
      refine reg [] [] [4] [pl 4 (.bool false)] hF hS Fol (by kernel_rfl) (by kernel_rfl) (by kernel_rfl) ?_ (fun a w hF hS => ?_)
      · exact obs_nil
      refine wpIn_ret ?_
      refine then_r ?_
      have hm : some false = some r := hm
      obtain rfl := Option.some.inj hm
      exact retV (rs := [.tmp 4]) (vs := [.bool false]) hF rfl (rv_t (by kernel_rfl) <| rv_nil) rfl ⟨rfl, hS⟩
    · replace hm := if_f hm hb
      refine wpIn_skip ?_
      refine then_n ?_
      exact ⟨hF.weak [0, 1] (by kernel_rfl), hS, hm⟩

noncomputable def gameroomref_MagicProduct_J5  (a1 : List Int) (b1 : List Int) (r1 : Int) (r2 : Int) (i1 : Int) (out3 : List Int) (k1 : Int) : Option (St (List Int × Int) (List Int)) :=
  some (.next ((out3.set (Int.toNat (w64 ((w64 ((w64 ((w64 ((w64 ((w64 (Int.tdiv i1 r1)) * r2)) + (w64 (Int.tdiv k1 r2)))) * r1)) * r2)) + (w64 ((w64 ((Int.tmod i1 r1) * r2)) + (Int.tmod k1 r2)))))) (w64 ((w64 ((w64 ((w64 ((geti a1 i1) - 1)) * r2)) * r2)) + (geti b1 k1)))), (w64 (k1 + 1))))

noncomputable def gameroomref_MagicProduct_J4  (a1 : List Int) (b1 : List Int) (r1 : Int) (r2 : Int) (i1 : Int) (out3 : List Int) (k1 : Int) : Option (St (List Int × Int) (List Int)) :=
  asrt (r1 ≠ (0 : Int)) <| asrt (r2 ≠ (0 : Int)) <| asrt (r1 ≠ (0 : Int)) <| asrt (r2 ≠ (0 : Int)) <| asrt (0 ≤ i1 ∧ i1 < (a1.length : Int)) <| asrt (0 ≤ k1 ∧ k1 < (b1.length : Int)) <| asrt (0 ≤ (w64 ((w64 ((w64 ((w64 ((w64 ((w64 (Int.tdiv i1 r1)) * r2)) + (w64 (Int.tdiv k1 r2)))) * r1)) * r2)) + (w64 ((w64 ((Int.tmod i1 r1) * r2)) + (Int.tmod k1 r2))))) ∧ (w64 ((w64 ((w64 ((w64 ((w64 ((w64 (Int.tdiv i1 r1)) * r2)) + (w64 (Int.tdiv k1 r2)))) * r1)) * r2)) + (w64 ((w64 ((Int.tmod i1 r1) * r2)) + (Int.tmod k1 r2))))) < (((Int.toNat (w64 ((w64 ((w64 (r1 * r2)) * r1)) * r2))) : Nat) : Int)) <| (gameroomref_MagicProduct_J5 a1 b1 r1 r2 i1 out3 k1)

noncomputable def gameroomref_MagicProduct_J3  (i1 : Int) (out4 : List Int) : Option (St (List Int × Int) (List Int)) :=
  some (.next (out4, (w64 (i1 + 1))))

noncomputable def gameroomref_MagicProduct_K2  (i1 : Int) : (List Int) → Option (St (List Int × Int) (List Int)) :=
  fun (x : (List Int)) => match x with | out4 => (gameroomref_MagicProduct_J3 i1) out4

noncomputable def gameroomref_MagicProduct_L2  (a1 : List Int) (b1 : List Int) (r1 : Int) (r2 : Int) (i1 : Int) : (List Int × Int) → Option (St (List Int × Int) (List Int)) :=
  fun (x : (List Int × Int)) => match x with | (out3, k1) => if (decide (k1 < (b1.length : Int))) then ((gameroomref_MagicProduct_J4 a1 b1 r1 r2 i1 out3 k1)) else (some (.done out3))

noncomputable def gameroomref_MagicProduct_J2  (a1 : List Int) (b1 : List Int) (r1 : Int) (r2 : Int) (out1 : List Int) (i1 : Int) : Option (St (List Int × Int) (List Int)) :=
  (loop (gameroomref_MagicProduct_L2 a1 b1 r1 r2 i1) (out1, 0)).bind (gameroomref_MagicProduct_K2 i1)

noncomputable def gameroomref_MagicProduct_J1  (out2 : List Int) : Option (List Int) :=
  some out2

noncomputable def gameroomref_MagicProduct_K1  : (List Int) → Option (List Int) :=
  fun (x : (List Int)) => match x with | out2 => gameroomref_MagicProduct_J1 out2

noncomputable def gameroomref_MagicProduct_L1  (a1 : List Int) (b1 : List Int) (r1 : Int) (r2 : Int) : (List Int × Int) → Option (St (List Int × Int) (List Int)) :=
  fun (x : (List Int × Int)) => match x with | (out1, i1) => if (decide (i1 < (a1.length : Int))) then ((gameroomref_MagicProduct_J2 a1 b1 r1 r2 out1 i1)) else (some (.done out1))

noncomputable def gameroomref_MagicProduct_m  (a1 : List Int) (b1 : List Int) : Option (List Int) :=
  (gameroomref_MagicSide_m a1).bind fun r1 => (gameroomref_MagicSide_m b1).bind fun r2 => asrt ((0 : Int) ≤ (w64 ((w64 ((w64 (r1 * r2)) * r1)) * r2)) ∧ (w64 ((w64 ((w64 (r1 * r2)) * r1)) * r2)) ≤ bigN) <| (loop (gameroomref_MagicProduct_L1 a1 b1 r1 r2) ((List.replicate (Int.toNat (w64 ((w64 ((w64 (r1 * r2)) * r1)) * r2))) (0 : Int)), 0)).bind gameroomref_MagicProduct_K1

set_option maxRecDepth 100000 in
set_option maxHeartbeats 4000000 in
theorem gameroomref_MagicProduct_w  {A1 : Option Addr} {c1 : Nat} {n1 : Nat} {a1 : List Int} {A2 : Option Addr} {c2 : Nat} {n2 : Nat} {b1 : List Int} {r : (List Int)} {w0 w : World} {B : Nat} {fs : List HP} (hm : gameroomref_MagicProduct_m a1 b1 = some r) (hS : Sep w0 B w (fs)) (hr_a1 : RdF w0 B fs A1 (vI a1)) (_hc_a1 : a1.length ≤ c1) (_hn_a1 : n1 = a1.length) (hr_b1 : RdF w0 B fs A2 (vI b1)) (_hc_b1 : b1.length ≤ c2) (_hn_b1 : n2 = b1.length) :
    Calls Try.prog 59 #[.slice A1 n1 c1, .slice A2 n2 c2] w fun e w' => ∃ v, e = .returned v ∧ ∃ (A4 : Option Addr) (c4 : Nat), v = .slice A4 r.length c4 ∧ Sep w0 B w' (own 3 (.slice A4 r.length c4) (vI r) :: fs) := by
  obtain ⟨i3, hi3, hz3, hs3, hb3⟩ := info_parts Info3
  obtain rfl := _hn_a1
  obtain rfl := _hn_b1
  unfold gameroomref_MagicProduct_m at hm
  replace hm := start_b hm
  refine enter (l := [.slice A1 a1.length c1, .slice A2 b1.length c2]) (n := 78) Try.func59 rfl rfl (by simp) (fun a hF => ?_)
  refine reg [] [] [0, 1] [pl 0 (.slice A1 a1.length c1), pl 1 (.slice A2 b1.length c2)] hF hS Fol (by kernel_rfl) (by kernel_rfl) (by kernel_rfl) ?_ (fun a w hF hS => ?_)
  · exact obs_nil
  obtain ⟨r1, hr1, hm⟩ := call_b hm
  obtain ⟨r2, hr2, hm⟩ := call_b hm
  refine reg [⟨false, [], callFunc 56 #[.slice A1 a1.length c1], .int .i64 r1⟩, ⟨false, [], callFunc 56 #[.slice A2 b1.length c2], .int .i64 r2⟩] [none, some (.int .i64 r1), none, some (.int .i64 r2), none, none] [0, 1, 5, 6] [pl 0 (.slice A1 a1.length c1), pl 1 (.slice A2 b1.length c2), pl 5 (.int .i64 r1), pl 6 (.int .i64 r2)] hF hS Fol (by kernel_rfl) (by kernel_rfl) (by kernel_rfl) ?_ (fun a w hF hS => ?_)
  · exact obs_cons (ob_call Try.func56 (by kernel_rfl) rfl (fun _ _ hS => gameroomref_MagicSide_w hr1 hS (fun _ hS => (hr_a1 _ (hS.dropN 0))) _hc_a1 rfl)) <| obs_cons (ob_call Try.func56 (by kernel_rfl) rfl (fun _ _ hS => gameroomref_MagicSide_w hr2 hS (fun _ hS => (hr_b1 _ (hS.dropN 0))) _hc_b1 rfl)) <| obs_nil
  refine seqR ?_
  obtain ⟨hp1, hm⟩ := asrt_b hm
  refine at_run 7 [] [] [0, 1, 5, 6, 22] [pl 0 (.slice A1 a1.length c1), pl 1 (.slice A2 b1.length c2), pl 5 (.int .i64 r1), pl 6 (.int .i64 r2), pl 22 (.int .i64 (w64 ((w64 ((w64 (r1 * r2)) * r1)) * r2)))] hF hS (by kernel_rfl) (by kernel_rfl) ?_ (fun a w hF hS => ?_)
  · exact obs_nil
  obtain ⟨A3, c3, w, hrun, hS⟩ := run_mk1 (P := Try.prog) (t := 22) (Value.int .i64) (0 : Int) hS .i64 .i64 Und22 hi3 hz3 hs3 (by omega) rfl hp1
  have hS : Sep w0 B w (own 3 (.slice A3 (Int.toNat (w64 ((w64 ((w64 (r1 * r2)) * r1)) * r2))) c3) (vI (List.replicate (Int.toNat (w64 ((w64 ((w64 (r1 * r2)) * r1)) * r2))) (0 : Int))) :: fs) := hS
  refine at_do (d := 23) hF (by kernel_rfl) (by kernel_rfl) hrun (fun a hF => ?_)
  refine at_run 1 [] [] [0, 1, 5, 6, 7] [pl 0 (.slice A1 a1.length c1), pl 1 (.slice A2 b1.length c2), pl 5 (.int .i64 r1), pl 6 (.int .i64 r2), pl 7 (.slice A3 (Int.toNat (w64 ((w64 ((w64 (r1 * r2)) * r1)) * r2))) c3)] hF hS (by kernel_rfl) (by kernel_rfl) ?_ (fun a w hF hS => ?_)
  · exact obs_nil
  refine at_end [0, 1, 5, 6, 7] [pl 0 (.slice A1 a1.length c1), pl 1 (.slice A2 b1.length c2), pl 5 (.int .i64 r1), pl 6 (.int .i64 r2), pl 7 (.slice A3 (Int.toNat (w64 ((w64 ((w64 (r1 * r2)) * r1)) * r2))) c3)] hF rfl (by kernel_rfl) (fun hF => ?_)
  refine then_n ?_
  refine seq_cut (fun a w => ∃ (out2 : List Int), Fr 78 [pl 7 (.slice A3 (Int.toNat (w64 ((w64 ((w64 (r1 * r2)) * r1)) * r2))) c3)] a ∧ Sep w0 B w (own 3 (.slice A3 (Int.toNat (w64 ((w64 ((w64 (r1 * r2)) * r1)) * r2))) c3) (vI out2) :: fs) ∧ (gameroomref_MagicProduct_J1 out2).bind some = some r) ?_ ?_
  · rintro a w ⟨out2, hF, hS, hm⟩
    unfold gameroomref_MagicProduct_J1 at hm
    refine reg [] [] [4] [pl 4 (.slice A3 (Int.toNat (w64 ((w64 ((w64 (r1 * r2)) * r1)) * r2))) c3)] hF hS Fol (by kernel_rfl) (by kernel_rfl) (by kernel_rfl) ?_ (fun a w hF hS => ?_)
    · exact obs_nil
    refine wpIn_ret ?_
    have hl1 := (hS.at_ 0 rfl).len1
    have hS := (hS.at_ 0 rfl).reN hl1
    have hS : Sep w0 B w (own 3 (.slice A3 out2.length c3) (vI out2) :: fs) := hS
    have hF := hF.cast (t := 4) (v := .slice A3 (Int.toNat (w64 ((w64 ((w64 (r1 * r2)) * r1)) * r2))) c3) (v' := .slice A3 out2.length c3) rfl rfl (congrArg (fun k => Value.slice A3 k c3) hl1)
    have hm : some out2 = some r := hm
    obtain rfl := Option.some.inj hm
    exact retV (rs := [.tmp 4]) (vs := [.slice A3 out2.length c3]) hF rfl (rv_t (by kernel_rfl) <| rv_nil) rfl ⟨_, rfl, A3, c3, rfl, hS⟩
  · refine reg [] [] [0, 1, 5, 6, 7, 8] [pl 0 (.slice A1 a1.length c1), pl 1 (.slice A2 b1.length c2), pl 5 (.int .i64 r1), pl 6 (.int .i64 r2), pl 7 (.slice A3 (Int.toNat (w64 ((w64 ((w64 (r1 * r2)) * r1)) * r2))) c3), pl 8 (.int .i64 0)] hF hS Fol (by kernel_rfl) (by kernel_rfl) (by kernel_rfl) ?_ (fun a w hF hS => ?_)
    · exact obs_nil
    refine wpIn_block ?_
    refine wp_loop_model (S := (List Int × Int)) (R := (List Int)) (gameroomref_MagicProduct_L1 a1 b1 r1 r2) (fun x => (gameroomref_MagicProduct_K1 x).bind some) r (fun (x : (List Int × Int)) a w => Fr 78 [pl 0 (.slice A1 a1.length c1), pl 1 (.slice A2 b1.length c2), pl 5 (.int .i64 r1), pl 6 (.int .i64 r2), pl 7 (.slice A3 (Int.toNat (w64 ((w64 ((w64 (r1 * r2)) * r1)) * r2))) c3), pl 8 (.int .i64 x.2)] a ∧ Sep w0 B w (own 3 (.slice A3 (Int.toNat (w64 ((w64 ((w64 (r1 * r2)) * r1)) * r2))) c3) (vI x.1) :: fs)) (assoc_b hm) ⟨hF.weak [0, 1, 5, 6, 7, 8] (by kernel_rfl), hS⟩ ?_
    clear hF hS hm
    rintro nn1 ⟨out1, i1⟩ a w ⟨hF, hS⟩ hm
    generalize hφ1 : stK (gameroomref_MagicProduct_L1 a1 b1 r1 r2) nn1 (fun x => (gameroomref_MagicProduct_K1 x).bind some) = φ1 at hm
    unfold gameroomref_MagicProduct_L1 at hm
    dsimp only at hF hS hm
    refine seq_cut (fun a w => Fr 78 [pl 0 (.slice A1 a1.length c1), pl 1 (.slice A2 b1.length c2), pl 5 (.int .i64 r1), pl 6 (.int .i64 r2), pl 7 (.slice A3 (Int.toNat (w64 ((w64 ((w64 (r1 * r2)) * r1)) * r2))) c3), pl 8 (.int .i64 i1)] a ∧ Sep w0 B w (own 3 (.slice A3 (Int.toNat (w64 ((w64 ((w64 (r1 * r2)) * r1)) * r2))) c3) (vI out1) :: fs) ∧ ((gameroomref_MagicProduct_J2 a1 b1 r1 r2 out1 i1)).bind φ1 = some r) ?_ ?_
    · rintro a w ⟨hF, hS, hm⟩
      unfold gameroomref_MagicProduct_J2 at hm
      refine seq_cut (fun a w => ∃ (out4 : List Int), Fr 78 [pl 0 (.slice A1 a1.length c1), pl 1 (.slice A2 b1.length c2), pl 5 (.int .i64 r1), pl 6 (.int .i64 r2), pl 7 (.slice A3 (Int.toNat (w64 ((w64 ((w64 (r1 * r2)) * r1)) * r2))) c3), pl 8 (.int .i64 i1)] a ∧ Sep w0 B w (own 3 (.slice A3 (Int.toNat (w64 ((w64 ((w64 (r1 * r2)) * r1)) * r2))) c3) (vI out4) :: fs) ∧ ((gameroomref_MagicProduct_J3 i1) out4).bind φ1 = some r) ?_ ?_
      · rintro a w ⟨out4, hF, hS, hm⟩
        unfold gameroomref_MagicProduct_J3 at hm
        refine reg1 [] [] [0, 1, 5, 6, 7, 8] [pl 0 (.slice A1 a1.length c1), pl 1 (.slice A2 b1.length c2), pl 5 (.int .i64 r1), pl 6 (.int .i64 r2), pl 7 (.slice A3 (Int.toNat (w64 ((w64 ((w64 (r1 * r2)) * r1)) * r2))) c3), pl 8 (.int .i64 (w64 (i1 + 1)))] hF hS Fol (by kernel_rfl) (by kernel_rfl) (by kernel_rfl) ?_ (fun a w hF hS => ?_)
        · exact obs_nil
        refine then_n ?_
        rw [← hφ1] at hm
        exact ⟨(out4, (w64 (i1 + 1))), ⟨hF.weak [0, 1, 5, 6, 7, 8] (by kernel_rfl), hS⟩, hm⟩
      · refine wpIn_block ?_
        refine reg [] [] [0, 1, 5, 6, 7, 8, 9] [pl 0 (.slice A1 a1.length c1), pl 1 (.slice A2 b1.length c2), pl 5 (.int .i64 r1), pl 6 (.int .i64 r2), pl 7 (.slice A3 (Int.toNat (w64 ((w64 ((w64 (r1 * r2)) * r1)) * r2))) c3), pl 8 (.int .i64 i1), pl 9 (.int .i64 0)] hF hS Fol (by kernel_rfl) (by kernel_rfl) (by kernel_rfl) ?_ (fun a w hF hS => ?_)
        · exact obs_nil
        refine wpIn_block ?_
        refine wp_loop_model (S := (List Int × Int)) (R := (List Int)) (gameroomref_MagicProduct_L2 a1 b1 r1 r2 i1) (fun x => ((gameroomref_MagicProduct_K2 i1) x).bind φ1) r (fun (x : (List Int × Int)) a w => Fr 78 [pl 0 (.slice A1 a1.length c1), pl 1 (.slice A2 b1.length c2), pl 5 (.int .i64 r1), pl 6 (.int .i64 r2), pl 7 (.slice A3 (Int.toNat (w64 ((w64 ((w64 (r1 * r2)) * r1)) * r2))) c3), pl 8 (.int .i64 i1), pl 9 (.int .i64 x.2)] a ∧ Sep w0 B w (own 3 (.slice A3 (Int.toNat (w64 ((w64 ((w64 (r1 * r2)) * r1)) * r2))) c3) (vI x.1) :: fs)) (assoc_b hm) ⟨hF.weak [0, 1, 5, 6, 7, 8, 9] (by kernel_rfl), hS⟩ ?_
        clear hF hS hm
        rintro nn2 ⟨out3, k1⟩ a w ⟨hF, hS⟩ hm
        generalize hφ2 : stK (gameroomref_MagicProduct_L2 a1 b1 r1 r2 i1) nn2 (fun x => ((gameroomref_MagicProduct_K2 i1) x).bind φ1) = φ2 at hm
        unfold gameroomref_MagicProduct_L2 at hm
        dsimp only at hF hS hm
        refine seq_cut (fun a w => Fr 78 [pl 0 (.slice A1 a1.length c1), pl 1 (.slice A2 b1.length c2), pl 5 (.int .i64 r1), pl 6 (.int .i64 r2), pl 7 (.slice A3 (Int.toNat (w64 ((w64 ((w64 (r1 * r2)) * r1)) * r2))) c3), pl 8 (.int .i64 i1), pl 9 (.int .i64 k1)] a ∧ Sep w0 B w (own 3 (.slice A3 (Int.toNat (w64 ((w64 ((w64 (r1 * r2)) * r1)) * r2))) c3) (vI out3) :: fs) ∧ ((gameroomref_MagicProduct_J4 a1 b1 r1 r2 i1 out3 k1)).bind φ2 = some r) ?_ ?_
        · rintro a w ⟨hF, hS, hm⟩
          unfold gameroomref_MagicProduct_J4 at hm
          refine seq_cut (fun a w => Fr 78 [pl 0 (.slice A1 a1.length c1), pl 1 (.slice A2 b1.length c2), pl 5 (.int .i64 r1), pl 6 (.int .i64 r2), pl 7 (.slice A3 (Int.toNat (w64 ((w64 ((w64 (r1 * r2)) * r1)) * r2))) c3), pl 8 (.int .i64 i1), pl 9 (.int .i64 k1)] a ∧ Sep w0 B w (own 3 (.slice A3 (Int.toNat (w64 ((w64 ((w64 (r1 * r2)) * r1)) * r2))) c3) (vI (out3.set (Int.toNat (w64 ((w64 ((w64 ((w64 ((w64 ((w64 (Int.tdiv i1 r1)) * r2)) + (w64 (Int.tdiv k1 r2)))) * r1)) * r2)) + (w64 ((w64 ((Int.tmod i1 r1) * r2)) + (Int.tmod k1 r2)))))) (w64 ((w64 ((w64 ((w64 ((geti a1 i1) - 1)) * r2)) * r2)) + (geti b1 k1))))) :: fs) ∧ ((gameroomref_MagicProduct_J5 a1 b1 r1 r2 i1 out3 k1)).bind φ2 = some r) ?_ ?_
          · rintro a w ⟨hF, hS, hm⟩
            unfold gameroomref_MagicProduct_J5 at hm
            refine reg1 [] [] [0, 1, 5, 6, 7, 8, 9] [pl 0 (.slice A1 a1.length c1), pl 1 (.slice A2 b1.length c2), pl 5 (.int .i64 r1), pl 6 (.int .i64 r2), pl 7 (.slice A3 (Int.toNat (w64 ((w64 ((w64 (r1 * r2)) * r1)) * r2))) c3), pl 8 (.int .i64 i1), pl 9 (.int .i64 (w64 (k1 + 1)))] hF hS Fol (by kernel_rfl) (by kernel_rfl) (by kernel_rfl) ?_ (fun a w hF hS => ?_)
            · exact obs_nil
            refine then_n ?_
            rw [← hφ2] at hm
            exact ⟨((out3.set (Int.toNat (w64 ((w64 ((w64 ((w64 ((w64 ((w64 (Int.tdiv i1 r1)) * r2)) + (w64 (Int.tdiv k1 r2)))) * r1)) * r2)) + (w64 ((w64 ((Int.tmod i1 r1) * r2)) + (Int.tmod k1 r2)))))) (w64 ((w64 ((w64 ((w64 ((geti a1 i1) - 1)) * r2)) * r2)) + (geti b1 k1)))), (w64 (k1 + 1))), ⟨hF.weak [0, 1, 5, 6, 7, 8, 9] (by kernel_rfl), hS⟩, hm⟩
          · refine wpIn_block ?_
            obtain ⟨hp2, hm⟩ := asrt_b hm
            obtain ⟨hp3, hm⟩ := asrt_b hm
            obtain ⟨hp4, hm⟩ := asrt_b hm
            obtain ⟨hp5, hm⟩ := asrt_b hm
            refine reg [⟨true, [], vS (Op.intDiv .rem .i64 i1 r1), .int .i64 (Int.tmod i1 r1)⟩, ⟨true, [], vS (Op.intDiv .rem .i64 k1 r2), .int .i64 (Int.tmod k1 r2)⟩, ⟨true, [], vS (Op.intDiv .quo .i64 i1 r1), .int .i64 (w64 (Int.tdiv i1 r1))⟩, ⟨true, [], vS (Op.intDiv .quo .i64 k1 r2), .int .i64 (w64 (Int.tdiv k1 r2))⟩] [none, none, some (.int .i64 (Int.tmod i1 r1)), none, none, none, none, some (.int .i64 (Int.tmod k1 r2)), none, none, none, some (.int .i64 (w64 (Int.tdiv i1 r1))), none, none, none, none, some (.int .i64 (w64 (Int.tdiv k1 r2))), none, none, none] [0, 1, 5, 6, 7, 8, 9, 10, 11] [pl 0 (.slice A1 a1.length c1), pl 1 (.slice A2 b1.length c2), pl 5 (.int .i64 r1), pl 6 (.int .i64 r2), pl 7 (.slice A3 (Int.toNat (w64 ((w64 ((w64 (r1 * r2)) * r1)) * r2))) c3), pl 8 (.int .i64 i1), pl 9 (.int .i64 k1), pl 10 (.int .i64 (w64 ((w64 ((Int.tmod i1 r1) * r2)) + (Int.tmod k1 r2)))), pl 11 (.int .i64 (w64 ((w64 ((w64 (Int.tdiv i1 r1)) * r2)) + (w64 (Int.tdiv k1 r2)))))] hF hS Fol (by kernel_rfl) (by kernel_rfl) (by kernel_rfl) ?_ (fun a w hF hS => ?_)
            · exact obs_cons (ob_rem rfl (fun _ => hp2)) <| obs_cons (ob_rem rfl (fun _ => hp3)) <| obs_cons (ob_quo rfl (fun _ => hp4)) <| obs_cons (ob_quo rfl (fun _ => hp5)) <| obs_nil
            obtain ⟨hp6, hm⟩ := asrt_b hm
            obtain ⟨hp7, hm⟩ := asrt_b hm
            obtain ⟨hp8, hm⟩ := asrt_b hm
            refine regMix4 [0, 1, 2, 3, 4, 5, 6, 7, 8, 9, 10, 11, 12, 13, 14, 15, 16, 17, 18, 19, 20, 21, 22] [23] [⟨true, [], vS (Instr.indexAt 22 (.slice A1 a1.length c1) (.int .i64 i1)), .pointer (some (sAddr A1 i1))⟩, ⟨false, [], vS (Instr.loadAt 3 (.pointer (some (sAddr A1 i1)))), .int .i64 (geti a1 i1)⟩, ⟨true, [], vS (Instr.indexAt 22 (.slice A2 b1.length c2) (.int .i64 k1)), .pointer (some (sAddr A2 k1))⟩, ⟨false, [], vS (Instr.loadAt 3 (.pointer (some (sAddr A2 k1)))), .int .i64 (geti b1 k1)⟩, ⟨true, [], vS (Instr.indexAt 22 (.slice A3 (Int.toNat (w64 ((w64 ((w64 (r1 * r2)) * r1)) * r2))) c3) (.int .i64 (w64 ((w64 ((w64 ((w64 ((w64 ((w64 (Int.tdiv i1 r1)) * r2)) + (w64 (Int.tdiv k1 r2)))) * r1)) * r2)) + (w64 ((w64 ((Int.tmod i1 r1) * r2)) + (Int.tmod k1 r2))))))), .pointer (some (sAddr A3 (w64 ((w64 ((w64 ((w64 ((w64 ((w64 (Int.tdiv i1 r1)) * r2)) + (w64 (Int.tdiv k1 r2)))) * r1)) * r2)) + (w64 ((w64 ((Int.tmod i1 r1) * r2)) + (Int.tmod k1 r2)))))))⟩] [none, none, none, none, none, none, none, none, none, none, some (.pointer (some (sAddr A1 i1))), some (.int .i64 (geti a1 i1)), none, none, none, none, none, none, none, some (.pointer (some (sAddr A2 k1))), some (.int .i64 (geti b1 k1)), none, some (.pointer (some (sAddr A3 (w64 ((w64 ((w64 ((w64 ((w64 ((w64 (Int.tdiv i1 r1)) * r2)) + (w64 (Int.tdiv k1 r2)))) * r1)) * r2)) + (w64 ((w64 ((Int.tmod i1 r1) * r2)) + (Int.tmod k1 r2))))))))] [0, 1, 5, 6, 7, 8, 9, 75, 76] [pl 0 (.slice A1 a1.length c1), pl 1 (.slice A2 b1.length c2), pl 5 (.int .i64 r1), pl 6 (.int .i64 r2), pl 7 (.slice A3 (Int.toNat (w64 ((w64 ((w64 (r1 * r2)) * r1)) * r2))) c3), pl 8 (.int .i64 i1), pl 9 (.int .i64 k1), pl 75 (.int .i64 (w64 ((w64 ((w64 ((w64 ((geti a1 i1) - 1)) * r2)) * r2)) + (geti b1 k1)))), pl 76 (.pointer (some (sAddr A3 (w64 ((w64 ((w64 ((w64 ((w64 ((w64 (Int.tdiv i1 r1)) * r2)) + (w64 (Int.tdiv k1 r2)))) * r1)) * r2)) + (w64 ((w64 ((Int.tmod i1 r1) * r2)) + (Int.tmod k1 r2))))))))] hF hS Fol (by kernel_rfl) (by kernel_rfl) (by kernel_rfl) (by kernel_rfl) (by kernel_rfl) ?_ (fun a w hF hS => ?_)
            · exact obs_cons (ob_ix1 (f := (Value.int .i64)) (m := a1) Und22 hi3 hs3 (hr_a1 _ (hS.dropN 1)) rfl (fun _ => hp6)) <| obs_cons (ob_get1 (n := a1.length) (m := a1) (Value.int .i64) (0 : Int) Agg3 (fun _ hS => ⟨_, (hr_a1 _ (hS.dropN 1))⟩) (fun _ hS => rfl) (fun _ => hp6)) <| obs_cons (ob_ix1 (f := (Value.int .i64)) (m := b1) Und22 hi3 hs3 (hr_b1 _ (hS.dropN 1)) rfl (fun _ => hp7)) <| obs_cons (ob_get1 (n := b1.length) (m := b1) (Value.int .i64) (0 : Int) Agg3 (fun _ hS => ⟨_, (hr_b1 _ (hS.dropN 1))⟩) (fun _ hS => rfl) (fun _ => hp7)) <| obs_cons (ob_ix1 (f := (Value.int .i64)) (m := out3) Und22 hi3 hs3 (hS.at_ 0 rfl).rd ((hS.at_ 0 rfl).len1) (fun _ => hp8)) <| obs_nil
            obtain ⟨w, hrun, hS⟩ := run_set1 (P := Try.prog) (t := 3) (x := (w64 ((w64 ((w64 ((w64 ((geti a1 i1) - 1)) * r2)) * r2)) + (geti b1 k1)))) (Value.int .i64) (hS.at_ 0 rfl) hi3 hs3 rfl rfl hp8
            refine at_skip hF (by kernel_rfl) hrun ?_
            have hS : Sep w0 B w (own 3 (.slice A3 (Int.toNat (w64 ((w64 ((w64 (r1 * r2)) * r1)) * r2))) c3) (vI (out3.set (Int.toNat (w64 ((w64 ((w64 ((w64 ((w64 ((w64 (Int.tdiv i1 r1)) * r2)) + (w64 (Int.tdiv k1 r2)))) * r1)) * r2)) + (w64 ((w64 ((Int.tmod i1 r1) * r2)) + (Int.tmod k1 r2)))))) (w64 ((w64 ((w64 ((w64 ((geti a1 i1) - 1)) * r2)) * r2)) + (geti b1 k1))))) :: fs) := hS
            refine at_end [0, 1, 5, 6, 7, 8, 9] [pl 0 (.slice A1 a1.length c1), pl 1 (.slice A2 b1.length c2), pl 5 (.int .i64 r1), pl 6 (.int .i64 r2), pl 7 (.slice A3 (Int.toNat (w64 ((w64 ((w64 (r1 * r2)) * r1)) * r2))) c3), pl 8 (.int .i64 i1), pl 9 (.int .i64 k1)] hF rfl (by kernel_rfl) (fun hF => ?_)
            refine np_n ?_
            refine block_n ?_
            refine then_n ?_
            exact ⟨hF.weak [0, 1, 5, 6, 7, 8, 9] (by kernel_rfl), hS, hm⟩
        · refine reg [] [] [0, 1, 5, 6, 7, 8, 9, 33] [pl 0 (.slice A1 a1.length c1), pl 1 (.slice A2 b1.length c2), pl 5 (.int .i64 r1), pl 6 (.int .i64 r2), pl 7 (.slice A3 (Int.toNat (w64 ((w64 ((w64 (r1 * r2)) * r1)) * r2))) c3), pl 8 (.int .i64 i1), pl 9 (.int .i64 k1), pl 33 (.bool (decide (k1 < (b1.length : Int))))] hF hS Fol (by kernel_rfl) (by kernel_rfl) (by kernel_rfl) ?_ (fun a w hF hS => ?_)
          · exact obs_nil
          refine cond_ev (t := 33) (b := decide (k1 < (b1.length : Int))) hF (by kernel_rfl) (fun hb => ?_) (fun hb => ?_)
          · replace hm := if_t hm hb
            refine wpIn_skip ?_
            refine then_n ?_
            exact ⟨hF.weak [0, 1, 5, 6, 7, 8, 9] (by kernel_rfl), hS, hm⟩
          · replace hm := if_f hm hb
            refine wpIn_exit ?_
            refine then_e (then_e (block_e (block_n (then_n ?_))))
            rw [← hφ2] at hm
            replace hm := done_b hm
            unfold gameroomref_MagicProduct_K2 at hm
            try dsimp only at hm
            have hm : ((gameroomref_MagicProduct_J3 i1) out3).bind φ1 = some r := hm
            exact ⟨out3, hF.weak [0, 1, 5, 6, 7, 8] (by kernel_rfl), hS, hm⟩
    · refine reg [] [] [0, 1, 5, 6, 7, 8, 27] [pl 0 (.slice A1 a1.length c1), pl 1 (.slice A2 b1.length c2), pl 5 (.int .i64 r1), pl 6 (.int .i64 r2), pl 7 (.slice A3 (Int.toNat (w64 ((w64 ((w64 (r1 * r2)) * r1)) * r2))) c3), pl 8 (.int .i64 i1), pl 27 (.bool (decide (i1 < (a1.length : Int))))] hF hS Fol (by kernel_rfl) (by kernel_rfl) (by kernel_rfl) ?_ (fun a w hF hS => ?_)
      · exact obs_nil
      refine cond_ev (t := 27) (b := decide (i1 < (a1.length : Int))) hF (by kernel_rfl) (fun hb => ?_) (fun hb => ?_)
      · replace hm := if_t hm hb
        refine wpIn_skip ?_
        refine then_n ?_
        exact ⟨hF.weak [0, 1, 5, 6, 7, 8] (by kernel_rfl), hS, hm⟩
      · replace hm := if_f hm hb
        refine wpIn_exit ?_
        refine then_e (then_e (block_e (then_n ?_)))
        rw [← hφ1] at hm
        replace hm := done_b hm
        unfold gameroomref_MagicProduct_K1 at hm
        try dsimp only at hm
        have hm : (gameroomref_MagicProduct_J1 out1).bind some = some r := hm
        exact ⟨out1, hF.weak [7] (by kernel_rfl), hS, hm⟩

noncomputable def gameroomlaw_MagicTells_J4  (l1 : List Int) (far1 : Bool) (i1 : Int) : Option (St (Bool × Int) Bool) :=
  some (.next (((far1 || (decide ((geti l1 i1) < (-1000000)))) || (decide ((1000000 : Int) < (geti l1 i1)))), (w64 (i1 + 1))))

noncomputable def gameroomlaw_MagicTells_J3  (l1 : List Int) (far1 : Bool) (i1 : Int) : Option (St (Bool × Int) Bool) :=
  asrt (far1 = false → 0 ≤ i1 ∧ i1 < (l1.length : Int)) <| asrt ((far1 || (decide ((geti l1 i1) < (-1000000)))) = false → 0 ≤ i1 ∧ i1 < (l1.length : Int)) <| (gameroomlaw_MagicTells_J4 l1 far1 i1)

noncomputable def gameroomlaw_MagicTells_J11  (i2 : Int) : Option (St Int (Fl Unit Bool)) :=
  some (.next (w64 (i2 + 1)))

noncomputable def gameroomlaw_MagicTells_J10  (l1 : List Int) (r7 : (List Int × Int)) (r8 : Int) (i2 : Int) : Option (St Int (Fl Unit Bool)) :=
  asrt (0 ≤ i2 ∧ i2 < (l1.length : Int)) <| asrt ((decide ((geti l1 i2) < 1)) = false → 0 ≤ i2 ∧ i2 < (l1.length : Int)) <| if ((decide ((geti l1 i2) < 1)) || (decide ((w64 (r8 * r8)) < (geti l1 i2)))) then (some (.done (.ret ((r7.2 == 3) && ((r7.1.length : Int) == 0))))) else ((gameroomlaw_MagicTells_J11 i2))

noncomputable def gameroomlaw_MagicTells_L2  (l1 : List Int) (r7 : (List Int × Int)) (r8 : Int) : Int → Option (St Int (Fl Unit Bool)) :=
  fun (x : Int) => match x with | i2 => if (decide (i2 < (l1.length : Int))) then ((gameroomlaw_MagicTells_J10 l1 r7 r8 i2)) else (some (.done (.go ())))

noncomputable def gameroomlaw_MagicTells_J14  (i3 : Int) : Option (St Int (Fl Unit Bool)) :=
  some (.next (w64 (i3 + 1)))

noncomputable def gameroomlaw_MagicTells_J13  (b1 : List Int) (r7 : (List Int × Int)) (r9 : Int) (i3 : Int) : Option (St Int (Fl Unit Bool)) :=
  asrt (0 ≤ i3 ∧ i3 < (b1.length : Int)) <| asrt ((decide ((geti b1 i3) < 1)) = false → 0 ≤ i3 ∧ i3 < (b1.length : Int)) <| if ((decide ((geti b1 i3) < 1)) || (decide ((w64 (r9 * r9)) < (geti b1 i3)))) then (some (.done (.ret ((r7.2 == 3) && ((r7.1.length : Int) == 0))))) else ((gameroomlaw_MagicTells_J14 i3))

noncomputable def gameroomlaw_MagicTells_L3  (b1 : List Int) (r7 : (List Int × Int)) (r9 : Int) : Int → Option (St Int (Fl Unit Bool)) :=
  fun (x : Int) => match x with | i3 => if (decide (i3 < (b1.length : Int))) then ((gameroomlaw_MagicTells_J13 b1 r7 r9 i3)) else (some (.done (.go ())))

noncomputable def gameroomlaw_MagicTells_J15  (z2 : Bool) : Option Bool :=
  some z2

noncomputable def gameroomlaw_MagicTells_J12  (l1 : List Int) (b1 : List Int) (r7 : (List Int × Int)) : Option Bool :=
  if (r7.2 == 0) then ((gameroomref_MagicProduct_m l1 b1).bind fun r13 => ((if (r7.2 == 0) then gameroomlaw_sameInts_m r7.1 r13 else some false)).bind fun r14 => gameroomlaw_MagicTells_J15 ((r7.2 == 0) && r14)) else (gameroomlaw_MagicTells_J15 ((r7.2 == 0) && false))

noncomputable def gameroomlaw_MagicTells_K3  (l1 : List Int) (b1 : List Int) (r7 : (List Int × Int)) : (Fl Unit Bool) → Option Bool :=
  fun (x : (Fl Unit Bool)) => match x with | .go _ => (gameroomlaw_MagicTells_J12 l1 b1 r7) | .ret x => some x

noncomputable def gameroomlaw_MagicTells_J9  (l1 : List Int) (b1 : List Int) (r7 : (List Int × Int)) (r9 : Int) : Option Bool :=
  (loop (gameroomlaw_MagicTells_L3 b1 r7 r9) 0).bind (gameroomlaw_MagicTells_K3 l1 b1 r7)

noncomputable def gameroomlaw_MagicTells_K2  (l1 : List Int) (b1 : List Int) (r7 : (List Int × Int)) (r9 : Int) : (Fl Unit Bool) → Option Bool :=
  fun (x : (Fl Unit Bool)) => match x with | .go _ => (gameroomlaw_MagicTells_J9 l1 b1 r7 r9) | .ret x => some x

noncomputable def gameroomlaw_MagicTells_J8  (l1 : List Int) (b1 : List Int) (r7 : (List Int × Int)) (r8 : Int) (r9 : Int) : Option Bool :=
  (loop (gameroomlaw_MagicTells_L2 l1 r7 r8) 0).bind (gameroomlaw_MagicTells_K2 l1 b1 r7 r9)

noncomputable def gameroomlaw_MagicTells_J6  (l1 : List Int) (b1 : List Int) (r7 : (List Int × Int)) (r8 : Int) (r9 : Int) : Option Bool :=
  if ((r9 == 0) || (decide ((12 : Int) < (w64 (r8 * r9))))) then (some ((r7.2 == 2) && ((r7.1.length : Int) == 0))) else ((gameroomlaw_MagicTells_J8 l1 b1 r7 r8 r9))

noncomputable def gameroomlaw_MagicTells_J7  (l1 : List Int) (b1 : List Int) (r7 : (List Int × Int)) (r8 : Int) (r9 : Int) (z1 : Bool) : Option Bool :=
  if z1 then (some false) else ((gameroomlaw_MagicTells_J6 l1 b1 r7 r8 r9))

noncomputable def gameroomlaw_MagicTells_J5  (l1 : List Int) (b1 : List Int) (r4 : (List (List Int) × Int)) (r7 : (List Int × Int)) (r8 : Int) (r9 : Int) : Option Bool :=
  if (r4.2 != 0) then ((gameroomlaw_MagicTells_J7 l1 b1 r7 r8 r9) ((r4.2 != 0) || true)) else ((gameroomref_MagicForms_m l1).bind fun r11 => ((if (!(r4.2 != 0)) then gameroomlaw_sameRows_m r4.1 r11 else some false)).bind fun r12 => (gameroomlaw_MagicTells_J7 l1 b1 r7 r8 r9) ((r4.2 != 0) || (!r12)))

noncomputable def gameroomlaw_MagicTells_J2  (l1 : List Int) (b1 : List Int) (r2 : (Int × Int × Int)) (r4 : (List (List Int) × Int)) (r7 : (List Int × Int)) (r8 : Int) (r9 : Int) (far2 : Bool) : Option Bool :=
  if far2 then (if (((r2.2.2 != 3) || (r2.1 != 0)) || (r2.2.1 != 0)) then (some false) else ((gameroomlaw_MagicTells_J5 l1 b1 r4 r7 r8 r9))) else ((gameroomref_MagicKind_m l1).bind fun r10 => if (((r2.2.2 != 0) || (r2.1 != r10.1)) || (r2.2.1 != r10.2)) then (some false) else ((gameroomlaw_MagicTells_J5 l1 b1 r4 r7 r8 r9)))

noncomputable def gameroomlaw_MagicTells_K1  (l1 : List Int) (b1 : List Int) (r2 : (Int × Int × Int)) (r4 : (List (List Int) × Int)) (r7 : (List Int × Int)) (r8 : Int) (r9 : Int) : Bool → Option Bool :=
  fun (x : Bool) => match x with | far2 => (gameroomlaw_MagicTells_J2 l1 b1 r2 r4 r7 r8 r9) far2

noncomputable def gameroomlaw_MagicTells_L1  (l1 : List Int) : (Bool × Int) → Option (St (Bool × Int) Bool) :=
  fun (x : (Bool × Int)) => match x with | (far1, i1) => if (decide (i1 < (l1.length : Int))) then ((gameroomlaw_MagicTells_J3 l1 far1 i1)) else (some (.done far1))

noncomputable def gameroomlaw_MagicTells_J1  (l1 : List Int) (b1 : List Int) (r2 : (Int × Int × Int)) (r4 : (List (List Int) × Int)) (r7 : (List Int × Int)) (r8 : Int) (r9 : Int) : Option Bool :=
  (loop (gameroomlaw_MagicTells_L1 l1) (false, 0)).bind (gameroomlaw_MagicTells_K1 l1 b1 r2 r4 r7 r8 r9)
end Go.Proofs.Ytoickcchcjehdaa
