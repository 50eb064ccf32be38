/-
  Models and walks, printed by our own program (wip/gen).
-/
import Derived.Test.YtoickcchcjehdaaFB
import Derived.Test.YtoickcchcjehdaaLibJ
import Derived.Test.YtoickcchcjehdaaLibBc
import Derived.Test.YtoickcchcjehdaaLibOq
import Derived.Test.YtoickcchcjehdaaLibRF
import Derived.Test.YtoickcchcjehdaaNPVa
namespace Go.Proofs.Ytoickcchcjehdaa
open Go Go.GL Go.RowKit

noncomputable def slices_symMergeCmpFunc_2_m  (data1 : List Int) (a1 : Int) (m1 : Int) (b1 : Int) (v1 : List Int) : Option (List Int) :=
  recM fun n => slices_symMergeCmpFunc_2_mF n data1 a1 m1 b1 v1

set_option maxRecDepth 100000 in
set_option maxHeartbeats 4000000 in
theorem slices_symMergeCmpFunc_2_wB  {rec_slices_symMergeCmpFunc_2 : List Int → Int → Int → Int → List Int → Option (List Int)} (ih_slices_symMergeCmpFunc_2 : ∀ {A1 : Option Addr} {c1 : Nat} {n1 : Nat} {data1 : List Int} {a1 : Int} {m1 : Int} {b1 : Int} {g1 : Nat} {v1 : List Int} {r : (List Int)} {w0 w : World} {B : Nat} {fs : List HP} (_ : rec_slices_symMergeCmpFunc_2 data1 a1 m1 b1 v1 = some r) (_ : Sep w0 B w (own 3 (.slice A1 n1 c1) (vI data1) :: blk g1 275 (List.toArray (([] : List Value) ++ (arr1 (Value.int .i64) (0 : Int) 13 v1 ++ ([] : List Value)))) :: fs)), Calls Try.prog 300 #[.slice A1 n1 c1, .int .i64 a1, .int .i64 m1, .int .i64 b1, .func (.func 246) #[] #[.pointer (some ⟨g1, 0, none⟩)]] w fun e w' => ∃ v, e = .returned v ∧ v = .tuple #[] ∧ Sep w0 B w' (own 3 (.slice A1 n1 c1) (vI r) :: blk g1 275 (List.toArray (([] : List Value) ++ (arr1 (Value.int .i64) (0 : Int) 13 v1 ++ ([] : List Value)))) :: fs)) {A1 : Option Addr} {c1 : Nat} {n1 : Nat} {data1 : List Int} {a1 : Int} {m1 : Int} {b1 : Int} {g1 : Nat} {v1 : List Int} {r : (List Int)} {w0 w : World} {B : Nat} {fs : List HP} (hm : slices_symMergeCmpFunc_2_B rec_slices_symMergeCmpFunc_2 data1 a1 m1 b1 v1 = some r) (hS : Sep w0 B w (own 3 (.slice A1 n1 c1) (vI data1) :: blk g1 275 (List.toArray (([] : List Value) ++ (arr1 (Value.int .i64) (0 : Int) 13 v1 ++ ([] : List Value)))) :: fs)) :
    Calls Try.prog 300 #[.slice A1 n1 c1, .int .i64 a1, .int .i64 m1, .int .i64 b1, .func (.func 246) #[] #[.pointer (some ⟨g1, 0, none⟩)]] w fun e w' => ∃ v, e = .returned v ∧ v = .tuple #[] ∧ Sep w0 B w' (own 3 (.slice A1 n1 c1) (vI r) :: blk g1 275 (List.toArray (([] : List Value) ++ (arr1 (Value.int .i64) (0 : Int) 13 v1 ++ ([] : List Value)))) :: fs) := by
  obtain ⟨i3, hi3, hz3, hs3, hb3⟩ := info_parts Info3
  obtain rfl := (hS.at_ 0 rfl).len1
  unfold slices_symMergeCmpFunc_2_B at hm
  replace hm := start_b hm
  refine enter (l := [.slice A1 data1.length c1, .int .i64 a1, .int .i64 m1, .int .i64 b1, .func (.func 246) #[] #[.pointer (some ⟨g1, 0, none⟩)]]) (n := 220) Try.func300 rfl rfl (by simp) (fun a hF => ?_)
  refine end_cut (fun a w => ∃ (data9 : List Int), Fr 220 [] a ∧ Sep w0 B w (own 3 (.slice A1 data1.length c1) (vI data9) :: blk g1 275 (List.toArray (([] : List Value) ++ (arr1 (Value.int .i64) (0 : Int) 13 v1 ++ ([] : List Value)))) :: fs) ∧ (slices_symMergeCmpFunc_2_J1 data9).bind some = some r) ?_ ?_
  · rintro a w ⟨data9, hF, hS, hm⟩
    unfold slices_symMergeCmpFunc_2_J1 at hm
    have hm : some data9 = some r := hm
    obtain rfl := Option.some.inj hm
    exact endV (rs := []) (vs := []) hF rfl (rv_nil) rfl ⟨_, rfl, rfl, hS⟩ rfl
  · refine seq_cut (fun a w => Fr 220 [pl 0 (.slice A1 data1.length c1), pl 1 (.int .i64 a1), pl 2 (.int .i64 m1), pl 3 (.int .i64 b1), pl 4 (.func (.func 246) #[] #[.pointer (some ⟨g1, 0, none⟩)])] a ∧ Sep w0 B w (own 3 (.slice A1 data1.length c1) (vI data1) :: blk g1 275 (List.toArray (([] : List Value) ++ (arr1 (Value.int .i64) (0 : Int) 13 v1 ++ ([] : List Value)))) :: fs) ∧ ((slices_symMergeCmpFunc_2_J2 rec_slices_symMergeCmpFunc_2 data1 a1 m1 b1 v1)).bind some = some r) ?_ ?_
    · rintro a w ⟨hF, hS, hm⟩
      unfold slices_symMergeCmpFunc_2_J2 at hm
      refine seq_cut (fun a w => Fr 220 [pl 0 (.slice A1 data1.length c1), pl 1 (.int .i64 a1), pl 2 (.int .i64 m1), pl 3 (.int .i64 b1), pl 4 (.func (.func 246) #[] #[.pointer (some ⟨g1, 0, none⟩)])] a ∧ Sep w0 B w (own 3 (.slice A1 data1.length c1) (vI data1) :: blk g1 275 (List.toArray (([] : List Value) ++ (arr1 (Value.int .i64) (0 : Int) 13 v1 ++ ([] : List Value)))) :: fs) ∧ ((slices_symMergeCmpFunc_2_J8 rec_slices_symMergeCmpFunc_2 data1 a1 m1 b1 v1)).bind some = some r) ?_ ?_
      · rintro a w ⟨hF, hS, hm⟩
        unfold slices_symMergeCmpFunc_2_J8 at hm
        refine reg [⟨true, [], vS (Op.shift .shr .u64 (IntKind.wrap .u64 (w64 (a1 + b1))) .u64 1), .int .u64 (shrK .u64 (IntKind.wrap .u64 (w64 (a1 + b1))) 1)⟩] [none, none, none, none, some (.int .u64 (shrK .u64 (IntKind.wrap .u64 (w64 (a1 + b1))) 1)), none, none] [0, 1, 2, 3, 4, 18] [pl 0 (.slice A1 data1.length c1), pl 1 (.int .i64 a1), pl 2 (.int .i64 m1), pl 3 (.int .i64 b1), pl 4 (.func (.func 246) #[] #[.pointer (some ⟨g1, 0, none⟩)]), pl 18 (.int .i64 (w64 (shrK .u64 (IntKind.wrap .u64 (w64 (a1 + b1))) 1)))] hF hS Fol (by kernel_rfl) (by kernel_rfl) (by kernel_rfl) ?_ (fun a w hF hS => ?_)
        · exact obs_cons (ob_shr (fun _ => by decide)) <| obs_nil
        refine reg [] [] [0, 1, 2, 3, 4, 18, 19] [pl 0 (.slice A1 data1.length c1), pl 1 (.int .i64 a1), pl 2 (.int .i64 m1), pl 3 (.int .i64 b1), pl 4 (.func (.func 246) #[] #[.pointer (some ⟨g1, 0, none⟩)]), pl 18 (.int .i64 (w64 (shrK .u64 (IntKind.wrap .u64 (w64 (a1 + b1))) 1))), pl 19 (.int .i64 (w64 ((w64 (shrK .u64 (IntKind.wrap .u64 (w64 (a1 + b1))) 1)) + m1)))] hF hS Fol (by kernel_rfl) (by kernel_rfl) (by kernel_rfl) ?_ (fun a w hF hS => ?_)
        · exact obs_nil
        refine reg [] [] [0, 1, 2, 3, 4, 18, 19] [pl 0 (.slice A1 data1.length c1), pl 1 (.int .i64 a1), pl 2 (.int .i64 m1), pl 3 (.int .i64 b1), pl 4 (.func (.func 246) #[] #[.pointer (some ⟨g1, 0, none⟩)]), pl 18 (.int .i64 (w64 (shrK .u64 (IntKind.wrap .u64 (w64 (a1 + b1))) 1))), pl 19 (.int .i64 (w64 ((w64 (shrK .u64 (IntKind.wrap .u64 (w64 (a1 + b1))) 1)) + m1)))] hF hS Fol (by kernel_rfl) (by kernel_rfl) (by kernel_rfl) ?_ (fun a w hF hS => ?_)
        · exact obs_nil
        refine seq_cut (fun a w => ∃ (start1 : Int) (r3 : Int), Fr 220 [pl 0 (.slice A1 data1.length c1), pl 1 (.int .i64 a1), pl 2 (.int .i64 m1), pl 3 (.int .i64 b1), pl 4 (.func (.func 246) #[] #[.pointer (some ⟨g1, 0, none⟩)]), pl 18 (.int .i64 (w64 (shrK .u64 (IntKind.wrap .u64 (w64 (a1 + b1))) 1))), pl 19 (.int .i64 (w64 ((w64 (shrK .u64 (IntKind.wrap .u64 (w64 (a1 + b1))) 1)) + m1))), pl 20 (.int .i64 start1), pl 21 (.int .i64 r3)] a ∧ Sep w0 B w (own 3 (.slice A1 data1.length c1) (vI data1) :: blk g1 275 (List.toArray (([] : List Value) ++ (arr1 (Value.int .i64) (0 : Int) 13 v1 ++ ([] : List Value)))) :: fs) ∧ ((slices_symMergeCmpFunc_2_J14 rec_slices_symMergeCmpFunc_2 data1 a1 m1 b1 v1) start1 r3).bind some = some r) ?_ ?_
        · rintro a w ⟨start1, r3, hF, hS, hm⟩
          unfold slices_symMergeCmpFunc_2_J14 at hm
          refine reg [] [] [0, 1, 2, 3, 4, 18, 19, 20, 21, 22] [pl 0 (.slice A1 data1.length c1), pl 1 (.int .i64 a1), pl 2 (.int .i64 m1), pl 3 (.int .i64 b1), pl 4 (.func (.func 246) #[] #[.pointer (some ⟨g1, 0, none⟩)]), pl 18 (.int .i64 (w64 (shrK .u64 (IntKind.wrap .u64 (w64 (a1 + b1))) 1))), pl 19 (.int .i64 (w64 ((w64 (shrK .u64 (IntKind.wrap .u64 (w64 (a1 + b1))) 1)) + m1))), pl 20 (.int .i64 start1), pl 21 (.int .i64 r3), pl 22 (.int .i64 (w64 ((w64 ((w64 (shrK .u64 (IntKind.wrap .u64 (w64 (a1 + b1))) 1)) + m1)) - 1)))] hF hS Fol (by kernel_rfl) (by kernel_rfl) (by kernel_rfl) ?_ (fun a w hF hS => ?_)
          · exact obs_nil
          refine seq_cut (fun a w => ∃ (start3 : Int), Fr 220 [pl 0 (.slice A1 data1.length c1), pl 1 (.int .i64 a1), pl 2 (.int .i64 m1), pl 3 (.int .i64 b1), pl 4 (.func (.func 246) #[] #[.pointer (some ⟨g1, 0, none⟩)]), pl 18 (.int .i64 (w64 (shrK .u64 (IntKind.wrap .u64 (w64 (a1 + b1))) 1))), pl 19 (.int .i64 (w64 ((w64 (shrK .u64 (IntKind.wrap .u64 (w64 (a1 + b1))) 1)) + m1))), pl 20 (.int .i64 start3)] a ∧ Sep w0 B w (own 3 (.slice A1 data1.length c1) (vI data1) :: blk g1 275 (List.toArray (([] : List Value) ++ (arr1 (Value.int .i64) (0 : Int) 13 v1 ++ ([] : List Value)))) :: fs) ∧ ((slices_symMergeCmpFunc_2_J15 rec_slices_symMergeCmpFunc_2 data1 a1 m1 b1 v1) start3).bind some = some r) ?_ ?_
          · rintro a w ⟨start3, hF, hS, hm⟩
            unfold slices_symMergeCmpFunc_2_J15 at hm
            refine reg [] [] [0, 1, 2, 3, 4, 18, 20, 24] [pl 0 (.slice A1 data1.length c1), pl 1 (.int .i64 a1), pl 2 (.int .i64 m1), pl 3 (.int .i64 b1), pl 4 (.func (.func 246) #[] #[.pointer (some ⟨g1, 0, none⟩)]), pl 18 (.int .i64 (w64 (shrK .u64 (IntKind.wrap .u64 (w64 (a1 + b1))) 1))), pl 20 (.int .i64 start3), pl 24 (.int .i64 (w64 ((w64 ((w64 (shrK .u64 (IntKind.wrap .u64 (w64 (a1 + b1))) 1)) + m1)) - start3)))] hF hS Fol (by kernel_rfl) (by kernel_rfl) (by kernel_rfl) ?_ (fun a w hF hS => ?_)
            · exact obs_nil
            refine seq_cut (fun a w => ∃ (data7 : List Int), Fr 220 [pl 0 (.slice A1 data1.length c1), pl 1 (.int .i64 a1), pl 3 (.int .i64 b1), pl 4 (.func (.func 246) #[] #[.pointer (some ⟨g1, 0, none⟩)]), pl 18 (.int .i64 (w64 (shrK .u64 (IntKind.wrap .u64 (w64 (a1 + b1))) 1))), pl 20 (.int .i64 start3), pl 24 (.int .i64 (w64 ((w64 ((w64 (shrK .u64 (IntKind.wrap .u64 (w64 (a1 + b1))) 1)) + m1)) - start3)))] a ∧ Sep w0 B w (own 3 (.slice A1 data1.length c1) (vI data7) :: blk g1 275 (List.toArray (([] : List Value) ++ (arr1 (Value.int .i64) (0 : Int) 13 v1 ++ ([] : List Value)))) :: fs) ∧ ((slices_symMergeCmpFunc_2_J17 rec_slices_symMergeCmpFunc_2 a1 m1 b1 v1 start3) data7).bind some = some r) ?_ ?_
            · rintro a w ⟨data7, hF, hS, hm⟩
              unfold slices_symMergeCmpFunc_2_J17 at hm
              refine seq_cut (fun a w => ∃ (data8 : List Int), Fr 220 [pl 0 (.slice A1 data1.length c1), pl 3 (.int .i64 b1), pl 4 (.func (.func 246) #[] #[.pointer (some ⟨g1, 0, none⟩)]), pl 18 (.int .i64 (w64 (shrK .u64 (IntKind.wrap .u64 (w64 (a1 + b1))) 1))), pl 24 (.int .i64 (w64 ((w64 ((w64 (shrK .u64 (IntKind.wrap .u64 (w64 (a1 + b1))) 1)) + m1)) - start3)))] a ∧ Sep w0 B w (own 3 (.slice A1 data1.length c1) (vI data8) :: blk g1 275 (List.toArray (([] : List Value) ++ (arr1 (Value.int .i64) (0 : Int) 13 v1 ++ ([] : List Value)))) :: fs) ∧ ((slices_symMergeCmpFunc_2_J18 rec_slices_symMergeCmpFunc_2 a1 m1 b1 v1 start3) data8).bind some = some r) ?_ ?_
              · rintro a w ⟨data8, hF, hS, hm⟩
                unfold slices_symMergeCmpFunc_2_J18 at hm
                refine reg [] [] [0, 3, 4, 18, 24, 213] [pl 0 (.slice A1 data1.length c1), pl 3 (.int .i64 b1), pl 4 (.func (.func 246) #[] #[.pointer (some ⟨g1, 0, none⟩)]), pl 18 (.int .i64 (w64 (shrK .u64 (IntKind.wrap .u64 (w64 (a1 + b1))) 1))), pl 24 (.int .i64 (w64 ((w64 ((w64 (shrK .u64 (IntKind.wrap .u64 (w64 (a1 + b1))) 1)) + m1)) - start3))), pl 213 (.bool ((decide ((w64 (shrK .u64 (IntKind.wrap .u64 (w64 (a1 + b1))) 1)) < (w64 ((w64 ((w64 (shrK .u64 (IntKind.wrap .u64 (w64 (a1 + b1))) 1)) + m1)) - start3)))) && (decide ((w64 ((w64 ((w64 (shrK .u64 (IntKind.wrap .u64 (w64 (a1 + b1))) 1)) + m1)) - start3)) < b1))))] hF hS Fol (by kernel_rfl) (by kernel_rfl) (by kernel_rfl) ?_ (fun a w hF hS => ?_)
                · exact obs_nil
                refine cond_ev (t := 213) (b := (decide ((w64 (shrK .u64 (IntKind.wrap .u64 (w64 (a1 + b1))) 1)) < (w64 ((w64 ((w64 (shrK .u64 (IntKind.wrap .u64 (w64 (a1 + b1))) 1)) + m1)) - start3)))) && (decide ((w64 ((w64 ((w64 (shrK .u64 (IntKind.wrap .u64 (w64 (a1 + b1))) 1)) + m1)) - start3)) < b1))) hF (by kernel_rfl) (fun hb => ?_) (fun hb => ?_)
                · replace hm := if_t hm hb
                  refine oneR ?_
                  obtain ⟨r8, hr6, hm⟩ := call_b hm
                  refine at_run 5 [] [] [214, 215, 216, 217, 218] [pl 214 (.slice A1 data1.length c1), pl 215 (.int .i64 (w64 (shrK .u64 (IntKind.wrap .u64 (w64 (a1 + b1))) 1))), pl 216 (.int .i64 (w64 ((w64 ((w64 (shrK .u64 (IntKind.wrap .u64 (w64 (a1 + b1))) 1)) + m1)) - start3))), pl 217 (.int .i64 b1), pl 218 (.func (.func 246) #[] #[.pointer (some ⟨g1, 0, none⟩)])] hF hS (by kernel_rfl) (by kernel_rfl) ?_ (fun a w hF hS => ?_)
                  · exact obs_nil
                  refine at_call (f := 300) (args := #[.slice A1 data1.length c1, .int .i64 (w64 (shrK .u64 (IntKind.wrap .u64 (w64 (a1 + b1))) 1)), .int .i64 (w64 ((w64 ((w64 (shrK .u64 (IntKind.wrap .u64 (w64 (a1 + b1))) 1)) + m1)) - start3)), .int .i64 b1, .func (.func 246) #[] #[.pointer (some ⟨g1, 0, none⟩)]]) (d := 219) hF (by kernel_rfl) (by kernel_rfl) Try.func300 (by kernel_rfl) rfl (ih_slices_symMergeCmpFunc_2 hr6 hS ) (fun v a w hR hF => ?_)
                  clear hS
                  obtain ⟨rfl, hS⟩ := hR
                  have hS : Sep w0 B w (own 3 (.slice A1 data1.length c1) (vI r8) :: blk g1 275 (List.toArray (([] : List Value) ++ (arr1 (Value.int .i64) (0 : Int) 13 v1 ++ ([] : List Value)))) :: fs) := hS
                  refine at_end [] [] hF rfl (by kernel_rfl) (fun hF => ?_)
                  refine then_n ?_
                  exact ⟨r8, hF.weak [] (by kernel_rfl), hS, hm⟩
                · replace hm := if_f hm hb
                  refine wpIn_skip ?_
                  refine then_n ?_
                  exact ⟨data8, hF.weak [] (by kernel_rfl), hS, hm⟩
              · refine reg [] [] [0, 1, 3, 4, 18, 20, 24, 199] [pl 0 (.slice A1 data1.length c1), pl 1 (.int .i64 a1), pl 3 (.int .i64 b1), pl 4 (.func (.func 246) #[] #[.pointer (some ⟨g1, 0, none⟩)]), pl 18 (.int .i64 (w64 (shrK .u64 (IntKind.wrap .u64 (w64 (a1 + b1))) 1))), pl 20 (.int .i64 start3), pl 24 (.int .i64 (w64 ((w64 ((w64 (shrK .u64 (IntKind.wrap .u64 (w64 (a1 + b1))) 1)) + m1)) - start3))), pl 199 (.bool ((decide (a1 < start3)) && (decide (start3 < (w64 (shrK .u64 (IntKind.wrap .u64 (w64 (a1 + b1))) 1))))))] hF hS Fol (by kernel_rfl) (by kernel_rfl) (by kernel_rfl) ?_ (fun a w hF hS => ?_)
                · exact obs_nil
                refine cond_ev (t := 199) (b := (decide (a1 < start3)) && (decide (start3 < (w64 (shrK .u64 (IntKind.wrap .u64 (w64 (a1 + b1))) 1))))) hF (by kernel_rfl) (fun hb => ?_) (fun hb => ?_)
                · replace hm := if_t hm hb
                  refine oneR ?_
                  obtain ⟨r7, hr5, hm⟩ := call_b hm
                  refine at_run 5 [] [] [0, 3, 4, 18, 24, 200, 201, 202, 203, 204] [pl 0 (.slice A1 data1.length c1), pl 3 (.int .i64 b1), pl 4 (.func (.func 246) #[] #[.pointer (some ⟨g1, 0, none⟩)]), pl 18 (.int .i64 (w64 (shrK .u64 (IntKind.wrap .u64 (w64 (a1 + b1))) 1))), pl 24 (.int .i64 (w64 ((w64 ((w64 (shrK .u64 (IntKind.wrap .u64 (w64 (a1 + b1))) 1)) + m1)) - start3))), pl 200 (.slice A1 data1.length c1), pl 201 (.int .i64 a1), pl 202 (.int .i64 start3), pl 203 (.int .i64 (w64 (shrK .u64 (IntKind.wrap .u64 (w64 (a1 + b1))) 1))), pl 204 (.func (.func 246) #[] #[.pointer (some ⟨g1, 0, none⟩)])] hF hS (by kernel_rfl) (by kernel_rfl) ?_ (fun a w hF hS => ?_)
                  · exact obs_nil
                  refine at_call (f := 300) (args := #[.slice A1 data1.length c1, .int .i64 a1, .int .i64 start3, .int .i64 (w64 (shrK .u64 (IntKind.wrap .u64 (w64 (a1 + b1))) 1)), .func (.func 246) #[] #[.pointer (some ⟨g1, 0, none⟩)]]) (d := 205) hF (by kernel_rfl) (by kernel_rfl) Try.func300 (by kernel_rfl) rfl (ih_slices_symMergeCmpFunc_2 hr5 hS ) (fun v a w hR hF => ?_)
                  clear hS
                  obtain ⟨rfl, hS⟩ := hR
                  have hS : Sep w0 B w (own 3 (.slice A1 data1.length c1) (vI r7) :: blk g1 275 (List.toArray (([] : List Value) ++ (arr1 (Value.int .i64) (0 : Int) 13 v1 ++ ([] : List Value)))) :: fs) := hS
                  refine at_end [0, 3, 4, 18, 24] [pl 0 (.slice A1 data1.length c1), pl 3 (.int .i64 b1), pl 4 (.func (.func 246) #[] #[.pointer (some ⟨g1, 0, none⟩)]), pl 18 (.int .i64 (w64 (shrK .u64 (IntKind.wrap .u64 (w64 (a1 + b1))) 1))), pl 24 (.int .i64 (w64 ((w64 ((w64 (shrK .u64 (IntKind.wrap .u64 (w64 (a1 + b1))) 1)) + m1)) - start3)))] hF rfl (by kernel_rfl) (fun hF => ?_)
                  refine then_n ?_
                  exact ⟨r7, hF.weak [0, 3, 4, 18, 24] (by kernel_rfl), hS, hm⟩
                · replace hm := if_f hm hb
                  refine wpIn_skip ?_
                  refine then_n ?_
                  exact ⟨data7, hF.weak [0, 3, 4, 18, 24] (by kernel_rfl), hS, hm⟩
            · refine reg [] [] [0, 1, 2, 3, 4, 18, 20, 24, 185] [pl 0 (.slice A1 data1.length c1), pl 1 (.int .i64 a1), pl 2 (.int .i64 m1), pl 3 (.int .i64 b1), pl 4 (.func (.func 246) #[] #[.pointer (some ⟨g1, 0, none⟩)]), pl 18 (.int .i64 (w64 (shrK .u64 (IntKind.wrap .u64 (w64 (a1 + b1))) 1))), pl 20 (.int .i64 start3), pl 24 (.int .i64 (w64 ((w64 ((w64 (shrK .u64 (IntKind.wrap .u64 (w64 (a1 + b1))) 1)) + m1)) - start3))), pl 185 (.bool ((decide (start3 < m1)) && (decide (m1 < (w64 ((w64 ((w64 (shrK .u64 (IntKind.wrap .u64 (w64 (a1 + b1))) 1)) + m1)) - start3))))))] hF hS Fol (by kernel_rfl) (by kernel_rfl) (by kernel_rfl) ?_ (fun a w hF hS => ?_)
              · exact obs_nil
              refine cond_ev (t := 185) (b := (decide (start3 < m1)) && (decide (m1 < (w64 ((w64 ((w64 (shrK .u64 (IntKind.wrap .u64 (w64 (a1 + b1))) 1)) + m1)) - start3))))) hF (by kernel_rfl) (fun hb => ?_) (fun hb => ?_)
              · replace hm := if_t hm hb
                refine oneR ?_
                obtain ⟨r6, hr4, hm⟩ := call_b hm
                refine at_run 5 [] [] [0, 1, 3, 4, 18, 20, 24, 186, 187, 188, 189, 190] [pl 0 (.slice A1 data1.length c1), pl 1 (.int .i64 a1), pl 3 (.int .i64 b1), pl 4 (.func (.func 246) #[] #[.pointer (some ⟨g1, 0, none⟩)]), pl 18 (.int .i64 (w64 (shrK .u64 (IntKind.wrap .u64 (w64 (a1 + b1))) 1))), pl 20 (.int .i64 start3), pl 24 (.int .i64 (w64 ((w64 ((w64 (shrK .u64 (IntKind.wrap .u64 (w64 (a1 + b1))) 1)) + m1)) - start3))), pl 186 (.slice A1 data1.length c1), pl 187 (.int .i64 start3), pl 188 (.int .i64 m1), pl 189 (.int .i64 (w64 ((w64 ((w64 (shrK .u64 (IntKind.wrap .u64 (w64 (a1 + b1))) 1)) + m1)) - start3))), pl 190 (.func (.func 246) #[] #[.pointer (some ⟨g1, 0, none⟩)])] hF hS (by kernel_rfl) (by kernel_rfl) ?_ (fun a w hF hS => ?_)
                · exact obs_nil
                refine at_call (f := 311) (args := #[.slice A1 data1.length c1, .int .i64 start3, .int .i64 m1, .int .i64 (w64 ((w64 ((w64 (shrK .u64 (IntKind.wrap .u64 (w64 (a1 + b1))) 1)) + m1)) - start3)), .func (.func 246) #[] #[.pointer (some ⟨g1, 0, none⟩)]]) (d := 191) hF (by kernel_rfl) (by kernel_rfl) Try.func311 (by kernel_rfl) rfl (slices_rotateCmpFunc_2_w hr4 hS ) (fun v a w hR hF => ?_)
                clear hS
                obtain ⟨rfl, hS⟩ := hR
                have hS : Sep w0 B w (own 3 (.slice A1 data1.length c1) (vI r6) :: blk g1 275 (List.toArray (([] : List Value) ++ (arr1 (Value.int .i64) (0 : Int) 13 v1 ++ ([] : List Value)))) :: fs) := hS
                refine at_end [0, 1, 3, 4, 18, 20, 24] [pl 0 (.slice A1 data1.length c1), pl 1 (.int .i64 a1), pl 3 (.int .i64 b1), pl 4 (.func (.func 246) #[] #[.pointer (some ⟨g1, 0, none⟩)]), pl 18 (.int .i64 (w64 (shrK .u64 (IntKind.wrap .u64 (w64 (a1 + b1))) 1))), pl 20 (.int .i64 start3), pl 24 (.int .i64 (w64 ((w64 ((w64 (shrK .u64 (IntKind.wrap .u64 (w64 (a1 + b1))) 1)) + m1)) - start3)))] hF rfl (by kernel_rfl) (fun hF => ?_)
                refine then_n ?_
                exact ⟨r6, hF.weak [0, 1, 3, 4, 18, 20, 24] (by kernel_rfl), hS, hm⟩
              · replace hm := if_f hm hb
                refine wpIn_skip ?_
                refine then_n ?_
                exact ⟨data1, hF.weak [0, 1, 3, 4, 18, 20, 24] (by kernel_rfl), hS, hm⟩
          · refine wpIn_block ?_
            refine wp_loop_model (S := (Int × Int)) (R := Int) (slices_symMergeCmpFunc_2_L5 data1 a1 m1 b1 v1) (fun x => ((slices_symMergeCmpFunc_2_K5 rec_slices_symMergeCmpFunc_2 data1 a1 m1 b1 v1) x).bind some) r (fun (x : (Int × Int)) a w => Fr 220 [pl 0 (.slice A1 data1.length c1), pl 1 (.int .i64 a1), pl 2 (.int .i64 m1), pl 3 (.int .i64 b1), pl 4 (.func (.func 246) #[] #[.pointer (some ⟨g1, 0, none⟩)]), pl 18 (.int .i64 (w64 (shrK .u64 (IntKind.wrap .u64 (w64 (a1 + b1))) 1))), pl 19 (.int .i64 (w64 ((w64 (shrK .u64 (IntKind.wrap .u64 (w64 (a1 + b1))) 1)) + m1))), pl 20 (.int .i64 x.1), pl 21 (.int .i64 x.2), pl 22 (.int .i64 (w64 ((w64 ((w64 (shrK .u64 (IntKind.wrap .u64 (w64 (a1 + b1))) 1)) + m1)) - 1)))] a ∧ Sep w0 B w (own 3 (.slice A1 data1.length c1) (vI data1) :: blk g1 275 (List.toArray (([] : List Value) ++ (arr1 (Value.int .i64) (0 : Int) 13 v1 ++ ([] : List Value)))) :: fs)) (assoc_b hm) ⟨hF.weak [0, 1, 2, 3, 4, 18, 19, 20, 21, 22] (by kernel_rfl), hS⟩ ?_
            clear hF hS hm
            rintro nn5 ⟨start2, r4⟩ a w ⟨hF, hS⟩ hm
            generalize hφ5 : stK (slices_symMergeCmpFunc_2_L5 data1 a1 m1 b1 v1) nn5 (fun x => ((slices_symMergeCmpFunc_2_K5 rec_slices_symMergeCmpFunc_2 data1 a1 m1 b1 v1) x).bind some) = φ5 at hm
            unfold slices_symMergeCmpFunc_2_L5 at hm
            dsimp only at hF hS hm
            refine seq_cut (fun a w => Fr 220 [pl 0 (.slice A1 data1.length c1), pl 1 (.int .i64 a1), pl 2 (.int .i64 m1), pl 3 (.int .i64 b1), pl 4 (.func (.func 246) #[] #[.pointer (some ⟨g1, 0, none⟩)]), pl 18 (.int .i64 (w64 (shrK .u64 (IntKind.wrap .u64 (w64 (a1 + b1))) 1))), pl 19 (.int .i64 (w64 ((w64 (shrK .u64 (IntKind.wrap .u64 (w64 (a1 + b1))) 1)) + m1))), pl 20 (.int .i64 start2), pl 21 (.int .i64 r4), pl 22 (.int .i64 (w64 ((w64 ((w64 (shrK .u64 (IntKind.wrap .u64 (w64 (a1 + b1))) 1)) + m1)) - 1)))] a ∧ Sep w0 B w (own 3 (.slice A1 data1.length c1) (vI data1) :: blk g1 275 (List.toArray (([] : List Value) ++ (arr1 (Value.int .i64) (0 : Int) 13 v1 ++ ([] : List Value)))) :: fs) ∧ ((slices_symMergeCmpFunc_2_J16 data1 a1 m1 b1 v1 start2 r4)).bind φ5 = some r) ?_ ?_
            · rintro a w ⟨hF, hS, hm⟩
              unfold slices_symMergeCmpFunc_2_J16 at hm
              refine wpIn_block ?_
              refine reg [⟨true, [], vS (Op.shift .shr .u64 (IntKind.wrap .u64 (w64 (start2 + r4))) .u64 1), .int .u64 (shrK .u64 (IntKind.wrap .u64 (w64 (start2 + r4))) 1)⟩] [none, none, none, none, some (.int .u64 (shrK .u64 (IntKind.wrap .u64 (w64 (start2 + r4))) 1)), none, none] [0, 1, 2, 3, 4, 18, 19, 20, 21, 22, 23] [pl 0 (.slice A1 data1.length c1), pl 1 (.int .i64 a1), pl 2 (.int .i64 m1), pl 3 (.int .i64 b1), pl 4 (.func (.func 246) #[] #[.pointer (some ⟨g1, 0, none⟩)]), pl 18 (.int .i64 (w64 (shrK .u64 (IntKind.wrap .u64 (w64 (a1 + b1))) 1))), pl 19 (.int .i64 (w64 ((w64 (shrK .u64 (IntKind.wrap .u64 (w64 (a1 + b1))) 1)) + m1))), pl 20 (.int .i64 start2), pl 21 (.int .i64 r4), pl 22 (.int .i64 (w64 ((w64 ((w64 (shrK .u64 (IntKind.wrap .u64 (w64 (a1 + b1))) 1)) + m1)) - 1))), pl 23 (.int .i64 (w64 (shrK .u64 (IntKind.wrap .u64 (w64 (start2 + r4))) 1)))] hF hS Fol (by kernel_rfl) (by kernel_rfl) (by kernel_rfl) ?_ (fun a w hF hS => ?_)
              · exact obs_cons (ob_shr (fun _ => by decide)) <| obs_nil
              obtain ⟨hp13, hm⟩ := asrt_b hm
              obtain ⟨hp14, hm⟩ := asrt_b hm
              obtain ⟨r5, hr3, hm⟩ := call_b hm
              refine reg [⟨true, [], vS (Instr.indexAt 22 (.slice A1 data1.length c1) (.int .i64 (w64 ((w64 ((w64 ((w64 (shrK .u64 (IntKind.wrap .u64 (w64 (a1 + b1))) 1)) + m1)) - 1)) - (w64 (shrK .u64 (IntKind.wrap .u64 (w64 (start2 + r4))) 1)))))), .pointer (some (sAddr A1 (w64 ((w64 ((w64 ((w64 (shrK .u64 (IntKind.wrap .u64 (w64 (a1 + b1))) 1)) + m1)) - 1)) - (w64 (shrK .u64 (IntKind.wrap .u64 (w64 (start2 + r4))) 1))))))⟩, ⟨false, [], vS (Instr.loadAt 3 (.pointer (some (sAddr A1 (w64 ((w64 ((w64 ((w64 (shrK .u64 (IntKind.wrap .u64 (w64 (a1 + b1))) 1)) + m1)) - 1)) - (w64 (shrK .u64 (IntKind.wrap .u64 (w64 (start2 + r4))) 1)))))))), .int .i64 (geti data1 (w64 ((w64 ((w64 ((w64 (shrK .u64 (IntKind.wrap .u64 (w64 (a1 + b1))) 1)) + m1)) - 1)) - (w64 (shrK .u64 (IntKind.wrap .u64 (w64 (start2 + r4))) 1)))))⟩, ⟨true, [], vS (Instr.indexAt 22 (.slice A1 data1.length c1) (.int .i64 (w64 (shrK .u64 (IntKind.wrap .u64 (w64 (start2 + r4))) 1)))), .pointer (some (sAddr A1 (w64 (shrK .u64 (IntKind.wrap .u64 (w64 (start2 + r4))) 1))))⟩, ⟨false, [], vS (Instr.loadAt 3 (.pointer (some (sAddr A1 (w64 (shrK .u64 (IntKind.wrap .u64 (w64 (start2 + r4))) 1)))))), .int .i64 (geti data1 (w64 (shrK .u64 (IntKind.wrap .u64 (w64 (start2 + r4))) 1)))⟩, ⟨false, [], callFunc 246 #[.int .i64 (geti data1 (w64 ((w64 ((w64 ((w64 (shrK .u64 (IntKind.wrap .u64 (w64 (a1 + b1))) 1)) + m1)) - 1)) - (w64 (shrK .u64 (IntKind.wrap .u64 (w64 (start2 + r4))) 1))))), .int .i64 (geti data1 (w64 (shrK .u64 (IntKind.wrap .u64 (w64 (start2 + r4))) 1))), .pointer (some ⟨g1, 0, none⟩)], .int .i64 r5⟩] [none, none, none, none, none, some (.pointer (some (sAddr A1 (w64 ((w64 ((w64 ((w64 (shrK .u64 (IntKind.wrap .u64 (w64 (a1 + b1))) 1)) + m1)) - 1)) - (w64 (shrK .u64 (IntKind.wrap .u64 (w64 (start2 + r4))) 1))))))), some (.int .i64 (geti data1 (w64 ((w64 ((w64 ((w64 (shrK .u64 (IntKind.wrap .u64 (w64 (a1 + b1))) 1)) + m1)) - 1)) - (w64 (shrK .u64 (IntKind.wrap .u64 (w64 (start2 + r4))) 1)))))), none, none, some (.pointer (some (sAddr A1 (w64 (shrK .u64 (IntKind.wrap .u64 (w64 (start2 + r4))) 1))))), some (.int .i64 (geti data1 (w64 (shrK .u64 (IntKind.wrap .u64 (w64 (start2 + r4))) 1)))), some (.int .i64 r5), none, none] [0, 1, 2, 3, 4, 18, 19, 20, 21, 22, 23, 171] [pl 0 (.slice A1 data1.length c1), pl 1 (.int .i64 a1), pl 2 (.int .i64 m1), pl 3 (.int .i64 b1), pl 4 (.func (.func 246) #[] #[.pointer (some ⟨g1, 0, none⟩)]), pl 18 (.int .i64 (w64 (shrK .u64 (IntKind.wrap .u64 (w64 (a1 + b1))) 1))), pl 19 (.int .i64 (w64 ((w64 (shrK .u64 (IntKind.wrap .u64 (w64 (a1 + b1))) 1)) + m1))), pl 20 (.int .i64 start2), pl 21 (.int .i64 r4), pl 22 (.int .i64 (w64 ((w64 ((w64 (shrK .u64 (IntKind.wrap .u64 (w64 (a1 + b1))) 1)) + m1)) - 1))), pl 23 (.int .i64 (w64 (shrK .u64 (IntKind.wrap .u64 (w64 (start2 + r4))) 1))), pl 171 (.bool (!(decide (r5 < 0))))] hF hS Fol (by kernel_rfl) (by kernel_rfl) (by kernel_rfl) ?_ (fun a w hF hS => ?_)
              · exact obs_cons (ob_ix1 (f := (Value.int .i64)) (m := data1) Und22 hi3 hs3 (hS.at_ 0 rfl).rd rfl (fun _ => hp13)) <| obs_cons (ob_get1 (n := data1.length) (m := data1) (Value.int .i64) (0 : Int) Agg3 (fun _ hS => ⟨_, (hS.at_ 0 rfl).rd⟩) (fun _ hS => rfl) (fun _ => hp13)) <| obs_cons (ob_ix1 (f := (Value.int .i64)) (m := data1) Und22 hi3 hs3 (hS.at_ 0 rfl).rd rfl (fun _ => hp14)) <| obs_cons (ob_get1 (n := data1.length) (m := data1) (Value.int .i64) (0 : Int) Agg3 (fun _ hS => ⟨_, (hS.at_ 0 rfl).rd⟩) (fun _ hS => rfl) (fun _ => hp14)) <| obs_cons (ob_call Try.func246 (by kernel_rfl) rfl (fun _ _ hS => quiet_pick hS 2 [1, 0] (by decide) [1, 0] (by decide) (qs := (blk g1 275 (List.toArray (([] : List Value) ++ (arr1 (Value.int .i64) (0 : Int) 13 v1 ++ ([] : List Value)))) :: own 3 (.slice A1 data1.length c1) (vI data1) :: fs)) rfl (fun hS => poker_value_1_w hr3 hS ) 2 rfl)) <| obs_nil
              refine cond_ev (t := 171) (b := !(decide (r5 < 0))) hF (by kernel_rfl) (fun hb => ?_) (fun hb => ?_)
              · replace hm := if_t hm hb
                refine reg1 [] [] [0, 1, 2, 3, 4, 18, 19, 20, 21, 22] [pl 0 (.slice A1 data1.length c1), pl 1 (.int .i64 a1), pl 2 (.int .i64 m1), pl 3 (.int .i64 b1), pl 4 (.func (.func 246) #[] #[.pointer (some ⟨g1, 0, none⟩)]), pl 18 (.int .i64 (w64 (shrK .u64 (IntKind.wrap .u64 (w64 (a1 + b1))) 1))), pl 19 (.int .i64 (w64 ((w64 (shrK .u64 (IntKind.wrap .u64 (w64 (a1 + b1))) 1)) + m1))), pl 20 (.int .i64 (w64 ((w64 (shrK .u64 (IntKind.wrap .u64 (w64 (start2 + r4))) 1)) + 1))), pl 21 (.int .i64 r4), pl 22 (.int .i64 (w64 ((w64 ((w64 (shrK .u64 (IntKind.wrap .u64 (w64 (a1 + b1))) 1)) + m1)) - 1)))] hF hS Fol (by kernel_rfl) (by kernel_rfl) (by kernel_rfl) ?_ (fun a w hF hS => ?_)
                · exact obs_nil
                refine block_n ?_
                refine then_n ?_
                rw [← hφ5] at hm
                exact ⟨((w64 ((w64 (shrK .u64 (IntKind.wrap .u64 (w64 (start2 + r4))) 1)) + 1)), r4), ⟨hF.weak [0, 1, 2, 3, 4, 18, 19, 20, 21, 22] (by kernel_rfl), hS⟩, hm⟩
              · replace hm := if_f hm hb
                refine reg1 [] [] [0, 1, 2, 3, 4, 18, 19, 20, 21, 22] [pl 0 (.slice A1 data1.length c1), pl 1 (.int .i64 a1), pl 2 (.int .i64 m1), pl 3 (.int .i64 b1), pl 4 (.func (.func 246) #[] #[.pointer (some ⟨g1, 0, none⟩)]), pl 18 (.int .i64 (w64 (shrK .u64 (IntKind.wrap .u64 (w64 (a1 + b1))) 1))), pl 19 (.int .i64 (w64 ((w64 (shrK .u64 (IntKind.wrap .u64 (w64 (a1 + b1))) 1)) + m1))), pl 20 (.int .i64 start2), pl 21 (.int .i64 (w64 (shrK .u64 (IntKind.wrap .u64 (w64 (start2 + r4))) 1))), pl 22 (.int .i64 (w64 ((w64 ((w64 (shrK .u64 (IntKind.wrap .u64 (w64 (a1 + b1))) 1)) + m1)) - 1)))] hF hS Fol (by kernel_rfl) (by kernel_rfl) (by kernel_rfl) ?_ (fun a w hF hS => ?_)
                · exact obs_nil
                refine block_n ?_
                refine then_n ?_
                rw [← hφ5] at hm
                exact ⟨(start2, (w64 (shrK .u64 (IntKind.wrap .u64 (w64 (start2 + r4))) 1))), ⟨hF.weak [0, 1, 2, 3, 4, 18, 19, 20, 21, 22] (by kernel_rfl), hS⟩, hm⟩
            · refine reg [] [] [0, 1, 2, 3, 4, 18, 19, 20, 21, 22, 151] [pl 0 (.slice A1 data1.length c1), pl 1 (.int .i64 a1), pl 2 (.int .i64 m1), pl 3 (.int .i64 b1), pl 4 (.func (.func 246) #[] #[.pointer (some ⟨g1, 0, none⟩)]), pl 18 (.int .i64 (w64 (shrK .u64 (IntKind.wrap .u64 (w64 (a1 + b1))) 1))), pl 19 (.int .i64 (w64 ((w64 (shrK .u64 (IntKind.wrap .u64 (w64 (a1 + b1))) 1)) + m1))), pl 20 (.int .i64 start2), pl 21 (.int .i64 r4), pl 22 (.int .i64 (w64 ((w64 ((w64 (shrK .u64 (IntKind.wrap .u64 (w64 (a1 + b1))) 1)) + m1)) - 1))), pl 151 (.bool (decide (start2 < r4)))] hF hS Fol (by kernel_rfl) (by kernel_rfl) (by kernel_rfl) ?_ (fun a w hF hS => ?_)
              · exact obs_nil
              refine cond_ev (t := 151) (b := decide (start2 < r4)) hF (by kernel_rfl) (fun hb => ?_) (fun hb => ?_)
              · replace hm := if_t hm hb
                refine wpIn_skip ?_
                refine then_n ?_
                exact ⟨hF.weak [0, 1, 2, 3, 4, 18, 19, 20, 21, 22] (by kernel_rfl), hS, hm⟩
              · replace hm := if_f hm hb
                refine wpIn_exit ?_
                refine then_e (then_e (block_e (then_n ?_)))
                rw [← hφ5] at hm
                replace hm := done_b hm
                unfold slices_symMergeCmpFunc_2_K5 at hm
                try dsimp only at hm
                have hm : ((slices_symMergeCmpFunc_2_J15 rec_slices_symMergeCmpFunc_2 data1 a1 m1 b1 v1) start2).bind some = some r := hm
                exact ⟨start2, hF.weak [0, 1, 2, 3, 4, 18, 19, 20] (by kernel_rfl), hS, hm⟩
        · refine reg [] [] [0, 1, 2, 3, 4, 18, 19, 140] [pl 0 (.slice A1 data1.length c1), pl 1 (.int .i64 a1), pl 2 (.int .i64 m1), pl 3 (.int .i64 b1), pl 4 (.func (.func 246) #[] #[.pointer (some ⟨g1, 0, none⟩)]), pl 18 (.int .i64 (w64 (shrK .u64 (IntKind.wrap .u64 (w64 (a1 + b1))) 1))), pl 19 (.int .i64 (w64 ((w64 (shrK .u64 (IntKind.wrap .u64 (w64 (a1 + b1))) 1)) + m1))), pl 140 (.bool (decide ((w64 (shrK .u64 (IntKind.wrap .u64 (w64 (a1 + b1))) 1)) < m1)))] hF hS Fol (by kernel_rfl) (by kernel_rfl) (by kernel_rfl) ?_ (fun a w hF hS => ?_)
          · exact obs_nil
          refine cond_ev (t := 140) (b := decide ((w64 (shrK .u64 (IntKind.wrap .u64 (w64 (a1 + b1))) 1)) < m1)) hF (by kernel_rfl) (fun hb => ?_) (fun hb => ?_)
          · replace hm := if_t hm hb
            refine reg [] [] [0, 1, 2, 3, 4, 18, 19, 20] [pl 0 (.slice A1 data1.length c1), pl 1 (.int .i64 a1), pl 2 (.int .i64 m1), pl 3 (.int .i64 b1), pl 4 (.func (.func 246) #[] #[.pointer (some ⟨g1, 0, none⟩)]), pl 18 (.int .i64 (w64 (shrK .u64 (IntKind.wrap .u64 (w64 (a1 + b1))) 1))), pl 19 (.int .i64 (w64 ((w64 (shrK .u64 (IntKind.wrap .u64 (w64 (a1 + b1))) 1)) + m1))), pl 20 (.int .i64 (w64 ((w64 ((w64 (shrK .u64 (IntKind.wrap .u64 (w64 (a1 + b1))) 1)) + m1)) - b1)))] hF hS Fol (by kernel_rfl) (by kernel_rfl) (by kernel_rfl) ?_ (fun a w hF hS => ?_)
            · exact obs_nil
            refine reg1 [] [] [0, 1, 2, 3, 4, 18, 19, 20, 21] [pl 0 (.slice A1 data1.length c1), pl 1 (.int .i64 a1), pl 2 (.int .i64 m1), pl 3 (.int .i64 b1), pl 4 (.func (.func 246) #[] #[.pointer (some ⟨g1, 0, none⟩)]), pl 18 (.int .i64 (w64 (shrK .u64 (IntKind.wrap .u64 (w64 (a1 + b1))) 1))), pl 19 (.int .i64 (w64 ((w64 (shrK .u64 (IntKind.wrap .u64 (w64 (a1 + b1))) 1)) + m1))), pl 20 (.int .i64 (w64 ((w64 ((w64 (shrK .u64 (IntKind.wrap .u64 (w64 (a1 + b1))) 1)) + m1)) - b1))), pl 21 (.int .i64 (w64 (shrK .u64 (IntKind.wrap .u64 (w64 (a1 + b1))) 1)))] hF hS Fol (by kernel_rfl) (by kernel_rfl) (by kernel_rfl) ?_ (fun a w hF hS => ?_)
            · exact obs_nil
            refine then_n ?_
            exact ⟨(w64 ((w64 ((w64 (shrK .u64 (IntKind.wrap .u64 (w64 (a1 + b1))) 1)) + m1)) - b1)), (w64 (shrK .u64 (IntKind.wrap .u64 (w64 (a1 + b1))) 1)), hF.weak [0, 1, 2, 3, 4, 18, 19, 20, 21] (by kernel_rfl), hS, hm⟩
          · replace hm := if_f hm hb
            refine reg [] [] [0, 1, 2, 3, 4, 18, 19, 20] [pl 0 (.slice A1 data1.length c1), pl 1 (.int .i64 a1), pl 2 (.int .i64 m1), pl 3 (.int .i64 b1), pl 4 (.func (.func 246) #[] #[.pointer (some ⟨g1, 0, none⟩)]), pl 18 (.int .i64 (w64 (shrK .u64 (IntKind.wrap .u64 (w64 (a1 + b1))) 1))), pl 19 (.int .i64 (w64 ((w64 (shrK .u64 (IntKind.wrap .u64 (w64 (a1 + b1))) 1)) + m1))), pl 20 (.int .i64 a1)] hF hS Fol (by kernel_rfl) (by kernel_rfl) (by kernel_rfl) ?_ (fun a w hF hS => ?_)
            · exact obs_nil
            refine reg1 [] [] [0, 1, 2, 3, 4, 18, 19, 20, 21] [pl 0 (.slice A1 data1.length c1), pl 1 (.int .i64 a1), pl 2 (.int .i64 m1), pl 3 (.int .i64 b1), pl 4 (.func (.func 246) #[] #[.pointer (some ⟨g1, 0, none⟩)]), pl 18 (.int .i64 (w64 (shrK .u64 (IntKind.wrap .u64 (w64 (a1 + b1))) 1))), pl 19 (.int .i64 (w64 ((w64 (shrK .u64 (IntKind.wrap .u64 (w64 (a1 + b1))) 1)) + m1))), pl 20 (.int .i64 a1), pl 21 (.int .i64 m1)] hF hS Fol (by kernel_rfl) (by kernel_rfl) (by kernel_rfl) ?_ (fun a w hF hS => ?_)
            · exact obs_nil
            refine then_n ?_
            exact ⟨a1, m1, hF.weak [0, 1, 2, 3, 4, 18, 19, 20, 21] (by kernel_rfl), hS, hm⟩
      · refine reg [] [] [0, 1, 2, 3, 4, 80] [pl 0 (.slice A1 data1.length c1), pl 1 (.int .i64 a1), pl 2 (.int .i64 m1), pl 3 (.int .i64 b1), pl 4 (.func (.func 246) #[] #[.pointer (some ⟨g1, 0, none⟩)]), pl 80 (.bool ((w64 (b1 - m1)) == 1))] hF hS Fol (by kernel_rfl) (by kernel_rfl) (by kernel_rfl) ?_ (fun a w hF hS => ?_)
        · exact obs_nil
        refine cond_ev (t := 80) (b := ((w64 (b1 - m1)) == 1)) hF (by kernel_rfl) (fun hb => ?_) (fun hb => ?_)
        · replace hm := if_t hm hb
          refine reg [] [] [0, 2, 4, 14] [pl 0 (.slice A1 data1.length c1), pl 2 (.int .i64 m1), pl 4 (.func (.func 246) #[] #[.pointer (some ⟨g1, 0, none⟩)]), pl 14 (.int .i64 a1)] hF hS Fol (by kernel_rfl) (by kernel_rfl) (by kernel_rfl) ?_ (fun a w hF hS => ?_)
          · exact obs_nil
          refine reg [] [] [0, 2, 4, 14, 15] [pl 0 (.slice A1 data1.length c1), pl 2 (.int .i64 m1), pl 4 (.func (.func 246) #[] #[.pointer (some ⟨g1, 0, none⟩)]), pl 14 (.int .i64 a1), pl 15 (.int .i64 m1)] hF hS Fol (by kernel_rfl) (by kernel_rfl) (by kernel_rfl) ?_ (fun a w hF hS => ?_)
          · exact obs_nil
          refine seq_cut (fun a w => ∃ (i4 : Int), Fr 220 [pl 0 (.slice A1 data1.length c1), pl 2 (.int .i64 m1), pl 14 (.int .i64 i4)] a ∧ Sep w0 B w (own 3 (.slice A1 data1.length c1) (vI data1) :: blk g1 275 (List.toArray (([] : List Value) ++ (arr1 (Value.int .i64) (0 : Int) 13 v1 ++ ([] : List Value)))) :: fs) ∧ ((slices_symMergeCmpFunc_2_J9 data1 m1) i4).bind some = some r) ?_ ?_
          · rintro a w ⟨i4, hF, hS, hm⟩
            unfold slices_symMergeCmpFunc_2_J9 at hm
            refine seq_cut (fun a w => ∃ (data6 : List Int), Fr 220 [] a ∧ Sep w0 B w (own 3 (.slice A1 data1.length c1) (vI data6) :: blk g1 275 (List.toArray (([] : List Value) ++ (arr1 (Value.int .i64) (0 : Int) 13 v1 ++ ([] : List Value)))) :: fs) ∧ (slices_symMergeCmpFunc_2_J11 data6).bind some = some r) ?_ ?_
            · rintro a w ⟨data6, hF, hS, hm⟩
              unfold slices_symMergeCmpFunc_2_J11 at hm
              refine wpIn_ret ?_
              refine then_r (then_r ?_)
              have hm : some data6 = some r := hm
              obtain rfl := Option.some.inj hm
              exact retV (rs := []) (vs := []) hF rfl (rv_nil) rfl ⟨_, rfl, rfl, hS⟩
            · refine reg [] [] [0, 14, 17] [pl 0 (.slice A1 data1.length c1), pl 14 (.int .i64 i4), pl 17 (.int .i64 m1)] hF hS Fol (by kernel_rfl) (by kernel_rfl) (by kernel_rfl) ?_ (fun a w hF hS => ?_)
              · exact obs_nil
              refine wpIn_block ?_
              refine wp_loop_model (S := (List Int × Int)) (R := (List Int)) (slices_symMergeCmpFunc_2_L4 data1 i4) (fun x => (slices_symMergeCmpFunc_2_K4 x).bind some) r (fun (x : (List Int × Int)) a w => Fr 220 [pl 0 (.slice A1 data1.length c1), pl 14 (.int .i64 i4), pl 17 (.int .i64 x.2)] a ∧ Sep w0 B w (own 3 (.slice A1 data1.length c1) (vI x.1) :: blk g1 275 (List.toArray (([] : List Value) ++ (arr1 (Value.int .i64) (0 : Int) 13 v1 ++ ([] : List Value)))) :: fs)) (assoc_b hm) ⟨hF.weak [0, 14, 17] (by kernel_rfl), hS⟩ ?_
              clear hF hS hm
              rintro nn4 ⟨data5, k2⟩ a w ⟨hF, hS⟩ hm
              generalize hφ4 : stK (slices_symMergeCmpFunc_2_L4 data1 i4) nn4 (fun x => (slices_symMergeCmpFunc_2_K4 x).bind some) = φ4 at hm
              unfold slices_symMergeCmpFunc_2_L4 at hm
              dsimp only at hF hS hm
              refine seq_cut (fun a w => Fr 220 [pl 0 (.slice A1 data1.length c1), pl 14 (.int .i64 i4), pl 17 (.int .i64 k2)] a ∧ Sep w0 B w (own 3 (.slice A1 data1.length c1) (vI data5) :: blk g1 275 (List.toArray (([] : List Value) ++ (arr1 (Value.int .i64) (0 : Int) 13 v1 ++ ([] : List Value)))) :: fs) ∧ ((slices_symMergeCmpFunc_2_J12 data1 data5 k2)).bind φ4 = some r) ?_ ?_
              · rintro a w ⟨hF, hS, hm⟩
                unfold slices_symMergeCmpFunc_2_J12 at hm
                refine seq_cut (fun a w => Fr 220 [pl 0 (.slice A1 data1.length c1), pl 14 (.int .i64 i4), pl 17 (.int .i64 k2)] a ∧ Sep w0 B w (own 3 (.slice A1 data1.length c1) (vI ((data5.set (Int.toNat k2) (geti data5 (w64 (k2 - 1)))).set (Int.toNat (w64 (k2 - 1))) (geti data5 k2))) :: blk g1 275 (List.toArray (([] : List Value) ++ (arr1 (Value.int .i64) (0 : Int) 13 v1 ++ ([] : List Value)))) :: fs) ∧ ((slices_symMergeCmpFunc_2_J13 data5 k2)).bind φ4 = some r) ?_ ?_
                · rintro a w ⟨hF, hS, hm⟩
                  unfold slices_symMergeCmpFunc_2_J13 at hm
                  refine reg1 [] [] [0, 14, 17] [pl 0 (.slice A1 data1.length c1), pl 14 (.int .i64 i4), pl 17 (.int .i64 (w64 (k2 - 1)))] hF hS Fol (by kernel_rfl) (by kernel_rfl) (by kernel_rfl) ?_ (fun a w hF hS => ?_)
                  · exact obs_nil
                  refine then_n ?_
                  rw [← hφ4] at hm
                  exact ⟨(((data5.set (Int.toNat k2) (geti data5 (w64 (k2 - 1)))).set (Int.toNat (w64 (k2 - 1))) (geti data5 k2)), (w64 (k2 - 1))), ⟨hF.weak [0, 14, 17] (by kernel_rfl), hS⟩, hm⟩
                · refine wpIn_block ?_
                  obtain ⟨hp9, hm⟩ := asrt_b hm
                  obtain ⟨hp10, hm⟩ := asrt_b hm
                  obtain ⟨hp11, hm⟩ := asrt_b hm
                  obtain ⟨hp12, hm⟩ := asrt_b hm
                  refine regMix4 [0, 1, 2, 3, 4, 5, 6, 7, 8, 9, 10, 11, 12, 13, 14] [15, 16, 17] [⟨true, [], vS (Instr.indexAt 22 (.slice A1 data1.length c1) (.int .i64 (w64 (k2 - 1)))), .pointer (some (sAddr A1 (w64 (k2 - 1))))⟩, ⟨false, [], vS (Instr.loadAt 3 (.pointer (some (sAddr A1 (w64 (k2 - 1)))))), .int .i64 (geti data5 (w64 (k2 - 1)))⟩, ⟨true, [], vS (Instr.indexAt 22 (.slice A1 data1.length c1) (.int .i64 k2)), .pointer (some (sAddr A1 k2))⟩, ⟨false, [], vS (Instr.loadAt 3 (.pointer (some (sAddr A1 k2)))), .int .i64 (geti data5 k2)⟩, ⟨true, [], vS (Instr.indexAt 22 (.slice A1 data1.length c1) (.int .i64 k2)), .pointer (some (sAddr A1 k2))⟩] [none, none, none, none, none, none, none, none, some (.pointer (some (sAddr A1 (w64 (k2 - 1))))), some (.int .i64 (geti data5 (w64 (k2 - 1)))), none, none, some (.pointer (some (sAddr A1 k2))), some (.int .i64 (geti data5 k2)), some (.pointer (some (sAddr A1 k2)))] [0, 14, 17, 115, 117, 122, 126, 127] [pl 0 (.slice A1 data1.length c1), pl 14 (.int .i64 i4), pl 17 (.int .i64 k2), pl 115 (.slice A1 data1.length c1), pl 117 (.int .i64 (w64 (k2 - 1))), pl 122 (.int .i64 (geti data5 (w64 (k2 - 1)))), pl 126 (.int .i64 (geti data5 k2)), pl 127 (.pointer (some (sAddr A1 k2)))] hF hS Fol (by kernel_rfl) (by kernel_rfl) (by kernel_rfl) (by kernel_rfl) (by kernel_rfl) ?_ (fun a w hF hS => ?_)
                  · exact obs_cons (ob_ix1 (f := (Value.int .i64)) (m := data5) Und22 hi3 hs3 (hS.at_ 0 rfl).rd ((hS.at_ 0 rfl).len1) (fun _ => hp9)) <| obs_cons (ob_get1 (n := data1.length) (m := data5) (Value.int .i64) (0 : Int) Agg3 (fun _ hS => ⟨_, (hS.at_ 0 rfl).rd⟩) (fun _ hS => ((hS.at_ 0 rfl).len1)) (fun _ => hp9)) <| obs_cons (ob_ix1 (f := (Value.int .i64)) (m := data5) Und22 hi3 hs3 (hS.at_ 0 rfl).rd ((hS.at_ 0 rfl).len1) (fun _ => hp10)) <| obs_cons (ob_get1 (n := data1.length) (m := data5) (Value.int .i64) (0 : Int) Agg3 (fun _ hS => ⟨_, (hS.at_ 0 rfl).rd⟩) (fun _ hS => ((hS.at_ 0 rfl).len1)) (fun _ => hp10)) <| obs_cons (ob_ix1 (f := (Value.int .i64)) (m := data5) Und22 hi3 hs3 (hS.at_ 0 rfl).rd ((hS.at_ 0 rfl).len1) (fun _ => hp11)) <| obs_nil
                  obtain ⟨w, hrun, hS⟩ := run_set1 (P := Try.prog) (t := 3) (x := (geti data5 (w64 (k2 - 1)))) (Value.int .i64) (hS.at_ 0 rfl) hi3 hs3 rfl rfl hp11
                  refine at_skip hF (by kernel_rfl) hrun ?_
                  have hS : Sep w0 B w (own 3 (.slice A1 data1.length c1) (vI (data5.set (Int.toNat k2) (geti data5 (w64 (k2 - 1))))) :: blk g1 275 (List.toArray (([] : List Value) ++ (arr1 (Value.int .i64) (0 : Int) 13 v1 ++ ([] : List Value)))) :: fs) := hS
                  refine at_run 1 [⟨true, [], vS (Instr.indexAt 22 (.slice A1 data1.length c1) (.int .i64 (w64 (k2 - 1)))), .pointer (some (sAddr A1 (w64 (k2 - 1))))⟩] [some (.pointer (some (sAddr A1 (w64 (k2 - 1)))))] [0, 14, 17, 126, 128] [pl 0 (.slice A1 data1.length c1), pl 14 (.int .i64 i4), pl 17 (.int .i64 k2), pl 126 (.int .i64 (geti data5 k2)), pl 128 (.pointer (some (sAddr A1 (w64 (k2 - 1)))))] hF hS (by kernel_rfl) (by kernel_rfl) ?_ (fun a w hF hS => ?_)
                  · exact obs_cons (ob_ix1 (f := (Value.int .i64)) (m := (data5.set (Int.toNat k2) (geti data5 (w64 (k2 - 1))))) Und22 hi3 hs3 (hS.at_ 0 rfl).rd ((hS.at_ 0 rfl).len1) (fun _ => hp12)) <| obs_nil
                  obtain ⟨w, hrun, hS⟩ := run_set1 (P := Try.prog) (t := 3) (x := (geti data5 k2)) (Value.int .i64) (hS.at_ 0 rfl) hi3 hs3 rfl rfl hp12
                  refine at_skip hF (by kernel_rfl) hrun ?_
                  have hS : Sep w0 B w (own 3 (.slice A1 data1.length c1) (vI ((data5.set (Int.toNat k2) (geti data5 (w64 (k2 - 1)))).set (Int.toNat (w64 (k2 - 1))) (geti data5 k2))) :: blk g1 275 (List.toArray (([] : List Value) ++ (arr1 (Value.int .i64) (0 : Int) 13 v1 ++ ([] : List Value)))) :: fs) := hS
                  refine at_end [0, 14, 17] [pl 0 (.slice A1 data1.length c1), pl 14 (.int .i64 i4), pl 17 (.int .i64 k2)] hF rfl (by kernel_rfl) (fun hF => ?_)
                  refine np_n ?_
                  refine block_n ?_
                  refine then_n ?_
                  exact ⟨hF.weak [0, 14, 17] (by kernel_rfl), hS, hm⟩
              · refine reg [] [] [0, 14, 17, 110] [pl 0 (.slice A1 data1.length c1), pl 14 (.int .i64 i4), pl 17 (.int .i64 k2), pl 110 (.bool (decide (i4 < k2)))] hF hS Fol (by kernel_rfl) (by kernel_rfl) (by kernel_rfl) ?_ (fun a w hF hS => ?_)
                · exact obs_nil
                refine cond_ev (t := 110) (b := decide (i4 < k2)) hF (by kernel_rfl) (fun hb => ?_) (fun hb => ?_)
                · replace hm := if_t hm hb
                  refine wpIn_skip ?_
                  refine then_n ?_
                  exact ⟨hF.weak [0, 14, 17] (by kernel_rfl), hS, hm⟩
                · replace hm := if_f hm hb
                  refine wpIn_exit ?_
                  refine then_e (then_e (block_e (then_n ?_)))
                  rw [← hφ4] at hm
                  replace hm := done_b hm
                  unfold slices_symMergeCmpFunc_2_K4 at hm
                  try dsimp only at hm
                  have hm : (slices_symMergeCmpFunc_2_J11 data5).bind some = some r := hm
                  exact ⟨data5, hF.weak [] (by kernel_rfl), hS, hm⟩
          · refine wpIn_block ?_
            refine wp_loop_model (S := (Int × Int)) (R := Int) (slices_symMergeCmpFunc_2_L3 data1 m1 v1) (fun x => ((slices_symMergeCmpFunc_2_K3 data1 m1) x).bind some) r (fun (x : (Int × Int)) a w => Fr 220 [pl 0 (.slice A1 data1.length c1), pl 2 (.int .i64 m1), pl 4 (.func (.func 246) #[] #[.pointer (some ⟨g1, 0, none⟩)]), pl 14 (.int .i64 x.1), pl 15 (.int .i64 x.2)] a ∧ Sep w0 B w (own 3 (.slice A1 data1.length c1) (vI data1) :: blk g1 275 (List.toArray (([] : List Value) ++ (arr1 (Value.int .i64) (0 : Int) 13 v1 ++ ([] : List Value)))) :: fs)) (assoc_b hm) ⟨hF.weak [0, 2, 4, 14, 15] (by kernel_rfl), hS⟩ ?_
            clear hF hS hm
            rintro nn3 ⟨i3, j2⟩ a w ⟨hF, hS⟩ hm
            generalize hφ3 : stK (slices_symMergeCmpFunc_2_L3 data1 m1 v1) nn3 (fun x => ((slices_symMergeCmpFunc_2_K3 data1 m1) x).bind some) = φ3 at hm
            unfold slices_symMergeCmpFunc_2_L3 at hm
            dsimp only at hF hS hm
            refine seq_cut (fun a w => Fr 220 [pl 0 (.slice A1 data1.length c1), pl 2 (.int .i64 m1), pl 4 (.func (.func 246) #[] #[.pointer (some ⟨g1, 0, none⟩)]), pl 14 (.int .i64 i3), pl 15 (.int .i64 j2)] a ∧ Sep w0 B w (own 3 (.slice A1 data1.length c1) (vI data1) :: blk g1 275 (List.toArray (([] : List Value) ++ (arr1 (Value.int .i64) (0 : Int) 13 v1 ++ ([] : List Value)))) :: fs) ∧ ((slices_symMergeCmpFunc_2_J10 data1 m1 v1 i3 j2)).bind φ3 = some r) ?_ ?_
            · rintro a w ⟨hF, hS, hm⟩
              unfold slices_symMergeCmpFunc_2_J10 at hm
              refine wpIn_block ?_
              refine reg [⟨true, [], vS (Op.shift .shr .u64 (IntKind.wrap .u64 (w64 (i3 + j2))) .u64 1), .int .u64 (shrK .u64 (IntKind.wrap .u64 (w64 (i3 + j2))) 1)⟩] [none, none, none, none, some (.int .u64 (shrK .u64 (IntKind.wrap .u64 (w64 (i3 + j2))) 1)), none, none] [0, 2, 4, 14, 15, 16] [pl 0 (.slice A1 data1.length c1), pl 2 (.int .i64 m1), pl 4 (.func (.func 246) #[] #[.pointer (some ⟨g1, 0, none⟩)]), pl 14 (.int .i64 i3), pl 15 (.int .i64 j2), pl 16 (.int .i64 (w64 (shrK .u64 (IntKind.wrap .u64 (w64 (i3 + j2))) 1)))] hF hS Fol (by kernel_rfl) (by kernel_rfl) (by kernel_rfl) ?_ (fun a w hF hS => ?_)
              · exact obs_cons (ob_shr (fun _ => by decide)) <| obs_nil
              obtain ⟨hp7, hm⟩ := asrt_b hm
              obtain ⟨hp8, hm⟩ := asrt_b hm
              obtain ⟨r2, hr2, hm⟩ := call_b hm
              refine reg [⟨true, [], vS (Instr.indexAt 22 (.slice A1 data1.length c1) (.int .i64 m1)), .pointer (some (sAddr A1 m1))⟩, ⟨false, [], vS (Instr.loadAt 3 (.pointer (some (sAddr A1 m1)))), .int .i64 (geti data1 m1)⟩, ⟨true, [], vS (Instr.indexAt 22 (.slice A1 data1.length c1) (.int .i64 (w64 (shrK .u64 (IntKind.wrap .u64 (w64 (i3 + j2))) 1)))), .pointer (some (sAddr A1 (w64 (shrK .u64 (IntKind.wrap .u64 (w64 (i3 + j2))) 1))))⟩, ⟨false, [], vS (Instr.loadAt 3 (.pointer (some (sAddr A1 (w64 (shrK .u64 (IntKind.wrap .u64 (w64 (i3 + j2))) 1)))))), .int .i64 (geti data1 (w64 (shrK .u64 (IntKind.wrap .u64 (w64 (i3 + j2))) 1)))⟩, ⟨false, [], callFunc 246 #[.int .i64 (geti data1 m1), .int .i64 (geti data1 (w64 (shrK .u64 (IntKind.wrap .u64 (w64 (i3 + j2))) 1))), .pointer (some ⟨g1, 0, none⟩)], .int .i64 r2⟩] [none, none, none, some (.pointer (some (sAddr A1 m1))), some (.int .i64 (geti data1 m1)), none, none, some (.pointer (some (sAddr A1 (w64 (shrK .u64 (IntKind.wrap .u64 (w64 (i3 + j2))) 1))))), some (.int .i64 (geti data1 (w64 (shrK .u64 (IntKind.wrap .u64 (w64 (i3 + j2))) 1)))), some (.int .i64 r2), none, none] [0, 2, 4, 14, 15, 16, 103] [pl 0 (.slice A1 data1.length c1), pl 2 (.int .i64 m1), pl 4 (.func (.func 246) #[] #[.pointer (some ⟨g1, 0, none⟩)]), pl 14 (.int .i64 i3), pl 15 (.int .i64 j2), pl 16 (.int .i64 (w64 (shrK .u64 (IntKind.wrap .u64 (w64 (i3 + j2))) 1))), pl 103 (.bool (!(decide (r2 < 0))))] hF hS Fol (by kernel_rfl) (by kernel_rfl) (by kernel_rfl) ?_ (fun a w hF hS => ?_)
              · exact obs_cons (ob_ix1 (f := (Value.int .i64)) (m := data1) Und22 hi3 hs3 (hS.at_ 0 rfl).rd rfl (fun _ => hp7)) <| obs_cons (ob_get1 (n := data1.length) (m := data1) (Value.int .i64) (0 : Int) Agg3 (fun _ hS => ⟨_, (hS.at_ 0 rfl).rd⟩) (fun _ hS => rfl) (fun _ => hp7)) <| obs_cons (ob_ix1 (f := (Value.int .i64)) (m := data1) Und22 hi3 hs3 (hS.at_ 0 rfl).rd rfl (fun _ => hp8)) <| obs_cons (ob_get1 (n := data1.length) (m := data1) (Value.int .i64) (0 : Int) Agg3 (fun _ hS => ⟨_, (hS.at_ 0 rfl).rd⟩) (fun _ hS => rfl) (fun _ => hp8)) <| obs_cons (ob_call Try.func246 (by kernel_rfl) rfl (fun _ _ hS => quiet_pick hS 2 [1, 0] (by decide) [1, 0] (by decide) (qs := (blk g1 275 (List.toArray (([] : List Value) ++ (arr1 (Value.int .i64) (0 : Int) 13 v1 ++ ([] : List Value)))) :: own 3 (.slice A1 data1.length c1) (vI data1) :: fs)) rfl (fun hS => poker_value_1_w hr2 hS ) 2 rfl)) <| obs_nil
              refine cond_ev (t := 103) (b := !(decide (r2 < 0))) hF (by kernel_rfl) (fun hb => ?_) (fun hb => ?_)
              · replace hm := if_t hm hb
                refine reg1 [] [] [0, 2, 4, 14, 15] [pl 0 (.slice A1 data1.length c1), pl 2 (.int .i64 m1), pl 4 (.func (.func 246) #[] #[.pointer (some ⟨g1, 0, none⟩)]), pl 14 (.int .i64 (w64 ((w64 (shrK .u64 (IntKind.wrap .u64 (w64 (i3 + j2))) 1)) + 1))), pl 15 (.int .i64 j2)] hF hS Fol (by kernel_rfl) (by kernel_rfl) (by kernel_rfl) ?_ (fun a w hF hS => ?_)
                · exact obs_nil
                refine block_n ?_
                refine then_n ?_
                rw [← hφ3] at hm
                exact ⟨((w64 ((w64 (shrK .u64 (IntKind.wrap .u64 (w64 (i3 + j2))) 1)) + 1)), j2), ⟨hF.weak [0, 2, 4, 14, 15] (by kernel_rfl), hS⟩, hm⟩
              · replace hm := if_f hm hb
                refine reg1 [] [] [0, 2, 4, 14, 15] [pl 0 (.slice A1 data1.length c1), pl 2 (.int .i64 m1), pl 4 (.func (.func 246) #[] #[.pointer (some ⟨g1, 0, none⟩)]), pl 14 (.int .i64 i3), pl 15 (.int .i64 (w64 (shrK .u64 (IntKind.wrap .u64 (w64 (i3 + j2))) 1)))] hF hS Fol (by kernel_rfl) (by kernel_rfl) (by kernel_rfl) ?_ (fun a w hF hS => ?_)
                · exact obs_nil
                refine block_n ?_
                refine then_n ?_
                rw [← hφ3] at hm
                exact ⟨(i3, (w64 (shrK .u64 (IntKind.wrap .u64 (w64 (i3 + j2))) 1))), ⟨hF.weak [0, 2, 4, 14, 15] (by kernel_rfl), hS⟩, hm⟩
            · refine reg [] [] [0, 2, 4, 14, 15, 85] [pl 0 (.slice A1 data1.length c1), pl 2 (.int .i64 m1), pl 4 (.func (.func 246) #[] #[.pointer (some ⟨g1, 0, none⟩)]), pl 14 (.int .i64 i3), pl 15 (.int .i64 j2), pl 85 (.bool (decide (i3 < j2)))] hF hS Fol (by kernel_rfl) (by kernel_rfl) (by kernel_rfl) ?_ (fun a w hF hS => ?_)
              · exact obs_nil
              refine cond_ev (t := 85) (b := decide (i3 < j2)) hF (by kernel_rfl) (fun hb => ?_) (fun hb => ?_)
              · replace hm := if_t hm hb
                refine wpIn_skip ?_
                refine then_n ?_
                exact ⟨hF.weak [0, 2, 4, 14, 15] (by kernel_rfl), hS, hm⟩
              · replace hm := if_f hm hb
                refine wpIn_exit ?_
                refine then_e (then_e (block_e (then_n ?_)))
                rw [← hφ3] at hm
                replace hm := done_b hm
                unfold slices_symMergeCmpFunc_2_K3 at hm
                try dsimp only at hm
                have hm : ((slices_symMergeCmpFunc_2_J9 data1 m1) i3).bind some = some r := hm
                exact ⟨i3, hF.weak [0, 2, 14] (by kernel_rfl), hS, hm⟩
        · replace hm := if_f hm hb
          refine wpIn_skip ?_
          refine then_n ?_
          exact ⟨hF.weak [0, 1, 2, 3, 4] (by kernel_rfl), hS, hm⟩
    · refine reg [] [] [0, 1, 2, 3, 4, 28] [pl 0 (.slice A1 data1.length c1), pl 1 (.int .i64 a1), pl 2 (.int .i64 m1), pl 3 (.int .i64 b1), pl 4 (.func (.func 246) #[] #[.pointer (some ⟨g1, 0, none⟩)]), pl 28 (.bool ((w64 (m1 - a1)) == 1))] hF hS Fol (by kernel_rfl) (by kernel_rfl) (by kernel_rfl) ?_ (fun a w hF hS => ?_)
      · exact obs_nil
      refine cond_ev (t := 28) (b := ((w64 (m1 - a1)) == 1)) hF (by kernel_rfl) (fun hb => ?_) (fun hb => ?_)
      · replace hm := if_t hm hb
        refine reg [] [] [0, 1, 3, 4, 10] [pl 0 (.slice A1 data1.length c1), pl 1 (.int .i64 a1), pl 3 (.int .i64 b1), pl 4 (.func (.func 246) #[] #[.pointer (some ⟨g1, 0, none⟩)]), pl 10 (.int .i64 m1)] hF hS Fol (by kernel_rfl) (by kernel_rfl) (by kernel_rfl) ?_ (fun a w hF hS => ?_)
        · exact obs_nil
        refine reg [] [] [0, 1, 4, 10, 11] [pl 0 (.slice A1 data1.length c1), pl 1 (.int .i64 a1), pl 4 (.func (.func 246) #[] #[.pointer (some ⟨g1, 0, none⟩)]), pl 10 (.int .i64 m1), pl 11 (.int .i64 b1)] hF hS Fol (by kernel_rfl) (by kernel_rfl) (by kernel_rfl) ?_ (fun a w hF hS => ?_)
        · exact obs_nil
        refine seq_cut (fun a w => ∃ (i2 : Int), Fr 220 [pl 0 (.slice A1 data1.length c1), pl 1 (.int .i64 a1), pl 10 (.int .i64 i2)] a ∧ Sep w0 B w (own 3 (.slice A1 data1.length c1) (vI data1) :: blk g1 275 (List.toArray (([] : List Value) ++ (arr1 (Value.int .i64) (0 : Int) 13 v1 ++ ([] : List Value)))) :: fs) ∧ ((slices_symMergeCmpFunc_2_J3 data1 a1) i2).bind some = some r) ?_ ?_
        · rintro a w ⟨i2, hF, hS, hm⟩
          unfold slices_symMergeCmpFunc_2_J3 at hm
          refine seq_cut (fun a w => ∃ (data4 : List Int), Fr 220 [] a ∧ Sep w0 B w (own 3 (.slice A1 data1.length c1) (vI data4) :: blk g1 275 (List.toArray (([] : List Value) ++ (arr1 (Value.int .i64) (0 : Int) 13 v1 ++ ([] : List Value)))) :: fs) ∧ (slices_symMergeCmpFunc_2_J5 data4).bind some = some r) ?_ ?_
          · rintro a w ⟨data4, hF, hS, hm⟩
            unfold slices_symMergeCmpFunc_2_J5 at hm
            refine wpIn_ret ?_
            refine then_r (then_r ?_)
            have hm : some data4 = some r := hm
            obtain rfl := Option.some.inj hm
            exact retV (rs := []) (vs := []) hF rfl (rv_nil) rfl ⟨_, rfl, rfl, hS⟩
          · refine reg [] [] [0, 10, 13] [pl 0 (.slice A1 data1.length c1), pl 10 (.int .i64 i2), pl 13 (.int .i64 a1)] hF hS Fol (by kernel_rfl) (by kernel_rfl) (by kernel_rfl) ?_ (fun a w hF hS => ?_)
            · exact obs_nil
            refine wpIn_block ?_
            refine wp_loop_model (S := (List Int × Int)) (R := (List Int)) (slices_symMergeCmpFunc_2_L2 data1 i2) (fun x => (slices_symMergeCmpFunc_2_K2 x).bind some) r (fun (x : (List Int × Int)) a w => Fr 220 [pl 0 (.slice A1 data1.length c1), pl 10 (.int .i64 i2), pl 13 (.int .i64 x.2)] a ∧ Sep w0 B w (own 3 (.slice A1 data1.length c1) (vI x.1) :: blk g1 275 (List.toArray (([] : List Value) ++ (arr1 (Value.int .i64) (0 : Int) 13 v1 ++ ([] : List Value)))) :: fs)) (assoc_b hm) ⟨hF.weak [0, 10, 13] (by kernel_rfl), hS⟩ ?_
            clear hF hS hm
            rintro nn2 ⟨data3, k1⟩ a w ⟨hF, hS⟩ hm
            generalize hφ2 : stK (slices_symMergeCmpFunc_2_L2 data1 i2) nn2 (fun x => (slices_symMergeCmpFunc_2_K2 x).bind some) = φ2 at hm
            unfold slices_symMergeCmpFunc_2_L2 at hm
            dsimp only at hF hS hm
            refine seq_cut (fun a w => Fr 220 [pl 0 (.slice A1 data1.length c1), pl 10 (.int .i64 i2), pl 13 (.int .i64 k1)] a ∧ Sep w0 B w (own 3 (.slice A1 data1.length c1) (vI data3) :: blk g1 275 (List.toArray (([] : List Value) ++ (arr1 (Value.int .i64) (0 : Int) 13 v1 ++ ([] : List Value)))) :: fs) ∧ ((slices_symMergeCmpFunc_2_J6 data1 data3 k1)).bind φ2 = some r) ?_ ?_
            · rintro a w ⟨hF, hS, hm⟩
              unfold slices_symMergeCmpFunc_2_J6 at hm
              refine seq_cut (fun a w => Fr 220 [pl 0 (.slice A1 data1.length c1), pl 10 (.int .i64 i2), pl 13 (.int .i64 k1)] a ∧ Sep w0 B w (own 3 (.slice A1 data1.length c1) (vI ((data3.set (Int.toNat k1) (geti data3 (w64 (k1 + 1)))).set (Int.toNat (w64 (k1 + 1))) (geti data3 k1))) :: blk g1 275 (List.toArray (([] : List Value) ++ (arr1 (Value.int .i64) (0 : Int) 13 v1 ++ ([] : List Value)))) :: fs) ∧ ((slices_symMergeCmpFunc_2_J7 data3 k1)).bind φ2 = some r) ?_ ?_
              · rintro a w ⟨hF, hS, hm⟩
                unfold slices_symMergeCmpFunc_2_J7 at hm
                refine reg1 [] [] [0, 10, 13] [pl 0 (.slice A1 data1.length c1), pl 10 (.int .i64 i2), pl 13 (.int .i64 (w64 (k1 + 1)))] hF hS Fol (by kernel_rfl) (by kernel_rfl) (by kernel_rfl) ?_ (fun a w hF hS => ?_)
                · exact obs_nil
                refine then_n ?_
                rw [← hφ2] at hm
                exact ⟨(((data3.set (Int.toNat k1) (geti data3 (w64 (k1 + 1)))).set (Int.toNat (w64 (k1 + 1))) (geti data3 k1)), (w64 (k1 + 1))), ⟨hF.weak [0, 10, 13] (by kernel_rfl), hS⟩, hm⟩
              · refine wpIn_block ?_
                obtain ⟨hp3, hm⟩ := asrt_b hm
                obtain ⟨hp4, hm⟩ := asrt_b hm
                obtain ⟨hp5, hm⟩ := asrt_b hm
                obtain ⟨hp6, hm⟩ := asrt_b hm
                refine regMix4 [0, 1, 2, 3, 4, 5, 6, 7, 8, 9, 10, 11, 12, 13, 14] [15, 16, 17] [⟨true, [], vS (Instr.indexAt 22 (.slice A1 data1.length c1) (.int .i64 (w64 (k1 + 1)))), .pointer (some (sAddr A1 (w64 (k1 + 1))))⟩, ⟨false, [], vS (Instr.loadAt 3 (.pointer (some (sAddr A1 (w64 (k1 + 1)))))), .int .i64 (geti data3 (w64 (k1 + 1)))⟩, ⟨true, [], vS (Instr.indexAt 22 (.slice A1 data1.length c1) (.int .i64 k1)), .pointer (some (sAddr A1 k1))⟩, ⟨false, [], vS (Instr.loadAt 3 (.pointer (some (sAddr A1 k1)))), .int .i64 (geti data3 k1)⟩, ⟨true, [], vS (Instr.indexAt 22 (.slice A1 data1.length c1) (.int .i64 k1)), .pointer (some (sAddr A1 k1))⟩] [none, none, none, none, none, none, none, none, some (.pointer (some (sAddr A1 (w64 (k1 + 1))))), some (.int .i64 (geti data3 (w64 (k1 + 1)))), none, none, some (.pointer (some (sAddr A1 k1))), some (.int .i64 (geti data3 k1)), some (.pointer (some (sAddr A1 k1)))] [0, 10, 13, 63, 65, 70, 74, 75] [pl 0 (.slice A1 data1.length c1), pl 10 (.int .i64 i2), pl 13 (.int .i64 k1), pl 63 (.slice A1 data1.length c1), pl 65 (.int .i64 (w64 (k1 + 1))), pl 70 (.int .i64 (geti data3 (w64 (k1 + 1)))), pl 74 (.int .i64 (geti data3 k1)), pl 75 (.pointer (some (sAddr A1 k1)))] hF hS Fol (by kernel_rfl) (by kernel_rfl) (by kernel_rfl) (by kernel_rfl) (by kernel_rfl) ?_ (fun a w hF hS => ?_)
                · exact obs_cons (ob_ix1 (f := (Value.int .i64)) (m := data3) Und22 hi3 hs3 (hS.at_ 0 rfl).rd ((hS.at_ 0 rfl).len1) (fun _ => hp3)) <| obs_cons (ob_get1 (n := data1.length) (m := data3) (Value.int .i64) (0 : Int) Agg3 (fun _ hS => ⟨_, (hS.at_ 0 rfl).rd⟩) (fun _ hS => ((hS.at_ 0 rfl).len1)) (fun _ => hp3)) <| obs_cons (ob_ix1 (f := (Value.int .i64)) (m := data3) Und22 hi3 hs3 (hS.at_ 0 rfl).rd ((hS.at_ 0 rfl).len1) (fun _ => hp4)) <| obs_cons (ob_get1 (n := data1.length) (m := data3) (Value.int .i64) (0 : Int) Agg3 (fun _ hS => ⟨_, (hS.at_ 0 rfl).rd⟩) (fun _ hS => ((hS.at_ 0 rfl).len1)) (fun _ => hp4)) <| obs_cons (ob_ix1 (f := (Value.int .i64)) (m := data3) Und22 hi3 hs3 (hS.at_ 0 rfl).rd ((hS.at_ 0 rfl).len1) (fun _ => hp5)) <| obs_nil
                obtain ⟨w, hrun, hS⟩ := run_set1 (P := Try.prog) (t := 3) (x := (geti data3 (w64 (k1 + 1)))) (Value.int .i64) (hS.at_ 0 rfl) hi3 hs3 rfl rfl hp5
                refine at_skip hF (by kernel_rfl) hrun ?_
                have hS : Sep w0 B w (own 3 (.slice A1 data1.length c1) (vI (data3.set (Int.toNat k1) (geti data3 (w64 (k1 + 1))))) :: blk g1 275 (List.toArray (([] : List Value) ++ (arr1 (Value.int .i64) (0 : Int) 13 v1 ++ ([] : List Value)))) :: fs) := hS
                refine at_run 1 [⟨true, [], vS (Instr.indexAt 22 (.slice A1 data1.length c1) (.int .i64 (w64 (k1 + 1)))), .pointer (some (sAddr A1 (w64 (k1 + 1))))⟩] [some (.pointer (some (sAddr A1 (w64 (k1 + 1)))))] [0, 10, 13, 74, 76] [pl 0 (.slice A1 data1.length c1), pl 10 (.int .i64 i2), pl 13 (.int .i64 k1), pl 74 (.int .i64 (geti data3 k1)), pl 76 (.pointer (some (sAddr A1 (w64 (k1 + 1)))))] hF hS (by kernel_rfl) (by kernel_rfl) ?_ (fun a w hF hS => ?_)
                · exact obs_cons (ob_ix1 (f := (Value.int .i64)) (m := (data3.set (Int.toNat k1) (geti data3 (w64 (k1 + 1))))) Und22 hi3 hs3 (hS.at_ 0 rfl).rd ((hS.at_ 0 rfl).len1) (fun _ => hp6)) <| obs_nil
                obtain ⟨w, hrun, hS⟩ := run_set1 (P := Try.prog) (t := 3) (x := (geti data3 k1)) (Value.int .i64) (hS.at_ 0 rfl) hi3 hs3 rfl rfl hp6
                refine at_skip hF (by kernel_rfl) hrun ?_
                have hS : Sep w0 B w (own 3 (.slice A1 data1.length c1) (vI ((data3.set (Int.toNat k1) (geti data3 (w64 (k1 + 1)))).set (Int.toNat (w64 (k1 + 1))) (geti data3 k1))) :: blk g1 275 (List.toArray (([] : List Value) ++ (arr1 (Value.int .i64) (0 : Int) 13 v1 ++ ([] : List Value)))) :: fs) := hS
                refine at_end [0, 10, 13] [pl 0 (.slice A1 data1.length c1), pl 10 (.int .i64 i2), pl 13 (.int .i64 k1)] hF rfl (by kernel_rfl) (fun hF => ?_)
                refine np_n ?_
                refine block_n ?_
                refine then_n ?_
                exact ⟨hF.weak [0, 10, 13] (by kernel_rfl), hS, hm⟩
            · refine reg [] [] [0, 10, 13, 58] [pl 0 (.slice A1 data1.length c1), pl 10 (.int .i64 i2), pl 13 (.int .i64 k1), pl 58 (.bool (decide (k1 < (w64 (i2 - 1)))))] hF hS Fol (by kernel_rfl) (by kernel_rfl) (by kernel_rfl) ?_ (fun a w hF hS => ?_)
              · exact obs_nil
              refine cond_ev (t := 58) (b := decide (k1 < (w64 (i2 - 1)))) hF (by kernel_rfl) (fun hb => ?_) (fun hb => ?_)
              · replace hm := if_t hm hb
                refine wpIn_skip ?_
                refine then_n ?_
                exact ⟨hF.weak [0, 10, 13] (by kernel_rfl), hS, hm⟩
              · replace hm := if_f hm hb
                refine wpIn_exit ?_
                refine then_e (then_e (block_e (then_n ?_)))
                rw [← hφ2] at hm
                replace hm := done_b hm
                unfold slices_symMergeCmpFunc_2_K2 at hm
                try dsimp only at hm
                have hm : (slices_symMergeCmpFunc_2_J5 data3).bind some = some r := hm
                exact ⟨data3, hF.weak [] (by kernel_rfl), hS, hm⟩
        · refine wpIn_block ?_
          refine wp_loop_model (S := (Int × Int)) (R := Int) (slices_symMergeCmpFunc_2_L1 data1 a1 v1) (fun x => ((slices_symMergeCmpFunc_2_K1 data1 a1) x).bind some) r (fun (x : (Int × Int)) a w => Fr 220 [pl 0 (.slice A1 data1.length c1), pl 1 (.int .i64 a1), pl 4 (.func (.func 246) #[] #[.pointer (some ⟨g1, 0, none⟩)]), pl 10 (.int .i64 x.1), pl 11 (.int .i64 x.2)] a ∧ Sep w0 B w (own 3 (.slice A1 data1.length c1) (vI data1) :: blk g1 275 (List.toArray (([] : List Value) ++ (arr1 (Value.int .i64) (0 : Int) 13 v1 ++ ([] : List Value)))) :: fs)) (assoc_b hm) ⟨hF.weak [0, 1, 4, 10, 11] (by kernel_rfl), hS⟩ ?_
          clear hF hS hm
          rintro nn1 ⟨i1, j1⟩ a w ⟨hF, hS⟩ hm
          generalize hφ1 : stK (slices_symMergeCmpFunc_2_L1 data1 a1 v1) nn1 (fun x => ((slices_symMergeCmpFunc_2_K1 data1 a1) x).bind some) = φ1 at hm
          unfold slices_symMergeCmpFunc_2_L1 at hm
          dsimp only at hF hS hm
          refine seq_cut (fun a w => Fr 220 [pl 0 (.slice A1 data1.length c1), pl 1 (.int .i64 a1), pl 4 (.func (.func 246) #[] #[.pointer (some ⟨g1, 0, none⟩)]), pl 10 (.int .i64 i1), pl 11 (.int .i64 j1)] a ∧ Sep w0 B w (own 3 (.slice A1 data1.length c1) (vI data1) :: blk g1 275 (List.toArray (([] : List Value) ++ (arr1 (Value.int .i64) (0 : Int) 13 v1 ++ ([] : List Value)))) :: fs) ∧ ((slices_symMergeCmpFunc_2_J4 data1 a1 v1 i1 j1)).bind φ1 = some r) ?_ ?_
          · rintro a w ⟨hF, hS, hm⟩
            unfold slices_symMergeCmpFunc_2_J4 at hm
            refine wpIn_block ?_
            refine reg [⟨true, [], vS (Op.shift .shr .u64 (IntKind.wrap .u64 (w64 (i1 + j1))) .u64 1), .int .u64 (shrK .u64 (IntKind.wrap .u64 (w64 (i1 + j1))) 1)⟩] [none, none, none, none, some (.int .u64 (shrK .u64 (IntKind.wrap .u64 (w64 (i1 + j1))) 1)), none, none] [0, 1, 4, 10, 11, 12] [pl 0 (.slice A1 data1.length c1), pl 1 (.int .i64 a1), pl 4 (.func (.func 246) #[] #[.pointer (some ⟨g1, 0, none⟩)]), pl 10 (.int .i64 i1), pl 11 (.int .i64 j1), pl 12 (.int .i64 (w64 (shrK .u64 (IntKind.wrap .u64 (w64 (i1 + j1))) 1)))] hF hS Fol (by kernel_rfl) (by kernel_rfl) (by kernel_rfl) ?_ (fun a w hF hS => ?_)
            · exact obs_cons (ob_shr (fun _ => by decide)) <| obs_nil
            obtain ⟨hp1, hm⟩ := asrt_b hm
            obtain ⟨hp2, hm⟩ := asrt_b hm
            obtain ⟨r1, hr1, hm⟩ := call_b hm
            refine reg [⟨true, [], vS (Instr.indexAt 22 (.slice A1 data1.length c1) (.int .i64 (w64 (shrK .u64 (IntKind.wrap .u64 (w64 (i1 + j1))) 1)))), .pointer (some (sAddr A1 (w64 (shrK .u64 (IntKind.wrap .u64 (w64 (i1 + j1))) 1))))⟩, ⟨false, [], vS (Instr.loadAt 3 (.pointer (some (sAddr A1 (w64 (shrK .u64 (IntKind.wrap .u64 (w64 (i1 + j1))) 1)))))), .int .i64 (geti data1 (w64 (shrK .u64 (IntKind.wrap .u64 (w64 (i1 + j1))) 1)))⟩, ⟨true, [], vS (Instr.indexAt 22 (.slice A1 data1.length c1) (.int .i64 a1)), .pointer (some (sAddr A1 a1))⟩, ⟨false, [], vS (Instr.loadAt 3 (.pointer (some (sAddr A1 a1)))), .int .i64 (geti data1 a1)⟩, ⟨false, [], callFunc 246 #[.int .i64 (geti data1 (w64 (shrK .u64 (IntKind.wrap .u64 (w64 (i1 + j1))) 1))), .int .i64 (geti data1 a1), .pointer (some ⟨g1, 0, none⟩)], .int .i64 r1⟩] [none, none, none, some (.pointer (some (sAddr A1 (w64 (shrK .u64 (IntKind.wrap .u64 (w64 (i1 + j1))) 1))))), some (.int .i64 (geti data1 (w64 (shrK .u64 (IntKind.wrap .u64 (w64 (i1 + j1))) 1)))), none, none, some (.pointer (some (sAddr A1 a1))), some (.int .i64 (geti data1 a1)), some (.int .i64 r1), none] [0, 1, 4, 10, 11, 12, 50] [pl 0 (.slice A1 data1.length c1), pl 1 (.int .i64 a1), pl 4 (.func (.func 246) #[] #[.pointer (some ⟨g1, 0, none⟩)]), pl 10 (.int .i64 i1), pl 11 (.int .i64 j1), pl 12 (.int .i64 (w64 (shrK .u64 (IntKind.wrap .u64 (w64 (i1 + j1))) 1))), pl 50 (.bool (decide (r1 < 0)))] hF hS Fol (by kernel_rfl) (by kernel_rfl) (by kernel_rfl) ?_ (fun a w hF hS => ?_)
            · exact obs_cons (ob_ix1 (f := (Value.int .i64)) (m := data1) Und22 hi3 hs3 (hS.at_ 0 rfl).rd rfl (fun _ => hp1)) <| obs_cons (ob_get1 (n := data1.length) (m := data1) (Value.int .i64) (0 : Int) Agg3 (fun _ hS => ⟨_, (hS.at_ 0 rfl).rd⟩) (fun _ hS => rfl) (fun _ => hp1)) <| obs_cons (ob_ix1 (f := (Value.int .i64)) (m := data1) Und22 hi3 hs3 (hS.at_ 0 rfl).rd rfl (fun _ => hp2)) <| obs_cons (ob_get1 (n := data1.length) (m := data1) (Value.int .i64) (0 : Int) Agg3 (fun _ hS => ⟨_, (hS.at_ 0 rfl).rd⟩) (fun _ hS => rfl) (fun _ => hp2)) <| obs_cons (ob_call Try.func246 (by kernel_rfl) rfl (fun _ _ hS => quiet_pick hS 2 [1, 0] (by decide) [1, 0] (by decide) (qs := (blk g1 275 (List.toArray (([] : List Value) ++ (arr1 (Value.int .i64) (0 : Int) 13 v1 ++ ([] : List Value)))) :: own 3 (.slice A1 data1.length c1) (vI data1) :: fs)) rfl (fun hS => poker_value_1_w hr1 hS ) 2 rfl)) <| obs_nil
            refine cond_ev (t := 50) (b := decide (r1 < 0)) hF (by kernel_rfl) (fun hb => ?_) (fun hb => ?_)
            · replace hm := if_t hm hb
              refine reg1 [] [] [0, 1, 4, 10, 11] [pl 0 (.slice A1 data1.length c1), pl 1 (.int .i64 a1), pl 4 (.func (.func 246) #[] #[.pointer (some ⟨g1, 0, none⟩)]), pl 10 (.int .i64 (w64 ((w64 (shrK .u64 (IntKind.wrap .u64 (w64 (i1 + j1))) 1)) + 1))), pl 11 (.int .i64 j1)] hF hS Fol (by kernel_rfl) (by kernel_rfl) (by kernel_rfl) ?_ (fun a w hF hS => ?_)
              · exact obs_nil
              refine block_n ?_
              refine then_n ?_
              rw [← hφ1] at hm
              exact ⟨((w64 ((w64 (shrK .u64 (IntKind.wrap .u64 (w64 (i1 + j1))) 1)) + 1)), j1), ⟨hF.weak [0, 1, 4, 10, 11] (by kernel_rfl), hS⟩, hm⟩
            · replace hm := if_f hm hb
              refine reg1 [] [] [0, 1, 4, 10, 11] [pl 0 (.slice A1 data1.length c1), pl 1 (.int .i64 a1), pl 4 (.func (.func 246) #[] #[.pointer (some ⟨g1, 0, none⟩)]), pl 10 (.int .i64 i1), pl 11 (.int .i64 (w64 (shrK .u64 (IntKind.wrap .u64 (w64 (i1 + j1))) 1)))] hF hS Fol (by kernel_rfl) (by kernel_rfl) (by kernel_rfl) ?_ (fun a w hF hS => ?_)
              · exact obs_nil
              refine block_n ?_
              refine then_n ?_
              rw [← hφ1] at hm
              exact ⟨(i1, (w64 (shrK .u64 (IntKind.wrap .u64 (w64 (i1 + j1))) 1))), ⟨hF.weak [0, 1, 4, 10, 11] (by kernel_rfl), hS⟩, hm⟩
          · refine reg [] [] [0, 1, 4, 10, 11, 33] [pl 0 (.slice A1 data1.length c1), pl 1 (.int .i64 a1), pl 4 (.func (.func 246) #[] #[.pointer (some ⟨g1, 0, none⟩)]), pl 10 (.int .i64 i1), pl 11 (.int .i64 j1), pl 33 (.bool (decide (i1 < j1)))] hF hS Fol (by kernel_rfl) (by kernel_rfl) (by kernel_rfl) ?_ (fun a w hF hS => ?_)
            · exact obs_nil
            refine cond_ev (t := 33) (b := decide (i1 < j1)) hF (by kernel_rfl) (fun hb => ?_) (fun hb => ?_)
            · replace hm := if_t hm hb
              refine wpIn_skip ?_
              refine then_n ?_
              exact ⟨hF.weak [0, 1, 4, 10, 11] (by kernel_rfl), hS, hm⟩
            · replace hm := if_f hm hb
              refine wpIn_exit ?_
              refine then_e (then_e (block_e (then_n ?_)))
              rw [← hφ1] at hm
              replace hm := done_b hm
              unfold slices_symMergeCmpFunc_2_K1 at hm
              try dsimp only at hm
              have hm : ((slices_symMergeCmpFunc_2_J3 data1 a1) i1).bind some = some r := hm
              exact ⟨i1, hF.weak [0, 1, 10] (by kernel_rfl), hS, hm⟩
      · replace hm := if_f hm hb
        refine wpIn_skip ?_
        refine then_n ?_
        exact ⟨hF.weak [0, 1, 2, 3, 4] (by kernel_rfl), hS, hm⟩

theorem slices_symMergeCmpFunc_2_w  {A1 : Option Addr} {c1 : Nat} {n1 : Nat} {data1 : List Int} {a1 : Int} {m1 : Int} {b1 : Int} {g1 : Nat} {v1 : List Int} {r : (List Int)} {w0 w : World} {B : Nat} {fs : List HP} (hm : slices_symMergeCmpFunc_2_m data1 a1 m1 b1 v1 = some r) (hS : Sep w0 B w (own 3 (.slice A1 n1 c1) (vI data1) :: blk g1 275 (List.toArray (([] : List Value) ++ (arr1 (Value.int .i64) (0 : Int) 13 v1 ++ ([] : List Value)))) :: fs)) :
    Calls Try.prog 300 #[.slice A1 n1 c1, .int .i64 a1, .int .i64 m1, .int .i64 b1, .func (.func 246) #[] #[.pointer (some ⟨g1, 0, none⟩)]] w fun e w' => ∃ v, e = .returned v ∧ v = .tuple #[] ∧ Sep w0 B w' (own 3 (.slice A1 n1 c1) (vI r) :: blk g1 275 (List.toArray (([] : List Value) ++ (arr1 (Value.int .i64) (0 : Int) 13 v1 ++ ([] : List Value)))) :: fs) := by
  have key : ∀ (n : Nat) {A1 : Option Addr} {c1 : Nat} {n1 : Nat} {data1 : List Int} {a1 : Int} {m1 : Int} {b1 : Int} {g1 : Nat} {v1 : List Int} {r : (List Int)} {w0 w : World} {B : Nat} {fs : List HP} (_ : slices_symMergeCmpFunc_2_mF n data1 a1 m1 b1 v1 = some r) (_ : Sep w0 B w (own 3 (.slice A1 n1 c1) (vI data1) :: blk g1 275 (List.toArray (([] : List Value) ++ (arr1 (Value.int .i64) (0 : Int) 13 v1 ++ ([] : List Value)))) :: fs)), Calls Try.prog 300 #[.slice A1 n1 c1, .int .i64 a1, .int .i64 m1, .int .i64 b1, .func (.func 246) #[] #[.pointer (some ⟨g1, 0, none⟩)]] w fun e w' => ∃ v, e = .returned v ∧ v = .tuple #[] ∧ Sep w0 B w' (own 3 (.slice A1 n1 c1) (vI r) :: blk g1 275 (List.toArray (([] : List Value) ++ (arr1 (Value.int .i64) (0 : Int) 13 v1 ++ ([] : List Value)))) :: fs) := by
    intro n
    induction n with
    | zero => intros; rename_i hm0 _; cases hm0
    | succ n ih => intros; rename_i hm0 hS0; exact slices_symMergeCmpFunc_2_wB (rec_slices_symMergeCmpFunc_2 := slices_symMergeCmpFunc_2_mF n) (fun hm hS => ih hm hS) hm0 hS0
  obtain ⟨n, hn⟩ := recM_some hm
  exact key n hn hS

noncomputable def slices_stableCmpFunc_2_J3  (v1 : List Int) (data3 : List Int) (a1 : Int) (b1 : Int) : Option (St (List Int × Int × Int) (List Int × Int)) :=
  (slices_insertionSortCmpFunc_2_m data3 a1 b1 v1).bind fun r1 => some (.next (r1, b1, (w64 (b1 + 20))))

noncomputable def slices_stableCmpFunc_2_J6  (v1 : List Int) (blockSize1 : Int) (data7 : List Int) (a3 : Int) (b2 : Int) : Option (St (List Int × Int × Int) (List Int × Int)) :=
  (slices_symMergeCmpFunc_2_m data7 a3 (w64 (a3 + blockSize1)) b2 v1).bind fun r3 => some (.next (r3, b2, (w64 (b2 + (w64 (2 * blockSize1))))))

noncomputable def slices_stableCmpFunc_2_L3  (n2 : Int) (v1 : List Int) (blockSize1 : Int) : (List Int × Int × Int) → Option (St (List Int × Int × Int) (List Int × Int)) :=
  fun (x : (List Int × Int × Int)) => match x with | (data7, a3, b2) => if (decide (b2 ≤ n2)) then ((slices_stableCmpFunc_2_J6 v1 blockSize1 data7 a3 b2)) else (some (.done (data7, a3)))

noncomputable def slices_stableCmpFunc_2_J7  (blockSize1 : Int) (data9 : List Int) : Option (St (List Int × Int) (List Int)) :=
  some (.next (data9, (w64 (blockSize1 * 2))))

noncomputable def slices_stableCmpFunc_2_J5  (n2 : Int) (v1 : List Int) (blockSize1 : Int) (data8 : List Int) (a4 : Int) : Option (St (List Int × Int) (List Int)) :=
  if (decide ((w64 (a4 + blockSize1)) < n2)) then ((slices_symMergeCmpFunc_2_m data8 a4 (w64 (a4 + blockSize1)) n2 v1).bind fun r4 => (slices_stableCmpFunc_2_J7 blockSize1) r4) else ((slices_stableCmpFunc_2_J7 blockSize1) data8)

noncomputable def slices_stableCmpFunc_2_K3  (n2 : Int) (v1 : List Int) (blockSize1 : Int) : (List Int × Int) → Option (St (List Int × Int) (List Int)) :=
  fun (x : (List Int × Int)) => match x with | (data8, a4) => (slices_stableCmpFunc_2_J5 n2 v1 blockSize1) data8 a4

noncomputable def slices_stableCmpFunc_2_J4  (n2 : Int) (v1 : List Int) (data5 : List Int) (blockSize1 : Int) : Option (St (List Int × Int) (List Int)) :=
  (loop (slices_stableCmpFunc_2_L3 n2 v1 blockSize1) (data5, 0, (w64 (2 * blockSize1)))).bind (slices_stableCmpFunc_2_K3 n2 v1 blockSize1)

noncomputable def slices_stableCmpFunc_2_L2  (n2 : Int) (v1 : List Int) : (List Int × Int) → Option (St (List Int × Int) (List Int)) :=
  fun (x : (List Int × Int)) => match x with | (data5, blockSize1) => if (decide (blockSize1 < n2)) then ((slices_stableCmpFunc_2_J4 n2 v1 data5 blockSize1)) else (some (.done data5))

noncomputable def slices_stableCmpFunc_2_J1  (data6 : List Int) : Option (List Int) :=
  some data6

noncomputable def slices_stableCmpFunc_2_K2  : (List Int) → Option (List Int) :=
  fun (x : (List Int)) => match x with | data6 => slices_stableCmpFunc_2_J1 data6

noncomputable def slices_stableCmpFunc_2_J2  (n2 : Int) (v1 : List Int) (data4 : List Int) (a2 : Int) : Option (List Int) :=
  (slices_insertionSortCmpFunc_2_m data4 a2 n2 v1).bind fun r2 => (loop (slices_stableCmpFunc_2_L2 n2 v1) (r2, 20)).bind slices_stableCmpFunc_2_K2

noncomputable def slices_stableCmpFunc_2_K1  (n2 : Int) (v1 : List Int) : (List Int × Int) → Option (List Int) :=
  fun (x : (List Int × Int)) => match x with | (data4, a2) => (slices_stableCmpFunc_2_J2 n2 v1) data4 a2

noncomputable def slices_stableCmpFunc_2_L1  (n2 : Int) (v1 : List Int) : (List Int × Int × Int) → Option (St (List Int × Int × Int) (List Int × Int)) :=
  fun (x : (List Int × Int × Int)) => match x with | (data3, a1, b1) => if (decide (b1 ≤ n2)) then ((slices_stableCmpFunc_2_J3 v1 data3 a1 b1)) else (some (.done (data3, a1)))

noncomputable def slices_stableCmpFunc_2_m  (data1 : List Int) (n2 : Int) (v1 : List Int) : Option (List Int) :=
  (loop (slices_stableCmpFunc_2_L1 n2 v1) (data1, 0, 20)).bind (slices_stableCmpFunc_2_K1 n2 v1)

set_option maxRecDepth 100000 in
set_option maxHeartbeats 4000000 in
theorem slices_stableCmpFunc_2_w  {A1 : Option Addr} {c1 : Nat} {n1 : Nat} {data1 : List Int} {n2 : Int} {g1 : Nat} {v1 : List Int} {r : (List Int)} {w0 w : World} {B : Nat} {fs : List HP} (hm : slices_stableCmpFunc_2_m data1 n2 v1 = some r) (hS : Sep w0 B w (own 3 (.slice A1 n1 c1) (vI data1) :: blk g1 275 (List.toArray (([] : List Value) ++ (arr1 (Value.int .i64) (0 : Int) 13 v1 ++ ([] : List Value)))) :: fs)) :
    Calls Try.prog 287 #[.slice A1 n1 c1, .int .i64 n2, .func (.func 246) #[] #[.pointer (some ⟨g1, 0, none⟩)]] w fun e w' => ∃ v, e = .returned v ∧ v = .tuple #[] ∧ Sep w0 B w' (own 3 (.slice A1 n1 c1) (vI r) :: blk g1 275 (List.toArray (([] : List Value) ++ (arr1 (Value.int .i64) (0 : Int) 13 v1 ++ ([] : List Value)))) :: fs) := by
  obtain ⟨i3, hi3, hz3, hs3, hb3⟩ := info_parts Info3
  obtain rfl := (hS.at_ 0 rfl).len1
  unfold slices_stableCmpFunc_2_m at hm
  replace hm := start_b hm
  refine enter (l := [.slice A1 data1.length c1, .int .i64 n2, .func (.func 246) #[] #[.pointer (some ⟨g1, 0, none⟩)]]) (n := 63) Try.func287 rfl rfl (by simp) (fun a hF => ?_)
  refine end_cut (fun a w => ∃ (data6 : List Int), Fr 63 [] a ∧ Sep w0 B w (own 3 (.slice A1 data1.length c1) (vI data6) :: blk g1 275 (List.toArray (([] : List Value) ++ (arr1 (Value.int .i64) (0 : Int) 13 v1 ++ ([] : List Value)))) :: fs) ∧ (slices_stableCmpFunc_2_J1 data6).bind some = some r) ?_ ?_
  · rintro a w ⟨data6, hF, hS, hm⟩
    unfold slices_stableCmpFunc_2_J1 at hm
    have hm : some data6 = some r := hm
    obtain rfl := Option.some.inj hm
    exact endV (rs := []) (vs := []) hF rfl (rv_nil) rfl ⟨_, rfl, rfl, hS⟩ rfl
  · refine reg [] [] [0, 1, 2, 6] [pl 0 (.slice A1 data1.length c1), pl 1 (.int .i64 n2), pl 2 (.func (.func 246) #[] #[.pointer (some ⟨g1, 0, none⟩)]), pl 6 (.int .i64 20)] hF hS Fol (by kernel_rfl) (by kernel_rfl) (by kernel_rfl) ?_ (fun a w hF hS => ?_)
    · exact obs_nil
    refine reg [] [] [0, 1, 2, 6, 7, 8] [pl 0 (.slice A1 data1.length c1), pl 1 (.int .i64 n2), pl 2 (.func (.func 246) #[] #[.pointer (some ⟨g1, 0, none⟩)]), pl 6 (.int .i64 20), pl 7 (.int .i64 0), pl 8 (.int .i64 20)] hF hS Fol (by kernel_rfl) (by kernel_rfl) (by kernel_rfl) ?_ (fun a w hF hS => ?_)
    · exact obs_nil
    refine seq_cut (fun a w => ∃ (data4 : List Int) (a2 : Int), Fr 63 [pl 0 (.slice A1 data1.length c1), pl 1 (.int .i64 n2), pl 2 (.func (.func 246) #[] #[.pointer (some ⟨g1, 0, none⟩)]), pl 6 (.int .i64 20), pl 7 (.int .i64 a2)] a ∧ Sep w0 B w (own 3 (.slice A1 data1.length c1) (vI data4) :: blk g1 275 (List.toArray (([] : List Value) ++ (arr1 (Value.int .i64) (0 : Int) 13 v1 ++ ([] : List Value)))) :: fs) ∧ ((slices_stableCmpFunc_2_J2 n2 v1) data4 a2).bind some = some r) ?_ ?_
    · rintro a w ⟨data4, a2, hF, hS, hm⟩
      unfold slices_stableCmpFunc_2_J2 at hm
      refine seqR ?_
      obtain ⟨r2, hr2, hm⟩ := call_b hm
      refine at_run 4 [] [] [0, 1, 2, 6, 23, 24, 25, 26] [pl 0 (.slice A1 data1.length c1), pl 1 (.int .i64 n2), pl 2 (.func (.func 246) #[] #[.pointer (some ⟨g1, 0, none⟩)]), pl 6 (.int .i64 20), pl 23 (.slice A1 data1.length c1), pl 24 (.int .i64 a2), pl 25 (.int .i64 n2), pl 26 (.func (.func 246) #[] #[.pointer (some ⟨g1, 0, none⟩)])] hF hS (by kernel_rfl) (by kernel_rfl) ?_ (fun a w hF hS => ?_)
      · exact obs_nil
      refine at_call (f := 299) (args := #[.slice A1 data1.length c1, .int .i64 a2, .int .i64 n2, .func (.func 246) #[] #[.pointer (some ⟨g1, 0, none⟩)]]) (d := 27) hF (by kernel_rfl) (by kernel_rfl) Try.func299 (by kernel_rfl) rfl (slices_insertionSortCmpFunc_2_w hr2 hS ) (fun v a w hR hF => ?_)
      clear hS
      obtain ⟨rfl, hS⟩ := hR
      have hS : Sep w0 B w (own 3 (.slice A1 data1.length c1) (vI r2) :: blk g1 275 (List.toArray (([] : List Value) ++ (arr1 (Value.int .i64) (0 : Int) 13 v1 ++ ([] : List Value)))) :: fs) := hS
      refine at_end [0, 1, 2, 6] [pl 0 (.slice A1 data1.length c1), pl 1 (.int .i64 n2), pl 2 (.func (.func 246) #[] #[.pointer (some ⟨g1, 0, none⟩)]), pl 6 (.int .i64 20)] hF rfl (by kernel_rfl) (fun hF => ?_)
      refine then_n ?_
      refine wpIn_block ?_
      refine wp_loop_model (S := (List Int × Int)) (R := (List Int)) (slices_stableCmpFunc_2_L2 n2 v1) (fun x => (slices_stableCmpFunc_2_K2 x).bind some) r (fun (x : (List Int × Int)) a w => Fr 63 [pl 0 (.slice A1 data1.length c1), pl 1 (.int .i64 n2), pl 2 (.func (.func 246) #[] #[.pointer (some ⟨g1, 0, none⟩)]), pl 6 (.int .i64 x.2)] a ∧ Sep w0 B w (own 3 (.slice A1 data1.length c1) (vI x.1) :: blk g1 275 (List.toArray (([] : List Value) ++ (arr1 (Value.int .i64) (0 : Int) 13 v1 ++ ([] : List Value)))) :: fs)) (assoc_b hm) ⟨hF.weak [0, 1, 2, 6] (by kernel_rfl), hS⟩ ?_
      clear hF hS hm
      rintro nn2 ⟨data5, blockSize1⟩ a w ⟨hF, hS⟩ hm
      generalize hφ2 : stK (slices_stableCmpFunc_2_L2 n2 v1) nn2 (fun x => (slices_stableCmpFunc_2_K2 x).bind some) = φ2 at hm
      unfold slices_stableCmpFunc_2_L2 at hm
      dsimp only at hF hS hm
      refine seq_cut (fun a w => Fr 63 [pl 0 (.slice A1 data1.length c1), pl 1 (.int .i64 n2), pl 2 (.func (.func 246) #[] #[.pointer (some ⟨g1, 0, none⟩)]), pl 6 (.int .i64 blockSize1)] a ∧ Sep w0 B w (own 3 (.slice A1 data1.length c1) (vI data5) :: blk g1 275 (List.toArray (([] : List Value) ++ (arr1 (Value.int .i64) (0 : Int) 13 v1 ++ ([] : List Value)))) :: fs) ∧ ((slices_stableCmpFunc_2_J4 n2 v1 data5 blockSize1)).bind φ2 = some r) ?_ ?_
      · rintro a w ⟨hF, hS, hm⟩
        unfold slices_stableCmpFunc_2_J4 at hm
        refine wpIn_block ?_
        refine reg [] [] [0, 1, 2, 6, 7, 8] [pl 0 (.slice A1 data1.length c1), pl 1 (.int .i64 n2), pl 2 (.func (.func 246) #[] #[.pointer (some ⟨g1, 0, none⟩)]), pl 6 (.int .i64 blockSize1), pl 7 (.int .i64 0), pl 8 (.int .i64 (w64 (2 * blockSize1)))] hF hS Fol (by kernel_rfl) (by kernel_rfl) (by kernel_rfl) ?_ (fun a w hF hS => ?_)
        · exact obs_nil
        refine seq_cut (fun a w => ∃ (data8 : List Int) (a4 : Int), Fr 63 [pl 0 (.slice A1 data1.length c1), pl 1 (.int .i64 n2), pl 2 (.func (.func 246) #[] #[.pointer (some ⟨g1, 0, none⟩)]), pl 6 (.int .i64 blockSize1), pl 7 (.int .i64 a4)] a ∧ Sep w0 B w (own 3 (.slice A1 data1.length c1) (vI data8) :: blk g1 275 (List.toArray (([] : List Value) ++ (arr1 (Value.int .i64) (0 : Int) 13 v1 ++ ([] : List Value)))) :: fs) ∧ ((slices_stableCmpFunc_2_J5 n2 v1 blockSize1) data8 a4).bind φ2 = some r) ?_ ?_
        · rintro a w ⟨data8, a4, hF, hS, hm⟩
          unfold slices_stableCmpFunc_2_J5 at hm
          refine seq_cut (fun a w => ∃ (data9 : List Int), Fr 63 [pl 0 (.slice A1 data1.length c1), pl 1 (.int .i64 n2), pl 2 (.func (.func 246) #[] #[.pointer (some ⟨g1, 0, none⟩)]), pl 6 (.int .i64 blockSize1)] a ∧ Sep w0 B w (own 3 (.slice A1 data1.length c1) (vI data9) :: blk g1 275 (List.toArray (([] : List Value) ++ (arr1 (Value.int .i64) (0 : Int) 13 v1 ++ ([] : List Value)))) :: fs) ∧ ((slices_stableCmpFunc_2_J7 blockSize1) data9).bind φ2 = some r) ?_ ?_
          · rintro a w ⟨data9, hF, hS, hm⟩
            unfold slices_stableCmpFunc_2_J7 at hm
            refine reg1 [] [] [0, 1, 2, 6] [pl 0 (.slice A1 data1.length c1), pl 1 (.int .i64 n2), pl 2 (.func (.func 246) #[] #[.pointer (some ⟨g1, 0, none⟩)]), pl 6 (.int .i64 (w64 (blockSize1 * 2)))] hF hS Fol (by kernel_rfl) (by kernel_rfl) (by kernel_rfl) ?_ (fun a w hF hS => ?_)
            · exact obs_nil
            refine block_n ?_
            refine then_n ?_
            rw [← hφ2] at hm
            exact ⟨(data9, (w64 (blockSize1 * 2))), ⟨hF.weak [0, 1, 2, 6] (by kernel_rfl), hS⟩, hm⟩
          · refine reg [] [] [0, 1, 2, 6, 7, 9] [pl 0 (.slice A1 data1.length c1), pl 1 (.int .i64 n2), pl 2 (.func (.func 246) #[] #[.pointer (some ⟨g1, 0, none⟩)]), pl 6 (.int .i64 blockSize1), pl 7 (.int .i64 a4), pl 9 (.int .i64 (w64 (a4 + blockSize1)))] hF hS Fol (by kernel_rfl) (by kernel_rfl) (by kernel_rfl) ?_ (fun a w hF hS => ?_)
            · exact obs_nil
            refine reg [] [] [0, 1, 2, 6, 7, 9, 54] [pl 0 (.slice A1 data1.length c1), pl 1 (.int .i64 n2), pl 2 (.func (.func 246) #[] #[.pointer (some ⟨g1, 0, none⟩)]), pl 6 (.int .i64 blockSize1), pl 7 (.int .i64 a4), pl 9 (.int .i64 (w64 (a4 + blockSize1))), pl 54 (.bool (decide ((w64 (a4 + blockSize1)) < n2)))] hF hS Fol (by kernel_rfl) (by kernel_rfl) (by kernel_rfl) ?_ (fun a w hF hS => ?_)
            · exact obs_nil
            refine cond_ev (t := 54) (b := decide ((w64 (a4 + blockSize1)) < n2)) hF (by kernel_rfl) (fun hb => ?_) (fun hb => ?_)
            · replace hm := if_t hm hb
              refine oneR ?_
              obtain ⟨r4, hr4, hm⟩ := call_b hm
              refine at_run 5 [] [] [0, 1, 2, 6, 55, 56, 57, 58, 59] [pl 0 (.slice A1 data1.length c1), pl 1 (.int .i64 n2), pl 2 (.func (.func 246) #[] #[.pointer (some ⟨g1, 0, none⟩)]), pl 6 (.int .i64 blockSize1), pl 55 (.slice A1 data1.length c1), pl 56 (.int .i64 a4), pl 57 (.int .i64 (w64 (a4 + blockSize1))), pl 58 (.int .i64 n2), pl 59 (.func (.func 246) #[] #[.pointer (some ⟨g1, 0, none⟩)])] hF hS (by kernel_rfl) (by kernel_rfl) ?_ (fun a w hF hS => ?_)
              · exact obs_nil
              refine at_call (f := 300) (args := #[.slice A1 data1.length c1, .int .i64 a4, .int .i64 (w64 (a4 + blockSize1)), .int .i64 n2, .func (.func 246) #[] #[.pointer (some ⟨g1, 0, none⟩)]]) (d := 60) hF (by kernel_rfl) (by kernel_rfl) Try.func300 (by kernel_rfl) rfl (slices_symMergeCmpFunc_2_w hr4 hS ) (fun v a w hR hF => ?_)
              clear hS
              obtain ⟨rfl, hS⟩ := hR
              have hS : Sep w0 B w (own 3 (.slice A1 data1.length c1) (vI r4) :: blk g1 275 (List.toArray (([] : List Value) ++ (arr1 (Value.int .i64) (0 : Int) 13 v1 ++ ([] : List Value)))) :: fs) := hS
              refine at_end [0, 1, 2, 6] [pl 0 (.slice A1 data1.length c1), pl 1 (.int .i64 n2), pl 2 (.func (.func 246) #[] #[.pointer (some ⟨g1, 0, none⟩)]), pl 6 (.int .i64 blockSize1)] hF rfl (by kernel_rfl) (fun hF => ?_)
              refine then_n ?_
              exact ⟨r4, hF.weak [0, 1, 2, 6] (by kernel_rfl), hS, hm⟩
            · replace hm := if_f hm hb
              refine wpIn_skip ?_
              refine then_n ?_
              exact ⟨data8, hF.weak [0, 1, 2, 6] (by kernel_rfl), hS, hm⟩
        · refine wpIn_block ?_
          refine wp_loop_model (S := (List Int × Int × Int)) (R := (List Int × Int)) (slices_stableCmpFunc_2_L3 n2 v1 blockSize1) (fun x => ((slices_stableCmpFunc_2_K3 n2 v1 blockSize1) x).bind φ2) r (fun (x : (List Int × Int × Int)) a w => Fr 63 [pl 0 (.slice A1 data1.length c1), pl 1 (.int .i64 n2), pl 2 (.func (.func 246) #[] #[.pointer (some ⟨g1, 0, none⟩)]), pl 6 (.int .i64 blockSize1), pl 7 (.int .i64 x.2.1), pl 8 (.int .i64 x.2.2)] a ∧ Sep w0 B w (own 3 (.slice A1 data1.length c1) (vI x.1) :: blk g1 275 (List.toArray (([] : List Value) ++ (arr1 (Value.int .i64) (0 : Int) 13 v1 ++ ([] : List Value)))) :: fs)) (assoc_b hm) ⟨hF.weak [0, 1, 2, 6, 7, 8] (by kernel_rfl), hS⟩ ?_
          clear hF hS hm
          rintro nn3 ⟨data7, a3, b2⟩ a w ⟨hF, hS⟩ hm
          generalize hφ3 : stK (slices_stableCmpFunc_2_L3 n2 v1 blockSize1) nn3 (fun x => ((slices_stableCmpFunc_2_K3 n2 v1 blockSize1) x).bind φ2) = φ3 at hm
          unfold slices_stableCmpFunc_2_L3 at hm
          dsimp only at hF hS hm
          refine seq_cut (fun a w => Fr 63 [pl 0 (.slice A1 data1.length c1), pl 1 (.int .i64 n2), pl 2 (.func (.func 246) #[] #[.pointer (some ⟨g1, 0, none⟩)]), pl 6 (.int .i64 blockSize1), pl 7 (.int .i64 a3), pl 8 (.int .i64 b2)] a ∧ Sep w0 B w (own 3 (.slice A1 data1.length c1) (vI data7) :: blk g1 275 (List.toArray (([] : List Value) ++ (arr1 (Value.int .i64) (0 : Int) 13 v1 ++ ([] : List Value)))) :: fs) ∧ ((slices_stableCmpFunc_2_J6 v1 blockSize1 data7 a3 b2)).bind φ3 = some r) ?_ ?_
          · rintro a w ⟨hF, hS, hm⟩
            unfold slices_stableCmpFunc_2_J6 at hm
            refine wpIn_block ?_
            refine seqR ?_
            obtain ⟨r3, hr3, hm⟩ := call_b hm
            refine at_run 7 [] [] [0, 1, 2, 6, 8, 36, 37, 40, 41, 42] [pl 0 (.slice A1 data1.length c1), pl 1 (.int .i64 n2), pl 2 (.func (.func 246) #[] #[.pointer (some ⟨g1, 0, none⟩)]), pl 6 (.int .i64 blockSize1), pl 8 (.int .i64 b2), pl 36 (.slice A1 data1.length c1), pl 37 (.int .i64 a3), pl 40 (.int .i64 (w64 (a3 + blockSize1))), pl 41 (.int .i64 b2), pl 42 (.func (.func 246) #[] #[.pointer (some ⟨g1, 0, none⟩)])] hF hS (by kernel_rfl) (by kernel_rfl) ?_ (fun a w hF hS => ?_)
            · exact obs_nil
            refine at_call (f := 300) (args := #[.slice A1 data1.length c1, .int .i64 a3, .int .i64 (w64 (a3 + blockSize1)), .int .i64 b2, .func (.func 246) #[] #[.pointer (some ⟨g1, 0, none⟩)]]) (d := 43) hF (by kernel_rfl) (by kernel_rfl) Try.func300 (by kernel_rfl) rfl (slices_symMergeCmpFunc_2_w hr3 hS ) (fun v a w hR hF => ?_)
            clear hS
            obtain ⟨rfl, hS⟩ := hR
            have hS : Sep w0 B w (own 3 (.slice A1 data1.length c1) (vI r3) :: blk g1 275 (List.toArray (([] : List Value) ++ (arr1 (Value.int .i64) (0 : Int) 13 v1 ++ ([] : List Value)))) :: fs) := hS
            refine at_end [0, 1, 2, 6, 8] [pl 0 (.slice A1 data1.length c1), pl 1 (.int .i64 n2), pl 2 (.func (.func 246) #[] #[.pointer (some ⟨g1, 0, none⟩)]), pl 6 (.int .i64 blockSize1), pl 8 (.int .i64 b2)] hF rfl (by kernel_rfl) (fun hF => ?_)
            refine then_n ?_
            refine reg [] [] [0, 1, 2, 6, 7, 8] [pl 0 (.slice A1 data1.length c1), pl 1 (.int .i64 n2), pl 2 (.func (.func 246) #[] #[.pointer (some ⟨g1, 0, none⟩)]), pl 6 (.int .i64 blockSize1), pl 7 (.int .i64 b2), pl 8 (.int .i64 b2)] hF hS Fol (by kernel_rfl) (by kernel_rfl) (by kernel_rfl) ?_ (fun a w hF hS => ?_)
            · exact obs_nil
            refine reg1 [] [] [0, 1, 2, 6, 7, 8] [pl 0 (.slice A1 data1.length c1), pl 1 (.int .i64 n2), pl 2 (.func (.func 246) #[] #[.pointer (some ⟨g1, 0, none⟩)]), pl 6 (.int .i64 blockSize1), pl 7 (.int .i64 b2), pl 8 (.int .i64 (w64 (b2 + (w64 (2 * blockSize1)))))] hF hS Fol (by kernel_rfl) (by kernel_rfl) (by kernel_rfl) ?_ (fun a w hF hS => ?_)
            · exact obs_nil
            refine block_n ?_
            refine then_n ?_
            rw [← hφ3] at hm
            exact ⟨(r3, b2, (w64 (b2 + (w64 (2 * blockSize1))))), ⟨hF.weak [0, 1, 2, 6, 7, 8] (by kernel_rfl), hS⟩, hm⟩
          · refine reg [] [] [0, 1, 2, 6, 7, 8, 35] [pl 0 (.slice A1 data1.length c1), pl 1 (.int .i64 n2), pl 2 (.func (.func 246) #[] #[.pointer (some ⟨g1, 0, none⟩)]), pl 6 (.int .i64 blockSize1), pl 7 (.int .i64 a3), pl 8 (.int .i64 b2), pl 35 (.bool (decide (b2 ≤ n2)))] hF hS Fol (by kernel_rfl) (by kernel_rfl) (by kernel_rfl) ?_ (fun a w hF hS => ?_)
            · exact obs_nil
            refine cond_ev (t := 35) (b := decide (b2 ≤ n2)) hF (by kernel_rfl) (fun hb => ?_) (fun hb => ?_)
            · replace hm := if_t hm hb
              refine wpIn_skip ?_
              refine then_n ?_
              exact ⟨hF.weak [0, 1, 2, 6, 7, 8] (by kernel_rfl), hS, hm⟩
            · replace hm := if_f hm hb
              refine wpIn_exit ?_
              refine then_e (then_e (block_e (then_n ?_)))
              rw [← hφ3] at hm
              replace hm := done_b hm
              unfold slices_stableCmpFunc_2_K3 at hm
              try dsimp only at hm
              have hm : ((slices_stableCmpFunc_2_J5 n2 v1 blockSize1) data7 a3).bind φ2 = some r := hm
              exact ⟨data7, a3, hF.weak [0, 1, 2, 6, 7] (by kernel_rfl), hS, hm⟩
      · refine reg [] [] [0, 1, 2, 6, 30] [pl 0 (.slice A1 data1.length c1), pl 1 (.int .i64 n2), pl 2 (.func (.func 246) #[] #[.pointer (some ⟨g1, 0, none⟩)]), pl 6 (.int .i64 blockSize1), pl 30 (.bool (decide (blockSize1 < n2)))] hF hS Fol (by kernel_rfl) (by kernel_rfl) (by kernel_rfl) ?_ (fun a w hF hS => ?_)
        · exact obs_nil
        refine cond_ev (t := 30) (b := decide (blockSize1 < n2)) hF (by kernel_rfl) (fun hb => ?_) (fun hb => ?_)
        · replace hm := if_t hm hb
          refine wpIn_skip ?_
          refine then_n ?_
          exact ⟨hF.weak [0, 1, 2, 6] (by kernel_rfl), hS, hm⟩
        · replace hm := if_f hm hb
          refine wpIn_exit ?_
          refine then_e (then_e (block_e (then_n ?_)))
          rw [← hφ2] at hm
          replace hm := done_b hm
          unfold slices_stableCmpFunc_2_K2 at hm
          try dsimp only at hm
          have hm : (slices_stableCmpFunc_2_J1 data5).bind some = some r := hm
          exact ⟨data5, hF.weak [] (by kernel_rfl), hS, hm⟩
    · refine wpIn_block ?_
      refine wp_loop_model (S := (List Int × Int × Int)) (R := (List Int × Int)) (slices_stableCmpFunc_2_L1 n2 v1) (fun x => ((slices_stableCmpFunc_2_K1 n2 v1) x).bind some) r (fun (x : (List Int × Int × Int)) a w => Fr 63 [pl 0 (.slice A1 data1.length c1), pl 1 (.int .i64 n2), pl 2 (.func (.func 246) #[] #[.pointer (some ⟨g1, 0, none⟩)]), pl 6 (.int .i64 20), pl 7 (.int .i64 x.2.1), pl 8 (.int .i64 x.2.2)] a ∧ Sep w0 B w (own 3 (.slice A1 data1.length c1) (vI x.1) :: blk g1 275 (List.toArray (([] : List Value) ++ (arr1 (Value.int .i64) (0 : Int) 13 v1 ++ ([] : List Value)))) :: fs)) (assoc_b hm) ⟨hF.weak [0, 1, 2, 6, 7, 8] (by kernel_rfl), hS⟩ ?_
      clear hF hS hm
      rintro nn1 ⟨data3, a1, b1⟩ a w ⟨hF, hS⟩ hm
      generalize hφ1 : stK (slices_stableCmpFunc_2_L1 n2 v1) nn1 (fun x => ((slices_stableCmpFunc_2_K1 n2 v1) x).bind some) = φ1 at hm
      unfold slices_stableCmpFunc_2_L1 at hm
      dsimp only at hF hS hm
      refine seq_cut (fun a w => Fr 63 [pl 0 (.slice A1 data1.length c1), pl 1 (.int .i64 n2), pl 2 (.func (.func 246) #[] #[.pointer (some ⟨g1, 0, none⟩)]), pl 6 (.int .i64 20), pl 7 (.int .i64 a1), pl 8 (.int .i64 b1)] a ∧ Sep w0 B w (own 3 (.slice A1 data1.length c1) (vI data3) :: blk g1 275 (List.toArray (([] : List Value) ++ (arr1 (Value.int .i64) (0 : Int) 13 v1 ++ ([] : List Value)))) :: fs) ∧ ((slices_stableCmpFunc_2_J3 v1 data3 a1 b1)).bind φ1 = some r) ?_ ?_
      · rintro a w ⟨hF, hS, hm⟩
        unfold slices_stableCmpFunc_2_J3 at hm
        refine wpIn_block ?_
        refine seqR ?_
        obtain ⟨r1, hr1, hm⟩ := call_b hm
        refine at_run 4 [] [] [0, 1, 2, 6, 8, 14, 15, 16, 17] [pl 0 (.slice A1 data1.length c1), pl 1 (.int .i64 n2), pl 2 (.func (.func 246) #[] #[.pointer (some ⟨g1, 0, none⟩)]), pl 6 (.int .i64 20), pl 8 (.int .i64 b1), pl 14 (.slice A1 data1.length c1), pl 15 (.int .i64 a1), pl 16 (.int .i64 b1), pl 17 (.func (.func 246) #[] #[.pointer (some ⟨g1, 0, none⟩)])] hF hS (by kernel_rfl) (by kernel_rfl) ?_ (fun a w hF hS => ?_)
        · exact obs_nil
        refine at_call (f := 299) (args := #[.slice A1 data1.length c1, .int .i64 a1, .int .i64 b1, .func (.func 246) #[] #[.pointer (some ⟨g1, 0, none⟩)]]) (d := 18) hF (by kernel_rfl) (by kernel_rfl) Try.func299 (by kernel_rfl) rfl (slices_insertionSortCmpFunc_2_w hr1 hS ) (fun v a w hR hF => ?_)
        clear hS
        obtain ⟨rfl, hS⟩ := hR
        have hS : Sep w0 B w (own 3 (.slice A1 data1.length c1) (vI r1) :: blk g1 275 (List.toArray (([] : List Value) ++ (arr1 (Value.int .i64) (0 : Int) 13 v1 ++ ([] : List Value)))) :: fs) := hS
        refine at_end [0, 1, 2, 6, 8] [pl 0 (.slice A1 data1.length c1), pl 1 (.int .i64 n2), pl 2 (.func (.func 246) #[] #[.pointer (some ⟨g1, 0, none⟩)]), pl 6 (.int .i64 20), pl 8 (.int .i64 b1)] hF rfl (by kernel_rfl) (fun hF => ?_)
        refine then_n ?_
        refine reg [] [] [0, 1, 2, 6, 7, 8] [pl 0 (.slice A1 data1.length c1), pl 1 (.int .i64 n2), pl 2 (.func (.func 246) #[] #[.pointer (some ⟨g1, 0, none⟩)]), pl 6 (.int .i64 20), pl 7 (.int .i64 b1), pl 8 (.int .i64 b1)] hF hS Fol (by kernel_rfl) (by kernel_rfl) (by kernel_rfl) ?_ (fun a w hF hS => ?_)
        · exact obs_nil
        refine reg1 [] [] [0, 1, 2, 6, 7, 8] [pl 0 (.slice A1 data1.length c1), pl 1 (.int .i64 n2), pl 2 (.func (.func 246) #[] #[.pointer (some ⟨g1, 0, none⟩)]), pl 6 (.int .i64 20), pl 7 (.int .i64 b1), pl 8 (.int .i64 (w64 (b1 + 20)))] hF hS Fol (by kernel_rfl) (by kernel_rfl) (by kernel_rfl) ?_ (fun a w hF hS => ?_)
        · exact obs_nil
        refine block_n ?_
        refine then_n ?_
        rw [← hφ1] at hm
        exact ⟨(r1, b1, (w64 (b1 + 20))), ⟨hF.weak [0, 1, 2, 6, 7, 8] (by kernel_rfl), hS⟩, hm⟩
      · refine reg [] [] [0, 1, 2, 6, 7, 8, 13] [pl 0 (.slice A1 data1.length c1), pl 1 (.int .i64 n2), pl 2 (.func (.func 246) #[] #[.pointer (some ⟨g1, 0, none⟩)]), pl 6 (.int .i64 20), pl 7 (.int .i64 a1), pl 8 (.int .i64 b1), pl 13 (.bool (decide (b1 ≤ n2)))] hF hS Fol (by kernel_rfl) (by kernel_rfl) (by kernel_rfl) ?_ (fun a w hF hS => ?_)
        · exact obs_nil
        refine cond_ev (t := 13) (b := decide (b1 ≤ n2)) hF (by kernel_rfl) (fun hb => ?_) (fun hb => ?_)
        · replace hm := if_t hm hb
          refine wpIn_skip ?_
          refine then_n ?_
          exact ⟨hF.weak [0, 1, 2, 6, 7, 8] (by kernel_rfl), hS, hm⟩
        · replace hm := if_f hm hb
          refine wpIn_exit ?_
          refine then_e (then_e (block_e (then_n ?_)))
          rw [← hφ1] at hm
          replace hm := done_b hm
          unfold slices_stableCmpFunc_2_K1 at hm
          try dsimp only at hm
          have hm : ((slices_stableCmpFunc_2_J2 n2 v1) data3 a1).bind some = some r := hm
          exact ⟨data3, a1, hF.weak [0, 1, 2, 6, 7] (by kernel_rfl), hS, hm⟩

noncomputable def slices_SortStableFunc_2_J1  (x3 : List Int) : Option (List Int) :=
  some x3

noncomputable def slices_SortStableFunc_2_m  (x1 : List Int) (v1 : List Int) : Option (List Int) :=
  (slices_stableCmpFunc_2_m x1 (x1.length : Int) v1).bind fun r1 => slices_SortStableFunc_2_J1 r1

set_option maxRecDepth 100000 in
set_option maxHeartbeats 4000000 in
theorem slices_SortStableFunc_2_w  {A1 : Option Addr} {c1 : Nat} {n1 : Nat} {x1 : List Int} {g1 : Nat} {v1 : List Int} {r : (List Int)} {w0 w : World} {B : Nat} {fs : List HP} (hm : slices_SortStableFunc_2_m x1 v1 = some r) (hS : Sep w0 B w (own 3 (.slice A1 n1 c1) (vI x1) :: blk g1 275 (List.toArray (([] : List Value) ++ (arr1 (Value.int .i64) (0 : Int) 13 v1 ++ ([] : List Value)))) :: fs)) :
    Calls Try.prog 245 #[.slice A1 n1 c1, .func (.func 246) #[] #[.pointer (some ⟨g1, 0, none⟩)]] w fun e w' => ∃ v, e = .returned v ∧ v = .tuple #[] ∧ Sep w0 B w' (own 3 (.slice A1 n1 c1) (vI r) :: blk g1 275 (List.toArray (([] : List Value) ++ (arr1 (Value.int .i64) (0 : Int) 13 v1 ++ ([] : List Value)))) :: fs) := by
  obtain ⟨i3, hi3, hz3, hs3, hb3⟩ := info_parts Info3
  obtain rfl := (hS.at_ 0 rfl).len1
  unfold slices_SortStableFunc_2_m at hm
  replace hm := start_b hm
  refine enter (l := [.slice A1 x1.length c1, .func (.func 246) #[] #[.pointer (some ⟨g1, 0, none⟩)]]) (n := 9) Try.func245 rfl rfl (by simp) (fun a hF => ?_)
  refine end_cut (fun a w => ∃ (x3 : List Int), Fr 9 [] a ∧ Sep w0 B w (own 3 (.slice A1 x1.length c1) (vI x3) :: blk g1 275 (List.toArray (([] : List Value) ++ (arr1 (Value.int .i64) (0 : Int) 13 v1 ++ ([] : List Value)))) :: fs) ∧ (slices_SortStableFunc_2_J1 x3).bind some = some r) ?_ ?_
  · rintro a w ⟨x3, hF, hS, hm⟩
    unfold slices_SortStableFunc_2_J1 at hm
    have hm : some x3 = some r := hm
    obtain rfl := Option.some.inj hm
    exact endV (rs := []) (vs := []) hF rfl (rv_nil) rfl ⟨_, rfl, rfl, hS⟩ rfl
  · refine oneR ?_
    obtain ⟨r1, hr1, hm⟩ := call_b hm
    refine at_run 4 [] [] [4, 6, 7] [pl 4 (.slice A1 x1.length c1), pl 6 (.int .i64 (x1.length : Int)), pl 7 (.func (.func 246) #[] #[.pointer (some ⟨g1, 0, none⟩)])] hF hS (by kernel_rfl) (by kernel_rfl) ?_ (fun a w hF hS => ?_)
    · exact obs_nil
    refine at_call (f := 287) (args := #[.slice A1 x1.length c1, .int .i64 (x1.length : Int), .func (.func 246) #[] #[.pointer (some ⟨g1, 0, none⟩)]]) (d := 8) hF (by kernel_rfl) (by kernel_rfl) Try.func287 (by kernel_rfl) rfl (slices_stableCmpFunc_2_w hr1 hS ) (fun v a w hR hF => ?_)
    clear hS
    obtain ⟨rfl, hS⟩ := hR
    have hS : Sep w0 B w (own 3 (.slice A1 x1.length c1) (vI r1) :: blk g1 275 (List.toArray (([] : List Value) ++ (arr1 (Value.int .i64) (0 : Int) 13 v1 ++ ([] : List Value)))) :: fs) := hS
    refine at_end [] [] hF rfl (by kernel_rfl) (fun hF => ?_)
    refine then_n ?_
    exact ⟨r1, hF.weak [] (by kernel_rfl), hS, hm⟩

noncomputable def poker_value_J3  (l1 : List Int) (many1 : List Int) (flush1 : Bool) (z1 : Int) : Option (St (List Int × Bool × Int) (List Int × Bool)) :=
  some (.next ((many1.set (Int.toNat (w64 (Int.tdiv (geti l1 z1) 4))) (w64 ((geti many1 (w64 (Int.tdiv (geti l1 z1) 4))) + 1))), (flush1 && ((Int.tmod (geti l1 z1) 4) == (Int.tmod (geti l1 0) 4))), (w64 (z1 + 1))))

noncomputable def poker_value_J2  (l1 : List Int) (many1 : List Int) (flush1 : Bool) (z1 : Int) : Option (St (List Int × Bool × Int) (List Int × Bool)) :=
  asrt (0 ≤ z1 ∧ z1 < 5) <| asrt (0 ≤ (w64 (Int.tdiv (geti l1 z1) 4)) ∧ (w64 (Int.tdiv (geti l1 z1) 4)) < 13) <| asrt (0 ≤ (w64 (Int.tdiv (geti l1 z1) 4)) ∧ (w64 (Int.tdiv (geti l1 z1) 4)) < 13) <| asrt ((w64 (Int.tdiv (geti l1 z1) 4)) < (many1.length : Int)) <| asrt (flush1 = true → 0 ≤ (0 : Int) ∧ (0 : Int) < 5) <| (poker_value_J3 l1 many1 flush1 z1)

noncomputable def poker_value_J6  (r1 : Int) (signs3 : List Int) : Option (St (List Int × Int) (List Int)) :=
  some (.next (signs3, (w64 (r1 - 1))))

noncomputable def poker_value_J5  (many2 : List Int) (signs1 : List Int) (r1 : Int) : Option (St (List Int × Int) (List Int)) :=
  asrt (0 ≤ r1 ∧ r1 < 13) <| if (decide ((0 : Int) < (geti many2 r1))) then (asrt ((signs1.length : Int) + 1 ≤ bigN) <| (poker_value_J6 r1) (signs1 ++ ([r1] : List Int))) else ((poker_value_J6 r1) signs1)

noncomputable def poker_value_L2  (many2 : List Int) : (List Int × Int) → Option (St (List Int × Int) (List Int)) :=
  fun (x : (List Int × Int)) => match x with | (signs1, r1) => if (decide ((0 : Int) ≤ r1)) then ((poker_value_J5 many2 signs1 r1)) else (some (.done signs1))

noncomputable def poker_value_J11  (z2 : Int) (v3 : Int) : Option (St (Int × Int) Int) :=
  some (.next (v3, (w64 (z2 + 1))))

noncomputable def poker_value_J10  (signs4 : List Int) (v1 : Int) (z2 : Int) : Option (St (Int × Int) Int) :=
  if (decide (z2 < (signs4.length : Int))) then (asrt (0 ≤ z2 ∧ z2 < (signs4.length : Int)) <| (poker_value_J11 z2) (w64 ((w64 (v1 * 13)) + (geti signs4 z2)))) else ((poker_value_J11 z2) (w64 (v1 * 13)))

noncomputable def poker_value_L3  (signs4 : List Int) : (Int × Int) → Option (St (Int × Int) Int) :=
  fun (x : (Int × Int)) => match x with | (v1, z2) => if (decide (z2 < 5)) then ((poker_value_J10 signs4 v1 z2)) else (some (.done v1))

noncomputable def poker_value_J9  (v2 : Int) : Option Int :=
  some v2

noncomputable def poker_value_K3  : Int → Option Int :=
  fun (x : Int) => match x with | v2 => poker_value_J9 v2

noncomputable def poker_value_J8  (signs4 : List Int) (class1 : Int) : Option Int :=
  (loop (poker_value_L3 signs4) (class1, 0)).bind poker_value_K3

noncomputable def poker_value_J7  (many2 : List Int) (flush2 : Bool) (signs4 : List Int) (row1 : Bool) : Option Int :=
  if (row1 && flush2) then ((poker_value_J8 signs4) 8) else (asrt (0 ≤ (0 : Int) ∧ (0 : Int) < (signs4.length : Int)) <| asrt (0 ≤ (geti signs4 0) ∧ (geti signs4 0) < 13) <| if ((geti many2 (geti signs4 0)) == 4) then ((poker_value_J8 signs4) 7) else (asrt (0 ≤ (0 : Int) ∧ (0 : Int) < (signs4.length : Int)) <| asrt (0 ≤ (geti signs4 0) ∧ (geti signs4 0) < 13) <| if (((geti many2 (geti signs4 0)) == 3) && ((signs4.length : Int) == 2)) then ((poker_value_J8 signs4) 6) else (if flush2 then ((poker_value_J8 signs4) 5) else (if row1 then ((poker_value_J8 signs4) 4) else (asrt (0 ≤ (0 : Int) ∧ (0 : Int) < (signs4.length : Int)) <| asrt (0 ≤ (geti signs4 0) ∧ (geti signs4 0) < 13) <| if ((geti many2 (geti signs4 0)) == 3) then ((poker_value_J8 signs4) 3) else (asrt (0 ≤ (0 : Int) ∧ (0 : Int) < (signs4.length : Int)) <| asrt (0 ≤ (geti signs4 0) ∧ (geti signs4 0) < 13) <| if (((geti many2 (geti signs4 0)) == 2) && ((signs4.length : Int) == 3)) then ((poker_value_J8 signs4) 2) else (asrt (0 ≤ (0 : Int) ∧ (0 : Int) < (signs4.length : Int)) <| asrt (0 ≤ (geti signs4 0) ∧ (geti signs4 0) < 13) <| if ((geti many2 (geti signs4 0)) == 2) then ((poker_value_J8 signs4) 1) else ((poker_value_J8 signs4) 0))))))))

noncomputable def poker_value_J4  (many2 : List Int) (flush2 : Bool) (signs2 : List Int) : Option Int :=
  (slices_SortStableFunc_2_m signs2 many2).bind fun r2 => asrt (((signs2.length : Int) == 5) = true → 0 ≤ (0 : Int) ∧ (0 : Int) < (signs2.length : Int)) <| asrt (((signs2.length : Int) == 5) = true → 0 ≤ (4 : Int) ∧ (4 : Int) < (signs2.length : Int)) <| asrt (((signs2.length : Int) == 5) = true → 0 ≤ (0 : Int) ∧ (0 : Int) < (signs2.length : Int)) <| asrt ((((signs2.length : Int) == 5) && ((geti r2 0) == 12)) = true → 0 ≤ (1 : Int) ∧ (1 : Int) < (signs2.length : Int)) <| if ((((signs2.length : Int) == 5) && ((geti r2 0) == 12)) && ((geti r2 1) == 3)) then (asrt (0 ≤ (1 : Int) ∧ (1 : Int) ≤ (2 : Int) ∧ (2 : Int) ≤ (signs2.length : Int)) <| (poker_value_J7 many2 flush2) (cut r2 (1 : Int) (2 : Int)) true) else (if (((signs2.length : Int) == 5) && ((w64 ((geti r2 0) - (geti r2 4))) == 4)) then (asrt (0 ≤ (0 : Int) ∧ (0 : Int) ≤ (1 : Int) ∧ (1 : Int) ≤ (signs2.length : Int)) <| (poker_value_J7 many2 flush2) (cut r2 (0 : Int) (1 : Int)) (((signs2.length : Int) == 5) && ((w64 ((geti r2 0) - (geti r2 4))) == 4))) else ((poker_value_J7 many2 flush2) r2 (((signs2.length : Int) == 5) && ((w64 ((geti r2 0) - (geti r2 4))) == 4))))

noncomputable def poker_value_K2  (many2 : List Int) (flush2 : Bool) : (List Int) → Option Int :=
  fun (x : (List Int)) => match x with | signs2 => (poker_value_J4 many2 flush2) signs2

noncomputable def poker_value_J1  (many2 : List Int) (flush2 : Bool) : Option Int :=
  (loop (poker_value_L2 many2) (([] : List Int), 12)).bind (poker_value_K2 many2 flush2)

noncomputable def poker_value_K1  : (List Int × Bool) → Option Int :=
  fun (x : (List Int × Bool)) => match x with | (many2, flush2) => poker_value_J1 many2 flush2

noncomputable def poker_value_L1  (l1 : List Int) : (List Int × Bool × Int) → Option (St (List Int × Bool × Int) (List Int × Bool)) :=
  fun (x : (List Int × Bool × Int)) => match x with | (many1, flush1, z1) => if (decide (z1 < 5)) then ((poker_value_J2 l1 many1 flush1 z1)) else (some (.done (many1, flush1)))

noncomputable def poker_value_m  (l1 : List Int) : Option Int :=
  (loop (poker_value_L1 l1) ((List.replicate 13 (0 : Int)), true, 0)).bind poker_value_K1

set_option maxRecDepth 100000 in
set_option maxHeartbeats 4000000 in
theorem poker_value_w  {l1 : List Int} {r : Int} {w0 w : World} {B : Nat} {fs : List HP} (hm : poker_value_m l1 = some r) (hS : Sep w0 B w (fs)) :
    Calls Try.prog 195 #[.agg (List.toArray (([] : List Value) ++ (arr1 (Value.int .i64) (0 : Int) 5 l1 ++ ([] : List Value))))] w fun e w' => e = .returned (.int .i64 r) ∧ Sep w0 B w' (fs) := by
  obtain ⟨i3, hi3, hz3, hs3, hb3⟩ := info_parts Info3
  unfold poker_value_m at hm
  replace hm := start_b hm
  refine enter (l := [.agg (List.toArray (([] : List Value) ++ (arr1 (Value.int .i64) (0 : Int) 5 l1 ++ ([] : List Value))))]) (n := 153) Try.func195 rfl rfl (by simp) (fun a hF => ?_)
  refine seqR ?_
  refine at_do (d := 1) (s := vS (Instr.box 233 (.agg (List.toArray (([] : List Value) ++ (arr1 (Value.int .i64) (0 : Int) 5 l1 ++ ([] : List Value))))))) (v := .pointer (some ⟨w.heap.size, 0, none⟩)) (w' := w.alloc (.cells (List.toArray (([] : List Value) ++ (arr1 (Value.int .i64) (0 : Int) 5 l1 ++ ([] : List Value)))) 233)) hF (by kernel_rfl) (by kernel_rfl) (by kernel_rfl) (fun a hF => ?_)
  have hS : Sep w0 B (w.alloc (.cells (List.toArray (([] : List Value) ++ (arr1 (Value.int .i64) (0 : Int) 5 l1 ++ ([] : List Value)))) 233)) (blk w.heap.size 233 (List.toArray (([] : List Value) ++ (arr1 (Value.int .i64) (0 : Int) 5 l1 ++ ([] : List Value)))) :: (fs)) := hS.box 233 (List.toArray (([] : List Value) ++ (arr1 (Value.int .i64) (0 : Int) 5 l1 ++ ([] : List Value))))
  generalize w.heap.size = g1 at hF hS
  generalize w.alloc (.cells (List.toArray (([] : List Value) ++ (arr1 (Value.int .i64) (0 : Int) 5 l1 ++ ([] : List Value)))) 233) = w at hS ⊢
  refine at_run 1 [] [] [1] [pl 1 (.pointer (some ⟨g1, 0, none⟩))] hF hS (by kernel_rfl) (by kernel_rfl) ?_ (fun a w hF hS => ?_)
  · exact obs_nil
  refine at_end [1] [pl 1 (.pointer (some ⟨g1, 0, none⟩))] hF rfl (by kernel_rfl) (fun hF => ?_)
  refine then_n ?_
  refine seqR ?_
  refine at_do (d := 3) (s := vS (Instr.alloc 275 true (.tuple #[]))) (v := .pointer (some ⟨w.heap.size, 0, none⟩)) (w' := w.alloc (.cells (List.toArray (([] : List Value) ++ (arr1 (Value.int .i64) (0 : Int) 13 (List.replicate 13 (0 : Int)) ++ ([] : List Value)))) 275)) hF (by kernel_rfl) (by kernel_rfl) (by kernel_rfl) (fun a hF => ?_)
  have hS : Sep w0 B (w.alloc (.cells (List.toArray (([] : List Value) ++ (arr1 (Value.int .i64) (0 : Int) 13 (List.replicate 13 (0 : Int)) ++ ([] : List Value)))) 275)) (blk w.heap.size 275 (List.toArray (([] : List Value) ++ (arr1 (Value.int .i64) (0 : Int) 13 (List.replicate 13 (0 : Int)) ++ ([] : List Value)))) :: (blk g1 233 (List.toArray (([] : List Value) ++ (arr1 (Value.int .i64) (0 : Int) 5 l1 ++ ([] : List Value)))) :: fs)) := hS.box 275 (List.toArray (([] : List Value) ++ (arr1 (Value.int .i64) (0 : Int) 13 (List.replicate 13 (0 : Int)) ++ ([] : List Value))))
  generalize w.heap.size = g2 at hF hS
  generalize w.alloc (.cells (List.toArray (([] : List Value) ++ (arr1 (Value.int .i64) (0 : Int) 13 (List.replicate 13 (0 : Int)) ++ ([] : List Value)))) 275) = w at hS ⊢
  refine at_end [1, 3] [pl 1 (.pointer (some ⟨g1, 0, none⟩)), pl 3 (.pointer (some ⟨g2, 0, none⟩))] hF rfl (by kernel_rfl) (fun hF => ?_)
  refine then_n ?_
  refine reg [] [] [1, 3, 4] [pl 1 (.pointer (some ⟨g1, 0, none⟩)), pl 3 (.pointer (some ⟨g2, 0, none⟩)), pl 4 (.bool true)] hF hS Fol (by kernel_rfl) (by kernel_rfl) (by kernel_rfl) ?_ (fun a w hF hS => ?_)
  · exact obs_nil
  refine seq_cut (fun a w => ∃ (many2 : List Int) (flush2 : Bool), Fr 153 [pl 3 (.pointer (some ⟨g2, 0, none⟩)), pl 4 (.bool flush2)] a ∧ Sep w0 B w (blk g2 275 (List.toArray (([] : List Value) ++ (arr1 (Value.int .i64) (0 : Int) 13 many2 ++ ([] : List Value)))) :: fs) ∧ (poker_value_J1 many2 flush2).bind some = some r) ?_ ?_
  · rintro a w ⟨many2, flush2, hF, hS, hm⟩
    unfold poker_value_J1 at hm
    refine reg [] [] [3, 4, 7] [pl 3 (.pointer (some ⟨g2, 0, none⟩)), pl 4 (.bool flush2), pl 7 (.slice none 0 0)] hF hS Fol (by kernel_rfl) (by kernel_rfl) (by kernel_rfl) ?_ (fun a w hF hS => ?_)
    · exact obs_nil
    refine seq_cut (fun a w => ∃ (signs2 : List Int) (A2 : Option Addr) (c2 : Nat), Fr 153 [pl 3 (.pointer (some ⟨g2, 0, none⟩)), pl 4 (.bool flush2), pl 7 (.slice A2 signs2.length c2)] a ∧ Sep w0 B w (blk g2 275 (List.toArray (([] : List Value) ++ (arr1 (Value.int .i64) (0 : Int) 13 many2 ++ ([] : List Value)))) :: own 3 (.slice A2 signs2.length c2) (vI signs2) :: fs) ∧ ((poker_value_J4 many2 flush2) signs2).bind some = some r) ?_ ?_
    · rintro a w ⟨signs2, A2, c2, hF, hS, hm⟩
      unfold poker_value_J4 at hm
      refine seqR ?_
      obtain ⟨r2, hr1, hm⟩ := call_b hm
      refine at_run 2 [] [] [3, 4, 7, 45, 46] [pl 3 (.pointer (some ⟨g2, 0, none⟩)), pl 4 (.bool flush2), pl 7 (.slice A2 signs2.length c2), pl 45 (.slice A2 signs2.length c2), pl 46 (.func (.func 246) #[] #[.pointer (some ⟨g2, 0, none⟩)])] hF hS (by kernel_rfl) (by kernel_rfl) ?_ (fun a w hF hS => ?_)
      · exact obs_nil
      have hS : Sep w0 B w (own 3 (.slice A2 signs2.length c2) (vI signs2) :: blk g2 275 (List.toArray (([] : List Value) ++ (arr1 (Value.int .i64) (0 : Int) 13 many2 ++ ([] : List Value)))) :: fs) := hS.pickN 2 [1, 0] (by decide)
      refine at_call (f := 245) (args := #[.slice A2 signs2.length c2, .func (.func 246) #[] #[.pointer (some ⟨g2, 0, none⟩)]]) (d := 47) hF (by kernel_rfl) (by kernel_rfl) Try.func245 (by kernel_rfl) rfl (slices_SortStableFunc_2_w hr1 hS ) (fun v a w hR hF => ?_)
      clear hS
      obtain ⟨rfl, hS⟩ := hR
      have hS : Sep w0 B w (own 3 (.slice A2 signs2.length c2) (vI r2) :: blk g2 275 (List.toArray (([] : List Value) ++ (arr1 (Value.int .i64) (0 : Int) 13 many2 ++ ([] : List Value)))) :: fs) := hS
      refine at_end [3, 4, 7] [pl 3 (.pointer (some ⟨g2, 0, none⟩)), pl 4 (.bool flush2), pl 7 (.slice A2 signs2.length c2)] hF rfl (by kernel_rfl) (fun hF => ?_)
      refine then_n ?_
      refine reg [] [] [3, 4, 7, 9] [pl 3 (.pointer (some ⟨g2, 0, none⟩)), pl 4 (.bool flush2), pl 7 (.slice A2 signs2.length c2), pl 9 (.int .i64 0)] hF hS Fol (by kernel_rfl) (by kernel_rfl) (by kernel_rfl) ?_ (fun a w hF hS => ?_)
      · exact obs_nil
      obtain ⟨hp8, hm⟩ := asrt_b hm
      obtain ⟨hp9, hm⟩ := asrt_b hm
      refine reg [⟨true, [(((signs2.length : Int) == 5), true)], vS (Instr.indexAt 22 (.slice A2 signs2.length c2) (.int .i64 0)), .pointer (some (sAddr A2 0))⟩, ⟨false, [(((signs2.length : Int) == 5), true)], vS (Instr.loadAt 3 (.pointer (some (sAddr A2 0)))), .int .i64 (geti r2 0)⟩, ⟨true, [(((signs2.length : Int) == 5), true)], vS (Instr.indexAt 22 (.slice A2 signs2.length c2) (.int .i64 4)), .pointer (some (sAddr A2 4))⟩, ⟨false, [(((signs2.length : Int) == 5), true)], vS (Instr.loadAt 3 (.pointer (some (sAddr A2 4)))), .int .i64 (geti r2 4)⟩] [none, none, none, none, none, some (.pointer (some (sAddr A2 0))), some (.int .i64 (geti r2 0)), none, some (.pointer (some (sAddr A2 4))), some (.int .i64 (geti r2 4)), none, none, none, none] [3, 4, 7, 9, 10] [pl 3 (.pointer (some ⟨g2, 0, none⟩)), pl 4 (.bool flush2), pl 7 (.slice A2 signs2.length c2), pl 9 (.int .i64 0), pl 10 (.bool (((signs2.length : Int) == 5) && ((w64 ((geti r2 0) - (geti r2 4))) == 4)))] hF hS Fol (by kernel_rfl) (by kernel_rfl) (by kernel_rfl) ?_ (fun a w hF hS => ?_)
      · exact obs_cons (ob_ix1 (f := (Value.int .i64)) (m := r2) Und22 hi3 hs3 (hS.at_ 0 rfl).rd ((hS.at_ 0 rfl).len1) (fun hy => hp8 (hy (((signs2.length : Int) == 5), true) (by simp)))) <| obs_cons (ob_get1 (n := signs2.length) (m := r2) (Value.int .i64) (0 : Int) Agg3 (fun _ hS => ⟨_, (hS.at_ 0 rfl).rd⟩) (fun _ hS => ((hS.at_ 0 rfl).len1)) (fun hy => hp8 (hy (((signs2.length : Int) == 5), true) (by simp)))) <| obs_cons (ob_ix1 (f := (Value.int .i64)) (m := r2) Und22 hi3 hs3 (hS.at_ 0 rfl).rd ((hS.at_ 0 rfl).len1) (fun hy => hp9 (hy (((signs2.length : Int) == 5), true) (by simp)))) <| obs_cons (ob_get1 (n := signs2.length) (m := r2) (Value.int .i64) (0 : Int) Agg3 (fun _ hS => ⟨_, (hS.at_ 0 rfl).rd⟩) (fun _ hS => ((hS.at_ 0 rfl).len1)) (fun hy => hp9 (hy (((signs2.length : Int) == 5), true) (by simp)))) <| obs_nil
      refine seq_cut (fun a w => ∃ (signs4 : List Int) (row1 : Bool) (A5 : Option Addr) (c5 : Nat), Fr 153 [pl 3 (.pointer (some ⟨g2, 0, none⟩)), pl 4 (.bool flush2), pl 7 (.slice A5 signs4.length c5), pl 9 (.int .i64 0), pl 10 (.bool row1)] a ∧ Sep w0 B w (blk g2 275 (List.toArray (([] : List Value) ++ (arr1 (Value.int .i64) (0 : Int) 13 many2 ++ ([] : List Value)))) :: ownQ 3 A5 signs4.length c5 (vI signs4) :: fs) ∧ ((poker_value_J7 many2 flush2) signs4 row1).bind some = some r) ?_ ?_
      · rintro a w ⟨signs4, row1, A5, c5, hF, hS, hm⟩
        unfold poker_value_J7 at hm
        refine seq_cut (fun a w => ∃ (class1 : Int), Fr 153 [pl 7 (.slice A5 signs4.length c5), pl 9 (.int .i64 class1)] a ∧ Sep w0 B w (ownQ 3 A5 signs4.length c5 (vI signs4) :: fs) ∧ ((poker_value_J8 signs4) class1).bind some = some r) ?_ ?_
        · rintro a w ⟨class1, hF, hS, hm⟩
          unfold poker_value_J8 at hm
          refine reg [] [] [7, 11] [pl 7 (.slice A5 signs4.length c5), pl 11 (.int .i64 class1)] hF hS Fol (by kernel_rfl) (by kernel_rfl) (by kernel_rfl) ?_ (fun a w hF hS => ?_)
          · exact obs_nil
          refine seq_cut (fun a w => ∃ (v2 : Int), Fr 153 [pl 11 (.int .i64 v2)] a ∧ Sep w0 B w (fs) ∧ (poker_value_J9 v2).bind some = some r) ?_ ?_
          · rintro a w ⟨v2, hF, hS, hm⟩
            unfold poker_value_J9 at hm
            refine reg [] [] [2] [pl 2 (.int .i64 v2)] hF hS Fol (by kernel_rfl) (by kernel_rfl) (by kernel_rfl) ?_ (fun a w hF hS => ?_)
            · exact obs_nil
            refine wpIn_ret ?_
            have hm : some v2 = some r := hm
            obtain rfl := Option.some.inj hm
            exact retV (rs := [.tmp 2]) (vs := [.int .i64 v2]) hF rfl (rv_t (by kernel_rfl) <| rv_nil) rfl ⟨rfl, hS⟩
          · refine reg [] [] [7, 11, 136] [pl 7 (.slice A5 signs4.length c5), pl 11 (.int .i64 class1), pl 136 (.int .i64 0)] hF hS Fol (by kernel_rfl) (by kernel_rfl) (by kernel_rfl) ?_ (fun a w hF hS => ?_)
            · exact obs_nil
            refine wpIn_block ?_
            refine wp_loop_model (S := (Int × Int)) (R := Int) (poker_value_L3 signs4) (fun x => (poker_value_K3 x).bind some) r (fun (x : (Int × Int)) a w => Fr 153 [pl 7 (.slice A5 signs4.length c5), pl 11 (.int .i64 x.1), pl 136 (.int .i64 x.2)] a ∧ Sep w0 B w (ownQ 3 A5 signs4.length c5 (vI signs4) :: fs)) (assoc_b hm) ⟨hF.weak [7, 11, 136] (by kernel_rfl), hS⟩ ?_
            clear hF hS hm
            rintro nn3 ⟨v1, z2⟩ a w ⟨hF, hS⟩ hm
            generalize hφ3 : stK (poker_value_L3 signs4) nn3 (fun x => (poker_value_K3 x).bind some) = φ3 at hm
            unfold poker_value_L3 at hm
            dsimp only at hF hS hm
            refine reg [] [] [7, 11, 136, 137] [pl 7 (.slice A5 signs4.length c5), pl 11 (.int .i64 v1), pl 136 (.int .i64 z2), pl 137 (.bool (decide (z2 < 5)))] hF hS Fol (by kernel_rfl) (by kernel_rfl) (by kernel_rfl) ?_ (fun a w hF hS => ?_)
            · exact obs_nil
            refine seq_cut (fun a w => Fr 153 [pl 7 (.slice A5 signs4.length c5), pl 11 (.int .i64 v1), pl 136 (.int .i64 z2)] a ∧ Sep w0 B w (ownQ 3 A5 signs4.length c5 (vI signs4) :: fs) ∧ ((poker_value_J10 signs4 v1 z2)).bind φ3 = some r) ?_ ?_
            · rintro a w ⟨hF, hS, hm⟩
              unfold poker_value_J10 at hm
              refine seq_cut (fun a w => ∃ (v3 : Int), Fr 153 [pl 7 (.slice A5 signs4.length c5), pl 11 (.int .i64 v3), pl 136 (.int .i64 z2)] a ∧ Sep w0 B w (ownQ 3 A5 signs4.length c5 (vI signs4) :: fs) ∧ ((poker_value_J11 z2) v3).bind φ3 = some r) ?_ ?_
              · rintro a w ⟨v3, hF, hS, hm⟩
                unfold poker_value_J11 at hm
                refine reg1 [] [] [7, 11, 136] [pl 7 (.slice A5 signs4.length c5), pl 11 (.int .i64 v3), pl 136 (.int .i64 (w64 (z2 + 1)))] hF hS Fol (by kernel_rfl) (by kernel_rfl) (by kernel_rfl) ?_ (fun a w hF hS => ?_)
                · exact obs_nil
                refine then_n ?_
                rw [← hφ3] at hm
                exact ⟨(v3, (w64 (z2 + 1))), ⟨hF.weak [7, 11, 136] (by kernel_rfl), hS⟩, hm⟩
              · refine wpIn_block ?_
                refine reg [] [] [7, 11, 12, 136] [pl 7 (.slice A5 signs4.length c5), pl 11 (.int .i64 v1), pl 12 (.int .i64 z2), pl 136 (.int .i64 z2)] hF hS Fol (by kernel_rfl) (by kernel_rfl) (by kernel_rfl) ?_ (fun a w hF hS => ?_)
                · exact obs_nil
                refine reg [] [] [7, 11, 12, 136] [pl 7 (.slice A5 signs4.length c5), pl 11 (.int .i64 (w64 (v1 * 13))), pl 12 (.int .i64 z2), pl 136 (.int .i64 z2)] hF hS Fol (by kernel_rfl) (by kernel_rfl) (by kernel_rfl) ?_ (fun a w hF hS => ?_)
                · exact obs_nil
                refine reg [] [] [7, 11, 12, 136, 144] [pl 7 (.slice A5 signs4.length c5), pl 11 (.int .i64 (w64 (v1 * 13))), pl 12 (.int .i64 z2), pl 136 (.int .i64 z2), pl 144 (.bool (decide (z2 < (signs4.length : Int))))] hF hS Fol (by kernel_rfl) (by kernel_rfl) (by kernel_rfl) ?_ (fun a w hF hS => ?_)
                · exact obs_nil
                refine cond_ev (t := 144) (b := decide (z2 < (signs4.length : Int))) hF (by kernel_rfl) (fun hb => ?_) (fun hb => ?_)
                · replace hm := if_t hm hb
                  obtain ⟨hp24, hm⟩ := asrt_b hm
                  refine reg1 [⟨true, [], vS (Instr.indexAt 22 (.slice A5 signs4.length c5) (.int .i64 z2)), .pointer (some (sAddr A5 z2))⟩, ⟨false, [], vS (Instr.loadAt 3 (.pointer (some (sAddr A5 z2)))), .int .i64 (geti signs4 z2)⟩] [none, none, none, some (.pointer (some (sAddr A5 z2))), some (.int .i64 (geti signs4 z2)), none, none] [7, 11, 136] [pl 7 (.slice A5 signs4.length c5), pl 11 (.int .i64 (w64 ((w64 (v1 * 13)) + (geti signs4 z2)))), pl 136 (.int .i64 z2)] hF hS Fol (by kernel_rfl) (by kernel_rfl) (by kernel_rfl) ?_ (fun a w hF hS => ?_)
                  · exact obs_cons (ob_ix1 (f := (Value.int .i64)) (m := signs4) Und22 hi3 hs3 (hS.at_ 0 rfl).rdQ rfl (fun _ => hp24)) <| obs_cons (ob_get1 (n := signs4.length) (m := signs4) (Value.int .i64) (0 : Int) Agg3 (fun _ hS => ⟨_, (hS.at_ 0 rfl).rdQ⟩) (fun _ hS => rfl) (fun _ => hp24)) <| obs_nil
                  refine block_n ?_
                  refine then_n ?_
                  exact ⟨(w64 ((w64 (v1 * 13)) + (geti signs4 z2))), hF.weak [7, 11, 136] (by kernel_rfl), hS, hm⟩
                · replace hm := if_f hm hb
                  refine wpIn_skip ?_
                  refine block_n ?_
                  refine then_n ?_
                  exact ⟨(w64 (v1 * 13)), hF.weak [7, 11, 136] (by kernel_rfl), hS, hm⟩
            · refine cond_ev (t := 137) (b := decide (z2 < 5)) hF (by kernel_rfl) (fun hb => ?_) (fun hb => ?_)
              · replace hm := if_t hm hb
                refine wpIn_skip ?_
                refine then_n ?_
                exact ⟨hF.weak [7, 11, 136] (by kernel_rfl), hS, hm⟩
              · replace hm := if_f hm hb
                refine wpIn_exit ?_
                refine then_e (then_e (block_e (then_n ?_)))
                have hS := hS.pickN 1 [] (by decide)
                rw [← hφ3] at hm
                replace hm := done_b hm
                unfold poker_value_K3 at hm
                try dsimp only at hm
                have hm : (poker_value_J9 v1).bind some = some r := hm
                exact ⟨v1, hF.weak [11] (by kernel_rfl), hS, hm⟩
        · refine wpIn_block ?_
          refine reg [] [] [3, 4, 7, 9, 10, 81] [pl 3 (.pointer (some ⟨g2, 0, none⟩)), pl 4 (.bool flush2), pl 7 (.slice A5 signs4.length c5), pl 9 (.int .i64 0), pl 10 (.bool row1), pl 81 (.bool (row1 && flush2))] hF hS Fol (by kernel_rfl) (by kernel_rfl) (by kernel_rfl) ?_ (fun a w hF hS => ?_)
          · exact obs_nil
          refine cond_ev (t := 81) (b := row1 && flush2) hF (by kernel_rfl) (fun hb => ?_) (fun hb => ?_)
          · replace hm := if_t hm hb
            refine reg1 [] [] [7, 9] [pl 7 (.slice A5 signs4.length c5), pl 9 (.int .i64 8)] hF hS Fol (by kernel_rfl) (by kernel_rfl) (by kernel_rfl) ?_ (fun a w hF hS => ?_)
            · exact obs_nil
            refine block_n ?_
            refine then_n ?_
            have hS := hS.pickN 2 [1] (by decide)
            exact ⟨8, hF.weak [7, 9] (by kernel_rfl), hS, hm⟩
          · replace hm := if_f hm hb
            obtain ⟨hp14, hm⟩ := asrt_b hm
            obtain ⟨hp15, hm⟩ := asrt_b hm
            refine reg [⟨true, [], vS (Instr.indexAt 22 (.slice A5 signs4.length c5) (.int .i64 0)), .pointer (some (sAddr A5 0))⟩, ⟨false, [], vS (Instr.loadAt 3 (.pointer (some (sAddr A5 0)))), .int .i64 (geti signs4 0)⟩, ⟨true, [], vS (Instr.indexAt 275 (.pointer (some ⟨g2, 0, none⟩)) (.int .i64 (geti signs4 0))), .pointer (some ((⟨g2, 0, none⟩ : Addr).add (Int.toNat (geti signs4 0) * 1)))⟩, ⟨false, [], vS (Instr.loadAt 3 (.pointer (some ((⟨g2, 0, none⟩ : Addr).add (Int.toNat (geti signs4 0) * 1))))), .int .i64 (geti many2 (geti signs4 0))⟩] [none, some (.pointer (some (sAddr A5 0))), some (.int .i64 (geti signs4 0)), some (.pointer (some ((⟨g2, 0, none⟩ : Addr).add (Int.toNat (geti signs4 0) * 1)))), some (.int .i64 (geti many2 (geti signs4 0))), none, none] [3, 4, 7, 9, 10, 86] [pl 3 (.pointer (some ⟨g2, 0, none⟩)), pl 4 (.bool flush2), pl 7 (.slice A5 signs4.length c5), pl 9 (.int .i64 0), pl 10 (.bool row1), pl 86 (.bool ((geti many2 (geti signs4 0)) == 4))] hF hS Fol (by kernel_rfl) (by kernel_rfl) (by kernel_rfl) ?_ (fun a w hF hS => ?_)
            · exact obs_cons (ob_ix1 (f := (Value.int .i64)) (m := signs4) Und22 hi3 hs3 (hS.at_ 1 rfl).rdQ rfl (fun _ => hp14)) <| obs_cons (ob_get1 (n := signs4.length) (m := signs4) (Value.int .i64) (0 : Int) Agg3 (fun _ hS => ⟨_, (hS.at_ 1 rfl).rdQ⟩) (fun _ hS => rfl) (fun _ => hp14)) <| obs_cons (ob_ixA UndA275 hi3 hs3 (fun _ => hp15)) <| obs_cons (ob_getA (m := many2) (Value.int .i64) (0 : Int) 13 ([] : List Value) ([] : List Value) (geti signs4 0) Agg3 rfl (fun _ hS => ⟨_, _, _, _, _, hS.at_ 0 rfl⟩) (fun hy => by have h0 := hp15; omega)) <| obs_nil
            refine cond_ev (t := 86) (b := ((geti many2 (geti signs4 0)) == 4)) hF (by kernel_rfl) (fun hb => ?_) (fun hb => ?_)
            · replace hm := if_t hm hb
              refine reg1 [] [] [7, 9] [pl 7 (.slice A5 signs4.length c5), pl 9 (.int .i64 7)] hF hS Fol (by kernel_rfl) (by kernel_rfl) (by kernel_rfl) ?_ (fun a w hF hS => ?_)
              · exact obs_nil
              refine block_n ?_
              refine then_n ?_
              have hS := hS.pickN 2 [1] (by decide)
              exact ⟨7, hF.weak [7, 9] (by kernel_rfl), hS, hm⟩
            · replace hm := if_f hm hb
              obtain ⟨hp16, hm⟩ := asrt_b hm
              obtain ⟨hp17, hm⟩ := asrt_b hm
              refine reg [⟨true, [], vS (Instr.indexAt 22 (.slice A5 signs4.length c5) (.int .i64 0)), .pointer (some (sAddr A5 0))⟩, ⟨false, [], vS (Instr.loadAt 3 (.pointer (some (sAddr A5 0)))), .int .i64 (geti signs4 0)⟩, ⟨true, [], vS (Instr.indexAt 275 (.pointer (some ⟨g2, 0, none⟩)) (.int .i64 (geti signs4 0))), .pointer (some ((⟨g2, 0, none⟩ : Addr).add (Int.toNat (geti signs4 0) * 1)))⟩, ⟨false, [], vS (Instr.loadAt 3 (.pointer (some ((⟨g2, 0, none⟩ : Addr).add (Int.toNat (geti signs4 0) * 1))))), .int .i64 (geti many2 (geti signs4 0))⟩] [none, some (.pointer (some (sAddr A5 0))), some (.int .i64 (geti signs4 0)), some (.pointer (some ((⟨g2, 0, none⟩ : Addr).add (Int.toNat (geti signs4 0) * 1)))), some (.int .i64 (geti many2 (geti signs4 0))), none, none, none, none, none, none, none] [3, 4, 7, 9, 10, 93] [pl 3 (.pointer (some ⟨g2, 0, none⟩)), pl 4 (.bool flush2), pl 7 (.slice A5 signs4.length c5), pl 9 (.int .i64 0), pl 10 (.bool row1), pl 93 (.bool (((geti many2 (geti signs4 0)) == 3) && ((signs4.length : Int) == 2)))] hF hS Fol (by kernel_rfl) (by kernel_rfl) (by kernel_rfl) ?_ (fun a w hF hS => ?_)
              · exact obs_cons (ob_ix1 (f := (Value.int .i64)) (m := signs4) Und22 hi3 hs3 (hS.at_ 1 rfl).rdQ rfl (fun _ => hp16)) <| obs_cons (ob_get1 (n := signs4.length) (m := signs4) (Value.int .i64) (0 : Int) Agg3 (fun _ hS => ⟨_, (hS.at_ 1 rfl).rdQ⟩) (fun _ hS => rfl) (fun _ => hp16)) <| obs_cons (ob_ixA UndA275 hi3 hs3 (fun _ => hp17)) <| obs_cons (ob_getA (m := many2) (Value.int .i64) (0 : Int) 13 ([] : List Value) ([] : List Value) (geti signs4 0) Agg3 rfl (fun _ hS => ⟨_, _, _, _, _, hS.at_ 0 rfl⟩) (fun hy => by have h0 := hp17; omega)) <| obs_nil
              refine cond_ev (t := 93) (b := ((geti many2 (geti signs4 0)) == 3) && ((signs4.length : Int) == 2)) hF (by kernel_rfl) (fun hb => ?_) (fun hb => ?_)
              · replace hm := if_t hm hb
                refine reg1 [] [] [7, 9] [pl 7 (.slice A5 signs4.length c5), pl 9 (.int .i64 6)] hF hS Fol (by kernel_rfl) (by kernel_rfl) (by kernel_rfl) ?_ (fun a w hF hS => ?_)
                · exact obs_nil
                refine block_n ?_
                refine then_n ?_
                have hS := hS.pickN 2 [1] (by decide)
                exact ⟨6, hF.weak [7, 9] (by kernel_rfl), hS, hm⟩
              · replace hm := if_f hm hb
                refine reg [] [] [3, 7, 9, 10, 105] [pl 3 (.pointer (some ⟨g2, 0, none⟩)), pl 7 (.slice A5 signs4.length c5), pl 9 (.int .i64 0), pl 10 (.bool row1), pl 105 (.bool flush2)] hF hS Fol (by kernel_rfl) (by kernel_rfl) (by kernel_rfl) ?_ (fun a w hF hS => ?_)
                · exact obs_nil
                refine cond_ev (t := 105) (b := flush2) hF (by kernel_rfl) (fun hb => ?_) (fun hb => ?_)
                · replace hm := if_t hm hb
                  refine reg1 [] [] [7, 9] [pl 7 (.slice A5 signs4.length c5), pl 9 (.int .i64 5)] hF hS Fol (by kernel_rfl) (by kernel_rfl) (by kernel_rfl) ?_ (fun a w hF hS => ?_)
                  · exact obs_nil
                  refine block_n ?_
                  refine then_n ?_
                  have hS := hS.pickN 2 [1] (by decide)
                  exact ⟨5, hF.weak [7, 9] (by kernel_rfl), hS, hm⟩
                · replace hm := if_f hm hb
                  refine reg [] [] [3, 7, 9, 107] [pl 3 (.pointer (some ⟨g2, 0, none⟩)), pl 7 (.slice A5 signs4.length c5), pl 9 (.int .i64 0), pl 107 (.bool row1)] hF hS Fol (by kernel_rfl) (by kernel_rfl) (by kernel_rfl) ?_ (fun a w hF hS => ?_)
                  · exact obs_nil
                  refine cond_ev (t := 107) (b := row1) hF (by kernel_rfl) (fun hb => ?_) (fun hb => ?_)
                  · replace hm := if_t hm hb
                    refine reg1 [] [] [7, 9] [pl 7 (.slice A5 signs4.length c5), pl 9 (.int .i64 4)] hF hS Fol (by kernel_rfl) (by kernel_rfl) (by kernel_rfl) ?_ (fun a w hF hS => ?_)
                    · exact obs_nil
                    refine block_n ?_
                    refine then_n ?_
                    have hS := hS.pickN 2 [1] (by decide)
                    exact ⟨4, hF.weak [7, 9] (by kernel_rfl), hS, hm⟩
                  · replace hm := if_f hm hb
                    obtain ⟨hp18, hm⟩ := asrt_b hm
                    obtain ⟨hp19, hm⟩ := asrt_b hm
                    refine reg [⟨true, [], vS (Instr.indexAt 22 (.slice A5 signs4.length c5) (.int .i64 0)), .pointer (some (sAddr A5 0))⟩, ⟨false, [], vS (Instr.loadAt 3 (.pointer (some (sAddr A5 0)))), .int .i64 (geti signs4 0)⟩, ⟨true, [], vS (Instr.indexAt 275 (.pointer (some ⟨g2, 0, none⟩)) (.int .i64 (geti signs4 0))), .pointer (some ((⟨g2, 0, none⟩ : Addr).add (Int.toNat (geti signs4 0) * 1)))⟩, ⟨false, [], vS (Instr.loadAt 3 (.pointer (some ((⟨g2, 0, none⟩ : Addr).add (Int.toNat (geti signs4 0) * 1))))), .int .i64 (geti many2 (geti signs4 0))⟩] [none, some (.pointer (some (sAddr A5 0))), some (.int .i64 (geti signs4 0)), some (.pointer (some ((⟨g2, 0, none⟩ : Addr).add (Int.toNat (geti signs4 0) * 1)))), some (.int .i64 (geti many2 (geti signs4 0))), none, none] [3, 7, 9, 109] [pl 3 (.pointer (some ⟨g2, 0, none⟩)), pl 7 (.slice A5 signs4.length c5), pl 9 (.int .i64 0), pl 109 (.bool ((geti many2 (geti signs4 0)) == 3))] hF hS Fol (by kernel_rfl) (by kernel_rfl) (by kernel_rfl) ?_ (fun a w hF hS => ?_)
                    · exact obs_cons (ob_ix1 (f := (Value.int .i64)) (m := signs4) Und22 hi3 hs3 (hS.at_ 1 rfl).rdQ rfl (fun _ => hp18)) <| obs_cons (ob_get1 (n := signs4.length) (m := signs4) (Value.int .i64) (0 : Int) Agg3 (fun _ hS => ⟨_, (hS.at_ 1 rfl).rdQ⟩) (fun _ hS => rfl) (fun _ => hp18)) <| obs_cons (ob_ixA UndA275 hi3 hs3 (fun _ => hp19)) <| obs_cons (ob_getA (m := many2) (Value.int .i64) (0 : Int) 13 ([] : List Value) ([] : List Value) (geti signs4 0) Agg3 rfl (fun _ hS => ⟨_, _, _, _, _, hS.at_ 0 rfl⟩) (fun hy => by have h0 := hp19; omega)) <| obs_nil
                    refine cond_ev (t := 109) (b := ((geti many2 (geti signs4 0)) == 3)) hF (by kernel_rfl) (fun hb => ?_) (fun hb => ?_)
                    · replace hm := if_t hm hb
                      refine reg1 [] [] [7, 9] [pl 7 (.slice A5 signs4.length c5), pl 9 (.int .i64 3)] hF hS Fol (by kernel_rfl) (by kernel_rfl) (by kernel_rfl) ?_ (fun a w hF hS => ?_)
                      · exact obs_nil
                      refine block_n ?_
                      refine then_n ?_
                      have hS := hS.pickN 2 [1] (by decide)
                      exact ⟨3, hF.weak [7, 9] (by kernel_rfl), hS, hm⟩
                    · replace hm := if_f hm hb
                      obtain ⟨hp20, hm⟩ := asrt_b hm
                      obtain ⟨hp21, hm⟩ := asrt_b hm
                      refine reg [⟨true, [], vS (Instr.indexAt 22 (.slice A5 signs4.length c5) (.int .i64 0)), .pointer (some (sAddr A5 0))⟩, ⟨false, [], vS (Instr.loadAt 3 (.pointer (some (sAddr A5 0)))), .int .i64 (geti signs4 0)⟩, ⟨true, [], vS (Instr.indexAt 275 (.pointer (some ⟨g2, 0, none⟩)) (.int .i64 (geti signs4 0))), .pointer (some ((⟨g2, 0, none⟩ : Addr).add (Int.toNat (geti signs4 0) * 1)))⟩, ⟨false, [], vS (Instr.loadAt 3 (.pointer (some ((⟨g2, 0, none⟩ : Addr).add (Int.toNat (geti signs4 0) * 1))))), .int .i64 (geti many2 (geti signs4 0))⟩] [none, some (.pointer (some (sAddr A5 0))), some (.int .i64 (geti signs4 0)), some (.pointer (some ((⟨g2, 0, none⟩ : Addr).add (Int.toNat (geti signs4 0) * 1)))), some (.int .i64 (geti many2 (geti signs4 0))), none, none, none, none, none, none, none] [3, 7, 9, 116] [pl 3 (.pointer (some ⟨g2, 0, none⟩)), pl 7 (.slice A5 signs4.length c5), pl 9 (.int .i64 0), pl 116 (.bool (((geti many2 (geti signs4 0)) == 2) && ((signs4.length : Int) == 3)))] hF hS Fol (by kernel_rfl) (by kernel_rfl) (by kernel_rfl) ?_ (fun a w hF hS => ?_)
                      · exact obs_cons (ob_ix1 (f := (Value.int .i64)) (m := signs4) Und22 hi3 hs3 (hS.at_ 1 rfl).rdQ rfl (fun _ => hp20)) <| obs_cons (ob_get1 (n := signs4.length) (m := signs4) (Value.int .i64) (0 : Int) Agg3 (fun _ hS => ⟨_, (hS.at_ 1 rfl).rdQ⟩) (fun _ hS => rfl) (fun _ => hp20)) <| obs_cons (ob_ixA UndA275 hi3 hs3 (fun _ => hp21)) <| obs_cons (ob_getA (m := many2) (Value.int .i64) (0 : Int) 13 ([] : List Value) ([] : List Value) (geti signs4 0) Agg3 rfl (fun _ hS => ⟨_, _, _, _, _, hS.at_ 0 rfl⟩) (fun hy => by have h0 := hp21; omega)) <| obs_nil
                      refine cond_ev (t := 116) (b := ((geti many2 (geti signs4 0)) == 2) && ((signs4.length : Int) == 3)) hF (by kernel_rfl) (fun hb => ?_) (fun hb => ?_)
                      · replace hm := if_t hm hb
                        refine reg1 [] [] [7, 9] [pl 7 (.slice A5 signs4.length c5), pl 9 (.int .i64 2)] hF hS Fol (by kernel_rfl) (by kernel_rfl) (by kernel_rfl) ?_ (fun a w hF hS => ?_)
                        · exact obs_nil
                        refine block_n ?_
                        refine then_n ?_
                        have hS := hS.pickN 2 [1] (by decide)
                        exact ⟨2, hF.weak [7, 9] (by kernel_rfl), hS, hm⟩
                      · replace hm := if_f hm hb
                        obtain ⟨hp22, hm⟩ := asrt_b hm
                        obtain ⟨hp23, hm⟩ := asrt_b hm
                        refine reg [⟨true, [], vS (Instr.indexAt 22 (.slice A5 signs4.length c5) (.int .i64 0)), .pointer (some (sAddr A5 0))⟩, ⟨false, [], vS (Instr.loadAt 3 (.pointer (some (sAddr A5 0)))), .int .i64 (geti signs4 0)⟩, ⟨true, [], vS (Instr.indexAt 275 (.pointer (some ⟨g2, 0, none⟩)) (.int .i64 (geti signs4 0))), .pointer (some ((⟨g2, 0, none⟩ : Addr).add (Int.toNat (geti signs4 0) * 1)))⟩, ⟨false, [], vS (Instr.loadAt 3 (.pointer (some ((⟨g2, 0, none⟩ : Addr).add (Int.toNat (geti signs4 0) * 1))))), .int .i64 (geti many2 (geti signs4 0))⟩] [none, some (.pointer (some (sAddr A5 0))), some (.int .i64 (geti signs4 0)), some (.pointer (some ((⟨g2, 0, none⟩ : Addr).add (Int.toNat (geti signs4 0) * 1)))), some (.int .i64 (geti many2 (geti signs4 0))), none, none] [7, 9, 128] [pl 7 (.slice A5 signs4.length c5), pl 9 (.int .i64 0), pl 128 (.bool ((geti many2 (geti signs4 0)) == 2))] hF hS Fol (by kernel_rfl) (by kernel_rfl) (by kernel_rfl) ?_ (fun a w hF hS => ?_)
                        · exact obs_cons (ob_ix1 (f := (Value.int .i64)) (m := signs4) Und22 hi3 hs3 (hS.at_ 1 rfl).rdQ rfl (fun _ => hp22)) <| obs_cons (ob_get1 (n := signs4.length) (m := signs4) (Value.int .i64) (0 : Int) Agg3 (fun _ hS => ⟨_, (hS.at_ 1 rfl).rdQ⟩) (fun _ hS => rfl) (fun _ => hp22)) <| obs_cons (ob_ixA UndA275 hi3 hs3 (fun _ => hp23)) <| obs_cons (ob_getA (m := many2) (Value.int .i64) (0 : Int) 13 ([] : List Value) ([] : List Value) (geti signs4 0) Agg3 rfl (fun _ hS => ⟨_, _, _, _, _, hS.at_ 0 rfl⟩) (fun hy => by have h0 := hp23; omega)) <| obs_nil
                        refine cond_ev (t := 128) (b := ((geti many2 (geti signs4 0)) == 2)) hF (by kernel_rfl) (fun hb => ?_) (fun hb => ?_)
                        · replace hm := if_t hm hb
                          refine reg1 [] [] [7, 9] [pl 7 (.slice A5 signs4.length c5), pl 9 (.int .i64 1)] hF hS Fol (by kernel_rfl) (by kernel_rfl) (by kernel_rfl) ?_ (fun a w hF hS => ?_)
                          · exact obs_nil
                          refine block_n ?_
                          refine then_n ?_
                          have hS := hS.pickN 2 [1] (by decide)
                          exact ⟨1, hF.weak [7, 9] (by kernel_rfl), hS, hm⟩
                        · replace hm := if_f hm hb
                          refine wpIn_skip ?_
                          refine block_n ?_
                          refine then_n ?_
                          have hS := hS.pickN 2 [1] (by decide)
                          exact ⟨0, hF.weak [7, 9] (by kernel_rfl), hS, hm⟩
      · obtain ⟨hp10, hm⟩ := asrt_b hm
        obtain ⟨hp11, hm⟩ := asrt_b hm
        refine reg [⟨true, [(((signs2.length : Int) == 5), true)], vS (Instr.indexAt 22 (.slice A2 signs2.length c2) (.int .i64 0)), .pointer (some (sAddr A2 0))⟩, ⟨false, [(((signs2.length : Int) == 5), true)], vS (Instr.loadAt 3 (.pointer (some (sAddr A2 0)))), .int .i64 (geti r2 0)⟩, ⟨true, [(((signs2.length : Int) == 5) && ((geti r2 0) == 12), true)], vS (Instr.indexAt 22 (.slice A2 signs2.length c2) (.int .i64 1)), .pointer (some (sAddr A2 1))⟩, ⟨false, [(((signs2.length : Int) == 5) && ((geti r2 0) == 12), true)], vS (Instr.loadAt 3 (.pointer (some (sAddr A2 1)))), .int .i64 (geti r2 1)⟩] [none, none, none, none, none, some (.pointer (some (sAddr A2 0))), some (.int .i64 (geti r2 0)), none, none, none, none, some (.pointer (some (sAddr A2 1))), some (.int .i64 (geti r2 1)), none, none] [3, 4, 7, 9, 10, 75] [pl 3 (.pointer (some ⟨g2, 0, none⟩)), pl 4 (.bool flush2), pl 7 (.slice A2 signs2.length c2), pl 9 (.int .i64 0), pl 10 (.bool (((signs2.length : Int) == 5) && ((w64 ((geti r2 0) - (geti r2 4))) == 4))), pl 75 (.bool ((((signs2.length : Int) == 5) && ((geti r2 0) == 12)) && ((geti r2 1) == 3)))] hF hS Fol (by kernel_rfl) (by kernel_rfl) (by kernel_rfl) ?_ (fun a w hF hS => ?_)
        · exact obs_cons (ob_ix1 (f := (Value.int .i64)) (m := r2) Und22 hi3 hs3 (hS.at_ 0 rfl).rd ((hS.at_ 0 rfl).len1) (fun hy => hp10 (hy (((signs2.length : Int) == 5), true) (by simp)))) <| obs_cons (ob_get1 (n := signs2.length) (m := r2) (Value.int .i64) (0 : Int) Agg3 (fun _ hS => ⟨_, (hS.at_ 0 rfl).rd⟩) (fun _ hS => ((hS.at_ 0 rfl).len1)) (fun hy => hp10 (hy (((signs2.length : Int) == 5), true) (by simp)))) <| obs_cons (ob_ix1 (f := (Value.int .i64)) (m := r2) Und22 hi3 hs3 (hS.at_ 0 rfl).rd ((hS.at_ 0 rfl).len1) (fun hy => hp11 (hy (((signs2.length : Int) == 5) && ((geti r2 0) == 12), true) (by simp)))) <| obs_cons (ob_get1 (n := signs2.length) (m := r2) (Value.int .i64) (0 : Int) Agg3 (fun _ hS => ⟨_, (hS.at_ 0 rfl).rd⟩) (fun _ hS => ((hS.at_ 0 rfl).len1)) (fun hy => hp11 (hy (((signs2.length : Int) == 5) && ((geti r2 0) == 12), true) (by simp)))) <| obs_nil
        refine cond_ev (t := 75) (b := (((signs2.length : Int) == 5) && ((geti r2 0) == 12)) && ((geti r2 1) == 3)) hF (by kernel_rfl) (fun hb => ?_) (fun hb => ?_)
        · replace hm := if_t hm hb
          refine reg [] [] [3, 4, 7, 9, 10] [pl 3 (.pointer (some ⟨g2, 0, none⟩)), pl 4 (.bool flush2), pl 7 (.slice A2 signs2.length c2), pl 9 (.int .i64 0), pl 10 (.bool true)] hF hS Fol (by kernel_rfl) (by kernel_rfl) (by kernel_rfl) ?_ (fun a w hF hS => ?_)
          · exact obs_nil
          obtain ⟨hp12, hm⟩ := asrt_b hm
          have hb1 := cutb (n := signs2.length) ((hS.at_ 0 rfl).len1) hp12
          refine reg1 [⟨true, [], vS (Instr.sliceAt 22 (.slice A2 signs2.length c2) (some (.int .i64 (1 : Int))) (some (.int .i64 (2 : Int))) none), .slice (cutAddr A2 c2 (1 : Int)) ((cut r2 (1 : Int) (2 : Int)).length) (c2 - Int.toNat (1 : Int))⟩] [none, some (.slice (cutAddr A2 c2 (1 : Int)) ((cut r2 (1 : Int) (2 : Int)).length) (c2 - Int.toNat (1 : Int))), none] [3, 4, 7, 9, 10] [pl 3 (.pointer (some ⟨g2, 0, none⟩)), pl 4 (.bool flush2), pl 7 (.slice (cutAddr A2 c2 (1 : Int)) ((cut r2 (1 : Int) (2 : Int)).length) (c2 - Int.toNat (1 : Int))), pl 9 (.int .i64 0), pl 10 (.bool true)] hF hS Fol (by kernel_rfl) (by kernel_rfl) (by kernel_rfl) ?_ (fun a w hF hS => ?_)
          · exact obs_cons (ob_cutn (l := r2) (k := .i64) (k' := .i64) Und22 hi3 hs3 ((hS.at_ 0 rfl).len1) (.inl rfl) (.inl rfl) (fun _ => hb1) ((hS.at_ 0 rfl).cap1)) <| obs_nil
          refine then_n ?_
          have hS : Sep w0 B w (ownQ 3 (cutAddr A2 c2 (1 : Int)) ((cut r2 (1 : Int) (2 : Int)).length) (c2 - Int.toNat (1 : Int)) (vI (cut r2 (1 : Int) (2 : Int))) :: blk g2 275 (List.toArray (([] : List Value) ++ (arr1 (Value.int .i64) (0 : Int) 13 many2 ++ ([] : List Value)))) :: fs) := (hS.at_ 0 rfl).ofOwnQ.cutQ hb1
          have hS := hS.pickN 2 [1, 0] (by decide)
          exact ⟨(cut r2 (1 : Int) (2 : Int)), true, (cutAddr A2 c2 (1 : Int)), (c2 - Int.toNat (1 : Int)), hF.weak [3, 4, 7, 9, 10] (by kernel_rfl), hS, hm⟩
        · replace hm := if_f hm hb
          refine reg [] [] [3, 4, 7, 9, 10, 78] [pl 3 (.pointer (some ⟨g2, 0, none⟩)), pl 4 (.bool flush2), pl 7 (.slice A2 signs2.length c2), pl 9 (.int .i64 0), pl 10 (.bool (((signs2.length : Int) == 5) && ((w64 ((geti r2 0) - (geti r2 4))) == 4))), pl 78 (.bool (((signs2.length : Int) == 5) && ((w64 ((geti r2 0) - (geti r2 4))) == 4)))] hF hS Fol (by kernel_rfl) (by kernel_rfl) (by kernel_rfl) ?_ (fun a w hF hS => ?_)
          · exact obs_nil
          refine cond_ev (t := 78) (b := ((signs2.length : Int) == 5) && ((w64 ((geti r2 0) - (geti r2 4))) == 4)) hF (by kernel_rfl) (fun hb => ?_) (fun hb => ?_)
          · replace hm := if_t hm hb
            obtain ⟨hp13, hm⟩ := asrt_b hm
            have hb2 := cutb (n := signs2.length) ((hS.at_ 0 rfl).len1) hp13
            refine reg1 [⟨true, [], vS (Instr.sliceAt 22 (.slice A2 signs2.length c2) none (some (.int .i64 (1 : Int))) none), .slice (cutAddr A2 c2 (0 : Int)) ((cut r2 (0 : Int) (1 : Int)).length) (c2 - Int.toNat (0 : Int))⟩] [none, some (.slice (cutAddr A2 c2 (0 : Int)) ((cut r2 (0 : Int) (1 : Int)).length) (c2 - Int.toNat (0 : Int))), none] [3, 4, 7, 9, 10] [pl 3 (.pointer (some ⟨g2, 0, none⟩)), pl 4 (.bool flush2), pl 7 (.slice (cutAddr A2 c2 (0 : Int)) ((cut r2 (0 : Int) (1 : Int)).length) (c2 - Int.toNat (0 : Int))), pl 9 (.int .i64 0), pl 10 (.bool (((signs2.length : Int) == 5) && ((w64 ((geti r2 0) - (geti r2 4))) == 4)))] hF hS Fol (by kernel_rfl) (by kernel_rfl) (by kernel_rfl) ?_ (fun a w hF hS => ?_)
            · exact obs_cons (ob_cutn (l := r2) (k := .i64) (k' := .i64) Und22 hi3 hs3 ((hS.at_ 0 rfl).len1) (.inr ⟨rfl, rfl⟩) (.inl rfl) (fun _ => hb2) ((hS.at_ 0 rfl).cap1)) <| obs_nil
            refine then_n ?_
            have hS : Sep w0 B w (own 3 (.slice (cutAddr A2 c2 (0 : Int)) ((cut r2 (0 : Int) (1 : Int)).length) (c2 - Int.toNat (0 : Int))) (vI (cut r2 (0 : Int) (1 : Int))) :: blk g2 275 (List.toArray (([] : List Value) ++ (arr1 (Value.int .i64) (0 : Int) 13 many2 ++ ([] : List Value)))) :: fs) := (hS.at_ 0 rfl).prefixN rfl hb2
            have hS : Sep w0 B w (ownQ 3 (cutAddr A2 c2 (0 : Int)) ((cut r2 (0 : Int) (1 : Int)).length) (c2 - Int.toNat (0 : Int)) (vI (cut r2 (0 : Int) (1 : Int))) :: blk g2 275 (List.toArray (([] : List Value) ++ (arr1 (Value.int .i64) (0 : Int) 13 many2 ++ ([] : List Value)))) :: fs) := (hS.at_ 0 rfl).ofOwnQ
            have hS := hS.pickN 2 [1, 0] (by decide)
            exact ⟨(cut r2 (0 : Int) (1 : Int)), (((signs2.length : Int) == 5) && ((w64 ((geti r2 0) - (geti r2 4))) == 4)), (cutAddr A2 c2 (0 : Int)), (c2 - Int.toNat (0 : Int)), hF.weak [3, 4, 7, 9, 10] (by kernel_rfl), hS, hm⟩
          · replace hm := if_f hm hb
            refine wpIn_skip ?_
            refine then_n ?_
            have hS : Sep w0 B w (ownQ 3 A2 signs2.length c2 (vI r2) :: blk g2 275 (List.toArray (([] : List Value) ++ (arr1 (Value.int .i64) (0 : Int) 13 many2 ++ ([] : List Value)))) :: fs) := (hS.at_ 0 rfl).ofOwnQ
            have hl2 := (hS.at_ 0 rfl).lenQ
            have hS := (hS.at_ 0 rfl).reNQ hl2
            have hS : Sep w0 B w (ownQ 3 A2 r2.length c2 (vI r2) :: blk g2 275 (List.toArray (([] : List Value) ++ (arr1 (Value.int .i64) (0 : Int) 13 many2 ++ ([] : List Value)))) :: fs) := hS
            have hF := hF.cast (t := 7) (v := .slice A2 signs2.length c2) (v' := .slice A2 r2.length c2) rfl rfl (congrArg (fun k => Value.slice A2 k c2) hl2)
            have hS := hS.pickN 2 [1, 0] (by decide)
            exact ⟨r2, (((signs2.length : Int) == 5) && ((w64 ((geti r2 0) - (geti r2 4))) == 4)), A2, c2, hF.weak [3, 4, 7, 9, 10] (by kernel_rfl), hS, hm⟩
    · refine reg [] [] [3, 4, 7, 8] [pl 3 (.pointer (some ⟨g2, 0, none⟩)), pl 4 (.bool flush2), pl 7 (.slice none 0 0), pl 8 (.int .i64 12)] hF hS Fol (by kernel_rfl) (by kernel_rfl) (by kernel_rfl) ?_ (fun a w hF hS => ?_)
      · exact obs_nil
      refine wpIn_block ?_
      have hS : Sep w0 B w (own 3 (.slice none 0 0) (vI ([] : List Int)) :: blk g2 275 (List.toArray (([] : List Value) ++ (arr1 (Value.int .i64) (0 : Int) 13 many2 ++ ([] : List Value)))) :: fs) := hS.nil 3
      have hl1 := (hS.at_ 0 rfl).len1
      have hS := (hS.at_ 0 rfl).reN hl1
      have hS : Sep w0 B w (own 3 (.slice none (([] : List Int).length) 0) (vI ([] : List Int)) :: blk g2 275 (List.toArray (([] : List Value) ++ (arr1 (Value.int .i64) (0 : Int) 13 many2 ++ ([] : List Value)))) :: fs) := hS
      have hF := hF.cast (t := 7) (v := .slice none 0 0) (v' := .slice none (([] : List Int).length) 0) rfl rfl (congrArg (fun k => Value.slice none k 0) hl1)
      have hS := hS.pickN 2 [1, 0] (by decide)
      refine wp_loop_model (S := (List Int × Int)) (R := (List Int)) (poker_value_L2 many2) (fun x => ((poker_value_K2 many2 flush2) x).bind some) r (fun (x : (List Int × Int)) a w => ∃ (A1 : Option Addr) (c1 : Nat), Fr 153 [pl 3 (.pointer (some ⟨g2, 0, none⟩)), pl 4 (.bool flush2), pl 7 (.slice A1 x.1.length c1), pl 8 (.int .i64 x.2)] a ∧ Sep w0 B w (blk g2 275 (List.toArray (([] : List Value) ++ (arr1 (Value.int .i64) (0 : Int) 13 many2 ++ ([] : List Value)))) :: own 3 (.slice A1 x.1.length c1) (vI x.1) :: fs)) (assoc_b hm) ⟨none, 0, hF.weak [3, 4, 7, 8] (by kernel_rfl), hS⟩ ?_
      clear hF hS hm
      rintro nn2 ⟨signs1, r1⟩ a w ⟨A1, c1, hF, hS⟩ hm
      generalize hφ2 : stK (poker_value_L2 many2) nn2 (fun x => ((poker_value_K2 many2 flush2) x).bind some) = φ2 at hm
      unfold poker_value_L2 at hm
      dsimp only at hF hS hm
      refine seq_cut (fun a w => Fr 153 [pl 3 (.pointer (some ⟨g2, 0, none⟩)), pl 4 (.bool flush2), pl 7 (.slice A1 signs1.length c1), pl 8 (.int .i64 r1)] a ∧ Sep w0 B w (blk g2 275 (List.toArray (([] : List Value) ++ (arr1 (Value.int .i64) (0 : Int) 13 many2 ++ ([] : List Value)))) :: own 3 (.slice A1 signs1.length c1) (vI signs1) :: fs) ∧ ((poker_value_J5 many2 signs1 r1)).bind φ2 = some r) ?_ ?_
      · rintro a w ⟨hF, hS, hm⟩
        unfold poker_value_J5 at hm
        refine seq_cut (fun a w => ∃ (signs3 : List Int) (A4 : Option Addr) (c4 : Nat), Fr 153 [pl 3 (.pointer (some ⟨g2, 0, none⟩)), pl 4 (.bool flush2), pl 7 (.slice A4 signs3.length c4), pl 8 (.int .i64 r1)] a ∧ Sep w0 B w (blk g2 275 (List.toArray (([] : List Value) ++ (arr1 (Value.int .i64) (0 : Int) 13 many2 ++ ([] : List Value)))) :: own 3 (.slice A4 signs3.length c4) (vI signs3) :: fs) ∧ ((poker_value_J6 r1) signs3).bind φ2 = some r) ?_ ?_
        · rintro a w ⟨signs3, A4, c4, hF, hS, hm⟩
          unfold poker_value_J6 at hm
          refine reg1 [] [] [3, 4, 7, 8] [pl 3 (.pointer (some ⟨g2, 0, none⟩)), pl 4 (.bool flush2), pl 7 (.slice A4 signs3.length c4), pl 8 (.int .i64 (w64 (r1 - 1)))] hF hS Fol (by kernel_rfl) (by kernel_rfl) (by kernel_rfl) ?_ (fun a w hF hS => ?_)
          · exact obs_nil
          refine then_n ?_
          rw [← hφ2] at hm
          exact ⟨(signs3, (w64 (r1 - 1))), ⟨A4, c4, hF.weak [3, 4, 7, 8] (by kernel_rfl), hS⟩, hm⟩
        · refine wpIn_block ?_
          obtain ⟨hp6, hm⟩ := asrt_b hm
          refine reg [⟨true, [], vS (Instr.indexAt 275 (.pointer (some ⟨g2, 0, none⟩)) (.int .i64 r1)), .pointer (some ((⟨g2, 0, none⟩ : Addr).add (Int.toNat r1 * 1)))⟩, ⟨false, [], vS (Instr.loadAt 3 (.pointer (some ((⟨g2, 0, none⟩ : Addr).add (Int.toNat r1 * 1))))), .int .i64 (geti many2 r1)⟩] [none, some (.pointer (some ((⟨g2, 0, none⟩ : Addr).add (Int.toNat r1 * 1)))), some (.int .i64 (geti many2 r1)), none] [3, 4, 7, 8, 40] [pl 3 (.pointer (some ⟨g2, 0, none⟩)), pl 4 (.bool flush2), pl 7 (.slice A1 signs1.length c1), pl 8 (.int .i64 r1), pl 40 (.bool (decide ((0 : Int) < (geti many2 r1))))] hF hS Fol (by kernel_rfl) (by kernel_rfl) (by kernel_rfl) ?_ (fun a w hF hS => ?_)
          · exact obs_cons (ob_ixA UndA275 hi3 hs3 (fun _ => hp6)) <| obs_cons (ob_getA (m := many2) (Value.int .i64) (0 : Int) 13 ([] : List Value) ([] : List Value) r1 Agg3 rfl (fun _ hS => ⟨_, _, _, _, _, hS.at_ 0 rfl⟩) (fun hy => by have h0 := hp6; omega)) <| obs_nil
          refine cond_ev (t := 40) (b := decide ((0 : Int) < (geti many2 r1))) hF (by kernel_rfl) (fun hb => ?_) (fun hb => ?_)
          · replace hm := if_t hm hb
            refine oneR ?_
            obtain ⟨hp7, hm⟩ := asrt_b hm
            refine at_run 2 [] [] [3, 4, 8, 41, 42] [pl 3 (.pointer (some ⟨g2, 0, none⟩)), pl 4 (.bool flush2), pl 8 (.int .i64 r1), pl 41 (.slice A1 signs1.length c1), pl 42 (.int .i64 r1)] hF hS (by kernel_rfl) (by kernel_rfl) ?_ (fun a w hF hS => ?_)
            · exact obs_nil
            refine at_do (d := 43) (s := vS (Instr.buildSlice 22 1 #[(0, .int .i64 r1)])) (v := .slice (some ⟨w.heap.size, 0, none⟩) 1 1) (w' := w.alloc (.cells #[.int .i64 r1] 3)) hF (by kernel_rfl) (by kernel_rfl) (by kernel_rfl) (fun a hF => ?_)
            have hS : Sep w0 B (w.alloc (.cells #[.int .i64 r1] 3)) (own 3 (.slice (some (⟨w.heap.size, 0, none⟩ : Addr)) 1 1) (vI ([r1] : List Int)) :: (blk g2 275 (List.toArray (([] : List Value) ++ (arr1 (Value.int .i64) (0 : Int) 13 many2 ++ ([] : List Value)))) :: own 3 (.slice A1 signs1.length c1) (vI signs1) :: fs)) := hS.lit 3 #[.int .i64 r1] 1 rfl (by omega)
            generalize (some (⟨w.heap.size, 0, none⟩ : Addr)) = g3 at hF hS
            generalize w.alloc (.cells #[.int .i64 r1] 3) = w at hS ⊢
            obtain ⟨A3, c3, w, hrun, hS⟩ := run_app1 (P := Try.prog) (t := 22) (m := signs1) (ys := ([r1] : List Int)) (A2 := g3) (m2 := 1) (c2 := 1) (Value.int .i64) (0 : Int) (hS.at_ 2 rfl) (hS.at_ 0 rfl).rd ((hS.at_ 0 rfl).len1) 22 Und22 hi3 hz3 hs3 (by omega) rfl (fun _ => rfl) hp7
            have hS : Sep w0 B w (own 3 (.slice g3 1 1) (vI ([r1] : List Int)) :: blk g2 275 (List.toArray (([] : List Value) ++ (arr1 (Value.int .i64) (0 : Int) 13 many2 ++ ([] : List Value)))) :: own 3 (.slice A3 ((signs1 ++ ([r1] : List Int)).length) c3) (vI (signs1 ++ ([r1] : List Int))) :: fs) := hS
            refine at_do (d := 44) hF (by kernel_rfl) (by kernel_rfl) hrun (fun a hF => ?_)
            refine at_run 1 [] [] [3, 4, 7, 8] [pl 3 (.pointer (some ⟨g2, 0, none⟩)), pl 4 (.bool flush2), pl 7 (.slice A3 ((signs1 ++ ([r1] : List Int)).length) c3), pl 8 (.int .i64 r1)] hF hS (by kernel_rfl) (by kernel_rfl) ?_ (fun a w hF hS => ?_)
            · exact obs_nil
            refine at_end [3, 4, 7, 8] [pl 3 (.pointer (some ⟨g2, 0, none⟩)), pl 4 (.bool flush2), pl 7 (.slice A3 ((signs1 ++ ([r1] : List Int)).length) c3), pl 8 (.int .i64 r1)] hF rfl (by kernel_rfl) (fun hF => ?_)
            refine block_n ?_
            refine then_n ?_
            have hS := hS.pickN 3 [1, 2] (by decide)
            exact ⟨(signs1 ++ ([r1] : List Int)), A3, c3, hF.weak [3, 4, 7, 8] (by kernel_rfl), hS, hm⟩
          · replace hm := if_f hm hb
            refine wpIn_skip ?_
            refine block_n ?_
            refine then_n ?_
            exact ⟨signs1, A1, c1, hF.weak [3, 4, 7, 8] (by kernel_rfl), hS, hm⟩
      · refine reg [] [] [3, 4, 7, 8, 34] [pl 3 (.pointer (some ⟨g2, 0, none⟩)), pl 4 (.bool flush2), pl 7 (.slice A1 signs1.length c1), pl 8 (.int .i64 r1), pl 34 (.bool (decide ((0 : Int) ≤ r1)))] hF hS Fol (by kernel_rfl) (by kernel_rfl) (by kernel_rfl) ?_ (fun a w hF hS => ?_)
        · exact obs_nil
        refine cond_ev (t := 34) (b := decide ((0 : Int) ≤ r1)) hF (by kernel_rfl) (fun hb => ?_) (fun hb => ?_)
        · replace hm := if_t hm hb
          refine wpIn_skip ?_
          refine then_n ?_
          exact ⟨hF.weak [3, 4, 7, 8] (by kernel_rfl), hS, hm⟩
        · replace hm := if_f hm hb
          refine wpIn_exit ?_
          refine then_e (then_e (block_e (then_n ?_)))
          rw [← hφ2] at hm
          replace hm := done_b hm
          unfold poker_value_K2 at hm
          try dsimp only at hm
          have hm : ((poker_value_J4 many2 flush2) signs1).bind some = some r := hm
          exact ⟨signs1, A1, c1, hF.weak [3, 4, 7] (by kernel_rfl), hS, hm⟩
  · refine reg [⟨false, [], vS (Instr.loadAt 233 (.pointer (some ⟨g1, 0, none⟩))), .agg (List.toArray (([] : List Value) ++ (arr1 (Value.int .i64) (0 : Int) 5 l1 ++ ([] : List Value))))⟩] [some (.agg (List.toArray (([] : List Value) ++ (arr1 (Value.int .i64) (0 : Int) 5 l1 ++ ([] : List Value))))), none] [1, 3, 4, 13, 14] [pl 1 (.pointer (some ⟨g1, 0, none⟩)), pl 3 (.pointer (some ⟨g2, 0, none⟩)), pl 4 (.bool true), pl 13 (.agg (List.toArray (([] : List Value) ++ (arr1 (Value.int .i64) (0 : Int) 5 l1 ++ ([] : List Value))))), pl 14 (.int .i64 0)] hF hS Fol (by kernel_rfl) (by kernel_rfl) (by kernel_rfl) ?_ (fun a w hF hS => ?_)
    · exact obs_cons (ob_loadA (cs := (List.toArray (([] : List Value) ++ (arr1 (Value.int .i64) (0 : Int) 5 l1 ++ ([] : List Value))))) (by kernel_rfl) (by kernel_rfl) (fun _ _ hS => (hS.at_ 1 rfl).cellsAt 0 (by rfl))) <| obs_nil
    refine wpIn_block ?_
    have hS := hS.pickN 2 [1, 0] (by decide)
    refine wp_loop_model (S := (List Int × Bool × Int)) (R := (List Int × Bool)) (poker_value_L1 l1) (fun x => (poker_value_K1 x).bind some) r (fun (x : (List Int × Bool × Int)) a w => Fr 153 [pl 1 (.pointer (some ⟨g1, 0, none⟩)), pl 3 (.pointer (some ⟨g2, 0, none⟩)), pl 4 (.bool x.2.1), pl 13 (.agg (List.toArray (([] : List Value) ++ (arr1 (Value.int .i64) (0 : Int) 5 l1 ++ ([] : List Value))))), pl 14 (.int .i64 x.2.2)] a ∧ Sep w0 B w (blk g1 233 (List.toArray (([] : List Value) ++ (arr1 (Value.int .i64) (0 : Int) 5 l1 ++ ([] : List Value)))) :: blk g2 275 (List.toArray (([] : List Value) ++ (arr1 (Value.int .i64) (0 : Int) 13 x.1 ++ ([] : List Value)))) :: fs)) (assoc_b hm) ⟨hF.weak [1, 3, 4, 13, 14] (by kernel_rfl), hS⟩ ?_
    clear hF hS hm
    rintro nn1 ⟨many1, flush1, z1⟩ a w ⟨hF, hS⟩ hm
    generalize hφ1 : stK (poker_value_L1 l1) nn1 (fun x => (poker_value_K1 x).bind some) = φ1 at hm
    unfold poker_value_L1 at hm
    dsimp only at hF hS hm
    refine reg [] [] [1, 3, 4, 13, 14, 15] [pl 1 (.pointer (some ⟨g1, 0, none⟩)), pl 3 (.pointer (some ⟨g2, 0, none⟩)), pl 4 (.bool flush1), pl 13 (.agg (List.toArray (([] : List Value) ++ (arr1 (Value.int .i64) (0 : Int) 5 l1 ++ ([] : List Value))))), pl 14 (.int .i64 z1), pl 15 (.bool (decide (z1 < 5)))] hF hS Fol (by kernel_rfl) (by kernel_rfl) (by kernel_rfl) ?_ (fun a w hF hS => ?_)
    · exact obs_nil
    refine seq_cut (fun a w => Fr 153 [pl 1 (.pointer (some ⟨g1, 0, none⟩)), pl 3 (.pointer (some ⟨g2, 0, none⟩)), pl 4 (.bool flush1), pl 13 (.agg (List.toArray (([] : List Value) ++ (arr1 (Value.int .i64) (0 : Int) 5 l1 ++ ([] : List Value))))), pl 14 (.int .i64 z1)] a ∧ Sep w0 B w (blk g1 233 (List.toArray (([] : List Value) ++ (arr1 (Value.int .i64) (0 : Int) 5 l1 ++ ([] : List Value)))) :: blk g2 275 (List.toArray (([] : List Value) ++ (arr1 (Value.int .i64) (0 : Int) 13 many1 ++ ([] : List Value)))) :: fs) ∧ ((poker_value_J2 l1 many1 flush1 z1)).bind φ1 = some r) ?_ ?_
    · rintro a w ⟨hF, hS, hm⟩
      unfold poker_value_J2 at hm
      refine seq_cut (fun a w => Fr 153 [pl 1 (.pointer (some ⟨g1, 0, none⟩)), pl 3 (.pointer (some ⟨g2, 0, none⟩)), pl 4 (.bool (flush1 && ((Int.tmod (geti l1 z1) 4) == (Int.tmod (geti l1 0) 4)))), pl 13 (.agg (List.toArray (([] : List Value) ++ (arr1 (Value.int .i64) (0 : Int) 5 l1 ++ ([] : List Value))))), pl 14 (.int .i64 z1)] a ∧ Sep w0 B w (blk g1 233 (List.toArray (([] : List Value) ++ (arr1 (Value.int .i64) (0 : Int) 5 l1 ++ ([] : List Value)))) :: blk g2 275 (List.toArray (([] : List Value) ++ (arr1 (Value.int .i64) (0 : Int) 13 (many1.set (Int.toNat (w64 (Int.tdiv (geti l1 z1) 4))) (w64 ((geti many1 (w64 (Int.tdiv (geti l1 z1) 4))) + 1))) ++ ([] : List Value)))) :: fs) ∧ ((poker_value_J3 l1 many1 flush1 z1)).bind φ1 = some r) ?_ ?_
      · rintro a w ⟨hF, hS, hm⟩
        unfold poker_value_J3 at hm
        refine reg1 [] [] [1, 3, 4, 13, 14] [pl 1 (.pointer (some ⟨g1, 0, none⟩)), pl 3 (.pointer (some ⟨g2, 0, none⟩)), pl 4 (.bool (flush1 && ((Int.tmod (geti l1 z1) 4) == (Int.tmod (geti l1 0) 4)))), pl 13 (.agg (List.toArray (([] : List Value) ++ (arr1 (Value.int .i64) (0 : Int) 5 l1 ++ ([] : List Value))))), pl 14 (.int .i64 (w64 (z1 + 1)))] hF hS Fol (by kernel_rfl) (by kernel_rfl) (by kernel_rfl) ?_ (fun a w hF hS => ?_)
        · exact obs_nil
        refine then_n ?_
        rw [← hφ1] at hm
        exact ⟨((many1.set (Int.toNat (w64 (Int.tdiv (geti l1 z1) 4))) (w64 ((geti many1 (w64 (Int.tdiv (geti l1 z1) 4))) + 1))), (flush1 && ((Int.tmod (geti l1 z1) 4) == (Int.tmod (geti l1 0) 4))), (w64 (z1 + 1))), ⟨hF.weak [1, 3, 4, 13, 14] (by kernel_rfl), hS⟩, hm⟩
      · refine wpIn_block ?_
        obtain ⟨hp1, hm⟩ := asrt_b hm
        refine reg [⟨true, [], vS (Instr.index 233 (.agg (List.toArray (([] : List Value) ++ (arr1 (Value.int .i64) (0 : Int) 5 l1 ++ ([] : List Value))))) (.int .i64 z1)), .int .i64 (geti l1 z1)⟩] [some (.int .i64 (geti l1 z1)), none] [1, 3, 4, 6, 13, 14] [pl 1 (.pointer (some ⟨g1, 0, none⟩)), pl 3 (.pointer (some ⟨g2, 0, none⟩)), pl 4 (.bool flush1), pl 6 (.int .i64 (geti l1 z1)), pl 13 (.agg (List.toArray (([] : List Value) ++ (arr1 (Value.int .i64) (0 : Int) 5 l1 ++ ([] : List Value))))), pl 14 (.int .i64 z1)] hF hS Fol (by kernel_rfl) (by kernel_rfl) (by kernel_rfl) ?_ (fun a w hF hS => ?_)
        · exact obs_cons (ob_idx1 (f := (Value.int .i64)) (z := (0 : Int)) (m := l1) UndA233 (by kernel_rfl) (by kernel_rfl) (fun _ => hp1)) <| obs_nil
        refine seqR ?_
        obtain ⟨hp2, hm⟩ := asrt_b hm
        obtain ⟨hp3, hm⟩ := asrt_b hm
        obtain ⟨hp4, hm⟩ := asrt_b hm
        refine at_run 6 [⟨true, [], vS (Instr.indexAt 275 (.pointer (some ⟨g2, 0, none⟩)) (.int .i64 (w64 (Int.tdiv (geti l1 z1) 4)))), .pointer (some ((⟨g2, 0, none⟩ : Addr).add (Int.toNat (w64 (Int.tdiv (geti l1 z1) 4)) * 1)))⟩, ⟨false, [], vS (Instr.loadAt 3 (.pointer (some ((⟨g2, 0, none⟩ : Addr).add (Int.toNat (w64 (Int.tdiv (geti l1 z1) 4)) * 1))))), .int .i64 (geti many1 (w64 (Int.tdiv (geti l1 z1) 4)))⟩, ⟨true, [], vS (Instr.indexAt 275 (.pointer (some ⟨g2, 0, none⟩)) (.int .i64 (w64 (Int.tdiv (geti l1 z1) 4)))), .pointer (some ((⟨g2, 0, none⟩ : Addr).add (Int.toNat (w64 (Int.tdiv (geti l1 z1) 4)) * 1)))⟩] [none, none, some (.pointer (some ((⟨g2, 0, none⟩ : Addr).add (Int.toNat (w64 (Int.tdiv (geti l1 z1) 4)) * 1)))), some (.int .i64 (geti many1 (w64 (Int.tdiv (geti l1 z1) 4)))), none, some (.pointer (some ((⟨g2, 0, none⟩ : Addr).add (Int.toNat (w64 (Int.tdiv (geti l1 z1) 4)) * 1))))] [1, 3, 4, 6, 13, 14, 21, 22] [pl 1 (.pointer (some ⟨g1, 0, none⟩)), pl 3 (.pointer (some ⟨g2, 0, none⟩)), pl 4 (.bool flush1), pl 6 (.int .i64 (geti l1 z1)), pl 13 (.agg (List.toArray (([] : List Value) ++ (arr1 (Value.int .i64) (0 : Int) 5 l1 ++ ([] : List Value))))), pl 14 (.int .i64 z1), pl 21 (.int .i64 (w64 ((geti many1 (w64 (Int.tdiv (geti l1 z1) 4))) + 1))), pl 22 (.pointer (some ((⟨g2, 0, none⟩ : Addr).add (Int.toNat (w64 (Int.tdiv (geti l1 z1) 4)) * 1))))] hF hS (by kernel_rfl) (by kernel_rfl) ?_ (fun a w hF hS => ?_)
        · exact obs_cons (ob_ixA UndA275 hi3 hs3 (fun _ => hp2)) <| obs_cons (ob_getA (m := many1) (Value.int .i64) (0 : Int) 13 ([] : List Value) ([] : List Value) (w64 (Int.tdiv (geti l1 z1) 4)) Agg3 rfl (fun _ hS => ⟨_, _, _, _, _, hS.at_ 1 rfl⟩) (fun hy => by have h0 := hp2; omega)) <| obs_cons (ob_ixA UndA275 hi3 hs3 (fun _ => hp3)) <| obs_nil
        obtain ⟨w, hrun, hS⟩ := run_setA (P := Try.prog) (t := 3) (x := (w64 ((geti many1 (w64 (Int.tdiv (geti l1 z1) 4))) + 1))) (i := (w64 (Int.tdiv (geti l1 z1) 4))) (m := many1) (d := Int.toNat (w64 (Int.tdiv (geti l1 z1) 4)) * 1) (Value.int .i64) (0 : Int) 13 ([] : List Value) ([] : List Value) (hS.at_ 1 rfl) rfl hi3 hs3 rfl (by have h0 := hp3; omega) (by have h0 := hp3; have h9 := hp4; omega)
        refine at_skip hF (by kernel_rfl) hrun ?_
        have hS : Sep w0 B w (blk g1 233 (List.toArray (([] : List Value) ++ (arr1 (Value.int .i64) (0 : Int) 5 l1 ++ ([] : List Value)))) :: blk g2 275 (List.toArray (([] : List Value) ++ (arr1 (Value.int .i64) (0 : Int) 13 (many1.set (Int.toNat (w64 (Int.tdiv (geti l1 z1) 4))) (w64 ((geti many1 (w64 (Int.tdiv (geti l1 z1) 4))) + 1))) ++ ([] : List Value)))) :: fs) := hS
        refine at_end [1, 3, 4, 6, 13, 14] [pl 1 (.pointer (some ⟨g1, 0, none⟩)), pl 3 (.pointer (some ⟨g2, 0, none⟩)), pl 4 (.bool flush1), pl 6 (.int .i64 (geti l1 z1)), pl 13 (.agg (List.toArray (([] : List Value) ++ (arr1 (Value.int .i64) (0 : Int) 5 l1 ++ ([] : List Value))))), pl 14 (.int .i64 z1)] hF rfl (by kernel_rfl) (fun hF => ?_)
        refine then_n ?_
        obtain ⟨hp5, hm⟩ := asrt_b hm
        refine reg1 [⟨true, [(flush1, true)], vS (Instr.indexAt 233 (.pointer (some ⟨g1, 0, none⟩)) (.int .i64 0)), .pointer (some ((⟨g1, 0, none⟩ : Addr).add (Int.toNat 0 * 1)))⟩, ⟨false, [(flush1, true)], vS (Instr.loadAt 3 (.pointer (some ((⟨g1, 0, none⟩ : Addr).add (Int.toNat 0 * 1))))), .int .i64 (geti l1 0)⟩] [none, none, none, none, some (.pointer (some ((⟨g1, 0, none⟩ : Addr).add (Int.toNat 0 * 1)))), some (.int .i64 (geti l1 0)), none, none, none, none] [1, 3, 4, 13, 14] [pl 1 (.pointer (some ⟨g1, 0, none⟩)), pl 3 (.pointer (some ⟨g2, 0, none⟩)), pl 4 (.bool (flush1 && ((Int.tmod (geti l1 z1) 4) == (Int.tmod (geti l1 0) 4)))), pl 13 (.agg (List.toArray (([] : List Value) ++ (arr1 (Value.int .i64) (0 : Int) 5 l1 ++ ([] : List Value))))), pl 14 (.int .i64 z1)] hF hS Fol (by kernel_rfl) (by kernel_rfl) (by kernel_rfl) ?_ (fun a w hF hS => ?_)
        · exact obs_cons (ob_ixA UndA233 hi3 hs3 (fun hy => hp5 (hy (flush1, true) (by simp)))) <| obs_cons (ob_getA (m := l1) (Value.int .i64) (0 : Int) 5 ([] : List Value) ([] : List Value) 0 Agg3 rfl (fun _ hS => ⟨_, _, _, _, _, hS.at_ 0 rfl⟩) (fun hy => by have h0 := hp5 (hy (flush1, true) (by simp)); omega)) <| obs_nil
        refine block_n ?_
        refine then_n ?_
        exact ⟨hF.weak [1, 3, 4, 13, 14] (by kernel_rfl), hS, hm⟩
    · refine cond_ev (t := 15) (b := decide (z1 < 5)) hF (by kernel_rfl) (fun hb => ?_) (fun hb => ?_)
      · replace hm := if_t hm hb
        refine wpIn_skip ?_
        refine then_n ?_
        exact ⟨hF.weak [1, 3, 4, 13, 14] (by kernel_rfl), hS, hm⟩
      · replace hm := if_f hm hb
        refine wpIn_exit ?_
        refine then_e (then_e (block_e (then_n ?_)))
        have hS := hS.pickN 2 [1] (by decide)
        rw [← hφ1] at hm
        replace hm := done_b hm
        unfold poker_value_K1 at hm
        try dsimp only at hm
        have hm : (poker_value_J1 many1 flush1).bind some = some r := hm
        exact ⟨many1, flush1, hF.weak [3, 4] (by kernel_rfl), hS, hm⟩

noncomputable def slices_Clone_J1  (s1 : List Int) : Option (List Int) :=
  asrt ((0 : Int) + (s1.length : Int) ≤ bigN) <| some (([] : List Int) ++ s1)

noncomputable def slices_Clone_m  (s1 : List Int) : Option (List Int) :=
  (slices_Clone_J1 s1)

set_option maxRecDepth 100000 in
set_option maxHeartbeats 4000000 in
theorem slices_Clone_w  {A1 : Option Addr} {c1 : Nat} {n1 : Nat} {s1 : List Int} {r : (List Int)} {w0 w : World} {B : Nat} {fs : List HP} (hm : slices_Clone_m s1 = some r) (hS : Sep w0 B w (fs)) (hr_s1 : RdF w0 B fs A1 (vI s1)) (_hc_s1 : s1.length ≤ c1) (_hn_s1 : n1 = s1.length) :
    Calls Try.prog 81 #[.slice A1 n1 c1] w fun e w' => ∃ v, e = .returned v ∧ ∃ (A3 : Option Addr) (c3 : Nat), v = .slice A3 r.length c3 ∧ Sep w0 B w' (own 3 (.slice A3 r.length c3) (vI r) :: fs) := by
  obtain ⟨i3, hi3, hz3, hs3, hb3⟩ := info_parts Info3
  obtain rfl := _hn_s1
  unfold slices_Clone_m at hm
  replace hm := start_b hm
  refine enter (l := [.slice A1 s1.length c1]) (n := 8) Try.func81 rfl rfl (by simp) (fun a hF => ?_)
  refine reg [] [] [0] [pl 0 (.slice A1 s1.length c1)] hF hS Fol (by kernel_rfl) (by kernel_rfl) (by kernel_rfl) ?_ (fun a w hF hS => ?_)
  · exact obs_nil
  refine seq_cut (fun a w => Fr 8 [pl 0 (.slice A1 s1.length c1)] a ∧ Sep w0 B w (fs) ∧ ((slices_Clone_J1 s1)).bind some = some r) ?_ ?_
  · rintro a w ⟨hF, hS, hm⟩
    unfold slices_Clone_J1 at hm
    refine seqR ?_
    obtain ⟨hp1, hm⟩ := asrt_b hm
    refine at_do (d := 5) (s := vS (Instr.buildSlice 22 0 #[])) (v := .slice (some ⟨w.heap.size, 0, none⟩) 0 0) (w' := w.alloc (.cells #[] 3)) hF (by kernel_rfl) (by kernel_rfl) (by kernel_rfl) (fun a hF => ?_)
    have hS : Sep w0 B (w.alloc (.cells #[] 3)) (own 3 (.slice (some (⟨w.heap.size, 0, none⟩ : Addr)) 0 0) (vI ([] : List Int)) :: (fs)) := hS.lit 3 #[] 0 rfl (by omega)
    generalize (some (⟨w.heap.size, 0, none⟩ : Addr)) = g1 at hF hS
    generalize w.alloc (.cells #[] 3) = w at hS ⊢
    refine at_run 1 [] [] [5, 6] [pl 5 (.slice g1 0 0), pl 6 (.slice A1 s1.length c1)] hF hS (by kernel_rfl) (by kernel_rfl) ?_ (fun a w hF hS => ?_)
    · exact obs_nil
    obtain ⟨A2, c2, w, hrun, hS⟩ := run_app1 (P := Try.prog) (t := 22) (m := ([] : List Int)) (ys := s1) (A2 := A1) (m2 := s1.length) (c2 := c1) (Value.int .i64) (0 : Int) (hS.at_ 0 rfl) (hr_s1 _ (hS.dropN 1)) rfl 22 Und22 hi3 hz3 hs3 (by omega) rfl (fun _ => rfl) hp1
    have hS : Sep w0 B w (own 3 (.slice A2 ((([] : List Int) ++ s1).length) c2) (vI (([] : List Int) ++ s1)) :: fs) := hS
    refine at_do (d := 7) hF (by kernel_rfl) (by kernel_rfl) hrun (fun a hF => ?_)
    refine at_run 1 [] [] [2] [pl 2 (.slice A2 ((([] : List Int) ++ s1).length) c2)] hF hS (by kernel_rfl) (by kernel_rfl) ?_ (fun a w hF hS => ?_)
    · exact obs_nil
    refine at_end [2] [pl 2 (.slice A2 ((([] : List Int) ++ s1).length) c2)] hF rfl (by kernel_rfl) (fun hF => ?_)
    refine then_n ?_
    refine wpIn_ret ?_
    have hm : some (([] : List Int) ++ s1) = some r := hm
    obtain rfl := Option.some.inj hm
    exact retV (rs := [.tmp 2]) (vs := [.slice A2 ((([] : List Int) ++ s1).length) c2]) hF rfl (rv_t (by kernel_rfl) <| rv_nil) rfl ⟨_, rfl, A2, c2, rfl, hS⟩
  · refine reg [⟨true, [], vS (binOp .eql 22 (.slice A1 s1.length c1) (.slice none 0 0)), .bool A1.isNone⟩] [none, some (.bool A1.isNone)] [0, 4] [pl 0 (.slice A1 s1.length c1), pl 4 (.bool A1.isNone)] hF hS Fol (by kernel_rfl) (by kernel_rfl) (by kernel_rfl) ?_ (fun a w hF hS => ?_)
    · exact obs_cons (ob_isnil Und22 rfl) <| obs_nil
    refine cond_ev (t := 4) (b := A1.isNone) hF (by kernel_rfl) (fun hb => ?_) (fun hb => ?_)
    · have hA9 := Option.isNone_iff_eq_none.1 hb
      have hnil9 : s1 = [] := by have h9 := (hr_s1 _ (hS.dropN 0)); rw [hA9] at h9; exact h9.none_nil
      have hm : (some ([] : List Int)).bind some = some r := by rw [hnil9] at hm; simpa [asrt, bigN, slices_Clone_J1] using hm
      refine reg [] [] [2] [pl 2 (.slice none 0 0)] hF hS Fol (by kernel_rfl) (by kernel_rfl) (by kernel_rfl) ?_ (fun a w hF hS => ?_)
      · exact obs_nil
      refine wpIn_ret ?_
      refine then_r ?_
      have hS : Sep w0 B w (own 3 (.slice none 0 0) (vI ([] : List Int)) :: fs) := hS.nil 3
      have hl1 := (hS.at_ 0 rfl).len1
      have hS := (hS.at_ 0 rfl).reN hl1
      have hS : Sep w0 B w (own 3 (.slice none (([] : List Int).length) 0) (vI ([] : List Int)) :: fs) := hS
      have hm : some ([] : List Int) = some r := hm
      obtain rfl := Option.some.inj hm
      exact retV (rs := [.tmp 2]) (vs := [.slice none (([] : List Int).length) 0]) hF rfl (rv_t (by kernel_rfl) <| rv_nil) rfl ⟨_, rfl, none, 0, rfl, hS⟩
    · refine wpIn_skip ?_
      refine then_n ?_
      exact ⟨hF.weak [0] (by kernel_rfl), hS, hm⟩

noncomputable def poker_best_J1  (top2 : Int) (who2 : List Int) : Option (Int × List Int) :=
  some (top2, who2)

noncomputable def poker_best_K1  : (St (Int × List Int) Unit) → Option (Int × List Int) :=
  fun (x : St (Int × List Int) Unit) => match x with | .next (top1, who1) => poker_best_J1 top1 who1 | .done _ => none

noncomputable def poker_best_L1  : ((List Int × List Int) × (Int × List Int)) → Option (St (Int × List Int) Unit) :=
  fun (x : (List Int × List Int) × (Int × List Int)) => match x with | ((x1, x2), (top1, who1)) => (poker_value_m x2).bind fun r2 => if (decide (top1 < r2)) then ((slices_Clone_m (pad 5 x2)).bind fun r3 => some (.next (r2, r3))) else (some (.next (top1, who1)))

noncomputable def poker_best_m  (l1 : List Int) : Option (Int × List Int) :=
  (poker_fives_m l1).bind fun r1 => (poker_fives_1_m (ydOf (fun x s => poker_best_L1 (x, s))) (.next ((-1), ([] : List Int))) l1).bind poker_best_K1

set_option maxRecDepth 100000 in
set_option maxHeartbeats 4000000 in
theorem poker_best_w  {A1 : Option Addr} {c1 : Nat} {n1 : Nat} {l1 : List Int} {r : (Int × List Int)} {w0 w : World} {B : Nat} {fs : List HP} (hm : poker_best_m l1 = some r) (hS : Sep w0 B w (fs)) (hr_l1 : RdF w0 B fs A1 (vI l1)) (_hc_l1 : l1.length ≤ c1) (_hn_l1 : n1 = l1.length) :
    Calls Try.prog 114 #[.slice A1 n1 c1] w fun e w' => ∃ v, e = .returned v ∧ ∃ (A5 : Option Addr) (c5 : Nat), v = .tuple #[.int .i64 r.1, .slice A5 r.2.length c5] ∧ Sep w0 B w' (own 3 (.slice A5 r.2.length c5) (vI r.2) :: fs) := by
  obtain ⟨i3, hi3, hz3, hs3, hb3⟩ := info_parts Info3
  obtain ⟨i22, hi22, hz22, hs22, hb22⟩ := info_parts Info22
  obtain rfl := _hn_l1
  unfold poker_best_m at hm
  replace hm := start_b hm
  refine enter (l := [.slice A1 l1.length c1]) (n := 23) Try.func114 rfl rfl (by simp) (fun a hF => ?_)
  have hS := hS.defs0
  refine reg [] [] [0] [pl 0 (.slice A1 l1.length c1)] hF hS Fol (by kernel_rfl) (by kernel_rfl) (by kernel_rfl) ?_ (fun a w hF hS => ?_)
  · exact obs_nil
  refine seqR ?_
  refine at_do (d := 4) (s := vS (Instr.alloc 3 true (.tuple #[]))) (v := .pointer (some ⟨w.heap.size, 0, none⟩)) (w' := w.alloc (.cells #[.int .i64 0] 3)) hF (by kernel_rfl) (by kernel_rfl) (by kernel_rfl) (fun a hF => ?_)
  have hS : Sep w0 B (w.alloc (.cells #[.int .i64 0] 3)) (blk w.heap.size 3 #[.int .i64 0] :: (defsH ([]) :: fs)) := hS.box 3 #[.int .i64 0]
  generalize w.heap.size = g1 at hF hS
  generalize w.alloc (.cells #[.int .i64 0] 3) = w at hS ⊢
  refine at_do (d := 5) (s := vS (Instr.alloc 22 true (.tuple #[]))) (v := .pointer (some ⟨w.heap.size, 0, none⟩)) (w' := w.alloc (.cells #[.slice none 0 0] 22)) hF (by kernel_rfl) (by kernel_rfl) (by kernel_rfl) (fun a hF => ?_)
  have hS : Sep w0 B (w.alloc (.cells #[.slice none 0 0] 22)) (blk w.heap.size 22 #[.slice none 0 0] :: (blk g1 3 #[.int .i64 0] :: defsH ([]) :: fs)) := hS.box 22 #[.slice none 0 0]
  generalize w.heap.size = g2 at hF hS
  generalize w.alloc (.cells #[.slice none 0 0] 22) = w at hS ⊢
  obtain ⟨w, hrun, hS⟩ := run_put (P := Try.prog) (t := 3) (u := .int .i64 (-1)) (i := 0) (hS.at_ 1 rfl) hi3 hs3 rfl (Nat.lt_of_lt_of_eq (Nat.lt_of_succ_le (Nat.le_of_ble_eq_true (by kernel_rfl))) rfl)
  refine at_skip hF (by kernel_rfl) hrun ?_
  have hS : Sep w0 B w (blk g2 22 #[.slice none 0 0] :: blk g1 3 #[.int .i64 (-1)] :: defsH ([]) :: fs) := hS
  obtain ⟨w, hrun, hS⟩ := run_put (P := Try.prog) (t := 22) (u := .slice none 0 0) (i := 0) (hS.at_ 0 rfl) hi22 hs22 rfl (Nat.lt_of_lt_of_eq (Nat.lt_of_succ_le (Nat.le_of_ble_eq_true (by kernel_rfl))) rfl)
  refine at_skip hF (by kernel_rfl) hrun ?_
  have hS : Sep w0 B w (blk g2 22 #[.slice none 0 0] :: blk g1 3 #[.int .i64 (-1)] :: defsH ([]) :: fs) := hS
  refine at_end [0, 4, 5] [pl 0 (.slice A1 l1.length c1), pl 4 (.pointer (some ⟨g1, 0, none⟩)), pl 5 (.pointer (some ⟨g2, 0, none⟩))] hF rfl (by kernel_rfl) (fun hF => ?_)
  refine then_n ?_
  refine seq_cut (fun a w => ∃ (top2 : Int) (who2 : List Int) (A4 : Option Addr) (c4 : Nat) (Ds2 : List Nat), FrD Ds2 23 [pl 4 (.pointer (some ⟨g1, 0, none⟩)), pl 5 (.pointer (some ⟨g2, 0, none⟩))] a ∧ Sep w0 B w (blk g1 3 #[.int .i64 top2] :: blk g2 22 #[.slice A4 who2.length c4] :: own 3 (.slice A4 who2.length c4) (vI who2) :: defsH Ds2 :: fs) ∧ (poker_best_J1 top2 who2).bind some = some r) ?_ ?_
  · rintro a w ⟨top2, who2, A4, c4, Ds2, hF, hS, hm⟩
    unfold poker_best_J1 at hm
    refine reg [⟨false, [], vS (Instr.loadAt 3 (.pointer (some ⟨g1, 0, none⟩))), .int .i64 top2⟩, ⟨false, [], vS (Instr.loadAt 22 (.pointer (some ⟨g2, 0, none⟩))), .slice A4 who2.length c4⟩] [some (.int .i64 top2), some (.slice A4 who2.length c4), none, none] [2, 3] [pl 2 (.int .i64 top2), pl 3 (.slice A4 who2.length c4)] hF hS Fol (by kernel_rfl) (by kernel_rfl) (by kernel_rfl) ?_ (fun a w hF hS => ?_)
    · exact obs_cons (ob_load Agg3 (fun _ _ hS => (hS.at_ 0 rfl).cell rfl)) <| obs_cons (ob_load Agg22 (fun _ _ hS => (hS.at_ 1 rfl).cell rfl)) <| obs_nil
    refine wpIn_ret ?_
    have hS := hS.pickN 4 [3, 0, 1, 2] (by decide)
    have hm : some (top2, who2) = some r := hm
    obtain rfl := Option.some.inj hm
    exact retD (rs := [.tmp 2, .tmp 3]) (vs := [.int .i64 top2, .slice A4 who2.length c4]) hF hS rfl (fun w hS => by exact rv_t (by kernel_rfl) <| rv_t (by kernel_rfl) <| rv_nil) rfl (fun w hS => ⟨_, rfl, A4, c4, rfl, hS.pickN 3 [2] (by decide)⟩)
  · refine seqR ?_
    obtain ⟨r1, hr1, hm⟩ := call_b hm
    refine at_run 1 [] [] [4, 5, 9] [pl 4 (.pointer (some ⟨g1, 0, none⟩)), pl 5 (.pointer (some ⟨g2, 0, none⟩)), pl 9 (.slice A1 l1.length c1)] hF hS (by kernel_rfl) (by kernel_rfl) ?_ (fun a w hF hS => ?_)
    · exact obs_nil
    refine at_call (f := 194) (args := #[.slice A1 l1.length c1]) (d := 10) hF (by kernel_rfl) (by kernel_rfl) Try.func194 (by kernel_rfl) rfl (poker_fives_w hr1 hS (fun _ hS => (hr_l1 _ (hS.dropN 3))) _hc_l1 rfl) (fun v a w hR hF => ?_)
    clear hS
    obtain ⟨g3, rfl, hS⟩ := hR
    have hS : Sep w0 B w (blk g3 22 #[.slice A1 l1.length c1] :: blk g2 22 #[.slice none 0 0] :: blk g1 3 #[.int .i64 (-1)] :: defsH ([]) :: fs) := hS
    refine at_end [4, 5, 10] [pl 4 (.pointer (some ⟨g1, 0, none⟩)), pl 5 (.pointer (some ⟨g2, 0, none⟩)), pl 10 (.func (.func 243) #[] #[.pointer (some ⟨g3, 0, none⟩)])] hF rfl (by kernel_rfl) (fun hF => ?_)
    refine then_n ?_
    refine wpIn_block ?_
    have hS : Sep w0 B w (own 3 (.slice none 0 0) (vI ([] : List Int)) :: blk g3 22 #[.slice A1 l1.length c1] :: blk g2 22 #[.slice none 0 0] :: blk g1 3 #[.int .i64 (-1)] :: defsH ([]) :: fs) := hS.nil 3
    have hS : Sep w0 B w (own 3 (.slice none 0 0) (vI ([] : List Int)) :: blk g3 22 #[.slice A1 l1.length c1] :: blk g2 22 #[.slice none 0 0] :: blk g1 3 #[.int .i64 (-1)] :: defsH ([]) :: fs) := hS
    have hl1 := (hS.at_ 0 rfl).len1
    have hS := (hS.at_ 0 rfl).reN hl1
    have hS := (hS.at_ 2 rfl).reBlk (congrArg (fun k9 => (#[.slice none k9 0] : Array Value)) hl1)
    have hS : Sep w0 B w (own 3 (.slice none (([] : List Int).length) 0) (vI ([] : List Int)) :: blk g3 22 #[.slice A1 l1.length c1] :: blk g2 22 #[.slice none (([] : List Int).length) 0] :: blk g1 3 #[.int .i64 (-1)] :: defsH ([]) :: fs) := hS
    have hS := hS.pickN 5 [3, 2, 0, 4, 1] (by decide)
    obtain ⟨y1, hy1, hm⟩ := call_b hm
    refine range_out (ρ := [pl 4 (.pointer (some ⟨g1, 0, none⟩)), pl 5 (.pointer (some ⟨g2, 0, none⟩)), pl 10 (.func (.func 243) #[] #[.pointer (some ⟨g3, 0, none⟩)])]) (lb := [.pointer (some ⟨g3, 0, none⟩)]) (y := y1) (enc := (fun (x : (List Int × List Int)) => #[.agg (List.toArray (([] : List Value) ++ (arr1 (Value.int .i64) (0 : Int) 5 x.1 ++ ([] : List Value)))), .agg (List.toArray (([] : List Value) ++ (arr1 (Value.int .i64) (0 : Int) 5 x.2 ++ ([] : List Value))))])) (qs := [blk g1 3 #[.int .i64 (-1)], blk g2 22 #[.slice none (([] : List Int).length) 0], own 3 (.slice none (([] : List Int).length) 0) (vI ([] : List Int))]) (fun (x : (List Int × List Int)) => [(11, .agg (List.toArray (([] : List Value) ++ (arr1 (Value.int .i64) (0 : Int) 5 x.1 ++ ([] : List Value))))), (12, .agg (List.toArray (([] : List Value) ++ (arr1 (Value.int .i64) (0 : Int) 5 x.2 ++ ([] : List Value)))))]) (fun (s : (Int × List Int)) qs => ∃ (A2 : Option Addr) (c2 : Nat), qs = [blk g1 3 #[.int .i64 s.1], blk g2 22 #[.slice A2 s.2.length c2], own 3 (.slice A2 s.2.length c2) (vI s.2)]) (fun (_ : Unit) _ _ => False) (fun x s => poker_best_L1 (x, s)) ((-1), ([] : List Int)) (hF.weak [4, 5, 10] (by kernel_rfl)) hS (by kernel_rfl) Try.func243 (by kernel_rfl) rfl (by kernel_rfl) (by intro x; simp) (fun _ => rfl) (fun x p hp => ?_) ⟨none, 0, rfl⟩ ?_ ?_ ?_ ?_
    · simp only [List.mem_cons, List.not_mem_nil, or_false] at hp
      rcases hp with rfl | rfl <;> (dsimp only; decide)
    · intro lr1 D1 RS w hY hS
      exact Calls.mono (poker_fives_1_w hy1 (hS.pickN 3 [0, 2, 1] (by decide)) (YieldC.perm (blk g3 22 #[.slice A1 l1.length c1] :: defsH (D1 :: ([])) :: fs) hY (fun hS => hS.pickN 3 [0, 2, 1] (by decide)) (fun hS => hS.pickN 3 [0, 2, 1] (by decide))) (fun _ hS => (hr_l1 _ (hS.dropN 1))) _hc_l1 rfl) (fun e w' h => by obtain ⟨_, rfl, _, hS⟩ := h; exact hS.pickN 3 [0, 2, 1] (by decide))
    · rintro lr1 D1 rr1 ⟨x1, x2⟩ ⟨top1, who1⟩ r qs us1 a w hrr1 hm hI hF hS
      obtain ⟨A2, c2, rfl⟩ := hI
      replace hm := start_b hm
      unfold poker_best_L1 at hm
      dsimp only at hm hF hS
      have hF : Fr 23 [pl 4 (.pointer (some ⟨g1, 0, none⟩)), pl 5 (.pointer (some ⟨g2, 0, none⟩)), pl 10 (.func (.func 243) #[] #[.pointer (some ⟨g3, 0, none⟩)]), pl 11 (.agg (List.toArray (([] : List Value) ++ (arr1 (Value.int .i64) (0 : Int) 5 x1 ++ ([] : List Value))))), pl 12 (.agg (List.toArray (([] : List Value) ++ (arr1 (Value.int .i64) (0 : Int) 5 x2 ++ ([] : List Value)))))] a := hF.weak [4, 5, 10, 11, 12] (by kernel_rfl)
      have hS : Sep w0 B w (recH lr1 rr1 :: blk g1 3 #[.int .i64 top1] :: blk g2 22 #[.slice A2 who1.length c2] :: own 3 (.slice A2 who1.length c2) (vI who1) :: defsH (D1 :: ([])) :: blk g3 22 #[.slice A1 l1.length c1] :: (fs ++ us1)) := hS
      refine oneR ?_
      refine at_do (d := 7) (s := vS (Instr.alloc 233 true (.tuple #[]))) (v := .pointer (some ⟨w.heap.size, 0, none⟩)) (w' := w.alloc (.cells (List.toArray (([] : List Value) ++ (arr1 (Value.int .i64) (0 : Int) 5 (List.replicate 5 (0 : Int)) ++ ([] : List Value)))) 233)) hF (by kernel_rfl) (by kernel_rfl) (by kernel_rfl) (fun a hF => ?_)
      have hS : Sep w0 B (w.alloc (.cells (List.toArray (([] : List Value) ++ (arr1 (Value.int .i64) (0 : Int) 5 (List.replicate 5 (0 : Int)) ++ ([] : List Value)))) 233)) (blk w.heap.size 233 (List.toArray (([] : List Value) ++ (arr1 (Value.int .i64) (0 : Int) 5 (List.replicate 5 (0 : Int)) ++ ([] : List Value)))) :: (recH lr1 rr1 :: blk g1 3 #[.int .i64 top1] :: blk g2 22 #[.slice A2 who1.length c2] :: own 3 (.slice A2 who1.length c2) (vI who1) :: defsH (D1 :: ([])) :: blk g3 22 #[.slice A1 l1.length c1] :: (fs ++ us1))) := hS.box 233 (List.toArray (([] : List Value) ++ (arr1 (Value.int .i64) (0 : Int) 5 (List.replicate 5 (0 : Int)) ++ ([] : List Value))))
      generalize w.heap.size = g4 at hF hS
      generalize w.alloc (.cells (List.toArray (([] : List Value) ++ (arr1 (Value.int .i64) (0 : Int) 5 (List.replicate 5 (0 : Int)) ++ ([] : List Value)))) 233) = w at hS ⊢
      obtain ⟨w, hrun, hS⟩ := run_putA (P := Try.prog) (t := 233) (us := (List.toArray (([] : List Value) ++ (arr1 (Value.int .i64) (0 : Int) 5 x2 ++ ([] : List Value))))) (o := 0) (hS.at_ 0 rfl) (by kernel_rfl) (all_one (by kernel_rfl)) (Nat.le_of_ble_eq_true (by kernel_rfl))
      refine at_skip hF (by kernel_rfl) hrun ?_
      have hS : Sep w0 B w (blk g4 233 (List.toArray (([] : List Value) ++ (arr1 (Value.int .i64) (0 : Int) 5 x2 ++ ([] : List Value)))) :: recH lr1 rr1 :: blk g1 3 #[.int .i64 top1] :: blk g2 22 #[.slice A2 who1.length c2] :: own 3 (.slice A2 who1.length c2) (vI who1) :: defsH (D1 :: ([])) :: blk g3 22 #[.slice A1 l1.length c1] :: (fs ++ us1)) := hS
      refine at_end [4, 5, 7] [pl 4 (.pointer (some ⟨g1, 0, none⟩)), pl 5 (.pointer (some ⟨g2, 0, none⟩)), pl 7 (.pointer (some ⟨g4, 0, none⟩))] hF rfl (by kernel_rfl) (fun hF => ?_)
      refine then_n ?_
      have hS := hS.pickN 7 [1, 0, 2, 3, 4, 5, 6] (by decide)
      refine begin_r hS hrr1 (fun w hS => ?_)
      have hS : Sep w0 B w (recH lr1 { rr1 with state := .busy } :: blk g4 233 (List.toArray (([] : List Value) ++ (arr1 (Value.int .i64) (0 : Int) 5 x2 ++ ([] : List Value)))) :: blk g1 3 #[.int .i64 top1] :: blk g2 22 #[.slice A2 who1.length c2] :: own 3 (.slice A2 who1.length c2) (vI who1) :: defsH (D1 :: ([])) :: blk g3 22 #[.slice A1 l1.length c1] :: (fs ++ us1)) := hS
      refine wpIn_block ?_
      obtain ⟨r2, hr2, hm⟩ := call_b hm
      refine reg [⟨false, [], vS (Instr.loadAt 233 (.pointer (some ⟨g4, 0, none⟩))), .agg (List.toArray (([] : List Value) ++ (arr1 (Value.int .i64) (0 : Int) 5 x2 ++ ([] : List Value))))⟩, ⟨false, [], callFunc 195 #[.agg (List.toArray (([] : List Value) ++ (arr1 (Value.int .i64) (0 : Int) 5 x2 ++ ([] : List Value))))], .int .i64 r2⟩] [some (.agg (List.toArray (([] : List Value) ++ (arr1 (Value.int .i64) (0 : Int) 5 x2 ++ ([] : List Value))))), some (.int .i64 r2), none] [4, 5, 7, 8] [pl 4 (.pointer (some ⟨g1, 0, none⟩)), pl 5 (.pointer (some ⟨g2, 0, none⟩)), pl 7 (.pointer (some ⟨g4, 0, none⟩)), pl 8 (.int .i64 r2)] hF hS Fol (by kernel_rfl) (by kernel_rfl) (by kernel_rfl) ?_ (fun a w hF hS => ?_)
      · exact obs_cons (ob_loadA (cs := (List.toArray (([] : List Value) ++ (arr1 (Value.int .i64) (0 : Int) 5 x2 ++ ([] : List Value))))) (by kernel_rfl) (by kernel_rfl) (fun _ _ hS => (hS.at_ 1 rfl).cellsAt 0 (by rfl))) <| obs_cons (ob_call Try.func195 (by kernel_rfl) rfl (fun _ _ hS => poker_value_w hr2 hS )) <| obs_nil
      refine reg [⟨false, [], vS (Instr.loadAt 3 (.pointer (some ⟨g1, 0, none⟩))), .int .i64 top1⟩] [none, some (.int .i64 top1), none] [4, 5, 7, 8, 17] [pl 4 (.pointer (some ⟨g1, 0, none⟩)), pl 5 (.pointer (some ⟨g2, 0, none⟩)), pl 7 (.pointer (some ⟨g4, 0, none⟩)), pl 8 (.int .i64 r2), pl 17 (.bool (decide (top1 < r2)))] hF hS Fol (by kernel_rfl) (by kernel_rfl) (by kernel_rfl) ?_ (fun a w hF hS => ?_)
      · exact obs_cons (ob_load Agg3 (fun _ _ hS => (hS.at_ 2 rfl).cell rfl)) <| obs_nil
      refine cond_ev (t := 17) (b := decide (top1 < r2)) hF (by kernel_rfl) (fun hb => ?_) (fun hb => ?_)
      · replace hm := if_t hm hb
        refine oneR ?_
        obtain ⟨r3, hr3, hm⟩ := call_b hm
        refine at_run 2 [⟨true, [], vS (Instr.sliceAt 233 (.pointer (some ⟨g4, 0, none⟩)) none none none), .slice (some (⟨g4, 0, none⟩ : Addr)) 5 5⟩] [none, some (.slice (some (⟨g4, 0, none⟩ : Addr)) 5 5)] [4, 5, 18, 19] [pl 4 (.pointer (some ⟨g1, 0, none⟩)), pl 5 (.pointer (some ⟨g2, 0, none⟩)), pl 18 (.int .i64 r2), pl 19 (.slice (some (⟨g4, 0, none⟩ : Addr)) 5 5)] hF hS (by kernel_rfl) (by kernel_rfl) ?_ (fun a w hF hS => ?_)
        · exact obs_cons (ob_sliceB UndA233 hi3) <| obs_nil
        refine at_call (f := 81) (args := #[.slice (some (⟨g4, 0, none⟩ : Addr)) 5 5]) (d := 20) hF (by kernel_rfl) (by kernel_rfl) Try.func81 (by kernel_rfl) rfl (slices_Clone_w hr3 hS (fun _ hS => (rdBlk0 ([] : List Value) ([] : List Value) (hS.at_ 1 rfl) rfl)) (pad_cap0 5 _) (pad_len0 5 _)) (fun v a w hR hF => ?_)
        clear hS
        obtain ⟨A3, c3, rfl, hS⟩ := hR
        have hS : Sep w0 B w (own 3 (.slice A3 r3.length c3) (vI r3) :: recH lr1 { rr1 with state := .busy } :: blk g4 233 (List.toArray (([] : List Value) ++ (arr1 (Value.int .i64) (0 : Int) 5 x2 ++ ([] : List Value)))) :: blk g1 3 #[.int .i64 top1] :: blk g2 22 #[.slice A2 who1.length c2] :: own 3 (.slice A2 who1.length c2) (vI who1) :: defsH (D1 :: ([])) :: blk g3 22 #[.slice A1 l1.length c1] :: (fs ++ us1)) := hS
        obtain ⟨w, hrun, hS⟩ := run_put (P := Try.prog) (t := 3) (u := .int .i64 r2) (i := 0) (hS.at_ 3 rfl) hi3 hs3 rfl (Nat.lt_of_lt_of_eq (Nat.lt_of_succ_le (Nat.le_of_ble_eq_true (by kernel_rfl))) rfl)
        refine at_skip hF (by kernel_rfl) hrun ?_
        have hS : Sep w0 B w (own 3 (.slice A3 r3.length c3) (vI r3) :: recH lr1 { rr1 with state := .busy } :: blk g4 233 (List.toArray (([] : List Value) ++ (arr1 (Value.int .i64) (0 : Int) 5 x2 ++ ([] : List Value)))) :: blk g1 3 #[.int .i64 r2] :: blk g2 22 #[.slice A2 who1.length c2] :: own 3 (.slice A2 who1.length c2) (vI who1) :: defsH (D1 :: ([])) :: blk g3 22 #[.slice A1 l1.length c1] :: (fs ++ us1)) := hS
        obtain ⟨w, hrun, hS⟩ := run_put (P := Try.prog) (t := 22) (u := .slice A3 r3.length c3) (i := 0) (hS.at_ 4 rfl) hi22 hs22 rfl (Nat.lt_of_lt_of_eq (Nat.lt_of_succ_le (Nat.le_of_ble_eq_true (by kernel_rfl))) rfl)
        refine at_skip hF (by kernel_rfl) hrun ?_
        have hS : Sep w0 B w (own 3 (.slice A3 r3.length c3) (vI r3) :: recH lr1 { rr1 with state := .busy } :: blk g4 233 (List.toArray (([] : List Value) ++ (arr1 (Value.int .i64) (0 : Int) 5 x2 ++ ([] : List Value)))) :: blk g1 3 #[.int .i64 r2] :: blk g2 22 #[.slice A3 r3.length c3] :: own 3 (.slice A2 who1.length c2) (vI who1) :: defsH (D1 :: ([])) :: blk g3 22 #[.slice A1 l1.length c1] :: (fs ++ us1)) := hS
        refine at_end [] [] hF rfl (by kernel_rfl) (fun hF => ?_)
        refine block_n ?_
        have hS := hS.pickN 8 [1, 3, 4, 0, 6, 7] (by decide)
        have hm : some (.next (r2, r3)) = some r := hm
        obtain rfl := Option.some.inj hm
        exact ⟨_, _, rfl, ⟨A3, c3, rfl⟩, hS⟩
      · replace hm := if_f hm hb
        refine wpIn_skip ?_
        refine block_n ?_
        have hS := hS.pickN 7 [0, 2, 3, 4, 5, 6] (by decide)
        have hm : some (.next (top1, who1)) = some r := hm
        obtain rfl := Option.some.inj hm
        exact ⟨_, _, rfl, ⟨A2, c2, rfl⟩, hS⟩
    · rintro ⟨top1, who1⟩ D1 qs a w hy1e hI hF hS
      obtain ⟨A2, c2, rfl⟩ := hI
      rw [hy1e] at hm
      unfold poker_best_K1 at hm
      dsimp only at hm hF hS
      have hF : FrD (D1 :: ([])) 23 [pl 4 (.pointer (some ⟨g1, 0, none⟩)), pl 5 (.pointer (some ⟨g2, 0, none⟩)), pl 10 (.func (.func 243) #[] #[.pointer (some ⟨g3, 0, none⟩)])] a := hF
      have hS : Sep w0 B w (blk g1 3 #[.int .i64 top1] :: blk g2 22 #[.slice A2 who1.length c2] :: own 3 (.slice A2 who1.length c2) (vI who1) :: defsH (D1 :: ([])) :: blk g3 22 #[.slice A1 l1.length c1] :: fs) := hS
      refine block_n ?_
      refine then_n ?_
      have hS := hS.pickN 5 [0, 1, 2, 3] (by decide)
      exact ⟨top1, who1, A2, c2, (D1 :: ([])), hF.weak [4, 5] (by kernel_rfl), hS, hm⟩
    · intro x c D1 qs a w _ h
      exact h.elim

noncomputable def gameroomref_within_m  (n1 : Int) (low1 : Int) (high1 : Int) : Option Bool :=
  some ((decide (low1 ≤ n1)) && (decide (n1 ≤ high1)))

set_option maxRecDepth 100000 in
set_option maxHeartbeats 4000000 in
theorem gameroomref_within_w  {n1 : Int} {low1 : Int} {high1 : Int} {r : Bool} {w0 w : World} {B : Nat} {fs : List HP} (hm : gameroomref_within_m n1 low1 high1 = some r) (hS : Sep w0 B w (fs)) :
    Calls Try.prog 85 #[.int .i64 n1, .int .i64 low1, .int .i64 high1] w fun e w' => e = .returned (.bool r) ∧ Sep w0 B w' (fs) := by
  unfold gameroomref_within_m at hm
  replace hm := start_b hm
  refine enter (l := [.int .i64 n1, .int .i64 low1, .int .i64 high1]) (n := 15) Try.func85 rfl rfl (by simp) (fun a hF => ?_)
  refine reg [] [] [0, 1, 2] [pl 0 (.int .i64 n1), pl 1 (.int .i64 low1), pl 2 (.int .i64 high1)] hF hS Fol (by kernel_rfl) (by kernel_rfl) (by kernel_rfl) ?_ (fun a w hF hS => ?_)
  · exact obs_nil
  refine reg [] [] [6] [pl 6 (.bool ((decide (low1 ≤ n1)) && (decide (n1 ≤ high1))))] hF hS Fol (by kernel_rfl) (by kernel_rfl) (by kernel_rfl) ?_ (fun a w hF hS => ?_)
  · exact obs_nil
  refine wpIn_ret ?_
  have hm : some ((decide (low1 ≤ n1)) && (decide (n1 ≤ high1))) = some r := hm
  obtain rfl := Option.some.inj hm
  exact retV (rs := [.tmp 6]) (vs := [.bool ((decide (low1 ≤ n1)) && (decide (n1 ≤ high1)))]) hF rfl (rv_t (by kernel_rfl) <| rv_nil) rfl ⟨rfl, hS⟩

noncomputable def gameroomref_at_J3  (i1 : Int) : Option (St Int (Fl Unit Int)) :=
  some (.next (w64 (i1 + 1)))

noncomputable def gameroomref_at_J2  (l1 : List Int) (n2 : Int) (i1 : Int) : Option (St Int (Fl Unit Int)) :=
  asrt (0 ≤ i1 ∧ i1 < (l1.length : Int)) <| if ((geti l1 i1) == n2) then (some (.done (.ret i1))) else ((gameroomref_at_J3 i1))

noncomputable def gameroomref_at_J1  : Option Int :=
  some (-1)

noncomputable def gameroomref_at_K1  : (Fl Unit Int) → Option Int :=
  fun (x : (Fl Unit Int)) => match x with | .go _ => gameroomref_at_J1 | .ret x => some x

noncomputable def gameroomref_at_L1  (l1 : List Int) (n2 : Int) : Int → Option (St Int (Fl Unit Int)) :=
  fun (x : Int) => match x with | i1 => if (decide (i1 < (l1.length : Int))) then ((gameroomref_at_J2 l1 n2 i1)) else (some (.done (.go ())))

noncomputable def gameroomref_at_m  (l1 : List Int) (n2 : Int) : Option Int :=
  (loop (gameroomref_at_L1 l1 n2) 0).bind gameroomref_at_K1

set_option maxRecDepth 100000 in
set_option maxHeartbeats 4000000 in
theorem gameroomref_at_w  {A1 : Option Addr} {c1 : Nat} {n1 : Nat} {l1 : List Int} {n2 : Int} {r : Int} {w0 w : World} {B : Nat} {fs : List HP} (hm : gameroomref_at_m l1 n2 = some r) (hS : Sep w0 B w (fs)) (hr_l1 : RdF w0 B fs A1 (vI l1)) (_hc_l1 : l1.length ≤ c1) (_hn_l1 : n1 = l1.length) :
    Calls Try.prog 110 #[.slice A1 n1 c1, .int .i64 n2] w fun e w' => e = .returned (.int .i64 r) ∧ Sep w0 B w' (fs) := by
  obtain ⟨i3, hi3, hz3, hs3, hb3⟩ := info_parts Info3
  obtain rfl := _hn_l1
  unfold gameroomref_at_m at hm
  replace hm := start_b hm
  refine enter (l := [.slice A1 l1.length c1, .int .i64 n2]) (n := 19) Try.func110 rfl rfl (by simp) (fun a hF => ?_)
  refine reg [] [] [0, 1] [pl 0 (.slice A1 l1.length c1), pl 1 (.int .i64 n2)] hF hS Fol (by kernel_rfl) (by kernel_rfl) (by kernel_rfl) ?_ (fun a w hF hS => ?_)
  · exact obs_nil
  refine seq_cut (fun a w => Fr 19 [] a ∧ Sep w0 B w (fs) ∧ (gameroomref_at_J1).bind some = some r) ?_ ?_
  · rintro a w ⟨hF, hS, hm⟩
    unfold gameroomref_at_J1 at hm
    refine reg [] [] [4] [pl 4 (.int .i64 (-1))] hF hS Fol (by kernel_rfl) (by kernel_rfl) (by kernel_rfl) ?_ (fun a w hF hS => ?_)
    · exact obs_nil
    refine wpIn_ret ?_
    have hm : some (-1) = some r := hm
    obtain rfl := Option.some.inj hm
    exact retV (rs := [.tmp 4]) (vs := [.int .i64 (-1)]) hF rfl (rv_t (by kernel_rfl) <| rv_nil) rfl ⟨rfl, hS⟩
  · refine reg [] [] [0, 1, 5] [pl 0 (.slice A1 l1.length c1), pl 1 (.int .i64 n2), pl 5 (.int .i64 0)] hF hS Fol (by kernel_rfl) (by kernel_rfl) (by kernel_rfl) ?_ (fun a w hF hS => ?_)
    · exact obs_nil
    refine wpIn_block ?_
    refine wp_loop_model (S := Int) (R := (Fl Unit Int)) (gameroomref_at_L1 l1 n2) (fun x => (gameroomref_at_K1 x).bind some) r (fun (x : Int) a w => Fr 19 [pl 0 (.slice A1 l1.length c1), pl 1 (.int .i64 n2), pl 5 (.int .i64 x)] a ∧ Sep w0 B w (fs)) (assoc_b hm) ⟨hF.weak [0, 1, 5] (by kernel_rfl), hS⟩ ?_
    clear hF hS hm
    rintro nn1 i1 a w ⟨hF, hS⟩ hm
    generalize hφ1 : stK (gameroomref_at_L1 l1 n2) nn1 (fun x => (gameroomref_at_K1 x).bind some) = φ1 at hm
    unfold gameroomref_at_L1 at hm
    dsimp only at hm
    refine seq_cut (fun a w => Fr 19 [pl 0 (.slice A1 l1.length c1), pl 1 (.int .i64 n2), pl 5 (.int .i64 i1)] a ∧ Sep w0 B w (fs) ∧ ((gameroomref_at_J2 l1 n2 i1)).bind φ1 = some r) ?_ ?_
    · rintro a w ⟨hF, hS, hm⟩
      unfold gameroomref_at_J2 at hm
      refine seq_cut (fun a w => Fr 19 [pl 0 (.slice A1 l1.length c1), pl 1 (.int .i64 n2), pl 5 (.int .i64 i1)] a ∧ Sep w0 B w (fs) ∧ ((gameroomref_at_J3 i1)).bind φ1 = some r) ?_ ?_
      · rintro a w ⟨hF, hS, hm⟩
        unfold gameroomref_at_J3 at hm
        refine reg1 [] [] [0, 1, 5] [pl 0 (.slice A1 l1.length c1), pl 1 (.int .i64 n2), pl 5 (.int .i64 (w64 (i1 + 1)))] hF hS Fol (by kernel_rfl) (by kernel_rfl) (by kernel_rfl) ?_ (fun a w hF hS => ?_)
        · exact obs_nil
        refine then_n ?_
        rw [← hφ1] at hm
        exact ⟨(w64 (i1 + 1)), ⟨hF.weak [0, 1, 5] (by kernel_rfl), hS⟩, hm⟩
      · refine wpIn_block ?_
        obtain ⟨hp1, hm⟩ := asrt_b hm
        refine reg [⟨true, [], vS (Instr.indexAt 22 (.slice A1 l1.length c1) (.int .i64 i1)), .pointer (some (sAddr A1 i1))⟩, ⟨false, [], vS (Instr.loadAt 3 (.pointer (some (sAddr A1 i1)))), .int .i64 (geti l1 i1)⟩] [none, none, some (.pointer (some (sAddr A1 i1))), some (.int .i64 (geti l1 i1)), none, none] [0, 1, 5, 17] [pl 0 (.slice A1 l1.length c1), pl 1 (.int .i64 n2), pl 5 (.int .i64 i1), pl 17 (.bool ((geti l1 i1) == n2))] hF hS Fol (by kernel_rfl) (by kernel_rfl) (by kernel_rfl) ?_ (fun a w hF hS => ?_)
        · exact obs_cons (ob_ix1 (f := (Value.int .i64)) (m := l1) Und22 hi3 hs3 (hr_l1 _ (hS.dropN 0)) rfl (fun _ => hp1)) <| obs_cons (ob_get1 (n := l1.length) (m := l1) (Value.int .i64) (0 : Int) Agg3 (fun _ hS => ⟨_, (hr_l1 _ (hS.dropN 0))⟩) (fun _ hS => rfl) (fun _ => hp1)) <| obs_nil
        refine cond_ev (t := 17) (b := ((geti l1 i1) == n2)) hF (by kernel_rfl) (fun hb => ?_) (fun hb => ?_)
        · replace hm := if_t hm hb
          refine reg [] [] [4] [pl 4 (.int .i64 i1)] hF hS Fol (by kernel_rfl) (by kernel_rfl) (by kernel_rfl) ?_ (fun a w hF hS => ?_)
          · exact obs_nil
          refine wpIn_ret ?_
          refine block_r (then_r (then_r (block_r (then_r ?_))))
          rw [← hφ1] at hm
          replace hm := done_b hm
          unfold gameroomref_at_K1 at hm
          try dsimp only at hm
          have hm : some i1 = some r := hm
          obtain rfl := Option.some.inj hm
          exact retV (rs := [.tmp 4]) (vs := [.int .i64 i1]) hF rfl (rv_t (by kernel_rfl) <| rv_nil) rfl ⟨rfl, hS⟩
        · replace hm := if_f hm hb
          refine wpIn_skip ?_
          refine block_n ?_
          refine then_n ?_
          exact ⟨hF.weak [0, 1, 5] (by kernel_rfl), hS, hm⟩
    · refine reg [] [] [0, 1, 5, 9] [pl 0 (.slice A1 l1.length c1), pl 1 (.int .i64 n2), pl 5 (.int .i64 i1), pl 9 (.bool (decide (i1 < (l1.length : Int))))] hF hS Fol (by kernel_rfl) (by kernel_rfl) (by kernel_rfl) ?_ (fun a w hF hS => ?_)
      · exact obs_nil
      refine cond_ev (t := 9) (b := decide (i1 < (l1.length : Int))) hF (by kernel_rfl) (fun hb => ?_) (fun hb => ?_)
      · replace hm := if_t hm hb
        refine wpIn_skip ?_
        refine then_n ?_
        exact ⟨hF.weak [0, 1, 5] (by kernel_rfl), hS, hm⟩
      · replace hm := if_f hm hb
        refine wpIn_exit ?_
        refine then_e (then_e (block_e (then_n ?_)))
        rw [← hφ1] at hm
        replace hm := done_b hm
        unfold gameroomref_at_K1 at hm
        try dsimp only at hm
        have hm : (gameroomref_at_J1).bind some = some r := hm
        exact ⟨hF.weak [] (by kernel_rfl), hS, hm⟩

noncomputable def gameroomref_CardsMay_J3  (i1 : Int) : Option (St Int (Fl Unit Int)) :=
  some (.next (w64 (i1 + 1)))

noncomputable def gameroomref_CardsMay_J2  (l1 : List Int) (i1 : Int) : Option (St Int (Fl Unit Int)) :=
  asrt (0 ≤ i1 ∧ i1 < (l1.length : Int)) <| (gameroomref_within_m (geti l1 i1) 0 51).bind fun r1 => if (!r1) then (some (.done (.ret 3))) else ((gameroomref_CardsMay_J3 i1))

noncomputable def gameroomref_CardsMay_J6  (i2 : Int) : Option (St Int (Fl Unit Int)) :=
  some (.next (w64 (i2 + 1)))

noncomputable def gameroomref_CardsMay_J5  (l1 : List Int) (i2 : Int) : Option (St Int (Fl Unit Int)) :=
  asrt (0 ≤ (0 : Int) ∧ (0 : Int) ≤ i2 ∧ i2 ≤ (l1.length : Int)) <| asrt (0 ≤ i2 ∧ i2 < (l1.length : Int)) <| (gameroomref_at_m (cut l1 (0 : Int) i2) (geti l1 i2)).bind fun r2 => if (decide ((0 : Int) ≤ r2)) then (some (.done (.ret 6))) else ((gameroomref_CardsMay_J6 i2))

noncomputable def gameroomref_CardsMay_L2  (l1 : List Int) : Int → Option (St Int (Fl Unit Int)) :=
  fun (x : Int) => match x with | i2 => if (decide (i2 < (l1.length : Int))) then ((gameroomref_CardsMay_J5 l1 i2)) else (some (.done (.go ())))

noncomputable def gameroomref_CardsMay_J4  : Option Int :=
  some 0

noncomputable def gameroomref_CardsMay_K2  : (Fl Unit Int) → Option Int :=
  fun (x : (Fl Unit Int)) => match x with | .go _ => gameroomref_CardsMay_J4 | .ret x => some x

noncomputable def gameroomref_CardsMay_J1  (l1 : List Int) : Option Int :=
  (loop (gameroomref_CardsMay_L2 l1) 0).bind gameroomref_CardsMay_K2

noncomputable def gameroomref_CardsMay_K1  (l1 : List Int) : (Fl Unit Int) → Option Int :=
  fun (x : (Fl Unit Int)) => match x with | .go _ => (gameroomref_CardsMay_J1 l1) | .ret x => some x

noncomputable def gameroomref_CardsMay_L1  (l1 : List Int) : Int → Option (St Int (Fl Unit Int)) :=
  fun (x : Int) => match x with | i1 => if (decide (i1 < (l1.length : Int))) then ((gameroomref_CardsMay_J2 l1 i1)) else (some (.done (.go ())))

noncomputable def gameroomref_CardsMay_m  (l1 : List Int) : Option Int :=
  (loop (gameroomref_CardsMay_L1 l1) 0).bind (gameroomref_CardsMay_K1 l1)

set_option maxRecDepth 100000 in
set_option maxHeartbeats 4000000 in
theorem gameroomref_CardsMay_w  {A1 : Option Addr} {c1 : Nat} {n1 : Nat} {l1 : List Int} {r : Int} {w0 w : World} {B : Nat} {fs : List HP} (hm : gameroomref_CardsMay_m l1 = some r) (hS : Sep w0 B w (fs)) (hr_l1 : RdF w0 B fs A1 (vI l1)) (_hc_l1 : l1.length ≤ c1) (_hn_l1 : n1 = l1.length) :
    Calls Try.prog 36 #[.slice A1 n1 c1] w fun e w' => e = .returned (.int .i64 r) ∧ Sep w0 B w' (fs) := by
  obtain ⟨i3, hi3, hz3, hs3, hb3⟩ := info_parts Info3
  obtain rfl := _hn_l1
  unfold gameroomref_CardsMay_m at hm
  replace hm := start_b hm
  refine enter (l := [.slice A1 l1.length c1]) (n := 32) Try.func36 rfl rfl (by simp) (fun a hF => ?_)
  refine reg [] [] [0] [pl 0 (.slice A1 l1.length c1)] hF hS Fol (by kernel_rfl) (by kernel_rfl) (by kernel_rfl) ?_ (fun a w hF hS => ?_)
  · exact obs_nil
  refine seq_cut (fun a w => Fr 32 [pl 0 (.slice A1 l1.length c1)] a ∧ Sep w0 B w (fs) ∧ ((gameroomref_CardsMay_J1 l1)).bind some = some r) ?_ ?_
  · rintro a w ⟨hF, hS, hm⟩
    unfold gameroomref_CardsMay_J1 at hm
    refine seq_cut (fun a w => Fr 32 [] a ∧ Sep w0 B w (fs) ∧ (gameroomref_CardsMay_J4).bind some = some r) ?_ ?_
    · rintro a w ⟨hF, hS, hm⟩
      unfold gameroomref_CardsMay_J4 at hm
      refine reg [] [] [2] [pl 2 (.int .i64 0)] hF hS Fol (by kernel_rfl) (by kernel_rfl) (by kernel_rfl) ?_ (fun a w hF hS => ?_)
      · exact obs_nil
      refine wpIn_ret ?_
      have hm : some 0 = some r := hm
      obtain rfl := Option.some.inj hm
      exact retV (rs := [.tmp 2]) (vs := [.int .i64 0]) hF rfl (rv_t (by kernel_rfl) <| rv_nil) rfl ⟨rfl, hS⟩
    · refine reg [] [] [0, 4] [pl 0 (.slice A1 l1.length c1), pl 4 (.int .i64 0)] hF hS Fol (by kernel_rfl) (by kernel_rfl) (by kernel_rfl) ?_ (fun a w hF hS => ?_)
      · exact obs_nil
      refine wpIn_block ?_
      refine wp_loop_model (S := Int) (R := (Fl Unit Int)) (gameroomref_CardsMay_L2 l1) (fun x => (gameroomref_CardsMay_K2 x).bind some) r (fun (x : Int) a w => Fr 32 [pl 0 (.slice A1 l1.length c1), pl 4 (.int .i64 x)] a ∧ Sep w0 B w (fs)) (assoc_b hm) ⟨hF.weak [0, 4] (by kernel_rfl), hS⟩ ?_
      clear hF hS hm
      rintro nn2 i2 a w ⟨hF, hS⟩ hm
      generalize hφ2 : stK (gameroomref_CardsMay_L2 l1) nn2 (fun x => (gameroomref_CardsMay_K2 x).bind some) = φ2 at hm
      unfold gameroomref_CardsMay_L2 at hm
      dsimp only at hm
      refine seq_cut (fun a w => Fr 32 [pl 0 (.slice A1 l1.length c1), pl 4 (.int .i64 i2)] a ∧ Sep w0 B w (fs) ∧ ((gameroomref_CardsMay_J5 l1 i2)).bind φ2 = some r) ?_ ?_
      · rintro a w ⟨hF, hS, hm⟩
        unfold gameroomref_CardsMay_J5 at hm
        refine seq_cut (fun a w => Fr 32 [pl 0 (.slice A1 l1.length c1), pl 4 (.int .i64 i2)] a ∧ Sep w0 B w (fs) ∧ ((gameroomref_CardsMay_J6 i2)).bind φ2 = some r) ?_ ?_
        · rintro a w ⟨hF, hS, hm⟩
          unfold gameroomref_CardsMay_J6 at hm
          refine reg1 [] [] [0, 4] [pl 0 (.slice A1 l1.length c1), pl 4 (.int .i64 (w64 (i2 + 1)))] hF hS Fol (by kernel_rfl) (by kernel_rfl) (by kernel_rfl) ?_ (fun a w hF hS => ?_)
          · exact obs_nil
          refine then_n ?_
          rw [← hφ2] at hm
          exact ⟨(w64 (i2 + 1)), ⟨hF.weak [0, 4] (by kernel_rfl), hS⟩, hm⟩
        · refine wpIn_block ?_
          obtain ⟨hp2, hm⟩ := asrt_b hm
          obtain ⟨hp3, hm⟩ := asrt_b hm
          obtain ⟨r2, hr2, hm⟩ := call_b hm
          refine reg [⟨true, [], vS (Instr.sliceAt 22 (.slice A1 l1.length c1) none (some (.int .i64 i2)) none), .slice (cutAddr A1 c1 (0 : Int)) ((cut l1 (0 : Int) i2).length) (c1 - Int.toNat (0 : Int))⟩, ⟨true, [], vS (Instr.indexAt 22 (.slice A1 l1.length c1) (.int .i64 i2)), .pointer (some (sAddr A1 i2))⟩, ⟨false, [], vS (Instr.loadAt 3 (.pointer (some (sAddr A1 i2)))), .int .i64 (geti l1 i2)⟩, ⟨false, [], callFunc 110 #[.slice (cutAddr A1 c1 (0 : Int)) ((cut l1 (0 : Int) i2).length) (c1 - Int.toNat (0 : Int)), .int .i64 (geti l1 i2)], .int .i64 r2⟩] [none, none, some (.slice (cutAddr A1 c1 (0 : Int)) ((cut l1 (0 : Int) i2).length) (c1 - Int.toNat (0 : Int))), none, none, some (.pointer (some (sAddr A1 i2))), some (.int .i64 (geti l1 i2)), some (.int .i64 r2), none] [0, 4, 31] [pl 0 (.slice A1 l1.length c1), pl 4 (.int .i64 i2), pl 31 (.bool (decide ((0 : Int) ≤ r2)))] hF hS Fol (by kernel_rfl) (by kernel_rfl) (by kernel_rfl) ?_ (fun a w hF hS => ?_)
          · exact obs_cons (ob_cutn (l := l1) (k := .i64) (k' := .i64) Und22 hi3 hs3 rfl (.inr ⟨rfl, rfl⟩) (.inl rfl) (fun _ => hp2) _hc_l1) <| obs_cons (ob_ix1 (f := (Value.int .i64)) (m := l1) Und22 hi3 hs3 (hr_l1 _ (hS.dropN 0)) rfl (fun _ => hp3)) <| obs_cons (ob_get1 (n := l1.length) (m := l1) (Value.int .i64) (0 : Int) Agg3 (fun _ hS => ⟨_, (hr_l1 _ (hS.dropN 0))⟩) (fun _ hS => rfl) (fun _ => hp3)) <| obs_cons (ob_call Try.func110 (by kernel_rfl) rfl (fun _ _ hS => gameroomref_at_w hr2 hS (fun _ hS => (Rd.cutF (hr_l1 _ (hS.dropN 0)) hp2 _hc_l1)) (cap_cut hp2 _hc_l1) rfl)) <| obs_nil
          refine cond_ev (t := 31) (b := decide ((0 : Int) ≤ r2)) hF (by kernel_rfl) (fun hb => ?_) (fun hb => ?_)
          · replace hm := if_t hm hb
            refine reg [] [] [2] [pl 2 (.int .i64 6)] hF hS Fol (by kernel_rfl) (by kernel_rfl) (by kernel_rfl) ?_ (fun a w hF hS => ?_)
            · exact obs_nil
            refine wpIn_ret ?_
            refine block_r (then_r (then_r (block_r (then_r ?_))))
            rw [← hφ2] at hm
            replace hm := done_b hm
            unfold gameroomref_CardsMay_K2 at hm
            try dsimp only at hm
            have hm : some 6 = some r := hm
            obtain rfl := Option.some.inj hm
            exact retV (rs := [.tmp 2]) (vs := [.int .i64 6]) hF rfl (rv_t (by kernel_rfl) <| rv_nil) rfl ⟨rfl, hS⟩
          · replace hm := if_f hm hb
            refine wpIn_skip ?_
            refine block_n ?_
            refine then_n ?_
            exact ⟨hF.weak [0, 4] (by kernel_rfl), hS, hm⟩
      · refine reg [] [] [0, 4, 20] [pl 0 (.slice A1 l1.length c1), pl 4 (.int .i64 i2), pl 20 (.bool (decide (i2 < (l1.length : Int))))] hF hS Fol (by kernel_rfl) (by kernel_rfl) (by kernel_rfl) ?_ (fun a w hF hS => ?_)
        · exact obs_nil
        refine cond_ev (t := 20) (b := decide (i2 < (l1.length : Int))) hF (by kernel_rfl) (fun hb => ?_) (fun hb => ?_)
        · replace hm := if_t hm hb
          refine wpIn_skip ?_
          refine then_n ?_
          exact ⟨hF.weak [0, 4] (by kernel_rfl), hS, hm⟩
        · replace hm := if_f hm hb
          refine wpIn_exit ?_
          refine then_e (then_e (block_e (then_n ?_)))
          rw [← hφ2] at hm
          replace hm := done_b hm
          unfold gameroomref_CardsMay_K2 at hm
          try dsimp only at hm
          have hm : (gameroomref_CardsMay_J4).bind some = some r := hm
          exact ⟨hF.weak [] (by kernel_rfl), hS, hm⟩
  · refine reg [] [] [0, 3] [pl 0 (.slice A1 l1.length c1), pl 3 (.int .i64 0)] hF hS Fol (by kernel_rfl) (by kernel_rfl) (by kernel_rfl) ?_ (fun a w hF hS => ?_)
    · exact obs_nil
    refine wpIn_block ?_
    refine wp_loop_model (S := Int) (R := (Fl Unit Int)) (gameroomref_CardsMay_L1 l1) (fun x => ((gameroomref_CardsMay_K1 l1) x).bind some) r (fun (x : Int) a w => Fr 32 [pl 0 (.slice A1 l1.length c1), pl 3 (.int .i64 x)] a ∧ Sep w0 B w (fs)) (assoc_b hm) ⟨hF.weak [0, 3] (by kernel_rfl), hS⟩ ?_
    clear hF hS hm
    rintro nn1 i1 a w ⟨hF, hS⟩ hm
    generalize hφ1 : stK (gameroomref_CardsMay_L1 l1) nn1 (fun x => ((gameroomref_CardsMay_K1 l1) x).bind some) = φ1 at hm
    unfold gameroomref_CardsMay_L1 at hm
    dsimp only at hm
    refine seq_cut (fun a w => Fr 32 [pl 0 (.slice A1 l1.length c1), pl 3 (.int .i64 i1)] a ∧ Sep w0 B w (fs) ∧ ((gameroomref_CardsMay_J2 l1 i1)).bind φ1 = some r) ?_ ?_
    · rintro a w ⟨hF, hS, hm⟩
      unfold gameroomref_CardsMay_J2 at hm
      refine seq_cut (fun a w => Fr 32 [pl 0 (.slice A1 l1.length c1), pl 3 (.int .i64 i1)] a ∧ Sep w0 B w (fs) ∧ ((gameroomref_CardsMay_J3 i1)).bind φ1 = some r) ?_ ?_
      · rintro a w ⟨hF, hS, hm⟩
        unfold gameroomref_CardsMay_J3 at hm
        refine reg1 [] [] [0, 3] [pl 0 (.slice A1 l1.length c1), pl 3 (.int .i64 (w64 (i1 + 1)))] hF hS Fol (by kernel_rfl) (by kernel_rfl) (by kernel_rfl) ?_ (fun a w hF hS => ?_)
        · exact obs_nil
        refine then_n ?_
        rw [← hφ1] at hm
        exact ⟨(w64 (i1 + 1)), ⟨hF.weak [0, 3] (by kernel_rfl), hS⟩, hm⟩
      · refine wpIn_block ?_
        obtain ⟨hp1, hm⟩ := asrt_b hm
        obtain ⟨r1, hr1, hm⟩ := call_b hm
        refine reg [⟨true, [], vS (Instr.indexAt 22 (.slice A1 l1.length c1) (.int .i64 i1)), .pointer (some (sAddr A1 i1))⟩, ⟨false, [], vS (Instr.loadAt 3 (.pointer (some (sAddr A1 i1)))), .int .i64 (geti l1 i1)⟩, ⟨false, [], callFunc 85 #[.int .i64 (geti l1 i1), .int .i64 0, .int .i64 51], .bool r1⟩] [none, none, some (.pointer (some (sAddr A1 i1))), some (.int .i64 (geti l1 i1)), some (.bool r1), none] [0, 3, 16] [pl 0 (.slice A1 l1.length c1), pl 3 (.int .i64 i1), pl 16 (.bool (!r1))] hF hS Fol (by kernel_rfl) (by kernel_rfl) (by kernel_rfl) ?_ (fun a w hF hS => ?_)
        · exact obs_cons (ob_ix1 (f := (Value.int .i64)) (m := l1) Und22 hi3 hs3 (hr_l1 _ (hS.dropN 0)) rfl (fun _ => hp1)) <| obs_cons (ob_get1 (n := l1.length) (m := l1) (Value.int .i64) (0 : Int) Agg3 (fun _ hS => ⟨_, (hr_l1 _ (hS.dropN 0))⟩) (fun _ hS => rfl) (fun _ => hp1)) <| obs_cons (ob_call Try.func85 (by kernel_rfl) rfl (fun _ _ hS => gameroomref_within_w hr1 hS )) <| obs_nil
        refine cond_ev (t := 16) (b := !r1) hF (by kernel_rfl) (fun hb => ?_) (fun hb => ?_)
        · replace hm := if_t hm hb
          refine reg [] [] [2] [pl 2 (.int .i64 3)] hF hS Fol (by kernel_rfl) (by kernel_rfl) (by kernel_rfl) ?_ (fun a w hF hS => ?_)
          · exact obs_nil
          refine wpIn_ret ?_
          refine block_r (then_r (then_r (block_r (then_r ?_))))
          rw [← hφ1] at hm
          replace hm := done_b hm
          unfold gameroomref_CardsMay_K1 at hm
          try dsimp only at hm
          have hm : some 3 = some r := hm
          obtain rfl := Option.some.inj hm
          exact retV (rs := [.tmp 2]) (vs := [.int .i64 3]) hF rfl (rv_t (by kernel_rfl) <| rv_nil) rfl ⟨rfl, hS⟩
        · replace hm := if_f hm hb
          refine wpIn_skip ?_
          refine block_n ?_
          refine then_n ?_
          exact ⟨hF.weak [0, 3] (by kernel_rfl), hS, hm⟩
    · refine reg [] [] [0, 3, 8] [pl 0 (.slice A1 l1.length c1), pl 3 (.int .i64 i1), pl 8 (.bool (decide (i1 < (l1.length : Int))))] hF hS Fol (by kernel_rfl) (by kernel_rfl) (by kernel_rfl) ?_ (fun a w hF hS => ?_)
      · exact obs_nil
      refine cond_ev (t := 8) (b := decide (i1 < (l1.length : Int))) hF (by kernel_rfl) (fun hb => ?_) (fun hb => ?_)
      · replace hm := if_t hm hb
        refine wpIn_skip ?_
        refine then_n ?_
        exact ⟨hF.weak [0, 3] (by kernel_rfl), hS, hm⟩
      · replace hm := if_f hm hb
        refine wpIn_exit ?_
        refine then_e (then_e (block_e (then_n ?_)))
        rw [← hφ1] at hm
        replace hm := done_b hm
        unfold gameroomref_CardsMay_K1 at hm
        try dsimp only at hm
        have hm : ((gameroomref_CardsMay_J1 l1)).bind some = some r := hm
        exact ⟨hF.weak [0] (by kernel_rfl), hS, hm⟩

noncomputable def gameroomref_HandValue_J3  (l1 : List Int) (many1 : List Int) (flush1 : Bool) (i1 : Int) : Option (St (List Int × Bool × Int) (List Int × Bool)) :=
  some (.next ((many1.set (Int.toNat (w64 (Int.tdiv (geti l1 i1) 4))) (w64 ((geti many1 (w64 (Int.tdiv (geti l1 i1) 4))) + 1))), (flush1 && ((Int.tmod (geti l1 i1) 4) == (Int.tmod (geti l1 0) 4))), (w64 (i1 + 1))))

noncomputable def gameroomref_HandValue_J2  (l1 : List Int) (many1 : List Int) (flush1 : Bool) (i1 : Int) : Option (St (List Int × Bool × Int) (List Int × Bool)) :=
  asrt (0 ≤ i1 ∧ i1 < (l1.length : Int)) <| asrt (0 ≤ (w64 (Int.tdiv (geti l1 i1) 4)) ∧ (w64 (Int.tdiv (geti l1 i1) 4)) < (((Int.toNat 13) : Nat) : Int)) <| asrt (0 ≤ (w64 (Int.tdiv (geti l1 i1) 4)) ∧ (w64 (Int.tdiv (geti l1 i1) 4)) < (((Int.toNat 13) : Nat) : Int)) <| asrt (flush1 = true → 0 ≤ i1 ∧ i1 < (l1.length : Int)) <| asrt (flush1 = true → 0 ≤ (0 : Int) ∧ (0 : Int) < (l1.length : Int)) <| (gameroomref_HandValue_J3 l1 many1 flush1 i1)

noncomputable def gameroomref_HandValue_J8  (r1 : Int) (signs5 : List Int) : Option (St (List Int × Int) (List Int)) :=
  some (.next (signs5, (w64 (r1 - 1))))

noncomputable def gameroomref_HandValue_J7  (many2 : List Int) (times1 : Int) (signs3 : List Int) (r1 : Int) : Option (St (List Int × Int) (List Int)) :=
  asrt (0 ≤ r1 ∧ r1 < (((Int.toNat 13) : Nat) : Int)) <| if ((geti many2 r1) == times1) then (asrt ((signs3.length : Int) + 1 ≤ bigN) <| (gameroomref_HandValue_J8 r1) (signs3 ++ ([r1] : List Int))) else ((gameroomref_HandValue_J8 r1) signs3)

noncomputable def gameroomref_HandValue_L3  (many2 : List Int) (times1 : Int) : (List Int × Int) → Option (St (List Int × Int) (List Int)) :=
  fun (x : (List Int × Int)) => match x with | (signs3, r1) => if (decide ((0 : Int) ≤ r1)) then ((gameroomref_HandValue_J7 many2 times1 signs3 r1)) else (some (.done signs3))

noncomputable def gameroomref_HandValue_J6  (times1 : Int) (signs4 : List Int) : Option (St (List Int × Int) (List Int)) :=
  some (.next (signs4, (w64 (times1 - 1))))

noncomputable def gameroomref_HandValue_K3  (times1 : Int) : (List Int) → Option (St (List Int × Int) (List Int)) :=
  fun (x : (List Int)) => match x with | signs4 => (gameroomref_HandValue_J6 times1) signs4

noncomputable def gameroomref_HandValue_J5  (many2 : List Int) (signs1 : List Int) (times1 : Int) : Option (St (List Int × Int) (List Int)) :=
  (loop (gameroomref_HandValue_L3 many2 times1) (signs1, 12)).bind (gameroomref_HandValue_K3 times1)

noncomputable def gameroomref_HandValue_L2  (many2 : List Int) : (List Int × Int) → Option (St (List Int × Int) (List Int)) :=
  fun (x : (List Int × Int)) => match x with | (signs1, times1) => if (decide ((0 : Int) < times1)) then ((gameroomref_HandValue_J5 many2 signs1 times1)) else (some (.done signs1))

noncomputable def gameroomref_HandValue_J14  (many2 : List Int) (r2 : Int) (all1 : Bool) (k1 : Int) : Option (St (Bool × Int) Bool) :=
  some (.next ((all1 && ((geti many2 (Int.tmod (w64 ((w64 (r2 - k1)) + 13)) 13)) == 1)), (w64 (k1 + 1))))

noncomputable def gameroomref_HandValue_J13  (many2 : List Int) (r2 : Int) (all1 : Bool) (k1 : Int) : Option (St (Bool × Int) Bool) :=
  asrt (all1 = true → 0 ≤ (Int.tmod (w64 ((w64 (r2 - k1)) + 13)) 13) ∧ (Int.tmod (w64 ((w64 (r2 - k1)) + 13)) 13) < (((Int.toNat 13) : Nat) : Int)) <| (gameroomref_HandValue_J14 many2 r2 all1 k1)

noncomputable def gameroomref_HandValue_L5  (many2 : List Int) (r2 : Int) : (Bool × Int) → Option (St (Bool × Int) Bool) :=
  fun (x : (Bool × Int)) => match x with | (all1, k1) => if (decide (k1 < 5)) then ((gameroomref_HandValue_J13 many2 r2 all1 k1)) else (some (.done all1))

noncomputable def gameroomref_HandValue_J11  (r2 : Int) (top3 : Int) : Option (St (Int × Int) Int) :=
  some (.next (top3, (w64 (r2 + 1))))

noncomputable def gameroomref_HandValue_J12  (top1 : Int) (r2 : Int) (all2 : Bool) : Option (St (Int × Int) Int) :=
  if all2 then ((gameroomref_HandValue_J11 r2) r2) else ((gameroomref_HandValue_J11 r2) top1)

noncomputable def gameroomref_HandValue_K5  (top1 : Int) (r2 : Int) : Bool → Option (St (Int × Int) Int) :=
  fun (x : Bool) => match x with | all2 => (gameroomref_HandValue_J12 top1 r2) all2

noncomputable def gameroomref_HandValue_J10  (many2 : List Int) (top1 : Int) (r2 : Int) : Option (St (Int × Int) Int) :=
  (loop (gameroomref_HandValue_L5 many2 r2) (true, 0)).bind (gameroomref_HandValue_K5 top1 r2)

noncomputable def gameroomref_HandValue_L4  (many2 : List Int) : (Int × Int) → Option (St (Int × Int) Int) :=
  fun (x : (Int × Int)) => match x with | (top1, r2) => if (decide (r2 < 13)) then ((gameroomref_HandValue_J10 many2 top1 r2)) else (some (.done top1))

noncomputable def gameroomref_HandValue_J18  (signs7 : List Int) : Option (St (List Int) (List Int)) :=
  asrt ((signs7.length : Int) + 1 ≤ bigN) <| some (.next (signs7 ++ ([0] : List Int)))

noncomputable def gameroomref_HandValue_L6  : (List Int) → Option (St (List Int) (List Int)) :=
  fun (x : (List Int)) => match x with | signs7 => if (decide ((signs7.length : Int) < 5)) then ((gameroomref_HandValue_J18 signs7)) else (some (.done signs7))

noncomputable def gameroomref_HandValue_J21  (signs8 : List Int) (v1 : Int) (i2 : Int) : Option (St (Int × Int) Int) :=
  some (.next ((w64 ((w64 (13 * v1)) + (geti signs8 i2))), (w64 (i2 + 1))))

noncomputable def gameroomref_HandValue_J20  (signs8 : List Int) (v1 : Int) (i2 : Int) : Option (St (Int × Int) Int) :=
  asrt (0 ≤ i2 ∧ i2 < (signs8.length : Int)) <| (gameroomref_HandValue_J21 signs8 v1 i2)

noncomputable def gameroomref_HandValue_L7  (signs8 : List Int) : (Int × Int) → Option (St (Int × Int) Int) :=
  fun (x : (Int × Int)) => match x with | (v1, i2) => if (decide (i2 < 5)) then ((gameroomref_HandValue_J20 signs8 v1 i2)) else (some (.done v1))

noncomputable def gameroomref_HandValue_J19  (v2 : Int) : Option Int :=
  some v2

noncomputable def gameroomref_HandValue_K7  : Int → Option Int :=
  fun (x : Int) => match x with | v2 => gameroomref_HandValue_J19 v2

noncomputable def gameroomref_HandValue_J17  (class1 : Int) (signs8 : List Int) : Option Int :=
  (loop (gameroomref_HandValue_L7 signs8) (class1, 0)).bind gameroomref_HandValue_K7

noncomputable def gameroomref_HandValue_K6  (class1 : Int) : (List Int) → Option Int :=
  fun (x : (List Int)) => match x with | signs8 => (gameroomref_HandValue_J17 class1) signs8

noncomputable def gameroomref_HandValue_J16  (class1 : Int) (signs6 : List Int) : Option Int :=
  (loop gameroomref_HandValue_L6 signs6).bind (gameroomref_HandValue_K6 class1)

noncomputable def gameroomref_HandValue_J15  (signs2 : List Int) (top2 : Int) (class1 : Int) : Option Int :=
  if (decide ((0 : Int) ≤ top2)) then ((gameroomref_HandValue_J16 class1) ([top2] : List Int)) else ((gameroomref_HandValue_J16 class1) signs2)

noncomputable def gameroomref_HandValue_J9  (many2 : List Int) (flush2 : Bool) (signs2 : List Int) (top2 : Int) : Option Int :=
  if ((decide ((0 : Int) ≤ top2)) && flush2) then ((gameroomref_HandValue_J15 signs2 top2) 8) else (asrt (0 ≤ (0 : Int) ∧ (0 : Int) < (signs2.length : Int)) <| asrt (0 ≤ (geti signs2 0) ∧ (geti signs2 0) < (((Int.toNat 13) : Nat) : Int)) <| if ((geti many2 (geti signs2 0)) == 4) then ((gameroomref_HandValue_J15 signs2 top2) 7) else (asrt (0 ≤ (0 : Int) ∧ (0 : Int) < (signs2.length : Int)) <| asrt (0 ≤ (geti signs2 0) ∧ (geti signs2 0) < (((Int.toNat 13) : Nat) : Int)) <| asrt (((geti many2 (geti signs2 0)) == 3) = true → 0 ≤ (1 : Int) ∧ (1 : Int) < (signs2.length : Int)) <| asrt (((geti many2 (geti signs2 0)) == 3) = true → 0 ≤ (geti signs2 1) ∧ (geti signs2 1) < (((Int.toNat 13) : Nat) : Int)) <| if (((geti many2 (geti signs2 0)) == 3) && ((geti many2 (geti signs2 1)) == 2)) then ((gameroomref_HandValue_J15 signs2 top2) 6) else (if flush2 then ((gameroomref_HandValue_J15 signs2 top2) 5) else (if (decide ((0 : Int) ≤ top2)) then ((gameroomref_HandValue_J15 signs2 top2) 4) else (asrt (0 ≤ (0 : Int) ∧ (0 : Int) < (signs2.length : Int)) <| asrt (0 ≤ (geti signs2 0) ∧ (geti signs2 0) < (((Int.toNat 13) : Nat) : Int)) <| if ((geti many2 (geti signs2 0)) == 3) then ((gameroomref_HandValue_J15 signs2 top2) 3) else (asrt (0 ≤ (0 : Int) ∧ (0 : Int) < (signs2.length : Int)) <| asrt (0 ≤ (geti signs2 0) ∧ (geti signs2 0) < (((Int.toNat 13) : Nat) : Int)) <| asrt (((geti many2 (geti signs2 0)) == 2) = true → 0 ≤ (1 : Int) ∧ (1 : Int) < (signs2.length : Int)) <| asrt (((geti many2 (geti signs2 0)) == 2) = true → 0 ≤ (geti signs2 1) ∧ (geti signs2 1) < (((Int.toNat 13) : Nat) : Int)) <| if (((geti many2 (geti signs2 0)) == 2) && ((geti many2 (geti signs2 1)) == 2)) then ((gameroomref_HandValue_J15 signs2 top2) 2) else (asrt (0 ≤ (0 : Int) ∧ (0 : Int) < (signs2.length : Int)) <| asrt (0 ≤ (geti signs2 0) ∧ (geti signs2 0) < (((Int.toNat 13) : Nat) : Int)) <| if ((geti many2 (geti signs2 0)) == 2) then ((gameroomref_HandValue_J15 signs2 top2) 1) else ((gameroomref_HandValue_J15 signs2 top2) 0))))))))

noncomputable def gameroomref_HandValue_K4  (many2 : List Int) (flush2 : Bool) (signs2 : List Int) : Int → Option Int :=
  fun (x : Int) => match x with | top2 => (gameroomref_HandValue_J9 many2 flush2 signs2) top2

noncomputable def gameroomref_HandValue_J4  (many2 : List Int) (flush2 : Bool) (signs2 : List Int) : Option Int :=
  (loop (gameroomref_HandValue_L4 many2) ((-1), 3)).bind (gameroomref_HandValue_K4 many2 flush2 signs2)

noncomputable def gameroomref_HandValue_K2  (many2 : List Int) (flush2 : Bool) : (List Int) → Option Int :=
  fun (x : (List Int)) => match x with | signs2 => (gameroomref_HandValue_J4 many2 flush2) signs2

noncomputable def gameroomref_HandValue_J1  (many2 : List Int) (flush2 : Bool) : Option Int :=
  (loop (gameroomref_HandValue_L2 many2) (([] : List Int), 4)).bind (gameroomref_HandValue_K2 many2 flush2)

noncomputable def gameroomref_HandValue_K1  : (List Int × Bool) → Option Int :=
  fun (x : (List Int × Bool)) => match x with | (many2, flush2) => gameroomref_HandValue_J1 many2 flush2

noncomputable def gameroomref_HandValue_L1  (l1 : List Int) : (List Int × Bool × Int) → Option (St (List Int × Bool × Int) (List Int × Bool)) :=
  fun (x : (List Int × Bool × Int)) => match x with | (many1, flush1, i1) => if (decide (i1 < 5)) then ((gameroomref_HandValue_J2 l1 many1 flush1 i1)) else (some (.done (many1, flush1)))
end Go.Proofs.Ytoickcchcjehdaa
