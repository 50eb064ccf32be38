/-
  Models and walks, printed by our own program (wip/gen).
-/
import Derived.Test.YtdjjomghggplpaaFB
import Derived.Test.YtdjjomghggplpaaLibD
import Derived.Test.YtdjjomghggplpaaGR
import Derived.Test.YtdjjomghggplpaaLibAS
import Derived.Test.YtdjjomghggplpaaLibBg
import Derived.Test.YtdjjomghggplpaaLibHd
import Derived.Test.YtdjjomghggplpaaFM
import Derived.Test.YtdjjomghggplpaaLibAN
import Derived.Test.YtdjjomghggplpaaNNPb
namespace Go.Proofs.Ytdjjomghggplpaa
open Go Go.GL Go.RowKit

noncomputable def gameroomref_lineFill_2_m  (line1 : List Int) (clue1 : List Int) (begun1 : List Int) (filled1 : List Int) : Option (Int × List Int) :=
  recM fun n => gameroomref_lineFill_2_mF n line1 clue1 begun1 filled1

set_option maxRecDepth 100000 in
set_option maxHeartbeats 4000000 in
theorem gameroomref_lineFill_2_wB  {rec_gameroomref_lineFill_2 : List Int → List Int → List Int → List Int → Option (Int × List Int)} (ih_gameroomref_lineFill_2 : ∀ {A1 : Option Addr} {c1 : Nat} {n1 : Nat} {line1 : List Int} {A2 : Option Addr} {c2 : Nat} {n2 : Nat} {clue1 : List Int} {A3 : Option Addr} {c3 : Nat} {n3 : Nat} {begun1 : List Int} {A4 : Option Addr} {c4 : Nat} {n4 : Nat} {filled1 : List Int} {r : (Int × List Int)} {w0 w : World} {B : Nat} {fs : List HP} (_ : rec_gameroomref_lineFill_2 line1 clue1 begun1 filled1 = some r) (_ : Sep w0 B w (own 3 (.slice A4 n4 c4) (vI filled1) :: fs)) (_hr_line1 : RdF w0 B fs A1 (vI line1)) (_hc_line1 : line1.length ≤ c1) (_hn_line1 : n1 = line1.length) (_hr_clue1 : RdF w0 B fs A2 (vI clue1)) (_hc_clue1 : clue1.length ≤ c2) (_hn_clue1 : n2 = clue1.length) (_hr_begun1 : RdF w0 B fs A3 (vI begun1)) (_hc_begun1 : begun1.length ≤ c3) (_hn_begun1 : n3 = begun1.length), Calls Try.prog 119 #[.slice A1 n1 c1, .slice A2 n2 c2, .slice A3 n3 c3, .slice A4 n4 c4] w fun e w' => ∃ v, e = .returned v ∧ v = .int .i64 r.1 ∧ Sep w0 B w' (own 3 (.slice A4 n4 c4) (vI r.2) :: fs)) {A1 : Option Addr} {c1 : Nat} {n1 : Nat} {line1 : List Int} {A2 : Option Addr} {c2 : Nat} {n2 : Nat} {clue1 : List Int} {A3 : Option Addr} {c3 : Nat} {n3 : Nat} {begun1 : List Int} {A4 : Option Addr} {c4 : Nat} {n4 : Nat} {filled1 : List Int} {r : (Int × List Int)} {w0 w : World} {B : Nat} {fs : List HP} (hm : gameroomref_lineFill_2_B rec_gameroomref_lineFill_2 line1 clue1 begun1 filled1 = some r) (hS : Sep w0 B w (own 3 (.slice A4 n4 c4) (vI filled1) :: fs)) (hr_line1 : RdF w0 B fs A1 (vI line1)) (_hc_line1 : line1.length ≤ c1) (_hn_line1 : n1 = line1.length) (hr_clue1 : RdF w0 B fs A2 (vI clue1)) (_hc_clue1 : clue1.length ≤ c2) (_hn_clue1 : n2 = clue1.length) (hr_begun1 : RdF w0 B fs A3 (vI begun1)) (_hc_begun1 : begun1.length ≤ c3) (_hn_begun1 : n3 = begun1.length) :
    Calls Try.prog 119 #[.slice A1 n1 c1, .slice A2 n2 c2, .slice A3 n3 c3, .slice A4 n4 c4] w fun e w' => ∃ v, e = .returned v ∧ v = .int .i64 r.1 ∧ Sep w0 B w' (own 3 (.slice A4 n4 c4) (vI r.2) :: fs) := by
  obtain ⟨i3, hi3, hz3, hs3, hb3⟩ := info_parts Info3
  obtain rfl := (hS.at_ 0 rfl).len1
  obtain rfl := _hn_line1
  obtain rfl := _hn_clue1
  obtain rfl := _hn_begun1
  unfold gameroomref_lineFill_2_B at hm
  replace hm := start_b hm
  refine enter (l := [.slice A1 line1.length c1, .slice A2 clue1.length c2, .slice A3 begun1.length c3, .slice A4 filled1.length c4]) (n := 145) Try.func119 rfl rfl (by simp) (fun a hF => ?_)
  refine reg [] [] [0, 1, 2, 3] [pl 0 (.slice A1 line1.length c1), pl 1 (.slice A2 clue1.length c2), pl 2 (.slice A3 begun1.length c3), pl 3 (.slice A4 filled1.length c4)] hF hS Fol (by kernel_rfl) (by kernel_rfl) (by kernel_rfl) ?_ (fun a w hF hS => ?_)
  · exact obs_nil
  refine reg [] [] [0, 1, 2, 3, 9] [pl 0 (.slice A1 line1.length c1), pl 1 (.slice A2 clue1.length c2), pl 2 (.slice A3 begun1.length c3), pl 3 (.slice A4 filled1.length c4), pl 9 (.int .i64 (begun1.length : Int))] hF hS Fol (by kernel_rfl) (by kernel_rfl) (by kernel_rfl) ?_ (fun a w hF hS => ?_)
  · exact obs_nil
  refine seq_cut (fun a w => Fr 145 [pl 0 (.slice A1 line1.length c1), pl 1 (.slice A2 clue1.length c2), pl 2 (.slice A3 begun1.length c3), pl 3 (.slice A4 filled1.length c4), pl 9 (.int .i64 (begun1.length : Int))] a ∧ Sep w0 B w (own 3 (.slice A4 filled1.length c4) (vI filled1) :: fs) ∧ ((gameroomref_lineFill_2_J1 rec_gameroomref_lineFill_2 line1 clue1 begun1 filled1)).bind some = some r) ?_ ?_
  · rintro a w ⟨hF, hS, hm⟩
    unfold gameroomref_lineFill_2_J1 at hm
    refine reg [] [] [0, 1, 2, 3, 9, 12] [pl 0 (.slice A1 line1.length c1), pl 1 (.slice A2 clue1.length c2), pl 2 (.slice A3 begun1.length c3), pl 3 (.slice A4 filled1.length c4), pl 9 (.int .i64 (begun1.length : Int)), pl 12 (.int .i64 (w64 ((clue1.length : Int) - 1)))] hF hS Fol (by kernel_rfl) (by kernel_rfl) (by kernel_rfl) ?_ (fun a w hF hS => ?_)
    · exact obs_nil
    refine seq_cut (fun a w => ∃ (need2 : Int), Fr 145 [pl 0 (.slice A1 line1.length c1), pl 1 (.slice A2 clue1.length c2), pl 2 (.slice A3 begun1.length c3), pl 3 (.slice A4 filled1.length c4), pl 9 (.int .i64 (begun1.length : Int)), pl 12 (.int .i64 need2)] a ∧ Sep w0 B w (own 3 (.slice A4 filled1.length c4) (vI filled1) :: fs) ∧ ((gameroomref_lineFill_2_J8 rec_gameroomref_lineFill_2 line1 clue1 begun1 filled1) need2).bind some = some r) ?_ ?_
    · rintro a w ⟨need2, hF, hS, hm⟩
      unfold gameroomref_lineFill_2_J8 at hm
      refine reg [] [] [0, 1, 2, 3, 9, 12, 14] [pl 0 (.slice A1 line1.length c1), pl 1 (.slice A2 clue1.length c2), pl 2 (.slice A3 begun1.length c3), pl 3 (.slice A4 filled1.length c4), pl 9 (.int .i64 (begun1.length : Int)), pl 12 (.int .i64 need2), pl 14 (.int .i64 0)] hF hS Fol (by kernel_rfl) (by kernel_rfl) (by kernel_rfl) ?_ (fun a w hF hS => ?_)
      · exact obs_nil
      refine seq_cut (fun a w => ∃ (many2 : Int) (filled6 : List Int), Fr 145 [pl 14 (.int .i64 many2)] a ∧ Sep w0 B w (own 3 (.slice A4 filled1.length c4) (vI filled6) :: fs) ∧ (gameroomref_lineFill_2_J11 many2 filled6).bind some = some r) ?_ ?_
      · rintro a w ⟨many2, filled6, hF, hS, hm⟩
        unfold gameroomref_lineFill_2_J11 at hm
        refine reg [] [] [8] [pl 8 (.int .i64 many2)] hF hS Fol (by kernel_rfl) (by kernel_rfl) (by kernel_rfl) ?_ (fun a w hF hS => ?_)
        · exact obs_nil
        refine wpIn_ret ?_
        have hm : some (many2, filled6) = some r := hm
        obtain rfl := Option.some.inj hm
        exact retV (rs := [.tmp 8]) (vs := [.int .i64 many2]) hF rfl (rv_t (by kernel_rfl) <| rv_nil) rfl ⟨_, rfl, rfl, hS⟩
      · refine reg [] [] [0, 1, 2, 3, 9, 12, 14, 15] [pl 0 (.slice A1 line1.length c1), pl 1 (.slice A2 clue1.length c2), pl 2 (.slice A3 begun1.length c3), pl 3 (.slice A4 filled1.length c4), pl 9 (.int .i64 (begun1.length : Int)), pl 12 (.int .i64 need2), pl 14 (.int .i64 0), pl 15 (.int .i64 0)] hF hS Fol (by kernel_rfl) (by kernel_rfl) (by kernel_rfl) ?_ (fun a w hF hS => ?_)
        · exact obs_nil
        refine wpIn_block ?_
        refine wp_loop_model (S := (List Int × Int × Int)) (R := (Int × List Int)) (gameroomref_lineFill_2_L4 rec_gameroomref_lineFill_2 line1 clue1 begun1 need2) (fun x => (gameroomref_lineFill_2_K4 x).bind some) r (fun (x : (List Int × Int × Int)) a w => Fr 145 [pl 0 (.slice A1 line1.length c1), pl 1 (.slice A2 clue1.length c2), pl 2 (.slice A3 begun1.length c3), pl 3 (.slice A4 filled1.length c4), pl 9 (.int .i64 (begun1.length : Int)), pl 12 (.int .i64 need2), pl 14 (.int .i64 x.2.1), pl 15 (.int .i64 x.2.2)] a ∧ Sep w0 B w (own 3 (.slice A4 filled1.length c4) (vI x.1) :: fs)) (assoc_b hm) ⟨hF.weak [0, 1, 2, 3, 9, 12, 14, 15] (by kernel_rfl), hS⟩ ?_
        clear hF hS hm
        rintro nn4 ⟨filled5, many1, gap1⟩ a w ⟨hF, hS⟩ hm
        generalize hφ4 : stK (gameroomref_lineFill_2_L4 rec_gameroomref_lineFill_2 line1 clue1 begun1 need2) nn4 (fun x => (gameroomref_lineFill_2_K4 x).bind some) = φ4 at hm
        unfold gameroomref_lineFill_2_L4 at hm
        dsimp only at hF hS hm
        refine seq_cut (fun a w => Fr 145 [pl 0 (.slice A1 line1.length c1), pl 1 (.slice A2 clue1.length c2), pl 2 (.slice A3 begun1.length c3), pl 3 (.slice A4 filled1.length c4), pl 9 (.int .i64 (begun1.length : Int)), pl 12 (.int .i64 need2), pl 14 (.int .i64 many1), pl 15 (.int .i64 gap1)] a ∧ Sep w0 B w (own 3 (.slice A4 filled1.length c4) (vI filled5) :: fs) ∧ ((gameroomref_lineFill_2_J12 rec_gameroomref_lineFill_2 line1 clue1 begun1 filled5 many1 gap1)).bind φ4 = some r) ?_ ?_
        · rintro a w ⟨hF, hS, hm⟩
          unfold gameroomref_lineFill_2_J12 at hm
          refine seq_cut (fun a w => ∃ (filled7 : List Int) (many3 : Int), Fr 145 [pl 0 (.slice A1 line1.length c1), pl 1 (.slice A2 clue1.length c2), pl 2 (.slice A3 begun1.length c3), pl 3 (.slice A4 filled1.length c4), pl 9 (.int .i64 (begun1.length : Int)), pl 12 (.int .i64 need2), pl 14 (.int .i64 many3), pl 15 (.int .i64 gap1)] a ∧ Sep w0 B w (own 3 (.slice A4 filled1.length c4) (vI filled7) :: fs) ∧ ((gameroomref_lineFill_2_J13 gap1) filled7 many3).bind φ4 = some r) ?_ ?_
          · rintro a w ⟨filled7, many3, hF, hS, hm⟩
            unfold gameroomref_lineFill_2_J13 at hm
            refine reg1 [] [] [0, 1, 2, 3, 9, 12, 14, 15] [pl 0 (.slice A1 line1.length c1), pl 1 (.slice A2 clue1.length c2), pl 2 (.slice A3 begun1.length c3), pl 3 (.slice A4 filled1.length c4), pl 9 (.int .i64 (begun1.length : Int)), pl 12 (.int .i64 need2), pl 14 (.int .i64 many3), pl 15 (.int .i64 (w64 (gap1 + 1)))] hF hS Fol (by kernel_rfl) (by kernel_rfl) (by kernel_rfl) ?_ (fun a w hF hS => ?_)
            · exact obs_nil
            refine then_n ?_
            rw [← hφ4] at hm
            exact ⟨(filled7, many3, (w64 (gap1 + 1))), ⟨hF.weak [0, 1, 2, 3, 9, 12, 14, 15] (by kernel_rfl), hS⟩, hm⟩
          · refine wpIn_block ?_
            refine seq_cut (fun a w => Fr 145 [pl 0 (.slice A1 line1.length c1), pl 1 (.slice A2 clue1.length c2), pl 2 (.slice A3 begun1.length c3), pl 3 (.slice A4 filled1.length c4), pl 9 (.int .i64 (begun1.length : Int)), pl 12 (.int .i64 need2), pl 14 (.int .i64 many1), pl 15 (.int .i64 gap1)] a ∧ Sep w0 B w (own 3 (.slice A4 filled1.length c4) (vI filled5) :: fs) ∧ ((gameroomref_lineFill_2_J14 rec_gameroomref_lineFill_2 line1 clue1 begun1 filled5 many1 gap1)).bind φ4 = some r) ?_ ?_
            · rintro a w ⟨hF, hS, hm⟩
              unfold gameroomref_lineFill_2_J14 at hm
              refine seqR ?_
              obtain ⟨r1, hr1, hm⟩ := call_b hm
              refine at_run 1 [] [] [0, 1, 2, 3, 9, 12, 14, 15, 89] [pl 0 (.slice A1 line1.length c1), pl 1 (.slice A2 clue1.length c2), pl 2 (.slice A3 begun1.length c3), pl 3 (.slice A4 filled1.length c4), pl 9 (.int .i64 (begun1.length : Int)), pl 12 (.int .i64 need2), pl 14 (.int .i64 many1), pl 15 (.int .i64 gap1), pl 89 (.slice A3 begun1.length c3)] hF hS (by kernel_rfl) (by kernel_rfl) ?_ (fun a w hF hS => ?_)
              · exact obs_nil
              refine at_call (f := 45) (args := #[.slice A3 begun1.length c3]) (d := 90) hF (by kernel_rfl) (by kernel_rfl) Try.func45 (by kernel_rfl) rfl (gameroomref_Ints_w hr1 hS (fun _ hS => (hr_begun1 _ (hS.dropN 1))) _hc_begun1 rfl) (fun v a w hR hF => ?_)
              clear hS
              obtain ⟨A5, c5, rfl, hS⟩ := hR
              have hS : Sep w0 B w (own 3 (.slice A5 r1.length c5) (vI r1) :: own 3 (.slice A4 filled1.length c4) (vI filled5) :: fs) := hS
              refine at_run 1 [] [] [0, 1, 2, 3, 9, 12, 14, 15, 16] [pl 0 (.slice A1 line1.length c1), pl 1 (.slice A2 clue1.length c2), pl 2 (.slice A3 begun1.length c3), pl 3 (.slice A4 filled1.length c4), pl 9 (.int .i64 (begun1.length : Int)), pl 12 (.int .i64 need2), pl 14 (.int .i64 many1), pl 15 (.int .i64 gap1), pl 16 (.slice A5 r1.length c5)] hF hS (by kernel_rfl) (by kernel_rfl) ?_ (fun a w hF hS => ?_)
              · exact obs_nil
              refine at_end [0, 1, 2, 3, 9, 12, 14, 15, 16] [pl 0 (.slice A1 line1.length c1), pl 1 (.slice A2 clue1.length c2), pl 2 (.slice A3 begun1.length c3), pl 3 (.slice A4 filled1.length c4), pl 9 (.int .i64 (begun1.length : Int)), pl 12 (.int .i64 need2), pl 14 (.int .i64 many1), pl 15 (.int .i64 gap1), pl 16 (.slice A5 r1.length c5)] hF rfl (by kernel_rfl) (fun hF => ?_)
              refine then_n ?_
              refine seq_cut (fun a w => ∃ (next2 : List Int) (A7 : Option Addr) (c7 : Nat), Fr 145 [pl 0 (.slice A1 line1.length c1), pl 1 (.slice A2 clue1.length c2), pl 2 (.slice A3 begun1.length c3), pl 3 (.slice A4 filled1.length c4), pl 9 (.int .i64 (begun1.length : Int)), pl 12 (.int .i64 need2), pl 14 (.int .i64 many1), pl 15 (.int .i64 gap1), pl 16 (.slice A7 next2.length c7)] a ∧ Sep w0 B w (own 3 (.slice A4 filled1.length c4) (vI filled5) :: own 3 (.slice A7 next2.length c7) (vI next2) :: fs) ∧ ((gameroomref_lineFill_2_J15 rec_gameroomref_lineFill_2 line1 clue1 filled5 many1 gap1) next2).bind φ4 = some r) ?_ ?_
              · rintro a w ⟨next2, A7, c7, hF, hS, hm⟩
                unfold gameroomref_lineFill_2_J15 at hm
                refine reg [] [] [0, 1, 2, 3, 9, 12, 14, 15, 16, 18] [pl 0 (.slice A1 line1.length c1), pl 1 (.slice A2 clue1.length c2), pl 2 (.slice A3 begun1.length c3), pl 3 (.slice A4 filled1.length c4), pl 9 (.int .i64 (begun1.length : Int)), pl 12 (.int .i64 need2), pl 14 (.int .i64 many1), pl 15 (.int .i64 gap1), pl 16 (.slice A7 next2.length c7), pl 18 (.bool true)] hF hS Fol (by kernel_rfl) (by kernel_rfl) (by kernel_rfl) ?_ (fun a w hF hS => ?_)
                · exact obs_nil
                refine seq_cut (fun a w => ∃ (next5 : List Int) (ok2 : Bool) (A11 : Option Addr) (c11 : Nat), Fr 145 [pl 0 (.slice A1 line1.length c1), pl 1 (.slice A2 clue1.length c2), pl 2 (.slice A3 begun1.length c3), pl 3 (.slice A4 filled1.length c4), pl 9 (.int .i64 (begun1.length : Int)), pl 12 (.int .i64 need2), pl 14 (.int .i64 many1), pl 15 (.int .i64 gap1), pl 16 (.slice A11 next5.length c11), pl 18 (.bool ok2)] a ∧ Sep w0 B w (own 3 (.slice A4 filled1.length c4) (vI filled5) :: own 3 (.slice A11 next5.length c11) (vI next5) :: fs) ∧ ((gameroomref_lineFill_2_J18 rec_gameroomref_lineFill_2 line1 clue1 filled5 many1 gap1) next5 ok2).bind φ4 = some r) ?_ ?_
                · rintro a w ⟨next5, ok2, A11, c11, hF, hS, hm⟩
                  unfold gameroomref_lineFill_2_J18 at hm
                  refine seq_cut (fun a w => ∃ (next7 : List Int) (ok3 : Bool) (A15 : Option Addr) (c15 : Nat), Fr 145 [pl 0 (.slice A1 line1.length c1), pl 1 (.slice A2 clue1.length c2), pl 2 (.slice A3 begun1.length c3), pl 3 (.slice A4 filled1.length c4), pl 9 (.int .i64 (begun1.length : Int)), pl 12 (.int .i64 need2), pl 14 (.int .i64 many1), pl 15 (.int .i64 gap1), pl 16 (.slice A15 next7.length c15), pl 18 (.bool ok3)] a ∧ Sep w0 B w (own 3 (.slice A4 filled1.length c4) (vI filled5) :: own 3 (.slice A15 next7.length c15) (vI next7) :: fs) ∧ ((gameroomref_lineFill_2_J21 rec_gameroomref_lineFill_2 line1 clue1 filled5 many1 gap1) next7 ok3).bind φ4 = some r) ?_ ?_
                  · rintro a w ⟨next7, ok3, A15, c15, hF, hS, hm⟩
                    unfold gameroomref_lineFill_2_J21 at hm
                    refine reg [] [] [0, 1, 2, 3, 9, 12, 14, 15, 16, 135] [pl 0 (.slice A1 line1.length c1), pl 1 (.slice A2 clue1.length c2), pl 2 (.slice A3 begun1.length c3), pl 3 (.slice A4 filled1.length c4), pl 9 (.int .i64 (begun1.length : Int)), pl 12 (.int .i64 need2), pl 14 (.int .i64 many1), pl 15 (.int .i64 gap1), pl 16 (.slice A15 next7.length c15), pl 135 (.bool ok3)] hF hS Fol (by kernel_rfl) (by kernel_rfl) (by kernel_rfl) ?_ (fun a w hF hS => ?_)
                    · exact obs_nil
                    refine cond_ev (t := 135) (b := ok3) hF (by kernel_rfl) (fun hb => ?_) (fun hb => ?_)
                    · replace hm := if_t hm hb
                      refine oneR ?_
                      obtain ⟨hp13, hm⟩ := asrt_b hm
                      obtain ⟨r2, hr2, hm⟩ := call_b hm
                      refine at_run 6 [⟨true, [], vS (Instr.sliceAt 22 (.slice A2 clue1.length c2) (some (.int .i64 (1 : Int))) none none), .slice (cutAddr A2 c2 (1 : Int)) ((cut clue1 (1 : Int) (clue1.length : Int)).length) (c2 - Int.toNat (1 : Int))⟩] [none, none, none, some (.slice (cutAddr A2 c2 (1 : Int)) ((cut clue1 (1 : Int) (clue1.length : Int)).length) (c2 - Int.toNat (1 : Int))), none, none] [0, 1, 2, 3, 9, 12, 15, 136, 137, 139, 140, 141] [pl 0 (.slice A1 line1.length c1), pl 1 (.slice A2 clue1.length c2), pl 2 (.slice A3 begun1.length c3), pl 3 (.slice A4 filled1.length c4), pl 9 (.int .i64 (begun1.length : Int)), pl 12 (.int .i64 need2), pl 15 (.int .i64 gap1), pl 136 (.int .i64 many1), pl 137 (.slice A1 line1.length c1), pl 139 (.slice (cutAddr A2 c2 (1 : Int)) ((cut clue1 (1 : Int) (clue1.length : Int)).length) (c2 - Int.toNat (1 : Int))), pl 140 (.slice A15 next7.length c15), pl 141 (.slice A4 filled1.length c4)] hF hS (by kernel_rfl) (by kernel_rfl) ?_ (fun a w hF hS => ?_)
                      · exact obs_cons (ob_cutn (l := clue1) (k := .i64) (k' := .i64) Und22 hi3 hs3 rfl (.inl rfl) (.inr ⟨rfl, rfl⟩) (fun _ => hp13) _hc_clue1) <| obs_nil
                      refine at_call (f := 119) (args := #[.slice A1 line1.length c1, .slice (cutAddr A2 c2 (1 : Int)) ((cut clue1 (1 : Int) (clue1.length : Int)).length) (c2 - Int.toNat (1 : Int)), .slice A15 next7.length c15, .slice A4 filled1.length c4]) (d := 142) hF (by kernel_rfl) (by kernel_rfl) Try.func119 (by kernel_rfl) rfl (ih_gameroomref_lineFill_2 hr2 hS (fun _ hS => (hr_line1 _ (hS.dropN 1))) _hc_line1 rfl (fun _ hS => (Rd.cutF (hr_clue1 _ (hS.dropN 1)) hp13 _hc_clue1)) (cap_cut hp13 _hc_clue1) rfl (fun _ hS => (hS.at_ 0 rfl).rd) (((hS.dropN 1).at_ 0 rfl).cap1) rfl) (fun v a w hR hF => ?_)
                      clear hS
                      obtain ⟨rfl, hS⟩ := hR
                      have hS : Sep w0 B w (own 3 (.slice A4 filled1.length c4) (vI r2.2) :: own 3 (.slice A15 next7.length c15) (vI next7) :: fs) := hS
                      refine at_run 2 [] [] [0, 1, 2, 3, 9, 12, 14, 15] [pl 0 (.slice A1 line1.length c1), pl 1 (.slice A2 clue1.length c2), pl 2 (.slice A3 begun1.length c3), pl 3 (.slice A4 filled1.length c4), pl 9 (.int .i64 (begun1.length : Int)), pl 12 (.int .i64 need2), pl 14 (.int .i64 (w64 (many1 + r2.1))), pl 15 (.int .i64 gap1)] hF hS (by kernel_rfl) (by kernel_rfl) ?_ (fun a w hF hS => ?_)
                      · exact obs_nil
                      refine at_end [0, 1, 2, 3, 9, 12, 14, 15] [pl 0 (.slice A1 line1.length c1), pl 1 (.slice A2 clue1.length c2), pl 2 (.slice A3 begun1.length c3), pl 3 (.slice A4 filled1.length c4), pl 9 (.int .i64 (begun1.length : Int)), pl 12 (.int .i64 need2), pl 14 (.int .i64 (w64 (many1 + r2.1))), pl 15 (.int .i64 gap1)] hF rfl (by kernel_rfl) (fun hF => ?_)
                      refine block_n ?_
                      refine then_n ?_
                      have hS := hS.pickN 2 [0] (by decide)
                      exact ⟨r2.2, (w64 (many1 + r2.1)), hF.weak [0, 1, 2, 3, 9, 12, 14, 15] (by kernel_rfl), hS, hm⟩
                    · replace hm := if_f hm hb
                      refine wpIn_skip ?_
                      refine block_n ?_
                      refine then_n ?_
                      have hS := hS.pickN 2 [0] (by decide)
                      exact ⟨filled5, many1, hF.weak [0, 1, 2, 3, 9, 12, 14, 15] (by kernel_rfl), hS, hm⟩
                  · refine reg [] [] [0, 1, 2, 3, 9, 12, 14, 15, 16, 18, 122] [pl 0 (.slice A1 line1.length c1), pl 1 (.slice A2 clue1.length c2), pl 2 (.slice A3 begun1.length c3), pl 3 (.slice A4 filled1.length c4), pl 9 (.int .i64 (begun1.length : Int)), pl 12 (.int .i64 need2), pl 14 (.int .i64 many1), pl 15 (.int .i64 gap1), pl 16 (.slice A11 next5.length c11), pl 18 (.bool ok2), pl 122 (.bool (decide ((next5.length : Int) < (line1.length : Int))))] hF hS Fol (by kernel_rfl) (by kernel_rfl) (by kernel_rfl) ?_ (fun a w hF hS => ?_)
                    · exact obs_nil
                    refine cond_ev (t := 122) (b := decide ((next5.length : Int) < (line1.length : Int))) hF (by kernel_rfl) (fun hb => ?_) (fun hb => ?_)
                    · replace hm := if_t hm hb
                      obtain ⟨hp11, hm⟩ := asrt_b hm
                      refine reg [⟨true, [(ok2, true)], vS (Instr.indexAt 22 (.slice A1 line1.length c1) (.int .i64 (next5.length : Int))), .pointer (some (sAddr A1 (next5.length : Int)))⟩, ⟨false, [(ok2, true)], vS (Instr.loadAt 3 (.pointer (some (sAddr A1 (next5.length : Int))))), .int .i64 (geti line1 (next5.length : Int))⟩] [none, none, none, none, none, some (.pointer (some (sAddr A1 (next5.length : Int)))), some (.int .i64 (geti line1 (next5.length : Int))), none, none, none] [0, 1, 2, 3, 9, 12, 14, 15, 16, 18] [pl 0 (.slice A1 line1.length c1), pl 1 (.slice A2 clue1.length c2), pl 2 (.slice A3 begun1.length c3), pl 3 (.slice A4 filled1.length c4), pl 9 (.int .i64 (begun1.length : Int)), pl 12 (.int .i64 need2), pl 14 (.int .i64 many1), pl 15 (.int .i64 gap1), pl 16 (.slice A11 next5.length c11), pl 18 (.bool (ok2 && ((geti line1 (next5.length : Int)) != 1)))] hF hS Fol (by kernel_rfl) (by kernel_rfl) (by kernel_rfl) ?_ (fun a w hF hS => ?_)
                      · exact obs_cons (ob_ix1 (f := (Value.int .i64)) (m := line1) Und22 hi3 hs3 (hr_line1 _ (hS.dropN 2)) rfl (fun hy => hp11 (hy (ok2, true) (by simp)))) <| obs_cons (ob_get1 (n := line1.length) (m := line1) (Value.int .i64) (0 : Int) Agg3 (fun _ hS => ⟨_, (hr_line1 _ (hS.dropN 2))⟩) (fun _ hS => rfl) (fun hy => hp11 (hy (ok2, true) (by simp)))) <| obs_nil
                      refine oneR ?_
                      obtain ⟨hp12, hm⟩ := asrt_b hm
                      refine at_run 1 [] [] [0, 1, 2, 3, 9, 12, 14, 15, 18, 132] [pl 0 (.slice A1 line1.length c1), pl 1 (.slice A2 clue1.length c2), pl 2 (.slice A3 begun1.length c3), pl 3 (.slice A4 filled1.length c4), pl 9 (.int .i64 (begun1.length : Int)), pl 12 (.int .i64 need2), pl 14 (.int .i64 many1), pl 15 (.int .i64 gap1), pl 18 (.bool (ok2 && ((geti line1 (next5.length : Int)) != 1))), pl 132 (.slice A11 next5.length c11)] hF hS (by kernel_rfl) (by kernel_rfl) ?_ (fun a w hF hS => ?_)
                      · exact obs_nil
                      refine at_do (d := 133) (s := vS (Instr.buildSlice 22 1 #[(0, .int .i64 0)])) (v := .slice (some ⟨w.heap.size, 0, none⟩) 1 1) (w' := w.alloc (.cells #[.int .i64 0] 3)) hF (by kernel_rfl) (by kernel_rfl) (by kernel_rfl) (fun a hF => ?_)
                      have hS : Sep w0 B (w.alloc (.cells #[.int .i64 0] 3)) (own 3 (.slice (some (⟨w.heap.size, 0, none⟩ : Addr)) 1 1) (vI ([0] : List Int)) :: (own 3 (.slice A4 filled1.length c4) (vI filled5) :: own 3 (.slice A11 next5.length c11) (vI next5) :: fs)) := hS.lit 3 #[.int .i64 0] 1 rfl (by omega)
                      generalize (some (⟨w.heap.size, 0, none⟩ : Addr)) = g3 at hF hS
                      generalize w.alloc (.cells #[.int .i64 0] 3) = w at hS ⊢
                      obtain ⟨A14, c14, w, hrun, hS⟩ := run_app1 (P := Try.prog) (t := 22) (m := next5) (ys := ([0] : List Int)) (A2 := g3) (m2 := 1) (c2 := 1) (Value.int .i64) (0 : Int) (hS.at_ 2 rfl) (hS.at_ 0 rfl).rd ((hS.at_ 0 rfl).len1) 22 Und22 hi3 hz3 hs3 (by omega) rfl (fun _ => rfl) hp12
                      have hS : Sep w0 B w (own 3 (.slice g3 1 1) (vI ([0] : List Int)) :: own 3 (.slice A4 filled1.length c4) (vI filled5) :: own 3 (.slice A14 ((next5 ++ ([0] : List Int)).length) c14) (vI (next5 ++ ([0] : List Int))) :: fs) := hS
                      refine at_do (d := 134) hF (by kernel_rfl) (by kernel_rfl) hrun (fun a hF => ?_)
                      refine at_run 1 [] [] [0, 1, 2, 3, 9, 12, 14, 15, 16, 18] [pl 0 (.slice A1 line1.length c1), pl 1 (.slice A2 clue1.length c2), pl 2 (.slice A3 begun1.length c3), pl 3 (.slice A4 filled1.length c4), pl 9 (.int .i64 (begun1.length : Int)), pl 12 (.int .i64 need2), pl 14 (.int .i64 many1), pl 15 (.int .i64 gap1), pl 16 (.slice A14 ((next5 ++ ([0] : List Int)).length) c14), pl 18 (.bool (ok2 && ((geti line1 (next5.length : Int)) != 1)))] hF hS (by kernel_rfl) (by kernel_rfl) ?_ (fun a w hF hS => ?_)
                      · exact obs_nil
                      refine at_end [0, 1, 2, 3, 9, 12, 14, 15, 16, 18] [pl 0 (.slice A1 line1.length c1), pl 1 (.slice A2 clue1.length c2), pl 2 (.slice A3 begun1.length c3), pl 3 (.slice A4 filled1.length c4), pl 9 (.int .i64 (begun1.length : Int)), pl 12 (.int .i64 need2), pl 14 (.int .i64 many1), pl 15 (.int .i64 gap1), pl 16 (.slice A14 ((next5 ++ ([0] : List Int)).length) c14), pl 18 (.bool (ok2 && ((geti line1 (next5.length : Int)) != 1)))] hF rfl (by kernel_rfl) (fun hF => ?_)
                      refine then_n ?_
                      have hS := hS.pickN 3 [1, 2] (by decide)
                      exact ⟨(next5 ++ ([0] : List Int)), (ok2 && ((geti line1 (next5.length : Int)) != 1)), A14, c14, hF.weak [0, 1, 2, 3, 9, 12, 14, 15, 16, 18] (by kernel_rfl), hS, hm⟩
                    · replace hm := if_f hm hb
                      refine wpIn_skip ?_
                      refine then_n ?_
                      exact ⟨next5, ok2, A11, c11, hF.weak [0, 1, 2, 3, 9, 12, 14, 15, 16, 18] (by kernel_rfl), hS, hm⟩
                · refine reg [] [] [0, 1, 2, 3, 9, 12, 14, 15, 16, 18, 19] [pl 0 (.slice A1 line1.length c1), pl 1 (.slice A2 clue1.length c2), pl 2 (.slice A3 begun1.length c3), pl 3 (.slice A4 filled1.length c4), pl 9 (.int .i64 (begun1.length : Int)), pl 12 (.int .i64 need2), pl 14 (.int .i64 many1), pl 15 (.int .i64 gap1), pl 16 (.slice A7 next2.length c7), pl 18 (.bool true), pl 19 (.int .i64 0)] hF hS Fol (by kernel_rfl) (by kernel_rfl) (by kernel_rfl) ?_ (fun a w hF hS => ?_)
                  · exact obs_nil
                  refine wpIn_block ?_
                  refine wp_loop_model (S := (List Int × Bool × Int)) (R := (List Int × Bool)) (gameroomref_lineFill_2_L6 line1 clue1) (fun x => ((gameroomref_lineFill_2_K6 rec_gameroomref_lineFill_2 line1 clue1 filled5 many1 gap1) x).bind φ4) r (fun (x : (List Int × Bool × Int)) a w => ∃ (A10 : Option Addr) (c10 : Nat), Fr 145 [pl 0 (.slice A1 line1.length c1), pl 1 (.slice A2 clue1.length c2), pl 2 (.slice A3 begun1.length c3), pl 3 (.slice A4 filled1.length c4), pl 9 (.int .i64 (begun1.length : Int)), pl 12 (.int .i64 need2), pl 14 (.int .i64 many1), pl 15 (.int .i64 gap1), pl 16 (.slice A10 x.1.length c10), pl 18 (.bool x.2.1), pl 19 (.int .i64 x.2.2)] a ∧ Sep w0 B w (own 3 (.slice A4 filled1.length c4) (vI filled5) :: own 3 (.slice A10 x.1.length c10) (vI x.1) :: fs)) (assoc_b hm) ⟨A7, c7, hF.weak [0, 1, 2, 3, 9, 12, 14, 15, 16, 18, 19] (by kernel_rfl), hS⟩ ?_
                  clear hF hS hm
                  rintro nn6 ⟨next4, ok1, i5⟩ a w ⟨A10, c10, hF, hS⟩ hm
                  generalize hφ6 : stK (gameroomref_lineFill_2_L6 line1 clue1) nn6 (fun x => ((gameroomref_lineFill_2_K6 rec_gameroomref_lineFill_2 line1 clue1 filled5 many1 gap1) x).bind φ4) = φ6 at hm
                  unfold gameroomref_lineFill_2_L6 at hm
                  dsimp only at hF hS hm
                  refine seq_cut (fun a w => Fr 145 [pl 0 (.slice A1 line1.length c1), pl 1 (.slice A2 clue1.length c2), pl 2 (.slice A3 begun1.length c3), pl 3 (.slice A4 filled1.length c4), pl 9 (.int .i64 (begun1.length : Int)), pl 12 (.int .i64 need2), pl 14 (.int .i64 many1), pl 15 (.int .i64 gap1), pl 16 (.slice A10 next4.length c10), pl 18 (.bool ok1), pl 19 (.int .i64 i5)] a ∧ Sep w0 B w (own 3 (.slice A4 filled1.length c4) (vI filled5) :: own 3 (.slice A10 next4.length c10) (vI next4) :: fs) ∧ ((gameroomref_lineFill_2_J19 line1 next4 ok1 i5)).bind φ6 = some r) ?_ ?_
                  · rintro a w ⟨hF, hS, hm⟩
                    unfold gameroomref_lineFill_2_J19 at hm
                    refine seq_cut (fun a w => ∃ (next6 : List Int) (A13 : Option Addr) (c13 : Nat), Fr 145 [pl 0 (.slice A1 line1.length c1), pl 1 (.slice A2 clue1.length c2), pl 2 (.slice A3 begun1.length c3), pl 3 (.slice A4 filled1.length c4), pl 9 (.int .i64 (begun1.length : Int)), pl 12 (.int .i64 need2), pl 14 (.int .i64 many1), pl 15 (.int .i64 gap1), pl 16 (.slice A13 next6.length c13), pl 18 (.bool (ok1 && ((geti line1 (next4.length : Int)) != 0))), pl 19 (.int .i64 i5)] a ∧ Sep w0 B w (own 3 (.slice A4 filled1.length c4) (vI filled5) :: own 3 (.slice A13 next6.length c13) (vI next6) :: fs) ∧ ((gameroomref_lineFill_2_J20 line1 next4 ok1 i5) next6).bind φ6 = some r) ?_ ?_
                    · rintro a w ⟨next6, A13, c13, hF, hS, hm⟩
                      unfold gameroomref_lineFill_2_J20 at hm
                      refine reg1 [] [] [0, 1, 2, 3, 9, 12, 14, 15, 16, 18, 19] [pl 0 (.slice A1 line1.length c1), pl 1 (.slice A2 clue1.length c2), pl 2 (.slice A3 begun1.length c3), pl 3 (.slice A4 filled1.length c4), pl 9 (.int .i64 (begun1.length : Int)), pl 12 (.int .i64 need2), pl 14 (.int .i64 many1), pl 15 (.int .i64 gap1), pl 16 (.slice A13 next6.length c13), pl 18 (.bool (ok1 && ((geti line1 (next4.length : Int)) != 0))), pl 19 (.int .i64 (w64 (i5 + 1)))] hF hS Fol (by kernel_rfl) (by kernel_rfl) (by kernel_rfl) ?_ (fun a w hF hS => ?_)
                      · exact obs_nil
                      refine then_n ?_
                      rw [← hφ6] at hm
                      exact ⟨(next6, (ok1 && ((geti line1 (next4.length : Int)) != 0)), (w64 (i5 + 1))), ⟨A13, c13, hF.weak [0, 1, 2, 3, 9, 12, 14, 15, 16, 18, 19] (by kernel_rfl), hS⟩, hm⟩
                    · refine wpIn_block ?_
                      obtain ⟨hp9, hm⟩ := asrt_b hm
                      refine reg [⟨true, [(ok1, true)], vS (Instr.indexAt 22 (.slice A1 line1.length c1) (.int .i64 (next4.length : Int))), .pointer (some (sAddr A1 (next4.length : Int)))⟩, ⟨false, [(ok1, true)], vS (Instr.loadAt 3 (.pointer (some (sAddr A1 (next4.length : Int))))), .int .i64 (geti line1 (next4.length : Int))⟩] [none, none, none, none, none, some (.pointer (some (sAddr A1 (next4.length : Int)))), some (.int .i64 (geti line1 (next4.length : Int))), none, none, none] [0, 1, 2, 3, 9, 12, 14, 15, 16, 18, 19] [pl 0 (.slice A1 line1.length c1), pl 1 (.slice A2 clue1.length c2), pl 2 (.slice A3 begun1.length c3), pl 3 (.slice A4 filled1.length c4), pl 9 (.int .i64 (begun1.length : Int)), pl 12 (.int .i64 need2), pl 14 (.int .i64 many1), pl 15 (.int .i64 gap1), pl 16 (.slice A10 next4.length c10), pl 18 (.bool (ok1 && ((geti line1 (next4.length : Int)) != 0))), pl 19 (.int .i64 i5)] hF hS Fol (by kernel_rfl) (by kernel_rfl) (by kernel_rfl) ?_ (fun a w hF hS => ?_)
                      · exact obs_cons (ob_ix1 (f := (Value.int .i64)) (m := line1) Und22 hi3 hs3 (hr_line1 _ (hS.dropN 2)) rfl (fun hy => hp9 (hy (ok1, true) (by simp)))) <| obs_cons (ob_get1 (n := line1.length) (m := line1) (Value.int .i64) (0 : Int) Agg3 (fun _ hS => ⟨_, (hr_line1 _ (hS.dropN 2))⟩) (fun _ hS => rfl) (fun hy => hp9 (hy (ok1, true) (by simp)))) <| obs_nil
                      refine oneR ?_
                      obtain ⟨hp10, hm⟩ := asrt_b hm
                      refine at_run 1 [] [] [0, 1, 2, 3, 9, 12, 14, 15, 18, 19, 115] [pl 0 (.slice A1 line1.length c1), pl 1 (.slice A2 clue1.length c2), pl 2 (.slice A3 begun1.length c3), pl 3 (.slice A4 filled1.length c4), pl 9 (.int .i64 (begun1.length : Int)), pl 12 (.int .i64 need2), pl 14 (.int .i64 many1), pl 15 (.int .i64 gap1), pl 18 (.bool (ok1 && ((geti line1 (next4.length : Int)) != 0))), pl 19 (.int .i64 i5), pl 115 (.slice A10 next4.length c10)] hF hS (by kernel_rfl) (by kernel_rfl) ?_ (fun a w hF hS => ?_)
                      · exact obs_nil
                      refine at_do (d := 116) (s := vS (Instr.buildSlice 22 1 #[(0, .int .i64 1)])) (v := .slice (some ⟨w.heap.size, 0, none⟩) 1 1) (w' := w.alloc (.cells #[.int .i64 1] 3)) hF (by kernel_rfl) (by kernel_rfl) (by kernel_rfl) (fun a hF => ?_)
                      have hS : Sep w0 B (w.alloc (.cells #[.int .i64 1] 3)) (own 3 (.slice (some (⟨w.heap.size, 0, none⟩ : Addr)) 1 1) (vI ([1] : List Int)) :: (own 3 (.slice A4 filled1.length c4) (vI filled5) :: own 3 (.slice A10 next4.length c10) (vI next4) :: fs)) := hS.lit 3 #[.int .i64 1] 1 rfl (by omega)
                      generalize (some (⟨w.heap.size, 0, none⟩ : Addr)) = g2 at hF hS
                      generalize w.alloc (.cells #[.int .i64 1] 3) = w at hS ⊢
                      obtain ⟨A12, c12, w, hrun, hS⟩ := run_app1 (P := Try.prog) (t := 22) (m := next4) (ys := ([1] : List Int)) (A2 := g2) (m2 := 1) (c2 := 1) (Value.int .i64) (0 : Int) (hS.at_ 2 rfl) (hS.at_ 0 rfl).rd ((hS.at_ 0 rfl).len1) 22 Und22 hi3 hz3 hs3 (by omega) rfl (fun _ => rfl) hp10
                      have hS : Sep w0 B w (own 3 (.slice g2 1 1) (vI ([1] : List Int)) :: own 3 (.slice A4 filled1.length c4) (vI filled5) :: own 3 (.slice A12 ((next4 ++ ([1] : List Int)).length) c12) (vI (next4 ++ ([1] : List Int))) :: fs) := hS
                      refine at_do (d := 117) hF (by kernel_rfl) (by kernel_rfl) hrun (fun a hF => ?_)
                      refine at_run 1 [] [] [0, 1, 2, 3, 9, 12, 14, 15, 16, 18, 19] [pl 0 (.slice A1 line1.length c1), pl 1 (.slice A2 clue1.length c2), pl 2 (.slice A3 begun1.length c3), pl 3 (.slice A4 filled1.length c4), pl 9 (.int .i64 (begun1.length : Int)), pl 12 (.int .i64 need2), pl 14 (.int .i64 many1), pl 15 (.int .i64 gap1), pl 16 (.slice A12 ((next4 ++ ([1] : List Int)).length) c12), pl 18 (.bool (ok1 && ((geti line1 (next4.length : Int)) != 0))), pl 19 (.int .i64 i5)] hF hS (by kernel_rfl) (by kernel_rfl) ?_ (fun a w hF hS => ?_)
                      · exact obs_nil
                      refine at_end [0, 1, 2, 3, 9, 12, 14, 15, 16, 18, 19] [pl 0 (.slice A1 line1.length c1), pl 1 (.slice A2 clue1.length c2), pl 2 (.slice A3 begun1.length c3), pl 3 (.slice A4 filled1.length c4), pl 9 (.int .i64 (begun1.length : Int)), pl 12 (.int .i64 need2), pl 14 (.int .i64 many1), pl 15 (.int .i64 gap1), pl 16 (.slice A12 ((next4 ++ ([1] : List Int)).length) c12), pl 18 (.bool (ok1 && ((geti line1 (next4.length : Int)) != 0))), pl 19 (.int .i64 i5)] hF rfl (by kernel_rfl) (fun hF => ?_)
                      refine block_n ?_
                      refine then_n ?_
                      have hS := hS.pickN 3 [1, 2] (by decide)
                      exact ⟨(next4 ++ ([1] : List Int)), A12, c12, hF.weak [0, 1, 2, 3, 9, 12, 14, 15, 16, 18, 19] (by kernel_rfl), hS, hm⟩
                  · obtain ⟨hp8, hm⟩ := asrt_b hm
                    refine reg [⟨true, [], vS (Instr.indexAt 22 (.slice A2 clue1.length c2) (.int .i64 0)), .pointer (some (sAddr A2 0))⟩, ⟨false, [], vS (Instr.loadAt 3 (.pointer (some (sAddr A2 0)))), .int .i64 (geti clue1 0)⟩] [none, none, some (.pointer (some (sAddr A2 0))), some (.int .i64 (geti clue1 0)), none] [0, 1, 2, 3, 9, 12, 14, 15, 16, 18, 19, 103] [pl 0 (.slice A1 line1.length c1), pl 1 (.slice A2 clue1.length c2), pl 2 (.slice A3 begun1.length c3), pl 3 (.slice A4 filled1.length c4), pl 9 (.int .i64 (begun1.length : Int)), pl 12 (.int .i64 need2), pl 14 (.int .i64 many1), pl 15 (.int .i64 gap1), pl 16 (.slice A10 next4.length c10), pl 18 (.bool ok1), pl 19 (.int .i64 i5), pl 103 (.bool (decide (i5 < (geti clue1 0))))] hF hS Fol (by kernel_rfl) (by kernel_rfl) (by kernel_rfl) ?_ (fun a w hF hS => ?_)
                    · exact obs_cons (ob_ix1 (f := (Value.int .i64)) (m := clue1) Und22 hi3 hs3 (hr_clue1 _ (hS.dropN 2)) rfl (fun _ => hp8)) <| obs_cons (ob_get1 (n := clue1.length) (m := clue1) (Value.int .i64) (0 : Int) Agg3 (fun _ hS => ⟨_, (hr_clue1 _ (hS.dropN 2))⟩) (fun _ hS => rfl) (fun _ => hp8)) <| obs_nil
                    refine cond_ev (t := 103) (b := decide (i5 < (geti clue1 0))) hF (by kernel_rfl) (fun hb => ?_) (fun hb => ?_)
                    · replace hm := if_t hm hb
                      refine wpIn_skip ?_
                      refine then_n ?_
                      exact ⟨hF.weak [0, 1, 2, 3, 9, 12, 14, 15, 16, 18, 19] (by kernel_rfl), hS, hm⟩
                    · replace hm := if_f hm hb
                      refine wpIn_exit ?_
                      refine then_e (then_e (block_e (then_n ?_)))
                      rw [← hφ6] at hm
                      replace hm := done_b hm
                      unfold gameroomref_lineFill_2_K6 at hm
                      try dsimp only at hm
                      have hm : ((gameroomref_lineFill_2_J18 rec_gameroomref_lineFill_2 line1 clue1 filled5 many1 gap1) next4 ok1).bind φ4 = some r := hm
                      exact ⟨next4, ok1, A10, c10, hF.weak [0, 1, 2, 3, 9, 12, 14, 15, 16, 18] (by kernel_rfl), hS, hm⟩
              · refine reg [] [] [0, 1, 2, 3, 9, 12, 14, 15, 16, 17] [pl 0 (.slice A1 line1.length c1), pl 1 (.slice A2 clue1.length c2), pl 2 (.slice A3 begun1.length c3), pl 3 (.slice A4 filled1.length c4), pl 9 (.int .i64 (begun1.length : Int)), pl 12 (.int .i64 need2), pl 14 (.int .i64 many1), pl 15 (.int .i64 gap1), pl 16 (.slice A5 r1.length c5), pl 17 (.int .i64 0)] hF hS Fol (by kernel_rfl) (by kernel_rfl) (by kernel_rfl) ?_ (fun a w hF hS => ?_)
                · exact obs_nil
                refine wpIn_block ?_
                have hS := hS.pickN 2 [1, 0] (by decide)
                refine wp_loop_model (S := (List Int × Int)) (R := (List Int)) (gameroomref_lineFill_2_L5 gap1) (fun x => ((gameroomref_lineFill_2_K5 rec_gameroomref_lineFill_2 line1 clue1 filled5 many1 gap1) x).bind φ4) r (fun (x : (List Int × Int)) a w => ∃ (A6 : Option Addr) (c6 : Nat), Fr 145 [pl 0 (.slice A1 line1.length c1), pl 1 (.slice A2 clue1.length c2), pl 2 (.slice A3 begun1.length c3), pl 3 (.slice A4 filled1.length c4), pl 9 (.int .i64 (begun1.length : Int)), pl 12 (.int .i64 need2), pl 14 (.int .i64 many1), pl 15 (.int .i64 gap1), pl 16 (.slice A6 x.1.length c6), pl 17 (.int .i64 x.2)] a ∧ Sep w0 B w (own 3 (.slice A4 filled1.length c4) (vI filled5) :: own 3 (.slice A6 x.1.length c6) (vI x.1) :: fs)) (assoc_b hm) ⟨A5, c5, hF.weak [0, 1, 2, 3, 9, 12, 14, 15, 16, 17] (by kernel_rfl), hS⟩ ?_
                clear hF hS hm
                rintro nn5 ⟨next1, i4⟩ a w ⟨A6, c6, hF, hS⟩ hm
                generalize hφ5 : stK (gameroomref_lineFill_2_L5 gap1) nn5 (fun x => ((gameroomref_lineFill_2_K5 rec_gameroomref_lineFill_2 line1 clue1 filled5 many1 gap1) x).bind φ4) = φ5 at hm
                unfold gameroomref_lineFill_2_L5 at hm
                dsimp only at hF hS hm
                refine seq_cut (fun a w => Fr 145 [pl 0 (.slice A1 line1.length c1), pl 1 (.slice A2 clue1.length c2), pl 2 (.slice A3 begun1.length c3), pl 3 (.slice A4 filled1.length c4), pl 9 (.int .i64 (begun1.length : Int)), pl 12 (.int .i64 need2), pl 14 (.int .i64 many1), pl 15 (.int .i64 gap1), pl 16 (.slice A6 next1.length c6), pl 17 (.int .i64 i4)] a ∧ Sep w0 B w (own 3 (.slice A4 filled1.length c4) (vI filled5) :: own 3 (.slice A6 next1.length c6) (vI next1) :: fs) ∧ ((gameroomref_lineFill_2_J16 next1 i4)).bind φ5 = some r) ?_ ?_
                · rintro a w ⟨hF, hS, hm⟩
                  unfold gameroomref_lineFill_2_J16 at hm
                  refine seq_cut (fun a w => ∃ (next3 : List Int) (A9 : Option Addr) (c9 : Nat), Fr 145 [pl 0 (.slice A1 line1.length c1), pl 1 (.slice A2 clue1.length c2), pl 2 (.slice A3 begun1.length c3), pl 3 (.slice A4 filled1.length c4), pl 9 (.int .i64 (begun1.length : Int)), pl 12 (.int .i64 need2), pl 14 (.int .i64 many1), pl 15 (.int .i64 gap1), pl 16 (.slice A9 next3.length c9), pl 17 (.int .i64 i4)] a ∧ Sep w0 B w (own 3 (.slice A4 filled1.length c4) (vI filled5) :: own 3 (.slice A9 next3.length c9) (vI next3) :: fs) ∧ ((gameroomref_lineFill_2_J17 i4) next3).bind φ5 = some r) ?_ ?_
                  · rintro a w ⟨next3, A9, c9, hF, hS, hm⟩
                    unfold gameroomref_lineFill_2_J17 at hm
                    refine reg1 [] [] [0, 1, 2, 3, 9, 12, 14, 15, 16, 17] [pl 0 (.slice A1 line1.length c1), pl 1 (.slice A2 clue1.length c2), pl 2 (.slice A3 begun1.length c3), pl 3 (.slice A4 filled1.length c4), pl 9 (.int .i64 (begun1.length : Int)), pl 12 (.int .i64 need2), pl 14 (.int .i64 many1), pl 15 (.int .i64 gap1), pl 16 (.slice A9 next3.length c9), pl 17 (.int .i64 (w64 (i4 + 1)))] hF hS Fol (by kernel_rfl) (by kernel_rfl) (by kernel_rfl) ?_ (fun a w hF hS => ?_)
                    · exact obs_nil
                    refine then_n ?_
                    rw [← hφ5] at hm
                    exact ⟨(next3, (w64 (i4 + 1))), ⟨A9, c9, hF.weak [0, 1, 2, 3, 9, 12, 14, 15, 16, 17] (by kernel_rfl), hS⟩, hm⟩
                  · refine wpIn_block ?_
                    refine oneR ?_
                    obtain ⟨hp7, hm⟩ := asrt_b hm
                    refine at_run 1 [] [] [0, 1, 2, 3, 9, 12, 14, 15, 17, 96] [pl 0 (.slice A1 line1.length c1), pl 1 (.slice A2 clue1.length c2), pl 2 (.slice A3 begun1.length c3), pl 3 (.slice A4 filled1.length c4), pl 9 (.int .i64 (begun1.length : Int)), pl 12 (.int .i64 need2), pl 14 (.int .i64 many1), pl 15 (.int .i64 gap1), pl 17 (.int .i64 i4), pl 96 (.slice A6 next1.length c6)] hF hS (by kernel_rfl) (by kernel_rfl) ?_ (fun a w hF hS => ?_)
                    · exact obs_nil
                    refine at_do (d := 97) (s := vS (Instr.buildSlice 22 1 #[(0, .int .i64 0)])) (v := .slice (some ⟨w.heap.size, 0, none⟩) 1 1) (w' := w.alloc (.cells #[.int .i64 0] 3)) hF (by kernel_rfl) (by kernel_rfl) (by kernel_rfl) (fun a hF => ?_)
                    have hS : Sep w0 B (w.alloc (.cells #[.int .i64 0] 3)) (own 3 (.slice (some (⟨w.heap.size, 0, none⟩ : Addr)) 1 1) (vI ([0] : List Int)) :: (own 3 (.slice A4 filled1.length c4) (vI filled5) :: own 3 (.slice A6 next1.length c6) (vI next1) :: fs)) := hS.lit 3 #[.int .i64 0] 1 rfl (by omega)
                    generalize (some (⟨w.heap.size, 0, none⟩ : Addr)) = g1 at hF hS
                    generalize w.alloc (.cells #[.int .i64 0] 3) = w at hS ⊢
                    obtain ⟨A8, c8, w, hrun, hS⟩ := run_app1 (P := Try.prog) (t := 22) (m := next1) (ys := ([0] : List Int)) (A2 := g1) (m2 := 1) (c2 := 1) (Value.int .i64) (0 : Int) (hS.at_ 2 rfl) (hS.at_ 0 rfl).rd ((hS.at_ 0 rfl).len1) 22 Und22 hi3 hz3 hs3 (by omega) rfl (fun _ => rfl) hp7
                    have hS : Sep w0 B w (own 3 (.slice g1 1 1) (vI ([0] : List Int)) :: own 3 (.slice A4 filled1.length c4) (vI filled5) :: own 3 (.slice A8 ((next1 ++ ([0] : List Int)).length) c8) (vI (next1 ++ ([0] : List Int))) :: fs) := hS
                    refine at_do (d := 98) hF (by kernel_rfl) (by kernel_rfl) hrun (fun a hF => ?_)
                    refine at_run 1 [] [] [0, 1, 2, 3, 9, 12, 14, 15, 16, 17] [pl 0 (.slice A1 line1.length c1), pl 1 (.slice A2 clue1.length c2), pl 2 (.slice A3 begun1.length c3), pl 3 (.slice A4 filled1.length c4), pl 9 (.int .i64 (begun1.length : Int)), pl 12 (.int .i64 need2), pl 14 (.int .i64 many1), pl 15 (.int .i64 gap1), pl 16 (.slice A8 ((next1 ++ ([0] : List Int)).length) c8), pl 17 (.int .i64 i4)] hF hS (by kernel_rfl) (by kernel_rfl) ?_ (fun a w hF hS => ?_)
                    · exact obs_nil
                    refine at_end [0, 1, 2, 3, 9, 12, 14, 15, 16, 17] [pl 0 (.slice A1 line1.length c1), pl 1 (.slice A2 clue1.length c2), pl 2 (.slice A3 begun1.length c3), pl 3 (.slice A4 filled1.length c4), pl 9 (.int .i64 (begun1.length : Int)), pl 12 (.int .i64 need2), pl 14 (.int .i64 many1), pl 15 (.int .i64 gap1), pl 16 (.slice A8 ((next1 ++ ([0] : List Int)).length) c8), pl 17 (.int .i64 i4)] hF rfl (by kernel_rfl) (fun hF => ?_)
                    refine block_n ?_
                    refine then_n ?_
                    have hS := hS.pickN 3 [1, 2] (by decide)
                    exact ⟨(next1 ++ ([0] : List Int)), A8, c8, hF.weak [0, 1, 2, 3, 9, 12, 14, 15, 16, 17] (by kernel_rfl), hS, hm⟩
                · refine reg [] [] [0, 1, 2, 3, 9, 12, 14, 15, 16, 17, 93] [pl 0 (.slice A1 line1.length c1), pl 1 (.slice A2 clue1.length c2), pl 2 (.slice A3 begun1.length c3), pl 3 (.slice A4 filled1.length c4), pl 9 (.int .i64 (begun1.length : Int)), pl 12 (.int .i64 need2), pl 14 (.int .i64 many1), pl 15 (.int .i64 gap1), pl 16 (.slice A6 next1.length c6), pl 17 (.int .i64 i4), pl 93 (.bool (decide (i4 < gap1)))] hF hS Fol (by kernel_rfl) (by kernel_rfl) (by kernel_rfl) ?_ (fun a w hF hS => ?_)
                  · exact obs_nil
                  refine cond_ev (t := 93) (b := decide (i4 < gap1)) hF (by kernel_rfl) (fun hb => ?_) (fun hb => ?_)
                  · replace hm := if_t hm hb
                    refine wpIn_skip ?_
                    refine then_n ?_
                    exact ⟨hF.weak [0, 1, 2, 3, 9, 12, 14, 15, 16, 17] (by kernel_rfl), hS, hm⟩
                  · replace hm := if_f hm hb
                    refine wpIn_exit ?_
                    refine then_e (then_e (block_e (then_n ?_)))
                    rw [← hφ5] at hm
                    replace hm := done_b hm
                    unfold gameroomref_lineFill_2_K5 at hm
                    try dsimp only at hm
                    have hm : ((gameroomref_lineFill_2_J15 rec_gameroomref_lineFill_2 line1 clue1 filled5 many1 gap1) next1).bind φ4 = some r := hm
                    exact ⟨next1, A6, c6, hF.weak [0, 1, 2, 3, 9, 12, 14, 15, 16] (by kernel_rfl), hS, hm⟩
            · obtain ⟨hp6, hm⟩ := asrt_b hm
              refine reg [⟨true, [(decide ((0 : Int) < gap1), true)], vS (Instr.indexAt 22 (.slice A1 line1.length c1) (.int .i64 (w64 ((w64 ((begun1.length : Int) + gap1)) - 1)))), .pointer (some (sAddr A1 (w64 ((w64 ((begun1.length : Int) + gap1)) - 1))))⟩, ⟨false, [(decide ((0 : Int) < gap1), true)], vS (Instr.loadAt 3 (.pointer (some (sAddr A1 (w64 ((w64 ((begun1.length : Int) + gap1)) - 1)))))), .int .i64 (geti line1 (w64 ((w64 ((begun1.length : Int) + gap1)) - 1)))⟩] [none, none, none, none, none, none, none, none, some (.pointer (some (sAddr A1 (w64 ((w64 ((begun1.length : Int) + gap1)) - 1))))), some (.int .i64 (geti line1 (w64 ((w64 ((begun1.length : Int) + gap1)) - 1)))), none, none] [0, 1, 2, 3, 9, 12, 14, 15, 88] [pl 0 (.slice A1 line1.length c1), pl 1 (.slice A2 clue1.length c2), pl 2 (.slice A3 begun1.length c3), pl 3 (.slice A4 filled1.length c4), pl 9 (.int .i64 (begun1.length : Int)), pl 12 (.int .i64 need2), pl 14 (.int .i64 many1), pl 15 (.int .i64 gap1), pl 88 (.bool ((decide ((0 : Int) < gap1)) && ((geti line1 (w64 ((w64 ((begun1.length : Int) + gap1)) - 1))) == 1)))] hF hS Fol (by kernel_rfl) (by kernel_rfl) (by kernel_rfl) ?_ (fun a w hF hS => ?_)
              · exact obs_cons (ob_ix1 (f := (Value.int .i64)) (m := line1) Und22 hi3 hs3 (hr_line1 _ (hS.dropN 1)) rfl (fun hy => hp6 (hy (decide ((0 : Int) < gap1), true) (by simp)))) <| obs_cons (ob_get1 (n := line1.length) (m := line1) (Value.int .i64) (0 : Int) Agg3 (fun _ hS => ⟨_, (hr_line1 _ (hS.dropN 1))⟩) (fun _ hS => rfl) (fun hy => hp6 (hy (decide ((0 : Int) < gap1), true) (by simp)))) <| obs_nil
              refine cond_ev (t := 88) (b := (decide ((0 : Int) < gap1)) && ((geti line1 (w64 ((w64 ((begun1.length : Int) + gap1)) - 1))) == 1)) hF (by kernel_rfl) (fun hb => ?_) (fun hb => ?_)
              · replace hm := if_t hm hb
                refine wpIn_exit ?_
                refine then_e (block_o rfl (then_e (then_e (block_e (then_n ?_)))))
                rw [← hφ4] at hm
                replace hm := done_b hm
                unfold gameroomref_lineFill_2_K4 at hm
                try dsimp only at hm
                have hm : (gameroomref_lineFill_2_J11 many1 filled5).bind some = some r := hm
                exact ⟨many1, filled5, hF.weak [14] (by kernel_rfl), hS, hm⟩
              · replace hm := if_f hm hb
                refine wpIn_skip ?_
                refine then_n ?_
                exact ⟨hF.weak [0, 1, 2, 3, 9, 12, 14, 15] (by kernel_rfl), hS, hm⟩
        · refine reg [] [] [0, 1, 2, 3, 9, 12, 14, 15, 74] [pl 0 (.slice A1 line1.length c1), pl 1 (.slice A2 clue1.length c2), pl 2 (.slice A3 begun1.length c3), pl 3 (.slice A4 filled1.length c4), pl 9 (.int .i64 (begun1.length : Int)), pl 12 (.int .i64 need2), pl 14 (.int .i64 many1), pl 15 (.int .i64 gap1), pl 74 (.bool (decide ((w64 ((w64 ((begun1.length : Int) + gap1)) + need2)) ≤ (line1.length : Int))))] hF hS Fol (by kernel_rfl) (by kernel_rfl) (by kernel_rfl) ?_ (fun a w hF hS => ?_)
          · exact obs_nil
          refine cond_ev (t := 74) (b := decide ((w64 ((w64 ((begun1.length : Int) + gap1)) + need2)) ≤ (line1.length : Int))) hF (by kernel_rfl) (fun hb => ?_) (fun hb => ?_)
          · replace hm := if_t hm hb
            refine wpIn_skip ?_
            refine then_n ?_
            exact ⟨hF.weak [0, 1, 2, 3, 9, 12, 14, 15] (by kernel_rfl), hS, hm⟩
          · replace hm := if_f hm hb
            refine wpIn_exit ?_
            refine then_e (then_e (block_e (then_n ?_)))
            rw [← hφ4] at hm
            replace hm := done_b hm
            unfold gameroomref_lineFill_2_K4 at hm
            try dsimp only at hm
            have hm : (gameroomref_lineFill_2_J11 many1 filled5).bind some = some r := hm
            exact ⟨many1, filled5, hF.weak [14] (by kernel_rfl), hS, hm⟩
    · refine reg [] [] [0, 1, 2, 3, 9, 12, 13] [pl 0 (.slice A1 line1.length c1), pl 1 (.slice A2 clue1.length c2), pl 2 (.slice A3 begun1.length c3), pl 3 (.slice A4 filled1.length c4), pl 9 (.int .i64 (begun1.length : Int)), pl 12 (.int .i64 (w64 ((clue1.length : Int) - 1))), pl 13 (.int .i64 0)] hF hS Fol (by kernel_rfl) (by kernel_rfl) (by kernel_rfl) ?_ (fun a w hF hS => ?_)
      · exact obs_nil
      refine wpIn_block ?_
      refine wp_loop_model (S := (Int × Int)) (R := Int) (gameroomref_lineFill_2_L3 clue1) (fun x => ((gameroomref_lineFill_2_K3 rec_gameroomref_lineFill_2 line1 clue1 begun1 filled1) x).bind some) r (fun (x : (Int × Int)) a w => Fr 145 [pl 0 (.slice A1 line1.length c1), pl 1 (.slice A2 clue1.length c2), pl 2 (.slice A3 begun1.length c3), pl 3 (.slice A4 filled1.length c4), pl 9 (.int .i64 (begun1.length : Int)), pl 12 (.int .i64 x.1), pl 13 (.int .i64 x.2)] a ∧ Sep w0 B w (own 3 (.slice A4 filled1.length c4) (vI filled1) :: fs)) (assoc_b hm) ⟨hF.weak [0, 1, 2, 3, 9, 12, 13] (by kernel_rfl), hS⟩ ?_
      clear hF hS hm
      rintro nn3 ⟨need1, i3⟩ a w ⟨hF, hS⟩ hm
      generalize hφ3 : stK (gameroomref_lineFill_2_L3 clue1) nn3 (fun x => ((gameroomref_lineFill_2_K3 rec_gameroomref_lineFill_2 line1 clue1 begun1 filled1) x).bind some) = φ3 at hm
      unfold gameroomref_lineFill_2_L3 at hm
      dsimp only at hF hS hm
      refine seq_cut (fun a w => Fr 145 [pl 0 (.slice A1 line1.length c1), pl 1 (.slice A2 clue1.length c2), pl 2 (.slice A3 begun1.length c3), pl 3 (.slice A4 filled1.length c4), pl 9 (.int .i64 (begun1.length : Int)), pl 12 (.int .i64 need1), pl 13 (.int .i64 i3)] a ∧ Sep w0 B w (own 3 (.slice A4 filled1.length c4) (vI filled1) :: fs) ∧ ((gameroomref_lineFill_2_J9 clue1 need1 i3)).bind φ3 = some r) ?_ ?_
      · rintro a w ⟨hF, hS, hm⟩
        unfold gameroomref_lineFill_2_J9 at hm
        refine seq_cut (fun a w => Fr 145 [pl 0 (.slice A1 line1.length c1), pl 1 (.slice A2 clue1.length c2), pl 2 (.slice A3 begun1.length c3), pl 3 (.slice A4 filled1.length c4), pl 9 (.int .i64 (begun1.length : Int)), pl 12 (.int .i64 (w64 (need1 + (geti clue1 i3)))), pl 13 (.int .i64 i3)] a ∧ Sep w0 B w (own 3 (.slice A4 filled1.length c4) (vI filled1) :: fs) ∧ ((gameroomref_lineFill_2_J10 clue1 need1 i3)).bind φ3 = some r) ?_ ?_
        · rintro a w ⟨hF, hS, hm⟩
          unfold gameroomref_lineFill_2_J10 at hm
          refine reg1 [] [] [0, 1, 2, 3, 9, 12, 13] [pl 0 (.slice A1 line1.length c1), pl 1 (.slice A2 clue1.length c2), pl 2 (.slice A3 begun1.length c3), pl 3 (.slice A4 filled1.length c4), pl 9 (.int .i64 (begun1.length : Int)), pl 12 (.int .i64 (w64 (need1 + (geti clue1 i3)))), pl 13 (.int .i64 (w64 (i3 + 1)))] hF hS Fol (by kernel_rfl) (by kernel_rfl) (by kernel_rfl) ?_ (fun a w hF hS => ?_)
          · exact obs_nil
          refine then_n ?_
          rw [← hφ3] at hm
          exact ⟨((w64 (need1 + (geti clue1 i3))), (w64 (i3 + 1))), ⟨hF.weak [0, 1, 2, 3, 9, 12, 13] (by kernel_rfl), hS⟩, hm⟩
        · refine wpIn_block ?_
          obtain ⟨hp5, hm⟩ := asrt_b hm
          refine reg1 [⟨true, [], vS (Instr.indexAt 22 (.slice A2 clue1.length c2) (.int .i64 i3)), .pointer (some (sAddr A2 i3))⟩, ⟨false, [], vS (Instr.loadAt 3 (.pointer (some (sAddr A2 i3)))), .int .i64 (geti clue1 i3)⟩] [none, none, none, some (.pointer (some (sAddr A2 i3))), some (.int .i64 (geti clue1 i3)), none, none] [0, 1, 2, 3, 9, 12, 13] [pl 0 (.slice A1 line1.length c1), pl 1 (.slice A2 clue1.length c2), pl 2 (.slice A3 begun1.length c3), pl 3 (.slice A4 filled1.length c4), pl 9 (.int .i64 (begun1.length : Int)), pl 12 (.int .i64 (w64 (need1 + (geti clue1 i3)))), pl 13 (.int .i64 i3)] hF hS Fol (by kernel_rfl) (by kernel_rfl) (by kernel_rfl) ?_ (fun a w hF hS => ?_)
          · exact obs_cons (ob_ix1 (f := (Value.int .i64)) (m := clue1) Und22 hi3 hs3 (hr_clue1 _ (hS.dropN 1)) rfl (fun _ => hp5)) <| obs_cons (ob_get1 (n := clue1.length) (m := clue1) (Value.int .i64) (0 : Int) Agg3 (fun _ hS => ⟨_, (hr_clue1 _ (hS.dropN 1))⟩) (fun _ hS => rfl) (fun _ => hp5)) <| obs_nil
          refine block_n ?_
          refine then_n ?_
          exact ⟨hF.weak [0, 1, 2, 3, 9, 12, 13] (by kernel_rfl), hS, hm⟩
      · refine reg [] [] [0, 1, 2, 3, 9, 12, 13, 58] [pl 0 (.slice A1 line1.length c1), pl 1 (.slice A2 clue1.length c2), pl 2 (.slice A3 begun1.length c3), pl 3 (.slice A4 filled1.length c4), pl 9 (.int .i64 (begun1.length : Int)), pl 12 (.int .i64 need1), pl 13 (.int .i64 i3), pl 58 (.bool (decide (i3 < (clue1.length : Int))))] hF hS Fol (by kernel_rfl) (by kernel_rfl) (by kernel_rfl) ?_ (fun a w hF hS => ?_)
        · exact obs_nil
        refine cond_ev (t := 58) (b := decide (i3 < (clue1.length : Int))) hF (by kernel_rfl) (fun hb => ?_) (fun hb => ?_)
        · replace hm := if_t hm hb
          refine wpIn_skip ?_
          refine then_n ?_
          exact ⟨hF.weak [0, 1, 2, 3, 9, 12, 13] (by kernel_rfl), hS, hm⟩
        · replace hm := if_f hm hb
          refine wpIn_exit ?_
          refine then_e (then_e (block_e (then_n ?_)))
          rw [← hφ3] at hm
          replace hm := done_b hm
          unfold gameroomref_lineFill_2_K3 at hm
          try dsimp only at hm
          have hm : ((gameroomref_lineFill_2_J8 rec_gameroomref_lineFill_2 line1 clue1 begun1 filled1) need1).bind some = some r := hm
          exact ⟨need1, hF.weak [0, 1, 2, 3, 9, 12] (by kernel_rfl), hS, hm⟩
  · refine reg [] [] [0, 1, 2, 3, 9, 24] [pl 0 (.slice A1 line1.length c1), pl 1 (.slice A2 clue1.length c2), pl 2 (.slice A3 begun1.length c3), pl 3 (.slice A4 filled1.length c4), pl 9 (.int .i64 (begun1.length : Int)), pl 24 (.bool ((clue1.length : Int) == 0))] hF hS Fol (by kernel_rfl) (by kernel_rfl) (by kernel_rfl) ?_ (fun a w hF hS => ?_)
    · exact obs_nil
    refine cond_ev (t := 24) (b := ((clue1.length : Int) == 0)) hF (by kernel_rfl) (fun hb => ?_) (fun hb => ?_)
    · replace hm := if_t hm hb
      refine seq_cut (fun a w => Fr 145 [pl 2 (.slice A3 begun1.length c3), pl 3 (.slice A4 filled1.length c4), pl 9 (.int .i64 (begun1.length : Int))] a ∧ Sep w0 B w (own 3 (.slice A4 filled1.length c4) (vI filled1) :: fs) ∧ ((gameroomref_lineFill_2_J2 begun1 filled1)).bind some = some r) ?_ ?_
      · rintro a w ⟨hF, hS, hm⟩
        unfold gameroomref_lineFill_2_J2 at hm
        refine seq_cut (fun a w => ∃ (filled4 : List Int), Fr 145 [] a ∧ Sep w0 B w (own 3 (.slice A4 filled1.length c4) (vI filled4) :: fs) ∧ (gameroomref_lineFill_2_J5 filled4).bind some = some r) ?_ ?_
        · rintro a w ⟨filled4, hF, hS, hm⟩
          unfold gameroomref_lineFill_2_J5 at hm
          refine reg [] [] [8] [pl 8 (.int .i64 1)] hF hS Fol (by kernel_rfl) (by kernel_rfl) (by kernel_rfl) ?_ (fun a w hF hS => ?_)
          · exact obs_nil
          refine wpIn_ret ?_
          refine then_r ?_
          have hm : some (1, filled4) = some r := hm
          obtain rfl := Option.some.inj hm
          exact retV (rs := [.tmp 8]) (vs := [.int .i64 1]) hF rfl (rv_t (by kernel_rfl) <| rv_nil) rfl ⟨_, rfl, rfl, hS⟩
        · refine reg [] [] [2, 3, 9, 11] [pl 2 (.slice A3 begun1.length c3), pl 3 (.slice A4 filled1.length c4), pl 9 (.int .i64 (begun1.length : Int)), pl 11 (.int .i64 0)] hF hS Fol (by kernel_rfl) (by kernel_rfl) (by kernel_rfl) ?_ (fun a w hF hS => ?_)
          · exact obs_nil
          refine wpIn_block ?_
          refine wp_loop_model (S := (List Int × Int)) (R := (List Int)) (gameroomref_lineFill_2_L2 begun1 filled1) (fun x => (gameroomref_lineFill_2_K2 x).bind some) r (fun (x : (List Int × Int)) a w => Fr 145 [pl 2 (.slice A3 begun1.length c3), pl 3 (.slice A4 filled1.length c4), pl 9 (.int .i64 (begun1.length : Int)), pl 11 (.int .i64 x.2)] a ∧ Sep w0 B w (own 3 (.slice A4 filled1.length c4) (vI x.1) :: fs)) (assoc_b hm) ⟨hF.weak [2, 3, 9, 11] (by kernel_rfl), hS⟩ ?_
          clear hF hS hm
          rintro nn2 ⟨filled3, i2⟩ a w ⟨hF, hS⟩ hm
          generalize hφ2 : stK (gameroomref_lineFill_2_L2 begun1 filled1) nn2 (fun x => (gameroomref_lineFill_2_K2 x).bind some) = φ2 at hm
          unfold gameroomref_lineFill_2_L2 at hm
          dsimp only at hF hS hm
          refine seq_cut (fun a w => Fr 145 [pl 2 (.slice A3 begun1.length c3), pl 3 (.slice A4 filled1.length c4), pl 9 (.int .i64 (begun1.length : Int)), pl 11 (.int .i64 i2)] a ∧ Sep w0 B w (own 3 (.slice A4 filled1.length c4) (vI filled3) :: fs) ∧ ((gameroomref_lineFill_2_J6 begun1 filled1 filled3 i2)).bind φ2 = some r) ?_ ?_
          · rintro a w ⟨hF, hS, hm⟩
            unfold gameroomref_lineFill_2_J6 at hm
            refine seq_cut (fun a w => Fr 145 [pl 2 (.slice A3 begun1.length c3), pl 3 (.slice A4 filled1.length c4), pl 9 (.int .i64 (begun1.length : Int)), pl 11 (.int .i64 i2)] a ∧ Sep w0 B w (own 3 (.slice A4 filled1.length c4) (vI (filled3.set (Int.toNat i2) (w64 ((geti filled3 i2) + (geti begun1 i2))))) :: fs) ∧ ((gameroomref_lineFill_2_J7 begun1 filled3 i2)).bind φ2 = some r) ?_ ?_
            · rintro a w ⟨hF, hS, hm⟩
              unfold gameroomref_lineFill_2_J7 at hm
              refine reg1 [] [] [2, 3, 9, 11] [pl 2 (.slice A3 begun1.length c3), pl 3 (.slice A4 filled1.length c4), pl 9 (.int .i64 (begun1.length : Int)), pl 11 (.int .i64 (w64 (i2 + 1)))] hF hS Fol (by kernel_rfl) (by kernel_rfl) (by kernel_rfl) ?_ (fun a w hF hS => ?_)
              · exact obs_nil
              refine then_n ?_
              rw [← hφ2] at hm
              exact ⟨((filled3.set (Int.toNat i2) (w64 ((geti filled3 i2) + (geti begun1 i2)))), (w64 (i2 + 1))), ⟨hF.weak [2, 3, 9, 11] (by kernel_rfl), hS⟩, hm⟩
            · refine wpIn_block ?_
              obtain ⟨hp2, hm⟩ := asrt_b hm
              obtain ⟨hp3, hm⟩ := asrt_b hm
              obtain ⟨hp4, hm⟩ := asrt_b hm
              refine regMix4 [0, 1, 2, 3, 4, 5, 6, 7, 8, 9] [10] [⟨true, [], vS (Instr.indexAt 22 (.slice A4 filled1.length c4) (.int .i64 i2)), .pointer (some (sAddr A4 i2))⟩, ⟨false, [], vS (Instr.loadAt 3 (.pointer (some (sAddr A4 i2)))), .int .i64 (geti filled3 i2)⟩, ⟨true, [], vS (Instr.indexAt 22 (.slice A3 begun1.length c3) (.int .i64 i2)), .pointer (some (sAddr A3 i2))⟩, ⟨false, [], vS (Instr.loadAt 3 (.pointer (some (sAddr A3 i2)))), .int .i64 (geti begun1 i2)⟩, ⟨true, [], vS (Instr.indexAt 22 (.slice A4 filled1.length c4) (.int .i64 i2)), .pointer (some (sAddr A4 i2))⟩] [none, none, some (.pointer (some (sAddr A4 i2))), some (.int .i64 (geti filled3 i2)), none, none, some (.pointer (some (sAddr A3 i2))), some (.int .i64 (geti begun1 i2)), none, some (.pointer (some (sAddr A4 i2)))] [2, 3, 9, 11, 50, 51] [pl 2 (.slice A3 begun1.length c3), pl 3 (.slice A4 filled1.length c4), pl 9 (.int .i64 (begun1.length : Int)), pl 11 (.int .i64 i2), pl 50 (.int .i64 (w64 ((geti filled3 i2) + (geti begun1 i2)))), pl 51 (.pointer (some (sAddr A4 i2)))] hF hS Fol (by kernel_rfl) (by kernel_rfl) (by kernel_rfl) (by kernel_rfl) (by kernel_rfl) ?_ (fun a w hF hS => ?_)
              · exact obs_cons (ob_ix1 (f := (Value.int .i64)) (m := filled3) Und22 hi3 hs3 (hS.at_ 0 rfl).rd ((hS.at_ 0 rfl).len1) (fun _ => hp2)) <| obs_cons (ob_get1 (n := filled1.length) (m := filled3) (Value.int .i64) (0 : Int) Agg3 (fun _ hS => ⟨_, (hS.at_ 0 rfl).rd⟩) (fun _ hS => ((hS.at_ 0 rfl).len1)) (fun _ => hp2)) <| obs_cons (ob_ix1 (f := (Value.int .i64)) (m := begun1) Und22 hi3 hs3 (hr_begun1 _ (hS.dropN 1)) rfl (fun _ => hp3)) <| obs_cons (ob_get1 (n := begun1.length) (m := begun1) (Value.int .i64) (0 : Int) Agg3 (fun _ hS => ⟨_, (hr_begun1 _ (hS.dropN 1))⟩) (fun _ hS => rfl) (fun _ => hp3)) <| obs_cons (ob_ix1 (f := (Value.int .i64)) (m := filled3) Und22 hi3 hs3 (hS.at_ 0 rfl).rd ((hS.at_ 0 rfl).len1) (fun _ => hp4)) <| obs_nil
              obtain ⟨w, hrun, hS⟩ := run_set1 (P := Try.prog) (t := 3) (x := (w64 ((geti filled3 i2) + (geti begun1 i2)))) (Value.int .i64) (hS.at_ 0 rfl) hi3 hs3 rfl rfl hp4
              refine at_skip hF (by kernel_rfl) hrun ?_
              have hS : Sep w0 B w (own 3 (.slice A4 filled1.length c4) (vI (filled3.set (Int.toNat i2) (w64 ((geti filled3 i2) + (geti begun1 i2))))) :: fs) := hS
              refine at_end [2, 3, 9, 11] [pl 2 (.slice A3 begun1.length c3), pl 3 (.slice A4 filled1.length c4), pl 9 (.int .i64 (begun1.length : Int)), pl 11 (.int .i64 i2)] hF rfl (by kernel_rfl) (fun hF => ?_)
              refine np_n ?_
              refine block_n ?_
              refine then_n ?_
              exact ⟨hF.weak [2, 3, 9, 11] (by kernel_rfl), hS, hm⟩
          · refine reg [] [] [2, 3, 9, 11, 39] [pl 2 (.slice A3 begun1.length c3), pl 3 (.slice A4 filled1.length c4), pl 9 (.int .i64 (begun1.length : Int)), pl 11 (.int .i64 i2), pl 39 (.bool (decide (i2 < (begun1.length : Int))))] hF hS Fol (by kernel_rfl) (by kernel_rfl) (by kernel_rfl) ?_ (fun a w hF hS => ?_)
            · exact obs_nil
            refine cond_ev (t := 39) (b := decide (i2 < (begun1.length : Int))) hF (by kernel_rfl) (fun hb => ?_) (fun hb => ?_)
            · replace hm := if_t hm hb
              refine wpIn_skip ?_
              refine then_n ?_
              exact ⟨hF.weak [2, 3, 9, 11] (by kernel_rfl), hS, hm⟩
            · replace hm := if_f hm hb
              refine wpIn_exit ?_
              refine then_e (then_e (block_e (then_n ?_)))
              rw [← hφ2] at hm
              replace hm := done_b hm
              unfold gameroomref_lineFill_2_K2 at hm
              try dsimp only at hm
              have hm : (gameroomref_lineFill_2_J5 filled3).bind some = some r := hm
              exact ⟨filled3, hF.weak [] (by kernel_rfl), hS, hm⟩
      · refine reg [] [] [0, 2, 3, 9, 10] [pl 0 (.slice A1 line1.length c1), pl 2 (.slice A3 begun1.length c3), pl 3 (.slice A4 filled1.length c4), pl 9 (.int .i64 (begun1.length : Int)), pl 10 (.int .i64 (begun1.length : Int))] hF hS Fol (by kernel_rfl) (by kernel_rfl) (by kernel_rfl) ?_ (fun a w hF hS => ?_)
        · exact obs_nil
        refine wpIn_block ?_
        refine wp_loop_model (S := Int) (R := (Fl Unit (Int × List Int))) (gameroomref_lineFill_2_L1 line1 filled1) (fun x => ((gameroomref_lineFill_2_K1 begun1 filled1) x).bind some) r (fun (x : Int) a w => Fr 145 [pl 0 (.slice A1 line1.length c1), pl 2 (.slice A3 begun1.length c3), pl 3 (.slice A4 filled1.length c4), pl 9 (.int .i64 (begun1.length : Int)), pl 10 (.int .i64 x)] a ∧ Sep w0 B w (own 3 (.slice A4 filled1.length c4) (vI filled1) :: fs)) (assoc_b hm) ⟨hF.weak [0, 2, 3, 9, 10] (by kernel_rfl), hS⟩ ?_
        clear hF hS hm
        rintro nn1 i1 a w ⟨hF, hS⟩ hm
        generalize hφ1 : stK (gameroomref_lineFill_2_L1 line1 filled1) nn1 (fun x => ((gameroomref_lineFill_2_K1 begun1 filled1) x).bind some) = φ1 at hm
        unfold gameroomref_lineFill_2_L1 at hm
        dsimp only at hm
        refine seq_cut (fun a w => Fr 145 [pl 0 (.slice A1 line1.length c1), pl 2 (.slice A3 begun1.length c3), pl 3 (.slice A4 filled1.length c4), pl 9 (.int .i64 (begun1.length : Int)), pl 10 (.int .i64 i1)] a ∧ Sep w0 B w (own 3 (.slice A4 filled1.length c4) (vI filled1) :: fs) ∧ ((gameroomref_lineFill_2_J3 line1 filled1 i1)).bind φ1 = some r) ?_ ?_
        · rintro a w ⟨hF, hS, hm⟩
          unfold gameroomref_lineFill_2_J3 at hm
          refine seq_cut (fun a w => Fr 145 [pl 0 (.slice A1 line1.length c1), pl 2 (.slice A3 begun1.length c3), pl 3 (.slice A4 filled1.length c4), pl 9 (.int .i64 (begun1.length : Int)), pl 10 (.int .i64 i1)] a ∧ Sep w0 B w (own 3 (.slice A4 filled1.length c4) (vI filled1) :: fs) ∧ ((gameroomref_lineFill_2_J4 i1)).bind φ1 = some r) ?_ ?_
          · rintro a w ⟨hF, hS, hm⟩
            unfold gameroomref_lineFill_2_J4 at hm
            refine reg1 [] [] [0, 2, 3, 9, 10] [pl 0 (.slice A1 line1.length c1), pl 2 (.slice A3 begun1.length c3), pl 3 (.slice A4 filled1.length c4), pl 9 (.int .i64 (begun1.length : Int)), pl 10 (.int .i64 (w64 (i1 + 1)))] hF hS Fol (by kernel_rfl) (by kernel_rfl) (by kernel_rfl) ?_ (fun a w hF hS => ?_)
            · exact obs_nil
            refine then_n ?_
            rw [← hφ1] at hm
            exact ⟨(w64 (i1 + 1)), ⟨hF.weak [0, 2, 3, 9, 10] (by kernel_rfl), hS⟩, hm⟩
          · refine wpIn_block ?_
            obtain ⟨hp1, hm⟩ := asrt_b hm
            refine reg [⟨true, [], vS (Instr.indexAt 22 (.slice A1 line1.length c1) (.int .i64 i1)), .pointer (some (sAddr A1 i1))⟩, ⟨false, [], vS (Instr.loadAt 3 (.pointer (some (sAddr A1 i1)))), .int .i64 (geti line1 i1)⟩] [none, none, some (.pointer (some (sAddr A1 i1))), some (.int .i64 (geti line1 i1)), none] [0, 2, 3, 9, 10, 36] [pl 0 (.slice A1 line1.length c1), pl 2 (.slice A3 begun1.length c3), pl 3 (.slice A4 filled1.length c4), pl 9 (.int .i64 (begun1.length : Int)), pl 10 (.int .i64 i1), pl 36 (.bool ((geti line1 i1) == 1))] hF hS Fol (by kernel_rfl) (by kernel_rfl) (by kernel_rfl) ?_ (fun a w hF hS => ?_)
            · exact obs_cons (ob_ix1 (f := (Value.int .i64)) (m := line1) Und22 hi3 hs3 (hr_line1 _ (hS.dropN 1)) rfl (fun _ => hp1)) <| obs_cons (ob_get1 (n := line1.length) (m := line1) (Value.int .i64) (0 : Int) Agg3 (fun _ hS => ⟨_, (hr_line1 _ (hS.dropN 1))⟩) (fun _ hS => rfl) (fun _ => hp1)) <| obs_nil
            refine cond_ev (t := 36) (b := ((geti line1 i1) == 1)) hF (by kernel_rfl) (fun hb => ?_) (fun hb => ?_)
            · replace hm := if_t hm hb
              refine reg [] [] [8] [pl 8 (.int .i64 0)] hF hS Fol (by kernel_rfl) (by kernel_rfl) (by kernel_rfl) ?_ (fun a w hF hS => ?_)
              · exact obs_nil
              refine wpIn_ret ?_
              refine block_r (then_r (then_r (block_r (then_r (then_r ?_)))))
              rw [← hφ1] at hm
              replace hm := done_b hm
              unfold gameroomref_lineFill_2_K1 at hm
              try dsimp only at hm
              have hm : some (0, filled1) = some r := hm
              obtain rfl := Option.some.inj hm
              exact retV (rs := [.tmp 8]) (vs := [.int .i64 0]) hF rfl (rv_t (by kernel_rfl) <| rv_nil) rfl ⟨_, rfl, rfl, hS⟩
            · replace hm := if_f hm hb
              refine wpIn_skip ?_
              refine block_n ?_
              refine then_n ?_
              exact ⟨hF.weak [0, 2, 3, 9, 10] (by kernel_rfl), hS, hm⟩
        · refine reg [] [] [0, 2, 3, 9, 10, 29] [pl 0 (.slice A1 line1.length c1), pl 2 (.slice A3 begun1.length c3), pl 3 (.slice A4 filled1.length c4), pl 9 (.int .i64 (begun1.length : Int)), pl 10 (.int .i64 i1), pl 29 (.bool (decide (i1 < (line1.length : Int))))] hF hS Fol (by kernel_rfl) (by kernel_rfl) (by kernel_rfl) ?_ (fun a w hF hS => ?_)
          · exact obs_nil
          refine cond_ev (t := 29) (b := decide (i1 < (line1.length : Int))) hF (by kernel_rfl) (fun hb => ?_) (fun hb => ?_)
          · replace hm := if_t hm hb
            refine wpIn_skip ?_
            refine then_n ?_
            exact ⟨hF.weak [0, 2, 3, 9, 10] (by kernel_rfl), hS, hm⟩
          · replace hm := if_f hm hb
            refine wpIn_exit ?_
            refine then_e (then_e (block_e (then_n ?_)))
            rw [← hφ1] at hm
            replace hm := done_b hm
            unfold gameroomref_lineFill_2_K1 at hm
            try dsimp only at hm
            have hm : ((gameroomref_lineFill_2_J2 begun1 filled1)).bind some = some r := hm
            exact ⟨hF.weak [2, 3, 9] (by kernel_rfl), hS, hm⟩
    · replace hm := if_f hm hb
      refine wpIn_skip ?_
      refine then_n ?_
      exact ⟨hF.weak [0, 1, 2, 3, 9] (by kernel_rfl), hS, hm⟩

theorem gameroomref_lineFill_2_w  {A1 : Option Addr} {c1 : Nat} {n1 : Nat} {line1 : List Int} {A2 : Option Addr} {c2 : Nat} {n2 : Nat} {clue1 : List Int} {A3 : Option Addr} {c3 : Nat} {n3 : Nat} {begun1 : List Int} {A4 : Option Addr} {c4 : Nat} {n4 : Nat} {filled1 : List Int} {r : (Int × List Int)} {w0 w : World} {B : Nat} {fs : List HP} (hm : gameroomref_lineFill_2_m line1 clue1 begun1 filled1 = some r) (hS : Sep w0 B w (own 3 (.slice A4 n4 c4) (vI filled1) :: fs)) (hr_line1 : RdF w0 B fs A1 (vI line1)) (_hc_line1 : line1.length ≤ c1) (_hn_line1 : n1 = line1.length) (hr_clue1 : RdF w0 B fs A2 (vI clue1)) (_hc_clue1 : clue1.length ≤ c2) (_hn_clue1 : n2 = clue1.length) (hr_begun1 : RdF w0 B fs A3 (vI begun1)) (_hc_begun1 : begun1.length ≤ c3) (_hn_begun1 : n3 = begun1.length) :
    Calls Try.prog 119 #[.slice A1 n1 c1, .slice A2 n2 c2, .slice A3 n3 c3, .slice A4 n4 c4] w fun e w' => ∃ v, e = .returned v ∧ v = .int .i64 r.1 ∧ Sep w0 B w' (own 3 (.slice A4 n4 c4) (vI r.2) :: fs) := by
  have key : ∀ (n : Nat) {A1 : Option Addr} {c1 : Nat} {n1 : Nat} {line1 : List Int} {A2 : Option Addr} {c2 : Nat} {n2 : Nat} {clue1 : List Int} {A3 : Option Addr} {c3 : Nat} {n3 : Nat} {begun1 : List Int} {A4 : Option Addr} {c4 : Nat} {n4 : Nat} {filled1 : List Int} {r : (Int × List Int)} {w0 w : World} {B : Nat} {fs : List HP} (_ : gameroomref_lineFill_2_mF n line1 clue1 begun1 filled1 = some r) (_ : Sep w0 B w (own 3 (.slice A4 n4 c4) (vI filled1) :: fs)) (hr_line1 : RdF w0 B fs A1 (vI line1)) (_hc_line1 : line1.length ≤ c1) (_hn_line1 : n1 = line1.length) (hr_clue1 : RdF w0 B fs A2 (vI clue1)) (_hc_clue1 : clue1.length ≤ c2) (_hn_clue1 : n2 = clue1.length) (hr_begun1 : RdF w0 B fs A3 (vI begun1)) (_hc_begun1 : begun1.length ≤ c3) (_hn_begun1 : n3 = begun1.length), Calls Try.prog 119 #[.slice A1 n1 c1, .slice A2 n2 c2, .slice A3 n3 c3, .slice A4 n4 c4] w fun e w' => ∃ v, e = .returned v ∧ v = .int .i64 r.1 ∧ Sep w0 B w' (own 3 (.slice A4 n4 c4) (vI r.2) :: fs) := by
    intro n
    induction n with
    | zero => intros; rename_i hm0 _ _ _ _ _ _ _ _ _ _; cases hm0
    | succ n ih => intros; rename_i hm0 hS0 h0 h1 h2 h3 h4 h5 h6 h7 h8; exact gameroomref_lineFill_2_wB (rec_gameroomref_lineFill_2 := gameroomref_lineFill_2_mF n) (fun hm hS h0 h1 h2 h3 h4 h5 h6 h7 h8 => ih hm hS h0 h1 h2 h3 h4 h5 h6 h7 h8) hm0 hS0 h0 h1 h2 h3 h4 h5 h6 h7 h8
  obtain ⟨n, hn⟩ := recM_some hm
  exact key n hn hS hr_line1 _hc_line1 _hn_line1 hr_clue1 _hc_clue1 _hn_clue1 hr_begun1 _hc_begun1 _hn_begun1

set_option maxRecDepth 100000 in
theorem gameroomref_lineFill_2_J21_le_gameroomref_lineFill_2 {rec_gameroomref_lineFill_21 rec_gameroomref_lineFill_22 : List Int → List Int → List Int → List Int → Option (Int × List Int)} (h_rec_gameroomref_lineFill_2 : ∀ a0 a1 a2 a3, Le (rec_gameroomref_lineFill_21 a0 a1 a2 a3) (rec_gameroomref_lineFill_22 a0 a1 a2 a3)) (line1 : List Int) (clue1 : List Int) (filled5 : List Int) (many1 : Int) (gap1 : Int) (next7 : List Int) (ok3 : Bool) : Le (gameroomref_lineFill_2_J21 rec_gameroomref_lineFill_21 line1 clue1 filled5 many1 gap1 next7 ok3) (gameroomref_lineFill_2_J21 rec_gameroomref_lineFill_22 line1 clue1 filled5 many1 gap1 next7 ok3) := by
  unfold gameroomref_lineFill_2_J21
  repeat' (first | with_reducible exact Le.refl _ | with_reducible exact h_rec_gameroomref_lineFill_2 _ _ _ _ | with_reducible refine Le.asrt ?_ | with_reducible refine Le.ite ?_ ?_ | refine Le.bind ?_ (fun _ => ?_) | refine Le.loop2 (fun _ => ?_) | refine Le.elim2 (fun _ => ?_) (fun _ => ?_))

set_option maxRecDepth 100000 in
theorem gameroomref_lineFill_2_J18_le_gameroomref_lineFill_2 {rec_gameroomref_lineFill_21 rec_gameroomref_lineFill_22 : List Int → List Int → List Int → List Int → Option (Int × List Int)} (h_rec_gameroomref_lineFill_2 : ∀ a0 a1 a2 a3, Le (rec_gameroomref_lineFill_21 a0 a1 a2 a3) (rec_gameroomref_lineFill_22 a0 a1 a2 a3)) (line1 : List Int) (clue1 : List Int) (filled5 : List Int) (many1 : Int) (gap1 : Int) (next5 : List Int) (ok2 : Bool) : Le (gameroomref_lineFill_2_J18 rec_gameroomref_lineFill_21 line1 clue1 filled5 many1 gap1 next5 ok2) (gameroomref_lineFill_2_J18 rec_gameroomref_lineFill_22 line1 clue1 filled5 many1 gap1 next5 ok2) := by
  unfold gameroomref_lineFill_2_J18
  repeat' (first | with_reducible exact Le.refl _ | with_reducible exact h_rec_gameroomref_lineFill_2 _ _ _ _ | with_reducible exact gameroomref_lineFill_2_J21_le_gameroomref_lineFill_2 h_rec_gameroomref_lineFill_2 _ _ _ _ _ _ _ | with_reducible refine Le.asrt ?_ | with_reducible refine Le.ite ?_ ?_ | refine Le.bind ?_ (fun _ => ?_) | refine Le.loop2 (fun _ => ?_) | refine Le.elim2 (fun _ => ?_) (fun _ => ?_))

set_option maxRecDepth 100000 in
theorem gameroomref_lineFill_2_K6_le_gameroomref_lineFill_2 {rec_gameroomref_lineFill_21 rec_gameroomref_lineFill_22 : List Int → List Int → List Int → List Int → Option (Int × List Int)} (h_rec_gameroomref_lineFill_2 : ∀ a0 a1 a2 a3, Le (rec_gameroomref_lineFill_21 a0 a1 a2 a3) (rec_gameroomref_lineFill_22 a0 a1 a2 a3)) (line1 : List Int) (clue1 : List Int) (filled5 : List Int) (many1 : Int) (gap1 : Int) (x : (List Int × Bool)) : Le (gameroomref_lineFill_2_K6 rec_gameroomref_lineFill_21 line1 clue1 filled5 many1 gap1 x) (gameroomref_lineFill_2_K6 rec_gameroomref_lineFill_22 line1 clue1 filled5 many1 gap1 x) := by
  rcases x with ⟨next5, ok2⟩
  all_goals
    unfold gameroomref_lineFill_2_K6
    try dsimp only
    repeat' (first | with_reducible exact Le.refl _ | with_reducible exact h_rec_gameroomref_lineFill_2 _ _ _ _ | with_reducible exact gameroomref_lineFill_2_J18_le_gameroomref_lineFill_2 h_rec_gameroomref_lineFill_2 _ _ _ _ _ _ _ | with_reducible refine Le.asrt ?_ | with_reducible refine Le.ite ?_ ?_ | refine Le.bind ?_ (fun _ => ?_) | refine Le.loop2 (fun _ => ?_) | refine Le.elim2 (fun _ => ?_) (fun _ => ?_))

set_option maxRecDepth 100000 in
theorem gameroomref_lineFill_2_J15_le_gameroomref_lineFill_2 {rec_gameroomref_lineFill_21 rec_gameroomref_lineFill_22 : List Int → List Int → List Int → List Int → Option (Int × List Int)} (h_rec_gameroomref_lineFill_2 : ∀ a0 a1 a2 a3, Le (rec_gameroomref_lineFill_21 a0 a1 a2 a3) (rec_gameroomref_lineFill_22 a0 a1 a2 a3)) (line1 : List Int) (clue1 : List Int) (filled5 : List Int) (many1 : Int) (gap1 : Int) (next2 : List Int) : Le (gameroomref_lineFill_2_J15 rec_gameroomref_lineFill_21 line1 clue1 filled5 many1 gap1 next2) (gameroomref_lineFill_2_J15 rec_gameroomref_lineFill_22 line1 clue1 filled5 many1 gap1 next2) := by
  unfold gameroomref_lineFill_2_J15
  repeat' (first | with_reducible exact Le.refl _ | with_reducible exact h_rec_gameroomref_lineFill_2 _ _ _ _ | with_reducible exact gameroomref_lineFill_2_K6_le_gameroomref_lineFill_2 h_rec_gameroomref_lineFill_2 _ _ _ _ _ _ | with_reducible refine Le.asrt ?_ | with_reducible refine Le.ite ?_ ?_ | refine Le.bind ?_ (fun _ => ?_) | refine Le.loop2 (fun _ => ?_) | refine Le.elim2 (fun _ => ?_) (fun _ => ?_))

set_option maxRecDepth 100000 in
theorem gameroomref_lineFill_2_K5_le_gameroomref_lineFill_2 {rec_gameroomref_lineFill_21 rec_gameroomref_lineFill_22 : List Int → List Int → List Int → List Int → Option (Int × List Int)} (h_rec_gameroomref_lineFill_2 : ∀ a0 a1 a2 a3, Le (rec_gameroomref_lineFill_21 a0 a1 a2 a3) (rec_gameroomref_lineFill_22 a0 a1 a2 a3)) (line1 : List Int) (clue1 : List Int) (filled5 : List Int) (many1 : Int) (gap1 : Int) (x : (List Int)) : Le (gameroomref_lineFill_2_K5 rec_gameroomref_lineFill_21 line1 clue1 filled5 many1 gap1 x) (gameroomref_lineFill_2_K5 rec_gameroomref_lineFill_22 line1 clue1 filled5 many1 gap1 x) := by
  rcases x with next2
  all_goals
    unfold gameroomref_lineFill_2_K5
    try dsimp only
    repeat' (first | with_reducible exact Le.refl _ | with_reducible exact h_rec_gameroomref_lineFill_2 _ _ _ _ | with_reducible exact gameroomref_lineFill_2_J15_le_gameroomref_lineFill_2 h_rec_gameroomref_lineFill_2 _ _ _ _ _ _ | with_reducible refine Le.asrt ?_ | with_reducible refine Le.ite ?_ ?_ | refine Le.bind ?_ (fun _ => ?_) | refine Le.loop2 (fun _ => ?_) | refine Le.elim2 (fun _ => ?_) (fun _ => ?_))

set_option maxRecDepth 100000 in
theorem gameroomref_lineFill_2_J14_le_gameroomref_lineFill_2 {rec_gameroomref_lineFill_21 rec_gameroomref_lineFill_22 : List Int → List Int → List Int → List Int → Option (Int × List Int)} (h_rec_gameroomref_lineFill_2 : ∀ a0 a1 a2 a3, Le (rec_gameroomref_lineFill_21 a0 a1 a2 a3) (rec_gameroomref_lineFill_22 a0 a1 a2 a3)) (line1 : List Int) (clue1 : List Int) (begun1 : List Int) (filled5 : List Int) (many1 : Int) (gap1 : Int) : Le (gameroomref_lineFill_2_J14 rec_gameroomref_lineFill_21 line1 clue1 begun1 filled5 many1 gap1) (gameroomref_lineFill_2_J14 rec_gameroomref_lineFill_22 line1 clue1 begun1 filled5 many1 gap1) := by
  unfold gameroomref_lineFill_2_J14
  repeat' (first | with_reducible exact Le.refl _ | with_reducible exact h_rec_gameroomref_lineFill_2 _ _ _ _ | with_reducible exact gameroomref_lineFill_2_K5_le_gameroomref_lineFill_2 h_rec_gameroomref_lineFill_2 _ _ _ _ _ _ | with_reducible refine Le.asrt ?_ | with_reducible refine Le.ite ?_ ?_ | refine Le.bind ?_ (fun _ => ?_) | refine Le.loop2 (fun _ => ?_) | refine Le.elim2 (fun _ => ?_) (fun _ => ?_))

set_option maxRecDepth 100000 in
theorem gameroomref_lineFill_2_J12_le_gameroomref_lineFill_2 {rec_gameroomref_lineFill_21 rec_gameroomref_lineFill_22 : List Int → List Int → List Int → List Int → Option (Int × List Int)} (h_rec_gameroomref_lineFill_2 : ∀ a0 a1 a2 a3, Le (rec_gameroomref_lineFill_21 a0 a1 a2 a3) (rec_gameroomref_lineFill_22 a0 a1 a2 a3)) (line1 : List Int) (clue1 : List Int) (begun1 : List Int) (filled5 : List Int) (many1 : Int) (gap1 : Int) : Le (gameroomref_lineFill_2_J12 rec_gameroomref_lineFill_21 line1 clue1 begun1 filled5 many1 gap1) (gameroomref_lineFill_2_J12 rec_gameroomref_lineFill_22 line1 clue1 begun1 filled5 many1 gap1) := by
  unfold gameroomref_lineFill_2_J12
  repeat' (first | with_reducible exact Le.refl _ | with_reducible exact h_rec_gameroomref_lineFill_2 _ _ _ _ | with_reducible exact gameroomref_lineFill_2_J14_le_gameroomref_lineFill_2 h_rec_gameroomref_lineFill_2 _ _ _ _ _ _ | with_reducible refine Le.asrt ?_ | with_reducible refine Le.ite ?_ ?_ | refine Le.bind ?_ (fun _ => ?_) | refine Le.loop2 (fun _ => ?_) | refine Le.elim2 (fun _ => ?_) (fun _ => ?_))

set_option maxRecDepth 100000 in
theorem gameroomref_lineFill_2_L4_le_gameroomref_lineFill_2 {rec_gameroomref_lineFill_21 rec_gameroomref_lineFill_22 : List Int → List Int → List Int → List Int → Option (Int × List Int)} (h_rec_gameroomref_lineFill_2 : ∀ a0 a1 a2 a3, Le (rec_gameroomref_lineFill_21 a0 a1 a2 a3) (rec_gameroomref_lineFill_22 a0 a1 a2 a3)) (line1 : List Int) (clue1 : List Int) (begun1 : List Int) (need2 : Int) (x : (List Int × Int × Int)) : Le (gameroomref_lineFill_2_L4 rec_gameroomref_lineFill_21 line1 clue1 begun1 need2 x) (gameroomref_lineFill_2_L4 rec_gameroomref_lineFill_22 line1 clue1 begun1 need2 x) := by
  rcases x with ⟨filled5, many1, gap1⟩
  all_goals
    unfold gameroomref_lineFill_2_L4
    try dsimp only
    repeat' (first | with_reducible exact Le.refl _ | with_reducible exact h_rec_gameroomref_lineFill_2 _ _ _ _ | with_reducible exact gameroomref_lineFill_2_J12_le_gameroomref_lineFill_2 h_rec_gameroomref_lineFill_2 _ _ _ _ _ _ | with_reducible refine Le.asrt ?_ | with_reducible refine Le.ite ?_ ?_ | refine Le.bind ?_ (fun _ => ?_) | refine Le.loop2 (fun _ => ?_) | refine Le.elim2 (fun _ => ?_) (fun _ => ?_))

set_option maxRecDepth 100000 in
theorem gameroomref_lineFill_2_J8_le_gameroomref_lineFill_2 {rec_gameroomref_lineFill_21 rec_gameroomref_lineFill_22 : List Int → List Int → List Int → List Int → Option (Int × List Int)} (h_rec_gameroomref_lineFill_2 : ∀ a0 a1 a2 a3, Le (rec_gameroomref_lineFill_21 a0 a1 a2 a3) (rec_gameroomref_lineFill_22 a0 a1 a2 a3)) (line1 : List Int) (clue1 : List Int) (begun1 : List Int) (filled1 : List Int) (need2 : Int) : Le (gameroomref_lineFill_2_J8 rec_gameroomref_lineFill_21 line1 clue1 begun1 filled1 need2) (gameroomref_lineFill_2_J8 rec_gameroomref_lineFill_22 line1 clue1 begun1 filled1 need2) := by
  unfold gameroomref_lineFill_2_J8
  repeat' (first | with_reducible exact Le.refl _ | with_reducible exact h_rec_gameroomref_lineFill_2 _ _ _ _ | with_reducible exact gameroomref_lineFill_2_L4_le_gameroomref_lineFill_2 h_rec_gameroomref_lineFill_2 _ _ _ _ _ | with_reducible refine Le.asrt ?_ | with_reducible refine Le.ite ?_ ?_ | refine Le.bind ?_ (fun _ => ?_) | refine Le.loop2 (fun _ => ?_) | refine Le.elim2 (fun _ => ?_) (fun _ => ?_))

set_option maxRecDepth 100000 in
theorem gameroomref_lineFill_2_K3_le_gameroomref_lineFill_2 {rec_gameroomref_lineFill_21 rec_gameroomref_lineFill_22 : List Int → List Int → List Int → List Int → Option (Int × List Int)} (h_rec_gameroomref_lineFill_2 : ∀ a0 a1 a2 a3, Le (rec_gameroomref_lineFill_21 a0 a1 a2 a3) (rec_gameroomref_lineFill_22 a0 a1 a2 a3)) (line1 : List Int) (clue1 : List Int) (begun1 : List Int) (filled1 : List Int) (x : Int) : Le (gameroomref_lineFill_2_K3 rec_gameroomref_lineFill_21 line1 clue1 begun1 filled1 x) (gameroomref_lineFill_2_K3 rec_gameroomref_lineFill_22 line1 clue1 begun1 filled1 x) := by
  rcases x with need2
  all_goals
    unfold gameroomref_lineFill_2_K3
    try dsimp only
    repeat' (first | with_reducible exact Le.refl _ | with_reducible exact h_rec_gameroomref_lineFill_2 _ _ _ _ | with_reducible exact gameroomref_lineFill_2_J8_le_gameroomref_lineFill_2 h_rec_gameroomref_lineFill_2 _ _ _ _ _ | with_reducible refine Le.asrt ?_ | with_reducible refine Le.ite ?_ ?_ | refine Le.bind ?_ (fun _ => ?_) | refine Le.loop2 (fun _ => ?_) | refine Le.elim2 (fun _ => ?_) (fun _ => ?_))

set_option maxRecDepth 100000 in
theorem gameroomref_lineFill_2_J1_le_gameroomref_lineFill_2 {rec_gameroomref_lineFill_21 rec_gameroomref_lineFill_22 : List Int → List Int → List Int → List Int → Option (Int × List Int)} (h_rec_gameroomref_lineFill_2 : ∀ a0 a1 a2 a3, Le (rec_gameroomref_lineFill_21 a0 a1 a2 a3) (rec_gameroomref_lineFill_22 a0 a1 a2 a3)) (line1 : List Int) (clue1 : List Int) (begun1 : List Int) (filled1 : List Int) : Le (gameroomref_lineFill_2_J1 rec_gameroomref_lineFill_21 line1 clue1 begun1 filled1) (gameroomref_lineFill_2_J1 rec_gameroomref_lineFill_22 line1 clue1 begun1 filled1) := by
  unfold gameroomref_lineFill_2_J1
  repeat' (first | with_reducible exact Le.refl _ | with_reducible exact h_rec_gameroomref_lineFill_2 _ _ _ _ | with_reducible exact gameroomref_lineFill_2_K3_le_gameroomref_lineFill_2 h_rec_gameroomref_lineFill_2 _ _ _ _ _ | with_reducible refine Le.asrt ?_ | with_reducible refine Le.ite ?_ ?_ | refine Le.bind ?_ (fun _ => ?_) | refine Le.loop2 (fun _ => ?_) | refine Le.elim2 (fun _ => ?_) (fun _ => ?_))

set_option maxRecDepth 100000 in
theorem gameroomref_lineFill_2_B_le {rec_gameroomref_lineFill_21 rec_gameroomref_lineFill_22 : List Int → List Int → List Int → List Int → Option (Int × List Int)} (h_rec_gameroomref_lineFill_2 : ∀ a0 a1 a2 a3, Le (rec_gameroomref_lineFill_21 a0 a1 a2 a3) (rec_gameroomref_lineFill_22 a0 a1 a2 a3)) (line1 : List Int) (clue1 : List Int) (begun1 : List Int) (filled1 : List Int) : Le (gameroomref_lineFill_2_B rec_gameroomref_lineFill_21 line1 clue1 begun1 filled1) (gameroomref_lineFill_2_B rec_gameroomref_lineFill_22 line1 clue1 begun1 filled1) := by
  unfold gameroomref_lineFill_2_B
  repeat' (first | with_reducible exact Le.refl _ | with_reducible exact h_rec_gameroomref_lineFill_2 _ _ _ _ | with_reducible exact gameroomref_lineFill_2_J1_le_gameroomref_lineFill_2 h_rec_gameroomref_lineFill_2 _ _ _ _ | with_reducible refine Le.asrt ?_ | with_reducible refine Le.ite ?_ ?_ | refine Le.bind ?_ (fun _ => ?_) | refine Le.loop2 (fun _ => ?_) | refine Le.elim2 (fun _ => ?_) (fun _ => ?_))

set_option maxRecDepth 100000 in
theorem gameroomref_lineFill_2_mF_le : ∀ (n : Nat) (line1 : List Int) (clue1 : List Int) (begun1 : List Int) (filled1 : List Int), Le (gameroomref_lineFill_2_mF n line1 clue1 begun1 filled1) (gameroomref_lineFill_2_mF (n + 1) line1 clue1 begun1 filled1)
  | 0, _, _, _, _ => fun _ h => by cases h
  | n + 1, _, _, _, _ => gameroomref_lineFill_2_B_le (fun a0 a1 a2 a3 => gameroomref_lineFill_2_mF_le n a0 a1 a2 a3) _ _ _ _

set_option maxRecDepth 100000 in
theorem gameroomref_lineFill_2_m_of (N : Nat) (line1 : List Int) (clue1 : List Int) (begun1 : List Int) (filled1 : List Int) {r : (Int × List Int)} (h : gameroomref_lineFill_2_mF N line1 clue1 begun1 filled1 = some r) : gameroomref_lineFill_2_m line1 clue1 begun1 filled1 = some r :=
  recM_mono (fun n => gameroomref_lineFill_2_mF_le n _ _ _ _) h

noncomputable def gameroomref_LineWays_m  (line1 : List Int) (clue1 : List Int) : Option (Int × List Int) :=
  asrt ((0 : Int) ≤ (line1.length : Int) ∧ (line1.length : Int) ≤ bigN) <| (gameroomref_lineFill_2_m line1 clue1 ([] : List Int) (List.replicate (Int.toNat (line1.length : Int)) (0 : Int))).bind fun r1 => some (r1.1, r1.2)

set_option maxRecDepth 100000 in
set_option maxHeartbeats 4000000 in
theorem gameroomref_LineWays_w  {A1 : Option Addr} {c1 : Nat} {n1 : Nat} {line1 : List Int} {A2 : Option Addr} {c2 : Nat} {n2 : Nat} {clue1 : List Int} {r : (Int × List Int)} {w0 w : World} {B : Nat} {fs : List HP} (hm : gameroomref_LineWays_m line1 clue1 = some r) (hS : Sep w0 B w (fs)) (hr_line1 : RdF w0 B fs A1 (vI line1)) (_hc_line1 : line1.length ≤ c1) (_hn_line1 : n1 = line1.length) (hr_clue1 : RdF w0 B fs A2 (vI clue1)) (_hc_clue1 : clue1.length ≤ c2) (_hn_clue1 : n2 = clue1.length) :
    Calls Try.prog 64 #[.slice A1 n1 c1, .slice A2 n2 c2] w fun e w' => ∃ v, e = .returned v ∧ ∃ (A4 : Option Addr) (c4 : Nat), v = .tuple #[.int .i64 r.1, .slice A4 r.2.length c4] ∧ Sep w0 B w' (own 3 (.slice A4 r.2.length c4) (vI r.2) :: fs) := by
  obtain ⟨i3, hi3, hz3, hs3, hb3⟩ := info_parts Info3
  obtain rfl := _hn_line1
  obtain rfl := _hn_clue1
  unfold gameroomref_LineWays_m at hm
  replace hm := start_b hm
  refine enter (l := [.slice A1 line1.length c1, .slice A2 clue1.length c2]) (n := 17) Try.func64 rfl rfl (by simp) (fun a hF => ?_)
  refine reg [] [] [0, 1] [pl 0 (.slice A1 line1.length c1), pl 1 (.slice A2 clue1.length c2)] hF hS Fol (by kernel_rfl) (by kernel_rfl) (by kernel_rfl) ?_ (fun a w hF hS => ?_)
  · exact obs_nil
  refine seqR ?_
  obtain ⟨hp1, hm⟩ := asrt_b hm
  refine at_run 2 [] [] [0, 1, 9] [pl 0 (.slice A1 line1.length c1), pl 1 (.slice A2 clue1.length c2), pl 9 (.int .i64 (line1.length : Int))] hF hS (by kernel_rfl) (by kernel_rfl) ?_ (fun a w hF hS => ?_)
  · exact obs_nil
  obtain ⟨A3, c3, w, hrun, hS⟩ := run_mk1 (P := Try.prog) (t := 22) (Value.int .i64) (0 : Int) hS .i64 .i64 Und22 hi3 hz3 hs3 (by omega) rfl hp1
  have hS : Sep w0 B w (own 3 (.slice A3 (Int.toNat (line1.length : Int)) c3) (vI (List.replicate (Int.toNat (line1.length : Int)) (0 : Int))) :: fs) := hS
  refine at_do (d := 10) hF (by kernel_rfl) (by kernel_rfl) hrun (fun a hF => ?_)
  refine at_run 1 [] [] [0, 1, 6] [pl 0 (.slice A1 line1.length c1), pl 1 (.slice A2 clue1.length c2), pl 6 (.slice A3 (Int.toNat (line1.length : Int)) c3)] hF hS (by kernel_rfl) (by kernel_rfl) ?_ (fun a w hF hS => ?_)
  · exact obs_nil
  refine at_end [0, 1, 6] [pl 0 (.slice A1 line1.length c1), pl 1 (.slice A2 clue1.length c2), pl 6 (.slice A3 (Int.toNat (line1.length : Int)) c3)] hF rfl (by kernel_rfl) (fun hF => ?_)
  refine then_n ?_
  refine seqR ?_
  obtain ⟨r1, hr1, hm⟩ := call_b hm
  refine at_run 3 [] [] [6, 11, 12, 13] [pl 6 (.slice A3 (Int.toNat (line1.length : Int)) c3), pl 11 (.slice A1 line1.length c1), pl 12 (.slice A2 clue1.length c2), pl 13 (.slice A3 (Int.toNat (line1.length : Int)) c3)] hF hS (by kernel_rfl) (by kernel_rfl) ?_ (fun a w hF hS => ?_)
  · exact obs_nil
  refine at_call (f := 119) (args := #[.slice A1 line1.length c1, .slice A2 clue1.length c2, .slice none 0 0, .slice A3 (Int.toNat (line1.length : Int)) c3]) (d := 14) hF (by kernel_rfl) (by kernel_rfl) Try.func119 (by kernel_rfl) rfl (gameroomref_lineFill_2_w hr1 hS (fun _ hS => (hr_line1 _ (hS.dropN 0))) _hc_line1 rfl (fun _ hS => (hr_clue1 _ (hS.dropN 0))) _hc_clue1 rfl (fun _ hS => Rd.nil _ _ _) (Nat.le_refl _) rfl) (fun v a w hR hF => ?_)
  clear hS
  obtain ⟨rfl, hS⟩ := hR
  have hS : Sep w0 B w (own 3 (.slice A3 (Int.toNat (line1.length : Int)) c3) (vI r1.2) :: fs) := hS
  refine at_run 1 [] [] [6, 7] [pl 6 (.slice A3 (Int.toNat (line1.length : Int)) c3), pl 7 (.int .i64 r1.1)] hF hS (by kernel_rfl) (by kernel_rfl) ?_ (fun a w hF hS => ?_)
  · exact obs_nil
  refine at_end [6, 7] [pl 6 (.slice A3 (Int.toNat (line1.length : Int)) c3), pl 7 (.int .i64 r1.1)] hF rfl (by kernel_rfl) (fun hF => ?_)
  refine then_n ?_
  refine reg [] [] [4, 5] [pl 4 (.int .i64 r1.1), pl 5 (.slice A3 (Int.toNat (line1.length : Int)) c3)] hF hS Fol (by kernel_rfl) (by kernel_rfl) (by kernel_rfl) ?_ (fun a w hF hS => ?_)
  · exact obs_nil
  refine wpIn_ret ?_
  have hl1 := (hS.at_ 0 rfl).len1
  have hS := (hS.at_ 0 rfl).reN hl1
  have hS : Sep w0 B w (own 3 (.slice A3 r1.2.length c3) (vI r1.2) :: fs) := hS
  have hF := hF.cast (t := 5) (v := .slice A3 (Int.toNat (line1.length : Int)) c3) (v' := .slice A3 r1.2.length c3) rfl rfl (congrArg (fun k => Value.slice A3 k c3) hl1)
  have hm : some (r1.1, r1.2) = some r := hm
  obtain rfl := Option.some.inj hm
  exact retV (rs := [.tmp 4, .tmp 5]) (vs := [.int .i64 r1.1, .slice A3 r1.2.length c3]) hF rfl (rv_t (by kernel_rfl) <| rv_t (by kernel_rfl) <| rv_nil) rfl ⟨_, rfl, A3, c3, rfl, hS⟩

noncomputable def gameroomref_SureOf_J3  (i1 : Int) (out3 : List Int) : Option (St (List Int × Int) (List Int)) :=
  some (.next (out3, (w64 (i1 + 1))))

noncomputable def gameroomref_SureOf_J2  (r1 : (Int × List Int)) (r2 : (List Int)) (out1 : List Int) (i1 : Int) : Option (St (List Int × Int) (List Int)) :=
  asrt (0 ≤ i1 ∧ i1 < (r1.2.length : Int)) <| if ((geti r1.2 i1) == r1.1) then (asrt (0 ≤ i1 ∧ i1 < (r2.length : Int)) <| (gameroomref_SureOf_J3 i1) (out1.set (Int.toNat i1) 1)) else (asrt (0 ≤ i1 ∧ i1 < (r1.2.length : Int)) <| if ((geti r1.2 i1) == 0) then (asrt (0 ≤ i1 ∧ i1 < (r2.length : Int)) <| (gameroomref_SureOf_J3 i1) (out1.set (Int.toNat i1) 0)) else ((gameroomref_SureOf_J3 i1) out1))

noncomputable def gameroomref_SureOf_J1  (r1 : (Int × List Int)) (out2 : List Int) : Option (List Int × Bool) :=
  some (out2, (decide ((0 : Int) < r1.1)))

noncomputable def gameroomref_SureOf_K1  (r1 : (Int × List Int)) : (List Int) → Option (List Int × Bool) :=
  fun (x : (List Int)) => match x with | out2 => (gameroomref_SureOf_J1 r1) out2

noncomputable def gameroomref_SureOf_L1  (line1 : List Int) (r1 : (Int × List Int)) (r2 : (List Int)) : (List Int × Int) → Option (St (List Int × Int) (List Int)) :=
  fun (x : (List Int × Int)) => match x with | (out1, i1) => if (decide (i1 < (line1.length : Int))) then ((gameroomref_SureOf_J2 r1 r2 out1 i1)) else (some (.done out1))

noncomputable def gameroomref_SureOf_m  (line1 : List Int) (clue1 : List Int) : Option (List Int × Bool) :=
  (gameroomref_LineWays_m line1 clue1).bind fun r1 => (gameroomref_Ints_m line1).bind fun r2 => (loop (gameroomref_SureOf_L1 line1 r1 r2) (r2, 0)).bind (gameroomref_SureOf_K1 r1)

set_option maxRecDepth 100000 in
set_option maxHeartbeats 4000000 in
theorem gameroomref_SureOf_w  {A1 : Option Addr} {c1 : Nat} {n1 : Nat} {line1 : List Int} {A2 : Option Addr} {c2 : Nat} {n2 : Nat} {clue1 : List Int} {r : (List Int × Bool)} {w0 w : World} {B : Nat} {fs : List HP} (hm : gameroomref_SureOf_m line1 clue1 = some r) (hS : Sep w0 B w (fs)) (hr_line1 : RdF w0 B fs A1 (vI line1)) (_hc_line1 : line1.length ≤ c1) (_hn_line1 : n1 = line1.length) (hr_clue1 : RdF w0 B fs A2 (vI clue1)) (_hc_clue1 : clue1.length ≤ c2) (_hn_clue1 : n2 = clue1.length) :
    Calls Try.prog 63 #[.slice A1 n1 c1, .slice A2 n2 c2] w fun e w' => ∃ v, e = .returned v ∧ ∃ (A5 : Option Addr) (c5 : Nat), v = .tuple #[.slice A5 r.1.length c5, .bool r.2] ∧ Sep w0 B w' (own 3 (.slice A5 r.1.length c5) (vI r.1) :: fs) := by
  obtain ⟨i3, hi3, hz3, hs3, hb3⟩ := info_parts Info3
  obtain rfl := _hn_line1
  obtain rfl := _hn_clue1
  unfold gameroomref_SureOf_m at hm
  replace hm := start_b hm
  refine enter (l := [.slice A1 line1.length c1, .slice A2 clue1.length c2]) (n := 44) Try.func63 rfl rfl (by simp) (fun a hF => ?_)
  refine reg [] [] [0, 1] [pl 0 (.slice A1 line1.length c1), pl 1 (.slice A2 clue1.length c2)] hF hS Fol (by kernel_rfl) (by kernel_rfl) (by kernel_rfl) ?_ (fun a w hF hS => ?_)
  · exact obs_nil
  refine seqR ?_
  obtain ⟨r1, hr1, hm⟩ := call_b hm
  refine at_run 2 [] [] [0, 11, 12] [pl 0 (.slice A1 line1.length c1), pl 11 (.slice A1 line1.length c1), pl 12 (.slice A2 clue1.length c2)] hF hS (by kernel_rfl) (by kernel_rfl) ?_ (fun a w hF hS => ?_)
  · exact obs_nil
  refine at_call (f := 64) (args := #[.slice A1 line1.length c1, .slice A2 clue1.length c2]) (d := 13) hF (by kernel_rfl) (by kernel_rfl) Try.func64 (by kernel_rfl) rfl (gameroomref_LineWays_w hr1 hS (fun _ hS => (hr_line1 _ (hS.dropN 0))) _hc_line1 rfl (fun _ hS => (hr_clue1 _ (hS.dropN 0))) _hc_clue1 rfl) (fun v a w hR hF => ?_)
  clear hS
  obtain ⟨A3, c3, rfl, hS⟩ := hR
  have hS : Sep w0 B w (own 3 (.slice A3 r1.2.length c3) (vI r1.2) :: fs) := hS
  refine at_run 5 [] [] [0, 6, 7] [pl 0 (.slice A1 line1.length c1), pl 6 (.int .i64 r1.1), pl 7 (.slice A3 r1.2.length c3)] hF hS (by kernel_rfl) (by kernel_rfl) ?_ (fun a w hF hS => ?_)
  · exact obs_nil
  refine at_end [0, 6, 7] [pl 0 (.slice A1 line1.length c1), pl 6 (.int .i64 r1.1), pl 7 (.slice A3 r1.2.length c3)] hF rfl (by kernel_rfl) (fun hF => ?_)
  refine then_n ?_
  refine seqR ?_
  obtain ⟨r2, hr2, hm⟩ := call_b hm
  refine at_run 1 [] [] [0, 6, 7, 16] [pl 0 (.slice A1 line1.length c1), pl 6 (.int .i64 r1.1), pl 7 (.slice A3 r1.2.length c3), pl 16 (.slice A1 line1.length c1)] hF hS (by kernel_rfl) (by kernel_rfl) ?_ (fun a w hF hS => ?_)
  · exact obs_nil
  refine at_call (f := 45) (args := #[.slice A1 line1.length c1]) (d := 17) hF (by kernel_rfl) (by kernel_rfl) Try.func45 (by kernel_rfl) rfl (gameroomref_Ints_w hr2 hS (fun _ hS => (hr_line1 _ (hS.dropN 1))) _hc_line1 rfl) (fun v a w hR hF => ?_)
  clear hS
  obtain ⟨A4, c4, rfl, hS⟩ := hR
  have hS : Sep w0 B w (own 3 (.slice A4 r2.length c4) (vI r2) :: own 3 (.slice A3 r1.2.length c3) (vI r1.2) :: fs) := hS
  refine at_run 1 [] [] [0, 6, 7, 8] [pl 0 (.slice A1 line1.length c1), pl 6 (.int .i64 r1.1), pl 7 (.slice A3 r1.2.length c3), pl 8 (.slice A4 r2.length c4)] hF hS (by kernel_rfl) (by kernel_rfl) ?_ (fun a w hF hS => ?_)
  · exact obs_nil
  refine at_end [0, 6, 7, 8] [pl 0 (.slice A1 line1.length c1), pl 6 (.int .i64 r1.1), pl 7 (.slice A3 r1.2.length c3), pl 8 (.slice A4 r2.length c4)] hF rfl (by kernel_rfl) (fun hF => ?_)
  refine then_n ?_
  refine seq_cut (fun a w => ∃ (out2 : List Int), Fr 44 [pl 6 (.int .i64 r1.1), pl 8 (.slice A4 r2.length c4)] a ∧ Sep w0 B w (own 3 (.slice A4 r2.length c4) (vI out2) :: fs) ∧ ((gameroomref_SureOf_J1 r1) out2).bind some = some r) ?_ ?_
  · rintro a w ⟨out2, hF, hS, hm⟩
    unfold gameroomref_SureOf_J1 at hm
    refine reg [] [] [4, 5] [pl 4 (.slice A4 r2.length c4), pl 5 (.bool (decide ((0 : Int) < r1.1)))] hF hS Fol (by kernel_rfl) (by kernel_rfl) (by kernel_rfl) ?_ (fun a w hF hS => ?_)
    · exact obs_nil
    refine wpIn_ret ?_
    have hl1 := (hS.at_ 0 rfl).len1
    have hS := (hS.at_ 0 rfl).reN hl1
    have hS : Sep w0 B w (own 3 (.slice A4 out2.length c4) (vI out2) :: fs) := hS
    have hF := hF.cast (t := 4) (v := .slice A4 r2.length c4) (v' := .slice A4 out2.length c4) rfl rfl (congrArg (fun k => Value.slice A4 k c4) hl1)
    have hm : some (out2, (decide ((0 : Int) < r1.1))) = some r := hm
    obtain rfl := Option.some.inj hm
    exact retV (rs := [.tmp 4, .tmp 5]) (vs := [.slice A4 out2.length c4, .bool (decide ((0 : Int) < r1.1))]) hF rfl (rv_t (by kernel_rfl) <| rv_t (by kernel_rfl) <| rv_nil) rfl ⟨_, rfl, A4, c4, rfl, hS⟩
  · refine reg [] [] [0, 6, 7, 8, 9] [pl 0 (.slice A1 line1.length c1), pl 6 (.int .i64 r1.1), pl 7 (.slice A3 r1.2.length c3), pl 8 (.slice A4 r2.length c4), pl 9 (.int .i64 0)] hF hS Fol (by kernel_rfl) (by kernel_rfl) (by kernel_rfl) ?_ (fun a w hF hS => ?_)
    · exact obs_nil
    refine wpIn_block ?_
    have hS := hS.pickN 2 [1, 0] (by decide)
    refine wp_loop_model (S := (List Int × Int)) (R := (List Int)) (gameroomref_SureOf_L1 line1 r1 r2) (fun x => ((gameroomref_SureOf_K1 r1) x).bind some) r (fun (x : (List Int × Int)) a w => Fr 44 [pl 0 (.slice A1 line1.length c1), pl 6 (.int .i64 r1.1), pl 7 (.slice A3 r1.2.length c3), pl 8 (.slice A4 r2.length c4), pl 9 (.int .i64 x.2)] a ∧ Sep w0 B w (own 3 (.slice A3 r1.2.length c3) (vI r1.2) :: own 3 (.slice A4 r2.length c4) (vI x.1) :: fs)) (assoc_b hm) ⟨hF.weak [0, 6, 7, 8, 9] (by kernel_rfl), hS⟩ ?_
    clear hF hS hm
    rintro nn1 ⟨out1, i1⟩ a w ⟨hF, hS⟩ hm
    generalize hφ1 : stK (gameroomref_SureOf_L1 line1 r1 r2) nn1 (fun x => ((gameroomref_SureOf_K1 r1) x).bind some) = φ1 at hm
    unfold gameroomref_SureOf_L1 at hm
    dsimp only at hF hS hm
    refine seq_cut (fun a w => Fr 44 [pl 0 (.slice A1 line1.length c1), pl 6 (.int .i64 r1.1), pl 7 (.slice A3 r1.2.length c3), pl 8 (.slice A4 r2.length c4), pl 9 (.int .i64 i1)] a ∧ Sep w0 B w (own 3 (.slice A3 r1.2.length c3) (vI r1.2) :: own 3 (.slice A4 r2.length c4) (vI out1) :: fs) ∧ ((gameroomref_SureOf_J2 r1 r2 out1 i1)).bind φ1 = some r) ?_ ?_
    · rintro a w ⟨hF, hS, hm⟩
      unfold gameroomref_SureOf_J2 at hm
      refine seq_cut (fun a w => ∃ (out3 : List Int), Fr 44 [pl 0 (.slice A1 line1.length c1), pl 6 (.int .i64 r1.1), pl 7 (.slice A3 r1.2.length c3), pl 8 (.slice A4 r2.length c4), pl 9 (.int .i64 i1)] a ∧ Sep w0 B w (own 3 (.slice A3 r1.2.length c3) (vI r1.2) :: own 3 (.slice A4 r2.length c4) (vI out3) :: fs) ∧ ((gameroomref_SureOf_J3 i1) out3).bind φ1 = some r) ?_ ?_
      · rintro a w ⟨out3, hF, hS, hm⟩
        unfold gameroomref_SureOf_J3 at hm
        refine reg1 [] [] [0, 6, 7, 8, 9] [pl 0 (.slice A1 line1.length c1), pl 6 (.int .i64 r1.1), pl 7 (.slice A3 r1.2.length c3), pl 8 (.slice A4 r2.length c4), pl 9 (.int .i64 (w64 (i1 + 1)))] hF hS Fol (by kernel_rfl) (by kernel_rfl) (by kernel_rfl) ?_ (fun a w hF hS => ?_)
        · exact obs_nil
        refine then_n ?_
        rw [← hφ1] at hm
        exact ⟨(out3, (w64 (i1 + 1))), ⟨hF.weak [0, 6, 7, 8, 9] (by kernel_rfl), hS⟩, hm⟩
      · refine wpIn_block ?_
        obtain ⟨hp1, hm⟩ := asrt_b hm
        refine reg [⟨true, [], vS (Instr.indexAt 22 (.slice A3 r1.2.length c3) (.int .i64 i1)), .pointer (some (sAddr A3 i1))⟩, ⟨false, [], vS (Instr.loadAt 3 (.pointer (some (sAddr A3 i1)))), .int .i64 (geti r1.2 i1)⟩] [none, none, some (.pointer (some (sAddr A3 i1))), some (.int .i64 (geti r1.2 i1)), none, none] [0, 6, 7, 8, 9, 29] [pl 0 (.slice A1 line1.length c1), pl 6 (.int .i64 r1.1), pl 7 (.slice A3 r1.2.length c3), pl 8 (.slice A4 r2.length c4), pl 9 (.int .i64 i1), pl 29 (.bool ((geti r1.2 i1) == r1.1))] hF hS Fol (by kernel_rfl) (by kernel_rfl) (by kernel_rfl) ?_ (fun a w hF hS => ?_)
        · exact obs_cons (ob_ix1 (f := (Value.int .i64)) (m := r1.2) Und22 hi3 hs3 (hS.at_ 0 rfl).rd rfl (fun _ => hp1)) <| obs_cons (ob_get1 (n := r1.2.length) (m := r1.2) (Value.int .i64) (0 : Int) Agg3 (fun _ hS => ⟨_, (hS.at_ 0 rfl).rd⟩) (fun _ hS => rfl) (fun _ => hp1)) <| obs_nil
        refine cond_ev (t := 29) (b := ((geti r1.2 i1) == r1.1)) hF (by kernel_rfl) (fun hb => ?_) (fun hb => ?_)
        · replace hm := if_t hm hb
          refine oneR ?_
          obtain ⟨hp2, hm⟩ := asrt_b hm
          refine at_run 3 [⟨true, [], vS (Instr.indexAt 22 (.slice A4 r2.length c4) (.int .i64 i1)), .pointer (some (sAddr A4 i1))⟩] [none, none, some (.pointer (some (sAddr A4 i1)))] [0, 6, 7, 8, 9, 32] [pl 0 (.slice A1 line1.length c1), pl 6 (.int .i64 r1.1), pl 7 (.slice A3 r1.2.length c3), pl 8 (.slice A4 r2.length c4), pl 9 (.int .i64 i1), pl 32 (.pointer (some (sAddr A4 i1)))] hF hS (by kernel_rfl) (by kernel_rfl) ?_ (fun a w hF hS => ?_)
          · exact obs_cons (ob_ix1 (f := (Value.int .i64)) (m := out1) Und22 hi3 hs3 (hS.at_ 1 rfl).rd ((hS.at_ 1 rfl).len1) (fun _ => hp2)) <| obs_nil
          obtain ⟨w, hrun, hS⟩ := run_set1 (P := Try.prog) (t := 3) (x := 1) (Value.int .i64) (hS.at_ 1 rfl) hi3 hs3 rfl rfl hp2
          refine at_skip hF (by kernel_rfl) hrun ?_
          have hS : Sep w0 B w (own 3 (.slice A3 r1.2.length c3) (vI r1.2) :: own 3 (.slice A4 r2.length c4) (vI (out1.set (Int.toNat i1) 1)) :: fs) := hS
          refine at_end [0, 6, 7, 8, 9] [pl 0 (.slice A1 line1.length c1), pl 6 (.int .i64 r1.1), pl 7 (.slice A3 r1.2.length c3), pl 8 (.slice A4 r2.length c4), pl 9 (.int .i64 i1)] hF rfl (by kernel_rfl) (fun hF => ?_)
          refine block_n ?_
          refine then_n ?_
          exact ⟨(out1.set (Int.toNat i1) 1), hF.weak [0, 6, 7, 8, 9] (by kernel_rfl), hS, hm⟩
        · replace hm := if_f hm hb
          obtain ⟨hp3, hm⟩ := asrt_b hm
          refine reg [⟨true, [], vS (Instr.indexAt 22 (.slice A3 r1.2.length c3) (.int .i64 i1)), .pointer (some (sAddr A3 i1))⟩, ⟨false, [], vS (Instr.loadAt 3 (.pointer (some (sAddr A3 i1)))), .int .i64 (geti r1.2 i1)⟩] [none, none, some (.pointer (some (sAddr A3 i1))), some (.int .i64 (geti r1.2 i1)), none] [0, 6, 7, 8, 9, 37] [pl 0 (.slice A1 line1.length c1), pl 6 (.int .i64 r1.1), pl 7 (.slice A3 r1.2.length c3), pl 8 (.slice A4 r2.length c4), pl 9 (.int .i64 i1), pl 37 (.bool ((geti r1.2 i1) == 0))] hF hS Fol (by kernel_rfl) (by kernel_rfl) (by kernel_rfl) ?_ (fun a w hF hS => ?_)
          · exact obs_cons (ob_ix1 (f := (Value.int .i64)) (m := r1.2) Und22 hi3 hs3 (hS.at_ 0 rfl).rd rfl (fun _ => hp3)) <| obs_cons (ob_get1 (n := r1.2.length) (m := r1.2) (Value.int .i64) (0 : Int) Agg3 (fun _ hS => ⟨_, (hS.at_ 0 rfl).rd⟩) (fun _ hS => rfl) (fun _ => hp3)) <| obs_nil
          refine cond_ev (t := 37) (b := ((geti r1.2 i1) == 0)) hF (by kernel_rfl) (fun hb => ?_) (fun hb => ?_)
          · replace hm := if_t hm hb
            refine oneR ?_
            obtain ⟨hp4, hm⟩ := asrt_b hm
            refine at_run 3 [⟨true, [], vS (Instr.indexAt 22 (.slice A4 r2.length c4) (.int .i64 i1)), .pointer (some (sAddr A4 i1))⟩] [none, none, some (.pointer (some (sAddr A4 i1)))] [0, 6, 7, 8, 9, 40] [pl 0 (.slice A1 line1.length c1), pl 6 (.int .i64 r1.1), pl 7 (.slice A3 r1.2.length c3), pl 8 (.slice A4 r2.length c4), pl 9 (.int .i64 i1), pl 40 (.pointer (some (sAddr A4 i1)))] hF hS (by kernel_rfl) (by kernel_rfl) ?_ (fun a w hF hS => ?_)
            · exact obs_cons (ob_ix1 (f := (Value.int .i64)) (m := out1) Und22 hi3 hs3 (hS.at_ 1 rfl).rd ((hS.at_ 1 rfl).len1) (fun _ => hp4)) <| obs_nil
            obtain ⟨w, hrun, hS⟩ := run_set1 (P := Try.prog) (t := 3) (x := 0) (Value.int .i64) (hS.at_ 1 rfl) hi3 hs3 rfl rfl hp4
            refine at_skip hF (by kernel_rfl) hrun ?_
            have hS : Sep w0 B w (own 3 (.slice A3 r1.2.length c3) (vI r1.2) :: own 3 (.slice A4 r2.length c4) (vI (out1.set (Int.toNat i1) 0)) :: fs) := hS
            refine at_end [0, 6, 7, 8, 9] [pl 0 (.slice A1 line1.length c1), pl 6 (.int .i64 r1.1), pl 7 (.slice A3 r1.2.length c3), pl 8 (.slice A4 r2.length c4), pl 9 (.int .i64 i1)] hF rfl (by kernel_rfl) (fun hF => ?_)
            refine block_n ?_
            refine then_n ?_
            exact ⟨(out1.set (Int.toNat i1) 0), hF.weak [0, 6, 7, 8, 9] (by kernel_rfl), hS, hm⟩
          · replace hm := if_f hm hb
            refine wpIn_skip ?_
            refine block_n ?_
            refine then_n ?_
            exact ⟨out1, hF.weak [0, 6, 7, 8, 9] (by kernel_rfl), hS, hm⟩
    · refine reg [] [] [0, 6, 7, 8, 9, 21] [pl 0 (.slice A1 line1.length c1), pl 6 (.int .i64 r1.1), pl 7 (.slice A3 r1.2.length c3), pl 8 (.slice A4 r2.length c4), pl 9 (.int .i64 i1), pl 21 (.bool (decide (i1 < (line1.length : Int))))] hF hS Fol (by kernel_rfl) (by kernel_rfl) (by kernel_rfl) ?_ (fun a w hF hS => ?_)
      · exact obs_nil
      refine cond_ev (t := 21) (b := decide (i1 < (line1.length : Int))) hF (by kernel_rfl) (fun hb => ?_) (fun hb => ?_)
      · replace hm := if_t hm hb
        refine wpIn_skip ?_
        refine then_n ?_
        exact ⟨hF.weak [0, 6, 7, 8, 9] (by kernel_rfl), hS, hm⟩
      · replace hm := if_f hm hb
        refine wpIn_exit ?_
        refine then_e (then_e (block_e (then_n ?_)))
        have hS := hS.pickN 2 [1] (by decide)
        rw [← hφ1] at hm
        replace hm := done_b hm
        unfold gameroomref_SureOf_K1 at hm
        try dsimp only at hm
        have hm : ((gameroomref_SureOf_J1 r1) out1).bind some = some r := hm
        exact ⟨out1, hF.weak [6, 8] (by kernel_rfl), hS, hm⟩

noncomputable def gameroomref_PushOf_J3  (cells1 : List Int) (i1 : Int) : Option (St (List Int × Int) (List Int)) :=
  some (.next ((cells1.set (Int.toNat i1) (-1)), (w64 (i1 + 1))))

noncomputable def gameroomref_PushOf_J2  (rows1 : List (List Int)) (columns1 : List (List Int)) (cells1 : List Int) (i1 : Int) : Option (St (List Int × Int) (List Int)) :=
  asrt (0 ≤ i1 ∧ i1 < (((Int.toNat (w64 ((columns1.length : Int) * (rows1.length : Int)))) : Nat) : Int)) <| (gameroomref_PushOf_J3 cells1 i1)

noncomputable def gameroomref_PushOf_J11  (y1 : Int) (places3 : List Int) : Option (St (List Int × Int) (List Int × List Int)) :=
  some (.next (places3, (w64 (y1 + 1))))

noncomputable def gameroomref_PushOf_J10  (columns1 : List (List Int)) (k1 : Int) (places1 : List Int) (y1 : Int) : Option (St (List Int × Int) (List Int × List Int)) :=
  asrt ((places1.length : Int) + 1 ≤ bigN) <| (gameroomref_PushOf_J11 y1) (places1 ++ ([w64 ((w64 (y1 * (columns1.length : Int))) + k1)] : List Int))

noncomputable def gameroomref_PushOf_L4  (rows1 : List (List Int)) (columns1 : List (List Int)) (k1 : Int) : (List Int × Int) → Option (St (List Int × Int) (List Int × List Int)) :=
  fun (x : (List Int × Int)) => match x with | (places1, y1) => if (decide (y1 < (rows1.length : Int))) then ((gameroomref_PushOf_J10 columns1 k1 places1 y1)) else (some (.done (places1, (geti2 columns1 k1))))

noncomputable def gameroomref_PushOf_J16  (i2 : Int) (line3 : List Int) : Option (St (List Int × Int) (List Int)) :=
  some (.next (line3, (w64 (i2 + 1))))

noncomputable def gameroomref_PushOf_J15  (rows1 : List (List Int)) (columns1 : List (List Int)) (cells5 : List Int) (places2 : List Int) (line1 : List Int) (i2 : Int) : Option (St (List Int × Int) (List Int)) :=
  asrt (0 ≤ i2 ∧ i2 < (places2.length : Int)) <| asrt (0 ≤ (geti places2 i2) ∧ (geti places2 i2) < (((Int.toNat (w64 ((columns1.length : Int) * (rows1.length : Int)))) : Nat) : Int)) <| asrt ((line1.length : Int) + 1 ≤ bigN) <| (gameroomref_PushOf_J16 i2) (line1 ++ ([geti cells5 (geti places2 i2)] : List Int))

noncomputable def gameroomref_PushOf_L6  (rows1 : List (List Int)) (columns1 : List (List Int)) (cells5 : List Int) (places2 : List Int) : (List Int × Int) → Option (St (List Int × Int) (List Int)) :=
  fun (x : (List Int × Int)) => match x with | (line1, i2) => if (decide (i2 < (places2.length : Int))) then ((gameroomref_PushOf_J15 rows1 columns1 cells5 places2 line1 i2)) else (some (.done line1))

noncomputable def gameroomref_PushOf_J19  (places2 : List Int) (r1 : (List Int × Bool)) (cells7 : List Int) (i3 : Int) : Option (St (List Int × Int) (List Int)) :=
  some (.next ((cells7.set (Int.toNat (geti places2 i3)) (geti r1.1 i3)), (w64 (i3 + 1))))

noncomputable def gameroomref_PushOf_J18  (rows1 : List (List Int)) (columns1 : List (List Int)) (places2 : List Int) (r1 : (List Int × Bool)) (cells7 : List Int) (i3 : Int) : Option (St (List Int × Int) (List Int)) :=
  asrt (0 ≤ i3 ∧ i3 < (places2.length : Int)) <| asrt (0 ≤ i3 ∧ i3 < (r1.1.length : Int)) <| asrt (0 ≤ (geti places2 i3) ∧ (geti places2 i3) < (((Int.toNat (w64 ((columns1.length : Int) * (rows1.length : Int)))) : Nat) : Int)) <| (gameroomref_PushOf_J19 places2 r1 cells7 i3)

noncomputable def gameroomref_PushOf_L7  (rows1 : List (List Int)) (columns1 : List (List Int)) (places2 : List Int) (r1 : (List Int × Bool)) : (List Int × Int) → Option (St (List Int × Int) (List Int)) :=
  fun (x : (List Int × Int)) => match x with | (cells7, i3) => if (decide (i3 < (places2.length : Int))) then ((gameroomref_PushOf_J18 rows1 columns1 places2 r1 cells7 i3)) else (some (.done cells7))

noncomputable def gameroomref_PushOf_J8  (k1 : Int) (cells8 : List Int) : Option (St (List Int × Int) (Fl (List Int) (List Int × Bool))) :=
  some (.next (cells8, (w64 (k1 + 1))))

noncomputable def gameroomref_PushOf_K7  (k1 : Int) : (List Int) → Option (St (List Int × Int) (Fl (List Int) (List Int × Bool))) :=
  fun (x : (List Int)) => match x with | cells8 => (gameroomref_PushOf_J8 k1) cells8

noncomputable def gameroomref_PushOf_J17  (rows1 : List (List Int)) (columns1 : List (List Int)) (cells5 : List Int) (k1 : Int) (places2 : List Int) (r1 : (List Int × Bool)) : Option (St (List Int × Int) (Fl (List Int) (List Int × Bool))) :=
  (loop (gameroomref_PushOf_L7 rows1 columns1 places2 r1) (cells5, 0)).bind (gameroomref_PushOf_K7 k1)

noncomputable def gameroomref_PushOf_J14  (rows1 : List (List Int)) (columns1 : List (List Int)) (cells5 : List Int) (k1 : Int) (places2 : List Int) (clue1 : List Int) (line2 : List Int) : Option (St (List Int × Int) (Fl (List Int) (List Int × Bool))) :=
  (gameroomref_SureOf_m line2 clue1).bind fun r1 => if (!r1.2) then (some (.done (.ret (([] : List Int), false)))) else ((gameroomref_PushOf_J17 rows1 columns1 cells5 k1 places2 r1))

noncomputable def gameroomref_PushOf_K6  (rows1 : List (List Int)) (columns1 : List (List Int)) (cells5 : List Int) (k1 : Int) (places2 : List Int) (clue1 : List Int) : (List Int) → Option (St (List Int × Int) (Fl (List Int) (List Int × Bool))) :=
  fun (x : (List Int)) => match x with | line2 => (gameroomref_PushOf_J14 rows1 columns1 cells5 k1 places2 clue1) line2

noncomputable def gameroomref_PushOf_J9  (rows1 : List (List Int)) (columns1 : List (List Int)) (cells5 : List Int) (k1 : Int) (places2 : List Int) (clue1 : List Int) : Option (St (List Int × Int) (Fl (List Int) (List Int × Bool))) :=
  (loop (gameroomref_PushOf_L6 rows1 columns1 cells5 places2) (([] : List Int), 0)).bind (gameroomref_PushOf_K6 rows1 columns1 cells5 k1 places2 clue1)

noncomputable def gameroomref_PushOf_K4  (rows1 : List (List Int)) (columns1 : List (List Int)) (cells5 : List Int) (k1 : Int) : (List Int × List Int) → Option (St (List Int × Int) (Fl (List Int) (List Int × Bool))) :=
  fun (x : (List Int × List Int)) => match x with | (places2, clue1) => (gameroomref_PushOf_J9 rows1 columns1 cells5 k1) places2 clue1

noncomputable def gameroomref_PushOf_J13  (x1 : Int) (places5 : List Int) : Option (St (List Int × Int) (List Int × List Int)) :=
  some (.next (places5, (w64 (x1 + 1))))

noncomputable def gameroomref_PushOf_J12  (columns1 : List (List Int)) (k1 : Int) (places4 : List Int) (x1 : Int) : Option (St (List Int × Int) (List Int × List Int)) :=
  asrt ((places4.length : Int) + 1 ≤ bigN) <| (gameroomref_PushOf_J13 x1) (places4 ++ ([w64 ((w64 ((w64 (k1 - (columns1.length : Int))) * (columns1.length : Int))) + x1)] : List Int))

noncomputable def gameroomref_PushOf_L5  (rows1 : List (List Int)) (columns1 : List (List Int)) (k1 : Int) : (List Int × Int) → Option (St (List Int × Int) (List Int × List Int)) :=
  fun (x : (List Int × Int)) => match x with | (places4, x1) => if (decide (x1 < (columns1.length : Int))) then ((gameroomref_PushOf_J12 columns1 k1 places4 x1)) else (some (.done (places4, (geti2 rows1 (w64 (k1 - (columns1.length : Int)))))))

noncomputable def gameroomref_PushOf_K5  (rows1 : List (List Int)) (columns1 : List (List Int)) (cells5 : List Int) (k1 : Int) : (List Int × List Int) → Option (St (List Int × Int) (Fl (List Int) (List Int × Bool))) :=
  fun (x : (List Int × List Int)) => match x with | (places2, clue1) => (gameroomref_PushOf_J9 rows1 columns1 cells5 k1) places2 clue1

noncomputable def gameroomref_PushOf_J7  (rows1 : List (List Int)) (columns1 : List (List Int)) (cells5 : List Int) (k1 : Int) : Option (St (List Int × Int) (Fl (List Int) (List Int × Bool))) :=
  if (decide (k1 < (columns1.length : Int))) then (asrt (0 ≤ k1 ∧ k1 < (columns1.length : Int)) <| (loop (gameroomref_PushOf_L4 rows1 columns1 k1) (([] : List Int), 0)).bind (gameroomref_PushOf_K4 rows1 columns1 cells5 k1)) else (asrt (0 ≤ (w64 (k1 - (columns1.length : Int))) ∧ (w64 (k1 - (columns1.length : Int))) < (rows1.length : Int)) <| (loop (gameroomref_PushOf_L5 rows1 columns1 k1) (([] : List Int), 0)).bind (gameroomref_PushOf_K5 rows1 columns1 cells5 k1))

noncomputable def gameroomref_PushOf_L3  (rows1 : List (List Int)) (columns1 : List (List Int)) : (List Int × Int) → Option (St (List Int × Int) (Fl (List Int) (List Int × Bool))) :=
  fun (x : (List Int × Int)) => match x with | (cells5, k1) => if (decide (k1 < (w64 ((columns1.length : Int) + (rows1.length : Int))))) then ((gameroomref_PushOf_J7 rows1 columns1 cells5 k1)) else (some (.done (.go cells5)))

noncomputable def gameroomref_PushOf_J6  (round1 : Int) (cells6 : List Int) : Option (St (List Int × Int) (Fl (List Int) (List Int × Bool))) :=
  some (.next (cells6, (w64 (round1 + 1))))

noncomputable def gameroomref_PushOf_K3  (round1 : Int) : (Fl (List Int) (List Int × Bool)) → Option (St (List Int × Int) (Fl (List Int) (List Int × Bool))) :=
  fun (x : (Fl (List Int) (List Int × Bool))) => match x with | .go cells6 => (gameroomref_PushOf_J6 round1) cells6 | .ret x => some (.done (.ret x))

noncomputable def gameroomref_PushOf_J5  (rows1 : List (List Int)) (columns1 : List (List Int)) (cells3 : List Int) (round1 : Int) : Option (St (List Int × Int) (Fl (List Int) (List Int × Bool))) :=
  (loop (gameroomref_PushOf_L3 rows1 columns1) (cells3, 0)).bind (gameroomref_PushOf_K3 round1)

noncomputable def gameroomref_PushOf_L2  (rows1 : List (List Int)) (columns1 : List (List Int)) : (List Int × Int) → Option (St (List Int × Int) (Fl (List Int) (List Int × Bool))) :=
  fun (x : (List Int × Int)) => match x with | (cells3, round1) => if (decide (round1 ≤ (w64 ((columns1.length : Int) * (rows1.length : Int))))) then ((gameroomref_PushOf_J5 rows1 columns1 cells3 round1)) else (some (.done (.go cells3)))

noncomputable def gameroomref_PushOf_J4  (cells4 : List Int) : Option (List Int × Bool) :=
  some (cells4, true)

noncomputable def gameroomref_PushOf_K2  : (Fl (List Int) (List Int × Bool)) → Option (List Int × Bool) :=
  fun (x : (Fl (List Int) (List Int × Bool))) => match x with | .go cells4 => gameroomref_PushOf_J4 cells4 | .ret x => some x

noncomputable def gameroomref_PushOf_J1  (rows1 : List (List Int)) (columns1 : List (List Int)) (cells2 : List Int) : Option (List Int × Bool) :=
  (loop (gameroomref_PushOf_L2 rows1 columns1) (cells2, 0)).bind gameroomref_PushOf_K2

noncomputable def gameroomref_PushOf_K1  (rows1 : List (List Int)) (columns1 : List (List Int)) : (List Int) → Option (List Int × Bool) :=
  fun (x : (List Int)) => match x with | cells2 => (gameroomref_PushOf_J1 rows1 columns1) cells2

noncomputable def gameroomref_PushOf_L1  (rows1 : List (List Int)) (columns1 : List (List Int)) : (List Int × Int) → Option (St (List Int × Int) (List Int)) :=
  fun (x : (List Int × Int)) => match x with | (cells1, i1) => if (decide (i1 < (w64 ((columns1.length : Int) * (rows1.length : Int))))) then ((gameroomref_PushOf_J2 rows1 columns1 cells1 i1)) else (some (.done cells1))

noncomputable def gameroomref_PushOf_m  (rows1 : List (List Int)) (columns1 : List (List Int)) : Option (List Int × Bool) :=
  asrt ((0 : Int) ≤ (w64 ((columns1.length : Int) * (rows1.length : Int))) ∧ (w64 ((columns1.length : Int) * (rows1.length : Int))) ≤ bigN) <| (loop (gameroomref_PushOf_L1 rows1 columns1) ((List.replicate (Int.toNat (w64 ((columns1.length : Int) * (rows1.length : Int)))) (0 : Int)), 0)).bind (gameroomref_PushOf_K1 rows1 columns1)

set_option maxRecDepth 100000 in
set_option maxHeartbeats 4000000 in
theorem gameroomref_PushOf_w  {A1 : Option Addr} {c1 : Nat} {n1 : Nat} {hd1 : List Hd} {rows1 : List (List Int)} {A2 : Option Addr} {c2 : Nat} {n2 : Nat} {hd2 : List Hd} {columns1 : List (List Int)} {r : (List Int × Bool)} {w0 w : World} {B : Nat} {fs : List HP} (hm : gameroomref_PushOf_m rows1 columns1 = some r) (hS : Sep w0 B w (fs)) (hr_rows1 : RdRowsF w0 B fs A1 hd1 rows1) (_hc_rows1 : rows1.length ≤ c1) (_hn_rows1 : n1 = rows1.length) (hr_columns1 : RdRowsF w0 B fs A2 hd2 columns1) (_hc_columns1 : columns1.length ≤ c2) (_hn_columns1 : n2 = columns1.length) :
    Calls Try.prog 20 #[.slice A1 n1 c1, .slice A2 n2 c2] w fun e w' => ∃ v, e = .returned v ∧ ∃ (A17 : Option Addr) (c17 : Nat), v = .tuple #[.slice A17 r.1.length c17, .bool r.2] ∧ Sep w0 B w' (own 3 (.slice A17 r.1.length c17) (vI r.1) :: fs) := by
  obtain ⟨i3, hi3, hz3, hs3, hb3⟩ := info_parts Info3
  obtain ⟨i22, hi22, hz22, hs22, hb22⟩ := info_parts Info22
  obtain rfl := _hn_rows1
  obtain rfl := _hn_columns1
  unfold gameroomref_PushOf_m at hm
  replace hm := start_b hm
  refine enter (l := [.slice A1 rows1.length c1, .slice A2 columns1.length c2]) (n := 135) Try.func20 rfl rfl (by simp) (fun a hF => ?_)
  refine reg [] [] [0, 1] [pl 0 (.slice A1 rows1.length c1), pl 1 (.slice A2 columns1.length c2)] hF hS Fol (by kernel_rfl) (by kernel_rfl) (by kernel_rfl) ?_ (fun a w hF hS => ?_)
  · exact obs_nil
  refine reg [] [] [0, 1, 6, 7] [pl 0 (.slice A1 rows1.length c1), pl 1 (.slice A2 columns1.length c2), pl 6 (.int .i64 (columns1.length : Int)), pl 7 (.int .i64 (rows1.length : Int))] hF hS Fol (by kernel_rfl) (by kernel_rfl) (by kernel_rfl) ?_ (fun a w hF hS => ?_)
  · exact obs_nil
  refine seqR ?_
  obtain ⟨hp1, hm⟩ := asrt_b hm
  refine at_run 3 [] [] [0, 1, 6, 7, 27] [pl 0 (.slice A1 rows1.length c1), pl 1 (.slice A2 columns1.length c2), pl 6 (.int .i64 (columns1.length : Int)), pl 7 (.int .i64 (rows1.length : Int)), pl 27 (.int .i64 (w64 ((columns1.length : Int) * (rows1.length : Int))))] hF hS (by kernel_rfl) (by kernel_rfl) ?_ (fun a w hF hS => ?_)
  · exact obs_nil
  obtain ⟨A3, c3, w, hrun, hS⟩ := run_mk1 (P := Try.prog) (t := 22) (Value.int .i64) (0 : Int) hS .i64 .i64 Und22 hi3 hz3 hs3 (by omega) rfl hp1
  have hS : Sep w0 B w (own 3 (.slice A3 (Int.toNat (w64 ((columns1.length : Int) * (rows1.length : Int)))) c3) (vI (List.replicate (Int.toNat (w64 ((columns1.length : Int) * (rows1.length : Int)))) (0 : Int))) :: fs) := hS
  refine at_do (d := 28) hF (by kernel_rfl) (by kernel_rfl) hrun (fun a hF => ?_)
  refine at_run 1 [] [] [0, 1, 6, 7, 8] [pl 0 (.slice A1 rows1.length c1), pl 1 (.slice A2 columns1.length c2), pl 6 (.int .i64 (columns1.length : Int)), pl 7 (.int .i64 (rows1.length : Int)), pl 8 (.slice A3 (Int.toNat (w64 ((columns1.length : Int) * (rows1.length : Int)))) c3)] hF hS (by kernel_rfl) (by kernel_rfl) ?_ (fun a w hF hS => ?_)
  · exact obs_nil
  refine at_end [0, 1, 6, 7, 8] [pl 0 (.slice A1 rows1.length c1), pl 1 (.slice A2 columns1.length c2), pl 6 (.int .i64 (columns1.length : Int)), pl 7 (.int .i64 (rows1.length : Int)), pl 8 (.slice A3 (Int.toNat (w64 ((columns1.length : Int) * (rows1.length : Int)))) c3)] hF rfl (by kernel_rfl) (fun hF => ?_)
  refine then_n ?_
  refine seq_cut (fun a w => ∃ (cells2 : List Int), Fr 135 [pl 0 (.slice A1 rows1.length c1), pl 1 (.slice A2 columns1.length c2), pl 6 (.int .i64 (columns1.length : Int)), pl 7 (.int .i64 (rows1.length : Int)), pl 8 (.slice A3 (Int.toNat (w64 ((columns1.length : Int) * (rows1.length : Int)))) c3)] a ∧ Sep w0 B w (own 3 (.slice A3 (Int.toNat (w64 ((columns1.length : Int) * (rows1.length : Int)))) c3) (vI cells2) :: fs) ∧ ((gameroomref_PushOf_J1 rows1 columns1) cells2).bind some = some r) ?_ ?_
  · rintro a w ⟨cells2, hF, hS, hm⟩
    unfold gameroomref_PushOf_J1 at hm
    refine seq_cut (fun a w => ∃ (cells4 : List Int), Fr 135 [pl 8 (.slice A3 (Int.toNat (w64 ((columns1.length : Int) * (rows1.length : Int)))) c3)] a ∧ Sep w0 B w (own 3 (.slice A3 (Int.toNat (w64 ((columns1.length : Int) * (rows1.length : Int)))) c3) (vI cells4) :: fs) ∧ (gameroomref_PushOf_J4 cells4).bind some = some r) ?_ ?_
    · rintro a w ⟨cells4, hF, hS, hm⟩
      unfold gameroomref_PushOf_J4 at hm
      refine reg [] [] [4, 5] [pl 4 (.slice A3 (Int.toNat (w64 ((columns1.length : Int) * (rows1.length : Int)))) c3), pl 5 (.bool true)] hF hS Fol (by kernel_rfl) (by kernel_rfl) (by kernel_rfl) ?_ (fun a w hF hS => ?_)
      · exact obs_nil
      refine wpIn_ret ?_
      have hl5 := (hS.at_ 0 rfl).len1
      have hS := (hS.at_ 0 rfl).reN hl5
      have hS : Sep w0 B w (own 3 (.slice A3 cells4.length c3) (vI cells4) :: fs) := hS
      have hF := hF.cast (t := 4) (v := .slice A3 (Int.toNat (w64 ((columns1.length : Int) * (rows1.length : Int)))) c3) (v' := .slice A3 cells4.length c3) rfl rfl (congrArg (fun k => Value.slice A3 k c3) hl5)
      have hm : some (cells4, true) = some r := hm
      obtain rfl := Option.some.inj hm
      exact retV (rs := [.tmp 4, .tmp 5]) (vs := [.slice A3 cells4.length c3, .bool true]) hF rfl (rv_t (by kernel_rfl) <| rv_t (by kernel_rfl) <| rv_nil) rfl ⟨_, rfl, A3, c3, rfl, hS⟩
    · refine reg [] [] [0, 1, 6, 7, 8, 10] [pl 0 (.slice A1 rows1.length c1), pl 1 (.slice A2 columns1.length c2), pl 6 (.int .i64 (columns1.length : Int)), pl 7 (.int .i64 (rows1.length : Int)), pl 8 (.slice A3 (Int.toNat (w64 ((columns1.length : Int) * (rows1.length : Int)))) c3), pl 10 (.int .i64 0)] hF hS Fol (by kernel_rfl) (by kernel_rfl) (by kernel_rfl) ?_ (fun a w hF hS => ?_)
      · exact obs_nil
      refine wpIn_block ?_
      refine wp_loop_model (S := (List Int × Int)) (R := (Fl (List Int) (List Int × Bool))) (gameroomref_PushOf_L2 rows1 columns1) (fun x => (gameroomref_PushOf_K2 x).bind some) r (fun (x : (List Int × Int)) a w => Fr 135 [pl 0 (.slice A1 rows1.length c1), pl 1 (.slice A2 columns1.length c2), pl 6 (.int .i64 (columns1.length : Int)), pl 7 (.int .i64 (rows1.length : Int)), pl 8 (.slice A3 (Int.toNat (w64 ((columns1.length : Int) * (rows1.length : Int)))) c3), pl 10 (.int .i64 x.2)] a ∧ Sep w0 B w (own 3 (.slice A3 (Int.toNat (w64 ((columns1.length : Int) * (rows1.length : Int)))) c3) (vI x.1) :: fs)) (assoc_b hm) ⟨hF.weak [0, 1, 6, 7, 8, 10] (by kernel_rfl), hS⟩ ?_
      clear hF hS hm
      rintro nn2 ⟨cells3, round1⟩ a w ⟨hF, hS⟩ hm
      generalize hφ2 : stK (gameroomref_PushOf_L2 rows1 columns1) nn2 (fun x => (gameroomref_PushOf_K2 x).bind some) = φ2 at hm
      unfold gameroomref_PushOf_L2 at hm
      dsimp only at hF hS hm
      refine seq_cut (fun a w => Fr 135 [pl 0 (.slice A1 rows1.length c1), pl 1 (.slice A2 columns1.length c2), pl 6 (.int .i64 (columns1.length : Int)), pl 7 (.int .i64 (rows1.length : Int)), pl 8 (.slice A3 (Int.toNat (w64 ((columns1.length : Int) * (rows1.length : Int)))) c3), pl 10 (.int .i64 round1)] a ∧ Sep w0 B w (own 3 (.slice A3 (Int.toNat (w64 ((columns1.length : Int) * (rows1.length : Int)))) c3) (vI cells3) :: fs) ∧ ((gameroomref_PushOf_J5 rows1 columns1 cells3 round1)).bind φ2 = some r) ?_ ?_
      · rintro a w ⟨hF, hS, hm⟩
        unfold gameroomref_PushOf_J5 at hm
        refine seq_cut (fun a w => ∃ (cells6 : List Int), Fr 135 [pl 0 (.slice A1 rows1.length c1), pl 1 (.slice A2 columns1.length c2), pl 6 (.int .i64 (columns1.length : Int)), pl 7 (.int .i64 (rows1.length : Int)), pl 8 (.slice A3 (Int.toNat (w64 ((columns1.length : Int) * (rows1.length : Int)))) c3), pl 10 (.int .i64 round1)] a ∧ Sep w0 B w (own 3 (.slice A3 (Int.toNat (w64 ((columns1.length : Int) * (rows1.length : Int)))) c3) (vI cells6) :: fs) ∧ ((gameroomref_PushOf_J6 round1) cells6).bind φ2 = some r) ?_ ?_
        · rintro a w ⟨cells6, hF, hS, hm⟩
          unfold gameroomref_PushOf_J6 at hm
          refine reg1 [] [] [0, 1, 6, 7, 8, 10] [pl 0 (.slice A1 rows1.length c1), pl 1 (.slice A2 columns1.length c2), pl 6 (.int .i64 (columns1.length : Int)), pl 7 (.int .i64 (rows1.length : Int)), pl 8 (.slice A3 (Int.toNat (w64 ((columns1.length : Int) * (rows1.length : Int)))) c3), pl 10 (.int .i64 (w64 (round1 + 1)))] hF hS Fol (by kernel_rfl) (by kernel_rfl) (by kernel_rfl) ?_ (fun a w hF hS => ?_)
          · exact obs_nil
          refine then_n ?_
          rw [← hφ2] at hm
          exact ⟨(cells6, (w64 (round1 + 1))), ⟨hF.weak [0, 1, 6, 7, 8, 10] (by kernel_rfl), hS⟩, hm⟩
        · refine wpIn_block ?_
          refine reg [] [] [0, 1, 6, 7, 8, 10, 11] [pl 0 (.slice A1 rows1.length c1), pl 1 (.slice A2 columns1.length c2), pl 6 (.int .i64 (columns1.length : Int)), pl 7 (.int .i64 (rows1.length : Int)), pl 8 (.slice A3 (Int.toNat (w64 ((columns1.length : Int) * (rows1.length : Int)))) c3), pl 10 (.int .i64 round1), pl 11 (.int .i64 0)] hF hS Fol (by kernel_rfl) (by kernel_rfl) (by kernel_rfl) ?_ (fun a w hF hS => ?_)
          · exact obs_nil
          refine wpIn_block ?_
          refine wp_loop_model (S := (List Int × Int)) (R := (Fl (List Int) (List Int × Bool))) (gameroomref_PushOf_L3 rows1 columns1) (fun x => ((gameroomref_PushOf_K3 round1) x).bind φ2) r (fun (x : (List Int × Int)) a w => Fr 135 [pl 0 (.slice A1 rows1.length c1), pl 1 (.slice A2 columns1.length c2), pl 6 (.int .i64 (columns1.length : Int)), pl 7 (.int .i64 (rows1.length : Int)), pl 8 (.slice A3 (Int.toNat (w64 ((columns1.length : Int) * (rows1.length : Int)))) c3), pl 10 (.int .i64 round1), pl 11 (.int .i64 x.2)] a ∧ Sep w0 B w (own 3 (.slice A3 (Int.toNat (w64 ((columns1.length : Int) * (rows1.length : Int)))) c3) (vI x.1) :: fs)) (assoc_b hm) ⟨hF.weak [0, 1, 6, 7, 8, 10, 11] (by kernel_rfl), hS⟩ ?_
          clear hF hS hm
          rintro nn3 ⟨cells5, k1⟩ a w ⟨hF, hS⟩ hm
          generalize hφ3 : stK (gameroomref_PushOf_L3 rows1 columns1) nn3 (fun x => ((gameroomref_PushOf_K3 round1) x).bind φ2) = φ3 at hm
          unfold gameroomref_PushOf_L3 at hm
          dsimp only at hF hS hm
          refine seq_cut (fun a w => Fr 135 [pl 0 (.slice A1 rows1.length c1), pl 1 (.slice A2 columns1.length c2), pl 6 (.int .i64 (columns1.length : Int)), pl 7 (.int .i64 (rows1.length : Int)), pl 8 (.slice A3 (Int.toNat (w64 ((columns1.length : Int) * (rows1.length : Int)))) c3), pl 10 (.int .i64 round1), pl 11 (.int .i64 k1)] a ∧ Sep w0 B w (own 3 (.slice A3 (Int.toNat (w64 ((columns1.length : Int) * (rows1.length : Int)))) c3) (vI cells5) :: fs) ∧ ((gameroomref_PushOf_J7 rows1 columns1 cells5 k1)).bind φ3 = some r) ?_ ?_
          · rintro a w ⟨hF, hS, hm⟩
            unfold gameroomref_PushOf_J7 at hm
            refine seq_cut (fun a w => ∃ (cells8 : List Int), Fr 135 [pl 0 (.slice A1 rows1.length c1), pl 1 (.slice A2 columns1.length c2), pl 6 (.int .i64 (columns1.length : Int)), pl 7 (.int .i64 (rows1.length : Int)), pl 8 (.slice A3 (Int.toNat (w64 ((columns1.length : Int) * (rows1.length : Int)))) c3), pl 10 (.int .i64 round1), pl 11 (.int .i64 k1)] a ∧ Sep w0 B w (own 3 (.slice A3 (Int.toNat (w64 ((columns1.length : Int) * (rows1.length : Int)))) c3) (vI cells8) :: fs) ∧ ((gameroomref_PushOf_J8 k1) cells8).bind φ3 = some r) ?_ ?_
            · rintro a w ⟨cells8, hF, hS, hm⟩
              unfold gameroomref_PushOf_J8 at hm
              refine reg1 [] [] [0, 1, 6, 7, 8, 10, 11] [pl 0 (.slice A1 rows1.length c1), pl 1 (.slice A2 columns1.length c2), pl 6 (.int .i64 (columns1.length : Int)), pl 7 (.int .i64 (rows1.length : Int)), pl 8 (.slice A3 (Int.toNat (w64 ((columns1.length : Int) * (rows1.length : Int)))) c3), pl 10 (.int .i64 round1), pl 11 (.int .i64 (w64 (k1 + 1)))] hF hS Fol (by kernel_rfl) (by kernel_rfl) (by kernel_rfl) ?_ (fun a w hF hS => ?_)
              · exact obs_nil
              refine then_n ?_
              rw [← hφ3] at hm
              exact ⟨(cells8, (w64 (k1 + 1))), ⟨hF.weak [0, 1, 6, 7, 8, 10, 11] (by kernel_rfl), hS⟩, hm⟩
            · refine wpIn_block ?_
              refine reg [] [] [0, 1, 6, 7, 8, 10, 11, 12, 13] [pl 0 (.slice A1 rows1.length c1), pl 1 (.slice A2 columns1.length c2), pl 6 (.int .i64 (columns1.length : Int)), pl 7 (.int .i64 (rows1.length : Int)), pl 8 (.slice A3 (Int.toNat (w64 ((columns1.length : Int) * (rows1.length : Int)))) c3), pl 10 (.int .i64 round1), pl 11 (.int .i64 k1), pl 12 (.slice none 0 0), pl 13 (.slice none 0 0)] hF hS Fol (by kernel_rfl) (by kernel_rfl) (by kernel_rfl) ?_ (fun a w hF hS => ?_)
              · exact obs_nil
              refine seq_cut (fun a w => ∃ (places2 : List Int) (clue1 : List Int) (A5 : Option Addr) (c5 : Nat) (A6 : Option Addr) (c6 : Nat), Fr 135 [pl 0 (.slice A1 rows1.length c1), pl 1 (.slice A2 columns1.length c2), pl 6 (.int .i64 (columns1.length : Int)), pl 7 (.int .i64 (rows1.length : Int)), pl 8 (.slice A3 (Int.toNat (w64 ((columns1.length : Int) * (rows1.length : Int)))) c3), pl 10 (.int .i64 round1), pl 11 (.int .i64 k1), pl 12 (.slice none 0 0), pl 13 (.slice A5 places2.length c5), pl 14 (.slice A6 clue1.length c6)] a ∧ Sep w0 B w (own 3 (.slice A3 (Int.toNat (w64 ((columns1.length : Int) * (rows1.length : Int)))) c3) (vI cells5) :: own 3 (.slice A5 places2.length c5) (vI places2) :: fs) ∧ RdF w0 B fs A6 (vI clue1) ∧ clue1.length ≤ c6 ∧ ((gameroomref_PushOf_J9 rows1 columns1 cells5 k1) places2 clue1).bind φ3 = some r) ?_ ?_
              · rintro a w ⟨places2, clue1, A5, c5, A6, c6, hF, hS, hr1, hc1, hm⟩
                unfold gameroomref_PushOf_J9 at hm
                refine seq_cut (fun a w => ∃ (line2 : List Int) (A13 : Option Addr) (c13 : Nat), Fr 135 [pl 0 (.slice A1 rows1.length c1), pl 1 (.slice A2 columns1.length c2), pl 6 (.int .i64 (columns1.length : Int)), pl 7 (.int .i64 (rows1.length : Int)), pl 8 (.slice A3 (Int.toNat (w64 ((columns1.length : Int) * (rows1.length : Int)))) c3), pl 10 (.int .i64 round1), pl 11 (.int .i64 k1), pl 12 (.slice A13 line2.length c13), pl 13 (.slice A5 places2.length c5), pl 14 (.slice A6 clue1.length c6)] a ∧ Sep w0 B w (own 3 (.slice A3 (Int.toNat (w64 ((columns1.length : Int) * (rows1.length : Int)))) c3) (vI cells5) :: own 3 (.slice A13 line2.length c13) (vI line2) :: own 3 (.slice A5 places2.length c5) (vI places2) :: fs) ∧ ((gameroomref_PushOf_J14 rows1 columns1 cells5 k1 places2 clue1) line2).bind φ3 = some r) ?_ ?_
                · rintro a w ⟨line2, A13, c13, hF, hS, hm⟩
                  unfold gameroomref_PushOf_J14 at hm
                  refine seqR ?_
                  obtain ⟨r1, hr2, hm⟩ := call_b hm
                  refine at_run 2 [] [] [0, 1, 6, 7, 8, 10, 11, 13, 111, 112] [pl 0 (.slice A1 rows1.length c1), pl 1 (.slice A2 columns1.length c2), pl 6 (.int .i64 (columns1.length : Int)), pl 7 (.int .i64 (rows1.length : Int)), pl 8 (.slice A3 (Int.toNat (w64 ((columns1.length : Int) * (rows1.length : Int)))) c3), pl 10 (.int .i64 round1), pl 11 (.int .i64 k1), pl 13 (.slice A5 places2.length c5), pl 111 (.slice A13 line2.length c13), pl 112 (.slice A6 clue1.length c6)] hF hS (by kernel_rfl) (by kernel_rfl) ?_ (fun a w hF hS => ?_)
                  · exact obs_nil
                  refine at_call (f := 63) (args := #[.slice A13 line2.length c13, .slice A6 clue1.length c6]) (d := 113) hF (by kernel_rfl) (by kernel_rfl) Try.func63 (by kernel_rfl) rfl (gameroomref_SureOf_w hr2 hS (fun _ hS => (hS.at_ 1 rfl).rd) ((hS.at_ 1 rfl).cap1) rfl (fun _ hS => (hr1 _ (hS.dropN 3))) hc1 rfl) (fun v a w hR hF => ?_)
                  clear hS
                  obtain ⟨A16, c16, rfl, hS⟩ := hR
                  have hS : Sep w0 B w (own 3 (.slice A16 r1.1.length c16) (vI r1.1) :: own 3 (.slice A3 (Int.toNat (w64 ((columns1.length : Int) * (rows1.length : Int)))) c3) (vI cells5) :: own 3 (.slice A13 line2.length c13) (vI line2) :: own 3 (.slice A5 places2.length c5) (vI places2) :: fs) := hS
                  refine at_run 5 [] [] [0, 1, 6, 7, 8, 10, 11, 13, 18, 19] [pl 0 (.slice A1 rows1.length c1), pl 1 (.slice A2 columns1.length c2), pl 6 (.int .i64 (columns1.length : Int)), pl 7 (.int .i64 (rows1.length : Int)), pl 8 (.slice A3 (Int.toNat (w64 ((columns1.length : Int) * (rows1.length : Int)))) c3), pl 10 (.int .i64 round1), pl 11 (.int .i64 k1), pl 13 (.slice A5 places2.length c5), pl 18 (.slice A16 r1.1.length c16), pl 19 (.bool r1.2)] hF hS (by kernel_rfl) (by kernel_rfl) ?_ (fun a w hF hS => ?_)
                  · exact obs_nil
                  refine at_end [0, 1, 6, 7, 8, 10, 11, 13, 18, 19] [pl 0 (.slice A1 rows1.length c1), pl 1 (.slice A2 columns1.length c2), pl 6 (.int .i64 (columns1.length : Int)), pl 7 (.int .i64 (rows1.length : Int)), pl 8 (.slice A3 (Int.toNat (w64 ((columns1.length : Int) * (rows1.length : Int)))) c3), pl 10 (.int .i64 round1), pl 11 (.int .i64 k1), pl 13 (.slice A5 places2.length c5), pl 18 (.slice A16 r1.1.length c16), pl 19 (.bool r1.2)] hF rfl (by kernel_rfl) (fun hF => ?_)
                  refine then_n ?_
                  refine seq_cut (fun a w => Fr 135 [pl 0 (.slice A1 rows1.length c1), pl 1 (.slice A2 columns1.length c2), pl 6 (.int .i64 (columns1.length : Int)), pl 7 (.int .i64 (rows1.length : Int)), pl 8 (.slice A3 (Int.toNat (w64 ((columns1.length : Int) * (rows1.length : Int)))) c3), pl 10 (.int .i64 round1), pl 11 (.int .i64 k1), pl 13 (.slice A5 places2.length c5), pl 18 (.slice A16 r1.1.length c16)] a ∧ Sep w0 B w (own 3 (.slice A3 (Int.toNat (w64 ((columns1.length : Int) * (rows1.length : Int)))) c3) (vI cells5) :: own 3 (.slice A5 places2.length c5) (vI places2) :: own 3 (.slice A16 r1.1.length c16) (vI r1.1) :: fs) ∧ ((gameroomref_PushOf_J17 rows1 columns1 cells5 k1 places2 r1)).bind φ3 = some r) ?_ ?_
                  · rintro a w ⟨hF, hS, hm⟩
                    unfold gameroomref_PushOf_J17 at hm
                    refine reg [] [] [0, 1, 6, 7, 8, 10, 11, 13, 18, 20] [pl 0 (.slice A1 rows1.length c1), pl 1 (.slice A2 columns1.length c2), pl 6 (.int .i64 (columns1.length : Int)), pl 7 (.int .i64 (rows1.length : Int)), pl 8 (.slice A3 (Int.toNat (w64 ((columns1.length : Int) * (rows1.length : Int)))) c3), pl 10 (.int .i64 round1), pl 11 (.int .i64 k1), pl 13 (.slice A5 places2.length c5), pl 18 (.slice A16 r1.1.length c16), pl 20 (.int .i64 0)] hF hS Fol (by kernel_rfl) (by kernel_rfl) (by kernel_rfl) ?_ (fun a w hF hS => ?_)
                    · exact obs_nil
                    refine wpIn_block ?_
                    refine wp_loop_model (S := (List Int × Int)) (R := (List Int)) (gameroomref_PushOf_L7 rows1 columns1 places2 r1) (fun x => ((gameroomref_PushOf_K7 k1) x).bind φ3) r (fun (x : (List Int × Int)) a w => Fr 135 [pl 0 (.slice A1 rows1.length c1), pl 1 (.slice A2 columns1.length c2), pl 6 (.int .i64 (columns1.length : Int)), pl 7 (.int .i64 (rows1.length : Int)), pl 8 (.slice A3 (Int.toNat (w64 ((columns1.length : Int) * (rows1.length : Int)))) c3), pl 10 (.int .i64 round1), pl 11 (.int .i64 k1), pl 13 (.slice A5 places2.length c5), pl 18 (.slice A16 r1.1.length c16), pl 20 (.int .i64 x.2)] a ∧ Sep w0 B w (own 3 (.slice A3 (Int.toNat (w64 ((columns1.length : Int) * (rows1.length : Int)))) c3) (vI x.1) :: own 3 (.slice A5 places2.length c5) (vI places2) :: own 3 (.slice A16 r1.1.length c16) (vI r1.1) :: fs)) (assoc_b hm) ⟨hF.weak [0, 1, 6, 7, 8, 10, 11, 13, 18, 20] (by kernel_rfl), hS⟩ ?_
                    clear hF hS hm
                    rintro nn7 ⟨cells7, i3⟩ a w ⟨hF, hS⟩ hm
                    generalize hφ7 : stK (gameroomref_PushOf_L7 rows1 columns1 places2 r1) nn7 (fun x => ((gameroomref_PushOf_K7 k1) x).bind φ3) = φ7 at hm
                    unfold gameroomref_PushOf_L7 at hm
                    dsimp only at hF hS hm
                    refine seq_cut (fun a w => Fr 135 [pl 0 (.slice A1 rows1.length c1), pl 1 (.slice A2 columns1.length c2), pl 6 (.int .i64 (columns1.length : Int)), pl 7 (.int .i64 (rows1.length : Int)), pl 8 (.slice A3 (Int.toNat (w64 ((columns1.length : Int) * (rows1.length : Int)))) c3), pl 10 (.int .i64 round1), pl 11 (.int .i64 k1), pl 13 (.slice A5 places2.length c5), pl 18 (.slice A16 r1.1.length c16), pl 20 (.int .i64 i3)] a ∧ Sep w0 B w (own 3 (.slice A3 (Int.toNat (w64 ((columns1.length : Int) * (rows1.length : Int)))) c3) (vI cells7) :: own 3 (.slice A5 places2.length c5) (vI places2) :: own 3 (.slice A16 r1.1.length c16) (vI r1.1) :: fs) ∧ ((gameroomref_PushOf_J18 rows1 columns1 places2 r1 cells7 i3)).bind φ7 = some r) ?_ ?_
                    · rintro a w ⟨hF, hS, hm⟩
                      unfold gameroomref_PushOf_J18 at hm
                      refine seq_cut (fun a w => Fr 135 [pl 0 (.slice A1 rows1.length c1), pl 1 (.slice A2 columns1.length c2), pl 6 (.int .i64 (columns1.length : Int)), pl 7 (.int .i64 (rows1.length : Int)), pl 8 (.slice A3 (Int.toNat (w64 ((columns1.length : Int) * (rows1.length : Int)))) c3), pl 10 (.int .i64 round1), pl 11 (.int .i64 k1), pl 13 (.slice A5 places2.length c5), pl 18 (.slice A16 r1.1.length c16), pl 20 (.int .i64 i3)] a ∧ Sep w0 B w (own 3 (.slice A3 (Int.toNat (w64 ((columns1.length : Int) * (rows1.length : Int)))) c3) (vI (cells7.set (Int.toNat (geti places2 i3)) (geti r1.1 i3))) :: own 3 (.slice A5 places2.length c5) (vI places2) :: own 3 (.slice A16 r1.1.length c16) (vI r1.1) :: fs) ∧ ((gameroomref_PushOf_J19 places2 r1 cells7 i3)).bind φ7 = some r) ?_ ?_
                      · rintro a w ⟨hF, hS, hm⟩
                        unfold gameroomref_PushOf_J19 at hm
                        refine reg1 [] [] [0, 1, 6, 7, 8, 10, 11, 13, 18, 20] [pl 0 (.slice A1 rows1.length c1), pl 1 (.slice A2 columns1.length c2), pl 6 (.int .i64 (columns1.length : Int)), pl 7 (.int .i64 (rows1.length : Int)), pl 8 (.slice A3 (Int.toNat (w64 ((columns1.length : Int) * (rows1.length : Int)))) c3), pl 10 (.int .i64 round1), pl 11 (.int .i64 k1), pl 13 (.slice A5 places2.length c5), pl 18 (.slice A16 r1.1.length c16), pl 20 (.int .i64 (w64 (i3 + 1)))] hF hS Fol (by kernel_rfl) (by kernel_rfl) (by kernel_rfl) ?_ (fun a w hF hS => ?_)
                        · exact obs_nil
                        refine then_n ?_
                        rw [← hφ7] at hm
                        exact ⟨((cells7.set (Int.toNat (geti places2 i3)) (geti r1.1 i3)), (w64 (i3 + 1))), ⟨hF.weak [0, 1, 6, 7, 8, 10, 11, 13, 18, 20] (by kernel_rfl), hS⟩, hm⟩
                      · refine wpIn_block ?_
                        obtain ⟨hp10, hm⟩ := asrt_b hm
                        obtain ⟨hp11, hm⟩ := asrt_b hm
                        obtain ⟨hp12, hm⟩ := asrt_b hm
                        refine regMix4 [0, 1, 2, 3, 4, 5, 6, 7, 8, 9] [10] [⟨true, [], vS (Instr.indexAt 22 (.slice A5 places2.length c5) (.int .i64 i3)), .pointer (some (sAddr A5 i3))⟩, ⟨false, [], vS (Instr.loadAt 3 (.pointer (some (sAddr A5 i3)))), .int .i64 (geti places2 i3)⟩, ⟨true, [], vS (Instr.indexAt 22 (.slice A16 r1.1.length c16) (.int .i64 i3)), .pointer (some (sAddr A16 i3))⟩, ⟨false, [], vS (Instr.loadAt 3 (.pointer (some (sAddr A16 i3)))), .int .i64 (geti r1.1 i3)⟩, ⟨true, [], vS (Instr.indexAt 22 (.slice A3 (Int.toNat (w64 ((columns1.length : Int) * (rows1.length : Int)))) c3) (.int .i64 (geti places2 i3))), .pointer (some (sAddr A3 (geti places2 i3)))⟩] [none, none, none, some (.pointer (some (sAddr A5 i3))), some (.int .i64 (geti places2 i3)), none, none, some (.pointer (some (sAddr A16 i3))), some (.int .i64 (geti r1.1 i3)), some (.pointer (some (sAddr A3 (geti places2 i3))))] [0, 1, 6, 7, 8, 10, 11, 13, 18, 20, 132, 133] [pl 0 (.slice A1 rows1.length c1), pl 1 (.slice A2 columns1.length c2), pl 6 (.int .i64 (columns1.length : Int)), pl 7 (.int .i64 (rows1.length : Int)), pl 8 (.slice A3 (Int.toNat (w64 ((columns1.length : Int) * (rows1.length : Int)))) c3), pl 10 (.int .i64 round1), pl 11 (.int .i64 k1), pl 13 (.slice A5 places2.length c5), pl 18 (.slice A16 r1.1.length c16), pl 20 (.int .i64 i3), pl 132 (.int .i64 (geti r1.1 i3)), pl 133 (.pointer (some (sAddr A3 (geti places2 i3))))] hF hS Fol (by kernel_rfl) (by kernel_rfl) (by kernel_rfl) (by kernel_rfl) (by kernel_rfl) ?_ (fun a w hF hS => ?_)
                        · exact obs_cons (ob_ix1 (f := (Value.int .i64)) (m := places2) Und22 hi3 hs3 (hS.at_ 1 rfl).rd rfl (fun _ => hp10)) <| obs_cons (ob_get1 (n := places2.length) (m := places2) (Value.int .i64) (0 : Int) Agg3 (fun _ hS => ⟨_, (hS.at_ 1 rfl).rd⟩) (fun _ hS => rfl) (fun _ => hp10)) <| obs_cons (ob_ix1 (f := (Value.int .i64)) (m := r1.1) Und22 hi3 hs3 (hS.at_ 2 rfl).rd rfl (fun _ => hp11)) <| obs_cons (ob_get1 (n := r1.1.length) (m := r1.1) (Value.int .i64) (0 : Int) Agg3 (fun _ hS => ⟨_, (hS.at_ 2 rfl).rd⟩) (fun _ hS => rfl) (fun _ => hp11)) <| obs_cons (ob_ix1 (f := (Value.int .i64)) (m := cells7) Und22 hi3 hs3 (hS.at_ 0 rfl).rd ((hS.at_ 0 rfl).len1) (fun _ => hp12)) <| obs_nil
                        obtain ⟨w, hrun, hS⟩ := run_set1 (P := Try.prog) (t := 3) (x := (geti r1.1 i3)) (Value.int .i64) (hS.at_ 0 rfl) hi3 hs3 rfl rfl hp12
                        refine at_skip hF (by kernel_rfl) hrun ?_
                        have hS : Sep w0 B w (own 3 (.slice A3 (Int.toNat (w64 ((columns1.length : Int) * (rows1.length : Int)))) c3) (vI (cells7.set (Int.toNat (geti places2 i3)) (geti r1.1 i3))) :: own 3 (.slice A5 places2.length c5) (vI places2) :: own 3 (.slice A16 r1.1.length c16) (vI r1.1) :: fs) := hS
                        refine at_end [0, 1, 6, 7, 8, 10, 11, 13, 18, 20] [pl 0 (.slice A1 rows1.length c1), pl 1 (.slice A2 columns1.length c2), pl 6 (.int .i64 (columns1.length : Int)), pl 7 (.int .i64 (rows1.length : Int)), pl 8 (.slice A3 (Int.toNat (w64 ((columns1.length : Int) * (rows1.length : Int)))) c3), pl 10 (.int .i64 round1), pl 11 (.int .i64 k1), pl 13 (.slice A5 places2.length c5), pl 18 (.slice A16 r1.1.length c16), pl 20 (.int .i64 i3)] hF rfl (by kernel_rfl) (fun hF => ?_)
                        refine np_n ?_
                        refine block_n ?_
                        refine then_n ?_
                        exact ⟨hF.weak [0, 1, 6, 7, 8, 10, 11, 13, 18, 20] (by kernel_rfl), hS, hm⟩
                    · refine reg [] [] [0, 1, 6, 7, 8, 10, 11, 13, 18, 20, 121] [pl 0 (.slice A1 rows1.length c1), pl 1 (.slice A2 columns1.length c2), pl 6 (.int .i64 (columns1.length : Int)), pl 7 (.int .i64 (rows1.length : Int)), pl 8 (.slice A3 (Int.toNat (w64 ((columns1.length : Int) * (rows1.length : Int)))) c3), pl 10 (.int .i64 round1), pl 11 (.int .i64 k1), pl 13 (.slice A5 places2.length c5), pl 18 (.slice A16 r1.1.length c16), pl 20 (.int .i64 i3), pl 121 (.bool (decide (i3 < (places2.length : Int))))] hF hS Fol (by kernel_rfl) (by kernel_rfl) (by kernel_rfl) ?_ (fun a w hF hS => ?_)
                      · exact obs_nil
                      refine cond_ev (t := 121) (b := decide (i3 < (places2.length : Int))) hF (by kernel_rfl) (fun hb => ?_) (fun hb => ?_)
                      · replace hm := if_t hm hb
                        refine wpIn_skip ?_
                        refine then_n ?_
                        exact ⟨hF.weak [0, 1, 6, 7, 8, 10, 11, 13, 18, 20] (by kernel_rfl), hS, hm⟩
                      · replace hm := if_f hm hb
                        refine wpIn_exit ?_
                        refine then_e (then_e (block_e (block_n (then_n ?_))))
                        have hS := hS.pickN 3 [0] (by decide)
                        rw [← hφ7] at hm
                        replace hm := done_b hm
                        unfold gameroomref_PushOf_K7 at hm
                        try dsimp only at hm
                        have hm : ((gameroomref_PushOf_J8 k1) cells7).bind φ3 = some r := hm
                        exact ⟨cells7, hF.weak [0, 1, 6, 7, 8, 10, 11] (by kernel_rfl), hS, hm⟩
                  · refine reg [] [] [0, 1, 6, 7, 8, 10, 11, 13, 18, 117] [pl 0 (.slice A1 rows1.length c1), pl 1 (.slice A2 columns1.length c2), pl 6 (.int .i64 (columns1.length : Int)), pl 7 (.int .i64 (rows1.length : Int)), pl 8 (.slice A3 (Int.toNat (w64 ((columns1.length : Int) * (rows1.length : Int)))) c3), pl 10 (.int .i64 round1), pl 11 (.int .i64 k1), pl 13 (.slice A5 places2.length c5), pl 18 (.slice A16 r1.1.length c16), pl 117 (.bool (!r1.2))] hF hS Fol (by kernel_rfl) (by kernel_rfl) (by kernel_rfl) ?_ (fun a w hF hS => ?_)
                    · exact obs_nil
                    refine cond_ev (t := 117) (b := !r1.2) hF (by kernel_rfl) (fun hb => ?_) (fun hb => ?_)
                    · replace hm := if_t hm hb
                      refine reg [] [] [4, 5] [pl 4 (.slice none 0 0), pl 5 (.bool false)] hF hS Fol (by kernel_rfl) (by kernel_rfl) (by kernel_rfl) ?_ (fun a w hF hS => ?_)
                      · exact obs_nil
                      refine wpIn_ret ?_
                      refine then_r (block_r (then_r (then_r (block_r (block_r (then_r (then_r (block_r (then_r ?_)))))))))
                      rw [← hφ3] at hm
                      replace hm := done_b hm
                      unfold gameroomref_PushOf_K3 at hm
                      try dsimp only at hm
                      rw [← hφ2] at hm
                      replace hm := done_b hm
                      unfold gameroomref_PushOf_K2 at hm
                      try dsimp only at hm
                      have hS : Sep w0 B w (own 3 (.slice none 0 0) (vI ([] : List Int)) :: own 3 (.slice A16 r1.1.length c16) (vI r1.1) :: own 3 (.slice A3 (Int.toNat (w64 ((columns1.length : Int) * (rows1.length : Int)))) c3) (vI cells5) :: own 3 (.slice A13 line2.length c13) (vI line2) :: own 3 (.slice A5 places2.length c5) (vI places2) :: fs) := hS.nil 3
                      have hl4 := (hS.at_ 0 rfl).len1
                      have hS := (hS.at_ 0 rfl).reN hl4
                      have hS : Sep w0 B w (own 3 (.slice none (([] : List Int).length) 0) (vI ([] : List Int)) :: own 3 (.slice A16 r1.1.length c16) (vI r1.1) :: own 3 (.slice A3 (Int.toNat (w64 ((columns1.length : Int) * (rows1.length : Int)))) c3) (vI cells5) :: own 3 (.slice A13 line2.length c13) (vI line2) :: own 3 (.slice A5 places2.length c5) (vI places2) :: fs) := hS
                      have hS := hS.pickN 5 [0] (by decide)
                      have hm : some (([] : List Int), false) = some r := hm
                      obtain rfl := Option.some.inj hm
                      exact retV (rs := [.tmp 4, .tmp 5]) (vs := [.slice none (([] : List Int).length) 0, .bool false]) hF rfl (rv_t (by kernel_rfl) <| rv_t (by kernel_rfl) <| rv_nil) rfl ⟨_, rfl, none, 0, rfl, hS⟩
                    · replace hm := if_f hm hb
                      refine wpIn_skip ?_
                      refine then_n ?_
                      have hS := hS.pickN 4 [1, 3, 0] (by decide)
                      exact ⟨hF.weak [0, 1, 6, 7, 8, 10, 11, 13, 18] (by kernel_rfl), hS, hm⟩
                · refine reg [] [] [0, 1, 6, 7, 8, 10, 11, 12, 13, 14, 17] [pl 0 (.slice A1 rows1.length c1), pl 1 (.slice A2 columns1.length c2), pl 6 (.int .i64 (columns1.length : Int)), pl 7 (.int .i64 (rows1.length : Int)), pl 8 (.slice A3 (Int.toNat (w64 ((columns1.length : Int) * (rows1.length : Int)))) c3), pl 10 (.int .i64 round1), pl 11 (.int .i64 k1), pl 12 (.slice none 0 0), pl 13 (.slice A5 places2.length c5), pl 14 (.slice A6 clue1.length c6), pl 17 (.int .i64 0)] hF hS Fol (by kernel_rfl) (by kernel_rfl) (by kernel_rfl) ?_ (fun a w hF hS => ?_)
                  · exact obs_nil
                  refine wpIn_block ?_
                  have hS : Sep w0 B w (own 3 (.slice none 0 0) (vI ([] : List Int)) :: own 3 (.slice A3 (Int.toNat (w64 ((columns1.length : Int) * (rows1.length : Int)))) c3) (vI cells5) :: own 3 (.slice A5 places2.length c5) (vI places2) :: fs) := hS.nil 3
                  have hl3 := (hS.at_ 0 rfl).len1
                  have hS := (hS.at_ 0 rfl).reN hl3
                  have hS : Sep w0 B w (own 3 (.slice none (([] : List Int).length) 0) (vI ([] : List Int)) :: own 3 (.slice A3 (Int.toNat (w64 ((columns1.length : Int) * (rows1.length : Int)))) c3) (vI cells5) :: own 3 (.slice A5 places2.length c5) (vI places2) :: fs) := hS
                  have hF := hF.cast (t := 12) (v := .slice none 0 0) (v' := .slice none (([] : List Int).length) 0) rfl rfl (congrArg (fun k => Value.slice none k 0) hl3)
                  have hS := hS.pickN 3 [1, 0, 2] (by decide)
                  refine wp_loop_model (S := (List Int × Int)) (R := (List Int)) (gameroomref_PushOf_L6 rows1 columns1 cells5 places2) (fun x => ((gameroomref_PushOf_K6 rows1 columns1 cells5 k1 places2 clue1) x).bind φ3) r (fun (x : (List Int × Int)) a w => ∃ (A12 : Option Addr) (c12 : Nat), Fr 135 [pl 0 (.slice A1 rows1.length c1), pl 1 (.slice A2 columns1.length c2), pl 6 (.int .i64 (columns1.length : Int)), pl 7 (.int .i64 (rows1.length : Int)), pl 8 (.slice A3 (Int.toNat (w64 ((columns1.length : Int) * (rows1.length : Int)))) c3), pl 10 (.int .i64 round1), pl 11 (.int .i64 k1), pl 12 (.slice A12 x.1.length c12), pl 13 (.slice A5 places2.length c5), pl 14 (.slice A6 clue1.length c6), pl 17 (.int .i64 x.2)] a ∧ Sep w0 B w (own 3 (.slice A3 (Int.toNat (w64 ((columns1.length : Int) * (rows1.length : Int)))) c3) (vI cells5) :: own 3 (.slice A12 x.1.length c12) (vI x.1) :: own 3 (.slice A5 places2.length c5) (vI places2) :: fs)) (assoc_b hm) ⟨none, 0, hF.weak [0, 1, 6, 7, 8, 10, 11, 12, 13, 14, 17] (by kernel_rfl), hS⟩ ?_
                  clear hF hS hm
                  rintro nn6 ⟨line1, i2⟩ a w ⟨A12, c12, hF, hS⟩ hm
                  generalize hφ6 : stK (gameroomref_PushOf_L6 rows1 columns1 cells5 places2) nn6 (fun x => ((gameroomref_PushOf_K6 rows1 columns1 cells5 k1 places2 clue1) x).bind φ3) = φ6 at hm
                  unfold gameroomref_PushOf_L6 at hm
                  dsimp only at hF hS hm
                  refine seq_cut (fun a w => Fr 135 [pl 0 (.slice A1 rows1.length c1), pl 1 (.slice A2 columns1.length c2), pl 6 (.int .i64 (columns1.length : Int)), pl 7 (.int .i64 (rows1.length : Int)), pl 8 (.slice A3 (Int.toNat (w64 ((columns1.length : Int) * (rows1.length : Int)))) c3), pl 10 (.int .i64 round1), pl 11 (.int .i64 k1), pl 12 (.slice A12 line1.length c12), pl 13 (.slice A5 places2.length c5), pl 14 (.slice A6 clue1.length c6), pl 17 (.int .i64 i2)] a ∧ Sep w0 B w (own 3 (.slice A3 (Int.toNat (w64 ((columns1.length : Int) * (rows1.length : Int)))) c3) (vI cells5) :: own 3 (.slice A12 line1.length c12) (vI line1) :: own 3 (.slice A5 places2.length c5) (vI places2) :: fs) ∧ ((gameroomref_PushOf_J15 rows1 columns1 cells5 places2 line1 i2)).bind φ6 = some r) ?_ ?_
                  · rintro a w ⟨hF, hS, hm⟩
                    unfold gameroomref_PushOf_J15 at hm
                    refine seq_cut (fun a w => ∃ (line3 : List Int) (A15 : Option Addr) (c15 : Nat), Fr 135 [pl 0 (.slice A1 rows1.length c1), pl 1 (.slice A2 columns1.length c2), pl 6 (.int .i64 (columns1.length : Int)), pl 7 (.int .i64 (rows1.length : Int)), pl 8 (.slice A3 (Int.toNat (w64 ((columns1.length : Int) * (rows1.length : Int)))) c3), pl 10 (.int .i64 round1), pl 11 (.int .i64 k1), pl 12 (.slice A15 line3.length c15), pl 13 (.slice A5 places2.length c5), pl 14 (.slice A6 clue1.length c6), pl 17 (.int .i64 i2)] a ∧ Sep w0 B w (own 3 (.slice A3 (Int.toNat (w64 ((columns1.length : Int) * (rows1.length : Int)))) c3) (vI cells5) :: own 3 (.slice A15 line3.length c15) (vI line3) :: own 3 (.slice A5 places2.length c5) (vI places2) :: fs) ∧ ((gameroomref_PushOf_J16 i2) line3).bind φ6 = some r) ?_ ?_
                    · rintro a w ⟨line3, A15, c15, hF, hS, hm⟩
                      unfold gameroomref_PushOf_J16 at hm
                      refine reg1 [] [] [0, 1, 6, 7, 8, 10, 11, 12, 13, 14, 17] [pl 0 (.slice A1 rows1.length c1), pl 1 (.slice A2 columns1.length c2), pl 6 (.int .i64 (columns1.length : Int)), pl 7 (.int .i64 (rows1.length : Int)), pl 8 (.slice A3 (Int.toNat (w64 ((columns1.length : Int) * (rows1.length : Int)))) c3), pl 10 (.int .i64 round1), pl 11 (.int .i64 k1), pl 12 (.slice A15 line3.length c15), pl 13 (.slice A5 places2.length c5), pl 14 (.slice A6 clue1.length c6), pl 17 (.int .i64 (w64 (i2 + 1)))] hF hS Fol (by kernel_rfl) (by kernel_rfl) (by kernel_rfl) ?_ (fun a w hF hS => ?_)
                      · exact obs_nil
                      refine then_n ?_
                      rw [← hφ6] at hm
                      exact ⟨(line3, (w64 (i2 + 1))), ⟨A15, c15, hF.weak [0, 1, 6, 7, 8, 10, 11, 12, 13, 14, 17] (by kernel_rfl), hS⟩, hm⟩
                    · refine wpIn_block ?_
                      refine oneR ?_
                      obtain ⟨hp7, hm⟩ := asrt_b hm
                      obtain ⟨hp8, hm⟩ := asrt_b hm
                      obtain ⟨hp9, hm⟩ := asrt_b hm
                      refine at_run 8 [⟨true, [], vS (Instr.indexAt 22 (.slice A5 places2.length c5) (.int .i64 i2)), .pointer (some (sAddr A5 i2))⟩, ⟨false, [], vS (Instr.loadAt 3 (.pointer (some (sAddr A5 i2)))), .int .i64 (geti places2 i2)⟩, ⟨true, [], vS (Instr.indexAt 22 (.slice A3 (Int.toNat (w64 ((columns1.length : Int) * (rows1.length : Int)))) c3) (.int .i64 (geti places2 i2))), .pointer (some (sAddr A3 (geti places2 i2)))⟩, ⟨false, [], vS (Instr.loadAt 3 (.pointer (some (sAddr A3 (geti places2 i2))))), .int .i64 (geti cells5 (geti places2 i2))⟩] [none, none, none, none, some (.pointer (some (sAddr A5 i2))), some (.int .i64 (geti places2 i2)), some (.pointer (some (sAddr A3 (geti places2 i2)))), some (.int .i64 (geti cells5 (geti places2 i2)))] [0, 1, 6, 7, 8, 10, 11, 13, 14, 17, 100, 107] [pl 0 (.slice A1 rows1.length c1), pl 1 (.slice A2 columns1.length c2), pl 6 (.int .i64 (columns1.length : Int)), pl 7 (.int .i64 (rows1.length : Int)), pl 8 (.slice A3 (Int.toNat (w64 ((columns1.length : Int) * (rows1.length : Int)))) c3), pl 10 (.int .i64 round1), pl 11 (.int .i64 k1), pl 13 (.slice A5 places2.length c5), pl 14 (.slice A6 clue1.length c6), pl 17 (.int .i64 i2), pl 100 (.slice A12 line1.length c12), pl 107 (.int .i64 (geti cells5 (geti places2 i2)))] hF hS (by kernel_rfl) (by kernel_rfl) ?_ (fun a w hF hS => ?_)
                      · exact obs_cons (ob_ix1 (f := (Value.int .i64)) (m := places2) Und22 hi3 hs3 (hS.at_ 2 rfl).rd rfl (fun _ => hp7)) <| obs_cons (ob_get1 (n := places2.length) (m := places2) (Value.int .i64) (0 : Int) Agg3 (fun _ hS => ⟨_, (hS.at_ 2 rfl).rd⟩) (fun _ hS => rfl) (fun _ => hp7)) <| obs_cons (ob_ix1 (f := (Value.int .i64)) (m := cells5) Und22 hi3 hs3 (hS.at_ 0 rfl).rd ((hS.at_ 0 rfl).len1) (fun _ => hp8)) <| obs_cons (ob_get1 (n := (Int.toNat (w64 ((columns1.length : Int) * (rows1.length : Int))))) (m := cells5) (Value.int .i64) (0 : Int) Agg3 (fun _ hS => ⟨_, (hS.at_ 0 rfl).rd⟩) (fun _ hS => ((hS.at_ 0 rfl).len1)) (fun _ => hp8)) <| obs_nil
                      refine at_do (d := 108) (s := vS (Instr.buildSlice 22 1 #[(0, .int .i64 (geti cells5 (geti places2 i2)))])) (v := .slice (some ⟨w.heap.size, 0, none⟩) 1 1) (w' := w.alloc (.cells #[.int .i64 (geti cells5 (geti places2 i2))] 3)) hF (by kernel_rfl) (by kernel_rfl) (by kernel_rfl) (fun a hF => ?_)
                      have hS : Sep w0 B (w.alloc (.cells #[.int .i64 (geti cells5 (geti places2 i2))] 3)) (own 3 (.slice (some (⟨w.heap.size, 0, none⟩ : Addr)) 1 1) (vI ([geti cells5 (geti places2 i2)] : List Int)) :: (own 3 (.slice A3 (Int.toNat (w64 ((columns1.length : Int) * (rows1.length : Int)))) c3) (vI cells5) :: own 3 (.slice A12 line1.length c12) (vI line1) :: own 3 (.slice A5 places2.length c5) (vI places2) :: fs)) := hS.lit 3 #[.int .i64 (geti cells5 (geti places2 i2))] 1 rfl (by omega)
                      generalize (some (⟨w.heap.size, 0, none⟩ : Addr)) = g3 at hF hS
                      generalize w.alloc (.cells #[.int .i64 (geti cells5 (geti places2 i2))] 3) = w at hS ⊢
                      obtain ⟨A14, c14, w, hrun, hS⟩ := run_app1 (P := Try.prog) (t := 22) (m := line1) (ys := ([geti cells5 (geti places2 i2)] : List Int)) (A2 := g3) (m2 := 1) (c2 := 1) (Value.int .i64) (0 : Int) (hS.at_ 2 rfl) (hS.at_ 0 rfl).rd ((hS.at_ 0 rfl).len1) 22 Und22 hi3 hz3 hs3 (by omega) rfl (fun _ => rfl) hp9
                      have hS : Sep w0 B w (own 3 (.slice g3 1 1) (vI ([geti cells5 (geti places2 i2)] : List Int)) :: own 3 (.slice A3 (Int.toNat (w64 ((columns1.length : Int) * (rows1.length : Int)))) c3) (vI cells5) :: own 3 (.slice A14 ((line1 ++ ([geti cells5 (geti places2 i2)] : List Int)).length) c14) (vI (line1 ++ ([geti cells5 (geti places2 i2)] : List Int))) :: own 3 (.slice A5 places2.length c5) (vI places2) :: fs) := hS
                      refine at_do (d := 109) hF (by kernel_rfl) (by kernel_rfl) hrun (fun a hF => ?_)
                      refine at_run 1 [] [] [0, 1, 6, 7, 8, 10, 11, 12, 13, 14, 17] [pl 0 (.slice A1 rows1.length c1), pl 1 (.slice A2 columns1.length c2), pl 6 (.int .i64 (columns1.length : Int)), pl 7 (.int .i64 (rows1.length : Int)), pl 8 (.slice A3 (Int.toNat (w64 ((columns1.length : Int) * (rows1.length : Int)))) c3), pl 10 (.int .i64 round1), pl 11 (.int .i64 k1), pl 12 (.slice A14 ((line1 ++ ([geti cells5 (geti places2 i2)] : List Int)).length) c14), pl 13 (.slice A5 places2.length c5), pl 14 (.slice A6 clue1.length c6), pl 17 (.int .i64 i2)] hF hS (by kernel_rfl) (by kernel_rfl) ?_ (fun a w hF hS => ?_)
                      · exact obs_nil
                      refine at_end [0, 1, 6, 7, 8, 10, 11, 12, 13, 14, 17] [pl 0 (.slice A1 rows1.length c1), pl 1 (.slice A2 columns1.length c2), pl 6 (.int .i64 (columns1.length : Int)), pl 7 (.int .i64 (rows1.length : Int)), pl 8 (.slice A3 (Int.toNat (w64 ((columns1.length : Int) * (rows1.length : Int)))) c3), pl 10 (.int .i64 round1), pl 11 (.int .i64 k1), pl 12 (.slice A14 ((line1 ++ ([geti cells5 (geti places2 i2)] : List Int)).length) c14), pl 13 (.slice A5 places2.length c5), pl 14 (.slice A6 clue1.length c6), pl 17 (.int .i64 i2)] hF rfl (by kernel_rfl) (fun hF => ?_)
                      refine block_n ?_
                      refine then_n ?_
                      have hS := hS.pickN 4 [1, 2, 3] (by decide)
                      exact ⟨(line1 ++ ([geti cells5 (geti places2 i2)] : List Int)), A14, c14, hF.weak [0, 1, 6, 7, 8, 10, 11, 12, 13, 14, 17] (by kernel_rfl), hS, hm⟩
                  · refine reg [] [] [0, 1, 6, 7, 8, 10, 11, 12, 13, 14, 17, 97] [pl 0 (.slice A1 rows1.length c1), pl 1 (.slice A2 columns1.length c2), pl 6 (.int .i64 (columns1.length : Int)), pl 7 (.int .i64 (rows1.length : Int)), pl 8 (.slice A3 (Int.toNat (w64 ((columns1.length : Int) * (rows1.length : Int)))) c3), pl 10 (.int .i64 round1), pl 11 (.int .i64 k1), pl 12 (.slice A12 line1.length c12), pl 13 (.slice A5 places2.length c5), pl 14 (.slice A6 clue1.length c6), pl 17 (.int .i64 i2), pl 97 (.bool (decide (i2 < (places2.length : Int))))] hF hS Fol (by kernel_rfl) (by kernel_rfl) (by kernel_rfl) ?_ (fun a w hF hS => ?_)
                    · exact obs_nil
                    refine cond_ev (t := 97) (b := decide (i2 < (places2.length : Int))) hF (by kernel_rfl) (fun hb => ?_) (fun hb => ?_)
                    · replace hm := if_t hm hb
                      refine wpIn_skip ?_
                      refine then_n ?_
                      exact ⟨hF.weak [0, 1, 6, 7, 8, 10, 11, 12, 13, 14, 17] (by kernel_rfl), hS, hm⟩
                    · replace hm := if_f hm hb
                      refine wpIn_exit ?_
                      refine then_e (then_e (block_e (then_n ?_)))
                      rw [← hφ6] at hm
                      replace hm := done_b hm
                      unfold gameroomref_PushOf_K6 at hm
                      try dsimp only at hm
                      have hm : ((gameroomref_PushOf_J14 rows1 columns1 cells5 k1 places2 clue1) line1).bind φ3 = some r := hm
                      exact ⟨line1, A12, c12, hF.weak [0, 1, 6, 7, 8, 10, 11, 12, 13, 14] (by kernel_rfl), hS, hm⟩
              · refine reg [] [] [0, 1, 6, 7, 8, 10, 11, 12, 13, 55] [pl 0 (.slice A1 rows1.length c1), pl 1 (.slice A2 columns1.length c2), pl 6 (.int .i64 (columns1.length : Int)), pl 7 (.int .i64 (rows1.length : Int)), pl 8 (.slice A3 (Int.toNat (w64 ((columns1.length : Int) * (rows1.length : Int)))) c3), pl 10 (.int .i64 round1), pl 11 (.int .i64 k1), pl 12 (.slice none 0 0), pl 13 (.slice none 0 0), pl 55 (.bool (decide (k1 < (columns1.length : Int))))] hF hS Fol (by kernel_rfl) (by kernel_rfl) (by kernel_rfl) ?_ (fun a w hF hS => ?_)
                · exact obs_nil
                refine cond_ev (t := 55) (b := decide (k1 < (columns1.length : Int))) hF (by kernel_rfl) (fun hb => ?_) (fun hb => ?_)
                · replace hm := if_t hm hb
                  obtain ⟨hp3, hm⟩ := asrt_b hm
                  refine reg [⟨true, [], vS (Instr.indexAt 36 (.slice A2 columns1.length c2) (.int .i64 k1)), .pointer (some (sAddr A2 k1))⟩, ⟨false, [], vS (Instr.loadAt 22 (.pointer (some (sAddr A2 k1)))), .slice (hdA hd2 k1) ((geti2 columns1 k1).length) (hdC hd2 k1)⟩] [none, none, some (.pointer (some (sAddr A2 k1))), some (.slice (hdA hd2 k1) ((geti2 columns1 k1).length) (hdC hd2 k1)), none] [0, 1, 6, 7, 8, 10, 11, 12, 13, 14] [pl 0 (.slice A1 rows1.length c1), pl 1 (.slice A2 columns1.length c2), pl 6 (.int .i64 (columns1.length : Int)), pl 7 (.int .i64 (rows1.length : Int)), pl 8 (.slice A3 (Int.toNat (w64 ((columns1.length : Int) * (rows1.length : Int)))) c3), pl 10 (.int .i64 round1), pl 11 (.int .i64 k1), pl 12 (.slice none 0 0), pl 13 (.slice none 0 0), pl 14 (.slice (hdA hd2 k1) ((geti2 columns1 k1).length) (hdC hd2 k1))] hF hS Fol (by kernel_rfl) (by kernel_rfl) (by kernel_rfl) ?_ (fun a w hF hS => ?_)
                  · exact obs_cons (ob_ixRn Und36 hi22 hs22 (hr_columns1 _ (hS.dropN 1)) rfl (fun _ => hp3)) <| obs_cons (ob_getR Agg22 (fun _ hS => ⟨_, (hr_columns1 _ (hS.dropN 1))⟩) (fun _ => hp3)) <| obs_nil
                  refine reg [] [] [0, 1, 6, 7, 8, 10, 11, 12, 13, 14, 15] [pl 0 (.slice A1 rows1.length c1), pl 1 (.slice A2 columns1.length c2), pl 6 (.int .i64 (columns1.length : Int)), pl 7 (.int .i64 (rows1.length : Int)), pl 8 (.slice A3 (Int.toNat (w64 ((columns1.length : Int) * (rows1.length : Int)))) c3), pl 10 (.int .i64 round1), pl 11 (.int .i64 k1), pl 12 (.slice none 0 0), pl 13 (.slice none 0 0), pl 14 (.slice (hdA hd2 k1) ((geti2 columns1 k1).length) (hdC hd2 k1)), pl 15 (.int .i64 0)] hF hS Fol (by kernel_rfl) (by kernel_rfl) (by kernel_rfl) ?_ (fun a w hF hS => ?_)
                  · exact obs_nil
                  refine wpIn_block ?_
                  have hS : Sep w0 B w (own 3 (.slice none 0 0) (vI ([] : List Int)) :: own 3 (.slice A3 (Int.toNat (w64 ((columns1.length : Int) * (rows1.length : Int)))) c3) (vI cells5) :: fs) := hS.nil 3
                  have hl1 := (hS.at_ 0 rfl).len1
                  have hS := (hS.at_ 0 rfl).reN hl1
                  have hS : Sep w0 B w (own 3 (.slice none (([] : List Int).length) 0) (vI ([] : List Int)) :: own 3 (.slice A3 (Int.toNat (w64 ((columns1.length : Int) * (rows1.length : Int)))) c3) (vI cells5) :: fs) := hS
                  have hF := hF.cast (t := 13) (v := .slice none 0 0) (v' := .slice none (([] : List Int).length) 0) rfl rfl (congrArg (fun k => Value.slice none k 0) hl1)
                  have hS := hS.pickN 2 [1, 0] (by decide)
                  refine wp_loop_model (S := (List Int × Int)) (R := (List Int × List Int)) (gameroomref_PushOf_L4 rows1 columns1 k1) (fun x => ((gameroomref_PushOf_K4 rows1 columns1 cells5 k1) x).bind φ3) r (fun (x : (List Int × Int)) a w => ∃ (A4 : Option Addr) (c4 : Nat), Fr 135 [pl 0 (.slice A1 rows1.length c1), pl 1 (.slice A2 columns1.length c2), pl 6 (.int .i64 (columns1.length : Int)), pl 7 (.int .i64 (rows1.length : Int)), pl 8 (.slice A3 (Int.toNat (w64 ((columns1.length : Int) * (rows1.length : Int)))) c3), pl 10 (.int .i64 round1), pl 11 (.int .i64 k1), pl 12 (.slice none 0 0), pl 13 (.slice A4 x.1.length c4), pl 14 (.slice (hdA hd2 k1) ((geti2 columns1 k1).length) (hdC hd2 k1)), pl 15 (.int .i64 x.2)] a ∧ Sep w0 B w (own 3 (.slice A3 (Int.toNat (w64 ((columns1.length : Int) * (rows1.length : Int)))) c3) (vI cells5) :: own 3 (.slice A4 x.1.length c4) (vI x.1) :: fs)) (assoc_b hm) ⟨none, 0, hF.weak [0, 1, 6, 7, 8, 10, 11, 12, 13, 14, 15] (by kernel_rfl), hS⟩ ?_
                  clear hF hS hm
                  rintro nn4 ⟨places1, y1⟩ a w ⟨A4, c4, hF, hS⟩ hm
                  generalize hφ4 : stK (gameroomref_PushOf_L4 rows1 columns1 k1) nn4 (fun x => ((gameroomref_PushOf_K4 rows1 columns1 cells5 k1) x).bind φ3) = φ4 at hm
                  unfold gameroomref_PushOf_L4 at hm
                  dsimp only at hF hS hm
                  refine seq_cut (fun a w => Fr 135 [pl 0 (.slice A1 rows1.length c1), pl 1 (.slice A2 columns1.length c2), pl 6 (.int .i64 (columns1.length : Int)), pl 7 (.int .i64 (rows1.length : Int)), pl 8 (.slice A3 (Int.toNat (w64 ((columns1.length : Int) * (rows1.length : Int)))) c3), pl 10 (.int .i64 round1), pl 11 (.int .i64 k1), pl 12 (.slice none 0 0), pl 13 (.slice A4 places1.length c4), pl 14 (.slice (hdA hd2 k1) ((geti2 columns1 k1).length) (hdC hd2 k1)), pl 15 (.int .i64 y1)] a ∧ Sep w0 B w (own 3 (.slice A3 (Int.toNat (w64 ((columns1.length : Int) * (rows1.length : Int)))) c3) (vI cells5) :: own 3 (.slice A4 places1.length c4) (vI places1) :: fs) ∧ ((gameroomref_PushOf_J10 columns1 k1 places1 y1)).bind φ4 = some r) ?_ ?_
                  · rintro a w ⟨hF, hS, hm⟩
                    unfold gameroomref_PushOf_J10 at hm
                    refine seq_cut (fun a w => ∃ (places3 : List Int) (A8 : Option Addr) (c8 : Nat), Fr 135 [pl 0 (.slice A1 rows1.length c1), pl 1 (.slice A2 columns1.length c2), pl 6 (.int .i64 (columns1.length : Int)), pl 7 (.int .i64 (rows1.length : Int)), pl 8 (.slice A3 (Int.toNat (w64 ((columns1.length : Int) * (rows1.length : Int)))) c3), pl 10 (.int .i64 round1), pl 11 (.int .i64 k1), pl 12 (.slice none 0 0), pl 13 (.slice A8 places3.length c8), pl 14 (.slice (hdA hd2 k1) ((geti2 columns1 k1).length) (hdC hd2 k1)), pl 15 (.int .i64 y1)] a ∧ Sep w0 B w (own 3 (.slice A3 (Int.toNat (w64 ((columns1.length : Int) * (rows1.length : Int)))) c3) (vI cells5) :: own 3 (.slice A8 places3.length c8) (vI places3) :: fs) ∧ ((gameroomref_PushOf_J11 y1) places3).bind φ4 = some r) ?_ ?_
                    · rintro a w ⟨places3, A8, c8, hF, hS, hm⟩
                      unfold gameroomref_PushOf_J11 at hm
                      refine reg1 [] [] [0, 1, 6, 7, 8, 10, 11, 12, 13, 14, 15] [pl 0 (.slice A1 rows1.length c1), pl 1 (.slice A2 columns1.length c2), pl 6 (.int .i64 (columns1.length : Int)), pl 7 (.int .i64 (rows1.length : Int)), pl 8 (.slice A3 (Int.toNat (w64 ((columns1.length : Int) * (rows1.length : Int)))) c3), pl 10 (.int .i64 round1), pl 11 (.int .i64 k1), pl 12 (.slice none 0 0), pl 13 (.slice A8 places3.length c8), pl 14 (.slice (hdA hd2 k1) ((geti2 columns1 k1).length) (hdC hd2 k1)), pl 15 (.int .i64 (w64 (y1 + 1)))] hF hS Fol (by kernel_rfl) (by kernel_rfl) (by kernel_rfl) ?_ (fun a w hF hS => ?_)
                      · exact obs_nil
                      refine then_n ?_
                      rw [← hφ4] at hm
                      exact ⟨(places3, (w64 (y1 + 1))), ⟨A8, c8, hF.weak [0, 1, 6, 7, 8, 10, 11, 12, 13, 14, 15] (by kernel_rfl), hS⟩, hm⟩
                    · refine wpIn_block ?_
                      refine oneR ?_
                      obtain ⟨hp4, hm⟩ := asrt_b hm
                      refine at_run 6 [] [] [0, 1, 6, 7, 8, 10, 11, 12, 14, 15, 65, 70] [pl 0 (.slice A1 rows1.length c1), pl 1 (.slice A2 columns1.length c2), pl 6 (.int .i64 (columns1.length : Int)), pl 7 (.int .i64 (rows1.length : Int)), pl 8 (.slice A3 (Int.toNat (w64 ((columns1.length : Int) * (rows1.length : Int)))) c3), pl 10 (.int .i64 round1), pl 11 (.int .i64 k1), pl 12 (.slice none 0 0), pl 14 (.slice (hdA hd2 k1) ((geti2 columns1 k1).length) (hdC hd2 k1)), pl 15 (.int .i64 y1), pl 65 (.slice A4 places1.length c4), pl 70 (.int .i64 (w64 ((w64 (y1 * (columns1.length : Int))) + k1)))] hF hS (by kernel_rfl) (by kernel_rfl) ?_ (fun a w hF hS => ?_)
                      · exact obs_nil
                      refine at_do (d := 71) (s := vS (Instr.buildSlice 22 1 #[(0, .int .i64 (w64 ((w64 (y1 * (columns1.length : Int))) + k1)))])) (v := .slice (some ⟨w.heap.size, 0, none⟩) 1 1) (w' := w.alloc (.cells #[.int .i64 (w64 ((w64 (y1 * (columns1.length : Int))) + k1))] 3)) hF (by kernel_rfl) (by kernel_rfl) (by kernel_rfl) (fun a hF => ?_)
                      have hS : Sep w0 B (w.alloc (.cells #[.int .i64 (w64 ((w64 (y1 * (columns1.length : Int))) + k1))] 3)) (own 3 (.slice (some (⟨w.heap.size, 0, none⟩ : Addr)) 1 1) (vI ([w64 ((w64 (y1 * (columns1.length : Int))) + k1)] : List Int)) :: (own 3 (.slice A3 (Int.toNat (w64 ((columns1.length : Int) * (rows1.length : Int)))) c3) (vI cells5) :: own 3 (.slice A4 places1.length c4) (vI places1) :: fs)) := hS.lit 3 #[.int .i64 (w64 ((w64 (y1 * (columns1.length : Int))) + k1))] 1 rfl (by omega)
                      generalize (some (⟨w.heap.size, 0, none⟩ : Addr)) = g1 at hF hS
                      generalize w.alloc (.cells #[.int .i64 (w64 ((w64 (y1 * (columns1.length : Int))) + k1))] 3) = w at hS ⊢
                      obtain ⟨A7, c7, w, hrun, hS⟩ := run_app1 (P := Try.prog) (t := 22) (m := places1) (ys := ([w64 ((w64 (y1 * (columns1.length : Int))) + k1)] : List Int)) (A2 := g1) (m2 := 1) (c2 := 1) (Value.int .i64) (0 : Int) (hS.at_ 2 rfl) (hS.at_ 0 rfl).rd ((hS.at_ 0 rfl).len1) 22 Und22 hi3 hz3 hs3 (by omega) rfl (fun _ => rfl) hp4
                      have hS : Sep w0 B w (own 3 (.slice g1 1 1) (vI ([w64 ((w64 (y1 * (columns1.length : Int))) + k1)] : List Int)) :: own 3 (.slice A3 (Int.toNat (w64 ((columns1.length : Int) * (rows1.length : Int)))) c3) (vI cells5) :: own 3 (.slice A7 ((places1 ++ ([w64 ((w64 (y1 * (columns1.length : Int))) + k1)] : List Int)).length) c7) (vI (places1 ++ ([w64 ((w64 (y1 * (columns1.length : Int))) + k1)] : List Int))) :: fs) := hS
                      refine at_do (d := 72) hF (by kernel_rfl) (by kernel_rfl) hrun (fun a hF => ?_)
                      refine at_run 1 [] [] [0, 1, 6, 7, 8, 10, 11, 12, 13, 14, 15] [pl 0 (.slice A1 rows1.length c1), pl 1 (.slice A2 columns1.length c2), pl 6 (.int .i64 (columns1.length : Int)), pl 7 (.int .i64 (rows1.length : Int)), pl 8 (.slice A3 (Int.toNat (w64 ((columns1.length : Int) * (rows1.length : Int)))) c3), pl 10 (.int .i64 round1), pl 11 (.int .i64 k1), pl 12 (.slice none 0 0), pl 13 (.slice A7 ((places1 ++ ([w64 ((w64 (y1 * (columns1.length : Int))) + k1)] : List Int)).length) c7), pl 14 (.slice (hdA hd2 k1) ((geti2 columns1 k1).length) (hdC hd2 k1)), pl 15 (.int .i64 y1)] hF hS (by kernel_rfl) (by kernel_rfl) ?_ (fun a w hF hS => ?_)
                      · exact obs_nil
                      refine at_end [0, 1, 6, 7, 8, 10, 11, 12, 13, 14, 15] [pl 0 (.slice A1 rows1.length c1), pl 1 (.slice A2 columns1.length c2), pl 6 (.int .i64 (columns1.length : Int)), pl 7 (.int .i64 (rows1.length : Int)), pl 8 (.slice A3 (Int.toNat (w64 ((columns1.length : Int) * (rows1.length : Int)))) c3), pl 10 (.int .i64 round1), pl 11 (.int .i64 k1), pl 12 (.slice none 0 0), pl 13 (.slice A7 ((places1 ++ ([w64 ((w64 (y1 * (columns1.length : Int))) + k1)] : List Int)).length) c7), pl 14 (.slice (hdA hd2 k1) ((geti2 columns1 k1).length) (hdC hd2 k1)), pl 15 (.int .i64 y1)] hF rfl (by kernel_rfl) (fun hF => ?_)
                      refine block_n ?_
                      refine then_n ?_
                      have hS := hS.pickN 3 [1, 2] (by decide)
                      exact ⟨(places1 ++ ([w64 ((w64 (y1 * (columns1.length : Int))) + k1)] : List Int)), A7, c7, hF.weak [0, 1, 6, 7, 8, 10, 11, 12, 13, 14, 15] (by kernel_rfl), hS, hm⟩
                  · refine reg [] [] [0, 1, 6, 7, 8, 10, 11, 12, 13, 14, 15, 62] [pl 0 (.slice A1 rows1.length c1), pl 1 (.slice A2 columns1.length c2), pl 6 (.int .i64 (columns1.length : Int)), pl 7 (.int .i64 (rows1.length : Int)), pl 8 (.slice A3 (Int.toNat (w64 ((columns1.length : Int) * (rows1.length : Int)))) c3), pl 10 (.int .i64 round1), pl 11 (.int .i64 k1), pl 12 (.slice none 0 0), pl 13 (.slice A4 places1.length c4), pl 14 (.slice (hdA hd2 k1) ((geti2 columns1 k1).length) (hdC hd2 k1)), pl 15 (.int .i64 y1), pl 62 (.bool (decide (y1 < (rows1.length : Int))))] hF hS Fol (by kernel_rfl) (by kernel_rfl) (by kernel_rfl) ?_ (fun a w hF hS => ?_)
                    · exact obs_nil
                    refine cond_ev (t := 62) (b := decide (y1 < (rows1.length : Int))) hF (by kernel_rfl) (fun hb => ?_) (fun hb => ?_)
                    · replace hm := if_t hm hb
                      refine wpIn_skip ?_
                      refine then_n ?_
                      exact ⟨hF.weak [0, 1, 6, 7, 8, 10, 11, 12, 13, 14, 15] (by kernel_rfl), hS, hm⟩
                    · replace hm := if_f hm hb
                      refine wpIn_exit ?_
                      refine then_e (then_e (block_e (then_n ?_)))
                      rw [← hφ4] at hm
                      replace hm := done_b hm
                      unfold gameroomref_PushOf_K4 at hm
                      try dsimp only at hm
                      have hm : ((gameroomref_PushOf_J9 rows1 columns1 cells5 k1) places1 (geti2 columns1 k1)).bind φ3 = some r := hm
                      exact ⟨places1, (geti2 columns1 k1), A4, c4, (hdA hd2 k1), (hdC hd2 k1), hF.weak [0, 1, 6, 7, 8, 10, 11, 12, 13, 14] (by kernel_rfl), hS, (fun w hS => ((hr_columns1 w hS).row _ hp3).1), ((hr_columns1 _ (hS.dropN 2)).row _ hp3).2, hm⟩
                · replace hm := if_f hm hb
                  obtain ⟨hp5, hm⟩ := asrt_b hm
                  refine reg [⟨true, [], vS (Instr.indexAt 36 (.slice A1 rows1.length c1) (.int .i64 (w64 (k1 - (columns1.length : Int))))), .pointer (some (sAddr A1 (w64 (k1 - (columns1.length : Int)))))⟩, ⟨false, [], vS (Instr.loadAt 22 (.pointer (some (sAddr A1 (w64 (k1 - (columns1.length : Int))))))), .slice (hdA hd1 (w64 (k1 - (columns1.length : Int)))) ((geti2 rows1 (w64 (k1 - (columns1.length : Int)))).length) (hdC hd1 (w64 (k1 - (columns1.length : Int))))⟩] [none, none, none, none, some (.pointer (some (sAddr A1 (w64 (k1 - (columns1.length : Int)))))), some (.slice (hdA hd1 (w64 (k1 - (columns1.length : Int)))) ((geti2 rows1 (w64 (k1 - (columns1.length : Int)))).length) (hdC hd1 (w64 (k1 - (columns1.length : Int))))), none] [0, 1, 6, 7, 8, 10, 11, 12, 13, 14] [pl 0 (.slice A1 rows1.length c1), pl 1 (.slice A2 columns1.length c2), pl 6 (.int .i64 (columns1.length : Int)), pl 7 (.int .i64 (rows1.length : Int)), pl 8 (.slice A3 (Int.toNat (w64 ((columns1.length : Int) * (rows1.length : Int)))) c3), pl 10 (.int .i64 round1), pl 11 (.int .i64 k1), pl 12 (.slice none 0 0), pl 13 (.slice none 0 0), pl 14 (.slice (hdA hd1 (w64 (k1 - (columns1.length : Int)))) ((geti2 rows1 (w64 (k1 - (columns1.length : Int)))).length) (hdC hd1 (w64 (k1 - (columns1.length : Int)))))] hF hS Fol (by kernel_rfl) (by kernel_rfl) (by kernel_rfl) ?_ (fun a w hF hS => ?_)
                  · exact obs_cons (ob_ixRn Und36 hi22 hs22 (hr_rows1 _ (hS.dropN 1)) rfl (fun _ => hp5)) <| obs_cons (ob_getR Agg22 (fun _ hS => ⟨_, (hr_rows1 _ (hS.dropN 1))⟩) (fun _ => hp5)) <| obs_nil
                  refine reg [] [] [0, 1, 6, 7, 8, 10, 11, 12, 13, 14, 16] [pl 0 (.slice A1 rows1.length c1), pl 1 (.slice A2 columns1.length c2), pl 6 (.int .i64 (columns1.length : Int)), pl 7 (.int .i64 (rows1.length : Int)), pl 8 (.slice A3 (Int.toNat (w64 ((columns1.length : Int) * (rows1.length : Int)))) c3), pl 10 (.int .i64 round1), pl 11 (.int .i64 k1), pl 12 (.slice none 0 0), pl 13 (.slice none 0 0), pl 14 (.slice (hdA hd1 (w64 (k1 - (columns1.length : Int)))) ((geti2 rows1 (w64 (k1 - (columns1.length : Int)))).length) (hdC hd1 (w64 (k1 - (columns1.length : Int))))), pl 16 (.int .i64 0)] hF hS Fol (by kernel_rfl) (by kernel_rfl) (by kernel_rfl) ?_ (fun a w hF hS => ?_)
                  · exact obs_nil
                  refine wpIn_block ?_
                  have hS : Sep w0 B w (own 3 (.slice none 0 0) (vI ([] : List Int)) :: own 3 (.slice A3 (Int.toNat (w64 ((columns1.length : Int) * (rows1.length : Int)))) c3) (vI cells5) :: fs) := hS.nil 3
                  have hl2 := (hS.at_ 0 rfl).len1
                  have hS := (hS.at_ 0 rfl).reN hl2
                  have hS : Sep w0 B w (own 3 (.slice none (([] : List Int).length) 0) (vI ([] : List Int)) :: own 3 (.slice A3 (Int.toNat (w64 ((columns1.length : Int) * (rows1.length : Int)))) c3) (vI cells5) :: fs) := hS
                  have hF := hF.cast (t := 13) (v := .slice none 0 0) (v' := .slice none (([] : List Int).length) 0) rfl rfl (congrArg (fun k => Value.slice none k 0) hl2)
                  have hS := hS.pickN 2 [1, 0] (by decide)
                  refine wp_loop_model (S := (List Int × Int)) (R := (List Int × List Int)) (gameroomref_PushOf_L5 rows1 columns1 k1) (fun x => ((gameroomref_PushOf_K5 rows1 columns1 cells5 k1) x).bind φ3) r (fun (x : (List Int × Int)) a w => ∃ (A9 : Option Addr) (c9 : Nat), Fr 135 [pl 0 (.slice A1 rows1.length c1), pl 1 (.slice A2 columns1.length c2), pl 6 (.int .i64 (columns1.length : Int)), pl 7 (.int .i64 (rows1.length : Int)), pl 8 (.slice A3 (Int.toNat (w64 ((columns1.length : Int) * (rows1.length : Int)))) c3), pl 10 (.int .i64 round1), pl 11 (.int .i64 k1), pl 12 (.slice none 0 0), pl 13 (.slice A9 x.1.length c9), pl 14 (.slice (hdA hd1 (w64 (k1 - (columns1.length : Int)))) ((geti2 rows1 (w64 (k1 - (columns1.length : Int)))).length) (hdC hd1 (w64 (k1 - (columns1.length : Int))))), pl 16 (.int .i64 x.2)] a ∧ Sep w0 B w (own 3 (.slice A3 (Int.toNat (w64 ((columns1.length : Int) * (rows1.length : Int)))) c3) (vI cells5) :: own 3 (.slice A9 x.1.length c9) (vI x.1) :: fs)) (assoc_b hm) ⟨none, 0, hF.weak [0, 1, 6, 7, 8, 10, 11, 12, 13, 14, 16] (by kernel_rfl), hS⟩ ?_
                  clear hF hS hm
                  rintro nn5 ⟨places4, x1⟩ a w ⟨A9, c9, hF, hS⟩ hm
                  generalize hφ5 : stK (gameroomref_PushOf_L5 rows1 columns1 k1) nn5 (fun x => ((gameroomref_PushOf_K5 rows1 columns1 cells5 k1) x).bind φ3) = φ5 at hm
                  unfold gameroomref_PushOf_L5 at hm
                  dsimp only at hF hS hm
                  refine seq_cut (fun a w => Fr 135 [pl 0 (.slice A1 rows1.length c1), pl 1 (.slice A2 columns1.length c2), pl 6 (.int .i64 (columns1.length : Int)), pl 7 (.int .i64 (rows1.length : Int)), pl 8 (.slice A3 (Int.toNat (w64 ((columns1.length : Int) * (rows1.length : Int)))) c3), pl 10 (.int .i64 round1), pl 11 (.int .i64 k1), pl 12 (.slice none 0 0), pl 13 (.slice A9 places4.length c9), pl 14 (.slice (hdA hd1 (w64 (k1 - (columns1.length : Int)))) ((geti2 rows1 (w64 (k1 - (columns1.length : Int)))).length) (hdC hd1 (w64 (k1 - (columns1.length : Int))))), pl 16 (.int .i64 x1)] a ∧ Sep w0 B w (own 3 (.slice A3 (Int.toNat (w64 ((columns1.length : Int) * (rows1.length : Int)))) c3) (vI cells5) :: own 3 (.slice A9 places4.length c9) (vI places4) :: fs) ∧ ((gameroomref_PushOf_J12 columns1 k1 places4 x1)).bind φ5 = some r) ?_ ?_
                  · rintro a w ⟨hF, hS, hm⟩
                    unfold gameroomref_PushOf_J12 at hm
                    refine seq_cut (fun a w => ∃ (places5 : List Int) (A11 : Option Addr) (c11 : Nat), Fr 135 [pl 0 (.slice A1 rows1.length c1), pl 1 (.slice A2 columns1.length c2), pl 6 (.int .i64 (columns1.length : Int)), pl 7 (.int .i64 (rows1.length : Int)), pl 8 (.slice A3 (Int.toNat (w64 ((columns1.length : Int) * (rows1.length : Int)))) c3), pl 10 (.int .i64 round1), pl 11 (.int .i64 k1), pl 12 (.slice none 0 0), pl 13 (.slice A11 places5.length c11), pl 14 (.slice (hdA hd1 (w64 (k1 - (columns1.length : Int)))) ((geti2 rows1 (w64 (k1 - (columns1.length : Int)))).length) (hdC hd1 (w64 (k1 - (columns1.length : Int))))), pl 16 (.int .i64 x1)] a ∧ Sep w0 B w (own 3 (.slice A3 (Int.toNat (w64 ((columns1.length : Int) * (rows1.length : Int)))) c3) (vI cells5) :: own 3 (.slice A11 places5.length c11) (vI places5) :: fs) ∧ ((gameroomref_PushOf_J13 x1) places5).bind φ5 = some r) ?_ ?_
                    · rintro a w ⟨places5, A11, c11, hF, hS, hm⟩
                      unfold gameroomref_PushOf_J13 at hm
                      refine reg1 [] [] [0, 1, 6, 7, 8, 10, 11, 12, 13, 14, 16] [pl 0 (.slice A1 rows1.length c1), pl 1 (.slice A2 columns1.length c2), pl 6 (.int .i64 (columns1.length : Int)), pl 7 (.int .i64 (rows1.length : Int)), pl 8 (.slice A3 (Int.toNat (w64 ((columns1.length : Int) * (rows1.length : Int)))) c3), pl 10 (.int .i64 round1), pl 11 (.int .i64 k1), pl 12 (.slice none 0 0), pl 13 (.slice A11 places5.length c11), pl 14 (.slice (hdA hd1 (w64 (k1 - (columns1.length : Int)))) ((geti2 rows1 (w64 (k1 - (columns1.length : Int)))).length) (hdC hd1 (w64 (k1 - (columns1.length : Int))))), pl 16 (.int .i64 (w64 (x1 + 1)))] hF hS Fol (by kernel_rfl) (by kernel_rfl) (by kernel_rfl) ?_ (fun a w hF hS => ?_)
                      · exact obs_nil
                      refine then_n ?_
                      rw [← hφ5] at hm
                      exact ⟨(places5, (w64 (x1 + 1))), ⟨A11, c11, hF.weak [0, 1, 6, 7, 8, 10, 11, 12, 13, 14, 16] (by kernel_rfl), hS⟩, hm⟩
                    · refine wpIn_block ?_
                      refine oneR ?_
                      obtain ⟨hp6, hm⟩ := asrt_b hm
                      refine at_run 8 [] [] [0, 1, 6, 7, 8, 10, 11, 12, 14, 16, 84, 91] [pl 0 (.slice A1 rows1.length c1), pl 1 (.slice A2 columns1.length c2), pl 6 (.int .i64 (columns1.length : Int)), pl 7 (.int .i64 (rows1.length : Int)), pl 8 (.slice A3 (Int.toNat (w64 ((columns1.length : Int) * (rows1.length : Int)))) c3), pl 10 (.int .i64 round1), pl 11 (.int .i64 k1), pl 12 (.slice none 0 0), pl 14 (.slice (hdA hd1 (w64 (k1 - (columns1.length : Int)))) ((geti2 rows1 (w64 (k1 - (columns1.length : Int)))).length) (hdC hd1 (w64 (k1 - (columns1.length : Int))))), pl 16 (.int .i64 x1), pl 84 (.slice A9 places4.length c9), pl 91 (.int .i64 (w64 ((w64 ((w64 (k1 - (columns1.length : Int))) * (columns1.length : Int))) + x1)))] hF hS (by kernel_rfl) (by kernel_rfl) ?_ (fun a w hF hS => ?_)
                      · exact obs_nil
                      refine at_do (d := 92) (s := vS (Instr.buildSlice 22 1 #[(0, .int .i64 (w64 ((w64 ((w64 (k1 - (columns1.length : Int))) * (columns1.length : Int))) + x1)))])) (v := .slice (some ⟨w.heap.size, 0, none⟩) 1 1) (w' := w.alloc (.cells #[.int .i64 (w64 ((w64 ((w64 (k1 - (columns1.length : Int))) * (columns1.length : Int))) + x1))] 3)) hF (by kernel_rfl) (by kernel_rfl) (by kernel_rfl) (fun a hF => ?_)
                      have hS : Sep w0 B (w.alloc (.cells #[.int .i64 (w64 ((w64 ((w64 (k1 - (columns1.length : Int))) * (columns1.length : Int))) + x1))] 3)) (own 3 (.slice (some (⟨w.heap.size, 0, none⟩ : Addr)) 1 1) (vI ([w64 ((w64 ((w64 (k1 - (columns1.length : Int))) * (columns1.length : Int))) + x1)] : List Int)) :: (own 3 (.slice A3 (Int.toNat (w64 ((columns1.length : Int) * (rows1.length : Int)))) c3) (vI cells5) :: own 3 (.slice A9 places4.length c9) (vI places4) :: fs)) := hS.lit 3 #[.int .i64 (w64 ((w64 ((w64 (k1 - (columns1.length : Int))) * (columns1.length : Int))) + x1))] 1 rfl (by omega)
                      generalize (some (⟨w.heap.size, 0, none⟩ : Addr)) = g2 at hF hS
                      generalize w.alloc (.cells #[.int .i64 (w64 ((w64 ((w64 (k1 - (columns1.length : Int))) * (columns1.length : Int))) + x1))] 3) = w at hS ⊢
                      obtain ⟨A10, c10, w, hrun, hS⟩ := run_app1 (P := Try.prog) (t := 22) (m := places4) (ys := ([w64 ((w64 ((w64 (k1 - (columns1.length : Int))) * (columns1.length : Int))) + x1)] : List Int)) (A2 := g2) (m2 := 1) (c2 := 1) (Value.int .i64) (0 : Int) (hS.at_ 2 rfl) (hS.at_ 0 rfl).rd ((hS.at_ 0 rfl).len1) 22 Und22 hi3 hz3 hs3 (by omega) rfl (fun _ => rfl) hp6
                      have hS : Sep w0 B w (own 3 (.slice g2 1 1) (vI ([w64 ((w64 ((w64 (k1 - (columns1.length : Int))) * (columns1.length : Int))) + x1)] : List Int)) :: own 3 (.slice A3 (Int.toNat (w64 ((columns1.length : Int) * (rows1.length : Int)))) c3) (vI cells5) :: own 3 (.slice A10 ((places4 ++ ([w64 ((w64 ((w64 (k1 - (columns1.length : Int))) * (columns1.length : Int))) + x1)] : List Int)).length) c10) (vI (places4 ++ ([w64 ((w64 ((w64 (k1 - (columns1.length : Int))) * (columns1.length : Int))) + x1)] : List Int))) :: fs) := hS
                      refine at_do (d := 93) hF (by kernel_rfl) (by kernel_rfl) hrun (fun a hF => ?_)
                      refine at_run 1 [] [] [0, 1, 6, 7, 8, 10, 11, 12, 13, 14, 16] [pl 0 (.slice A1 rows1.length c1), pl 1 (.slice A2 columns1.length c2), pl 6 (.int .i64 (columns1.length : Int)), pl 7 (.int .i64 (rows1.length : Int)), pl 8 (.slice A3 (Int.toNat (w64 ((columns1.length : Int) * (rows1.length : Int)))) c3), pl 10 (.int .i64 round1), pl 11 (.int .i64 k1), pl 12 (.slice none 0 0), pl 13 (.slice A10 ((places4 ++ ([w64 ((w64 ((w64 (k1 - (columns1.length : Int))) * (columns1.length : Int))) + x1)] : List Int)).length) c10), pl 14 (.slice (hdA hd1 (w64 (k1 - (columns1.length : Int)))) ((geti2 rows1 (w64 (k1 - (columns1.length : Int)))).length) (hdC hd1 (w64 (k1 - (columns1.length : Int))))), pl 16 (.int .i64 x1)] hF hS (by kernel_rfl) (by kernel_rfl) ?_ (fun a w hF hS => ?_)
                      · exact obs_nil
                      refine at_end [0, 1, 6, 7, 8, 10, 11, 12, 13, 14, 16] [pl 0 (.slice A1 rows1.length c1), pl 1 (.slice A2 columns1.length c2), pl 6 (.int .i64 (columns1.length : Int)), pl 7 (.int .i64 (rows1.length : Int)), pl 8 (.slice A3 (Int.toNat (w64 ((columns1.length : Int) * (rows1.length : Int)))) c3), pl 10 (.int .i64 round1), pl 11 (.int .i64 k1), pl 12 (.slice none 0 0), pl 13 (.slice A10 ((places4 ++ ([w64 ((w64 ((w64 (k1 - (columns1.length : Int))) * (columns1.length : Int))) + x1)] : List Int)).length) c10), pl 14 (.slice (hdA hd1 (w64 (k1 - (columns1.length : Int)))) ((geti2 rows1 (w64 (k1 - (columns1.length : Int)))).length) (hdC hd1 (w64 (k1 - (columns1.length : Int))))), pl 16 (.int .i64 x1)] hF rfl (by kernel_rfl) (fun hF => ?_)
                      refine block_n ?_
                      refine then_n ?_
                      have hS := hS.pickN 3 [1, 2] (by decide)
                      exact ⟨(places4 ++ ([w64 ((w64 ((w64 (k1 - (columns1.length : Int))) * (columns1.length : Int))) + x1)] : List Int)), A10, c10, hF.weak [0, 1, 6, 7, 8, 10, 11, 12, 13, 14, 16] (by kernel_rfl), hS, hm⟩
                  · refine reg [] [] [0, 1, 6, 7, 8, 10, 11, 12, 13, 14, 16, 81] [pl 0 (.slice A1 rows1.length c1), pl 1 (.slice A2 columns1.length c2), pl 6 (.int .i64 (columns1.length : Int)), pl 7 (.int .i64 (rows1.length : Int)), pl 8 (.slice A3 (Int.toNat (w64 ((columns1.length : Int) * (rows1.length : Int)))) c3), pl 10 (.int .i64 round1), pl 11 (.int .i64 k1), pl 12 (.slice none 0 0), pl 13 (.slice A9 places4.length c9), pl 14 (.slice (hdA hd1 (w64 (k1 - (columns1.length : Int)))) ((geti2 rows1 (w64 (k1 - (columns1.length : Int)))).length) (hdC hd1 (w64 (k1 - (columns1.length : Int))))), pl 16 (.int .i64 x1), pl 81 (.bool (decide (x1 < (columns1.length : Int))))] hF hS Fol (by kernel_rfl) (by kernel_rfl) (by kernel_rfl) ?_ (fun a w hF hS => ?_)
                    · exact obs_nil
                    refine cond_ev (t := 81) (b := decide (x1 < (columns1.length : Int))) hF (by kernel_rfl) (fun hb => ?_) (fun hb => ?_)
                    · replace hm := if_t hm hb
                      refine wpIn_skip ?_
                      refine then_n ?_
                      exact ⟨hF.weak [0, 1, 6, 7, 8, 10, 11, 12, 13, 14, 16] (by kernel_rfl), hS, hm⟩
                    · replace hm := if_f hm hb
                      refine wpIn_exit ?_
                      refine then_e (then_e (block_e (then_n ?_)))
                      rw [← hφ5] at hm
                      replace hm := done_b hm
                      unfold gameroomref_PushOf_K5 at hm
                      try dsimp only at hm
                      have hm : ((gameroomref_PushOf_J9 rows1 columns1 cells5 k1) places4 (geti2 rows1 (w64 (k1 - (columns1.length : Int))))).bind φ3 = some r := hm
                      exact ⟨places4, (geti2 rows1 (w64 (k1 - (columns1.length : Int)))), A9, c9, (hdA hd1 (w64 (k1 - (columns1.length : Int)))), (hdC hd1 (w64 (k1 - (columns1.length : Int)))), hF.weak [0, 1, 6, 7, 8, 10, 11, 12, 13, 14] (by kernel_rfl), hS, (fun w hS => ((hr_rows1 w hS).row _ hp5).1), ((hr_rows1 _ (hS.dropN 2)).row _ hp5).2, hm⟩
          · refine reg [] [] [0, 1, 6, 7, 8, 10, 11, 50] [pl 0 (.slice A1 rows1.length c1), pl 1 (.slice A2 columns1.length c2), pl 6 (.int .i64 (columns1.length : Int)), pl 7 (.int .i64 (rows1.length : Int)), pl 8 (.slice A3 (Int.toNat (w64 ((columns1.length : Int) * (rows1.length : Int)))) c3), pl 10 (.int .i64 round1), pl 11 (.int .i64 k1), pl 50 (.bool (decide (k1 < (w64 ((columns1.length : Int) + (rows1.length : Int))))))] hF hS Fol (by kernel_rfl) (by kernel_rfl) (by kernel_rfl) ?_ (fun a w hF hS => ?_)
            · exact obs_nil
            refine cond_ev (t := 50) (b := decide (k1 < (w64 ((columns1.length : Int) + (rows1.length : Int))))) hF (by kernel_rfl) (fun hb => ?_) (fun hb => ?_)
            · replace hm := if_t hm hb
              refine wpIn_skip ?_
              refine then_n ?_
              exact ⟨hF.weak [0, 1, 6, 7, 8, 10, 11] (by kernel_rfl), hS, hm⟩
            · replace hm := if_f hm hb
              refine wpIn_exit ?_
              refine then_e (then_e (block_e (block_n (then_n ?_))))
              rw [← hφ3] at hm
              replace hm := done_b hm
              unfold gameroomref_PushOf_K3 at hm
              try dsimp only at hm
              have hm : ((gameroomref_PushOf_J6 round1) cells5).bind φ2 = some r := hm
              exact ⟨cells5, hF.weak [0, 1, 6, 7, 8, 10] (by kernel_rfl), hS, hm⟩
      · refine reg [] [] [0, 1, 6, 7, 8, 10, 43] [pl 0 (.slice A1 rows1.length c1), pl 1 (.slice A2 columns1.length c2), pl 6 (.int .i64 (columns1.length : Int)), pl 7 (.int .i64 (rows1.length : Int)), pl 8 (.slice A3 (Int.toNat (w64 ((columns1.length : Int) * (rows1.length : Int)))) c3), pl 10 (.int .i64 round1), pl 43 (.bool (decide (round1 ≤ (w64 ((columns1.length : Int) * (rows1.length : Int))))))] hF hS Fol (by kernel_rfl) (by kernel_rfl) (by kernel_rfl) ?_ (fun a w hF hS => ?_)
        · exact obs_nil
        refine cond_ev (t := 43) (b := decide (round1 ≤ (w64 ((columns1.length : Int) * (rows1.length : Int))))) hF (by kernel_rfl) (fun hb => ?_) (fun hb => ?_)
        · replace hm := if_t hm hb
          refine wpIn_skip ?_
          refine then_n ?_
          exact ⟨hF.weak [0, 1, 6, 7, 8, 10] (by kernel_rfl), hS, hm⟩
        · replace hm := if_f hm hb
          refine wpIn_exit ?_
          refine then_e (then_e (block_e (then_n ?_)))
          rw [← hφ2] at hm
          replace hm := done_b hm
          unfold gameroomref_PushOf_K2 at hm
          try dsimp only at hm
          have hm : (gameroomref_PushOf_J4 cells3).bind some = some r := hm
          exact ⟨cells3, hF.weak [8] (by kernel_rfl), hS, hm⟩
  · refine reg [] [] [0, 1, 6, 7, 8, 9] [pl 0 (.slice A1 rows1.length c1), pl 1 (.slice A2 columns1.length c2), pl 6 (.int .i64 (columns1.length : Int)), pl 7 (.int .i64 (rows1.length : Int)), pl 8 (.slice A3 (Int.toNat (w64 ((columns1.length : Int) * (rows1.length : Int)))) c3), pl 9 (.int .i64 0)] hF hS Fol (by kernel_rfl) (by kernel_rfl) (by kernel_rfl) ?_ (fun a w hF hS => ?_)
    · exact obs_nil
    refine wpIn_block ?_
    refine wp_loop_model (S := (List Int × Int)) (R := (List Int)) (gameroomref_PushOf_L1 rows1 columns1) (fun x => ((gameroomref_PushOf_K1 rows1 columns1) x).bind some) r (fun (x : (List Int × Int)) a w => Fr 135 [pl 0 (.slice A1 rows1.length c1), pl 1 (.slice A2 columns1.length c2), pl 6 (.int .i64 (columns1.length : Int)), pl 7 (.int .i64 (rows1.length : Int)), pl 8 (.slice A3 (Int.toNat (w64 ((columns1.length : Int) * (rows1.length : Int)))) c3), pl 9 (.int .i64 x.2)] a ∧ Sep w0 B w (own 3 (.slice A3 (Int.toNat (w64 ((columns1.length : Int) * (rows1.length : Int)))) c3) (vI x.1) :: fs)) (assoc_b hm) ⟨hF.weak [0, 1, 6, 7, 8, 9] (by kernel_rfl), hS⟩ ?_
    clear hF hS hm
    rintro nn1 ⟨cells1, i1⟩ a w ⟨hF, hS⟩ hm
    generalize hφ1 : stK (gameroomref_PushOf_L1 rows1 columns1) nn1 (fun x => ((gameroomref_PushOf_K1 rows1 columns1) x).bind some) = φ1 at hm
    unfold gameroomref_PushOf_L1 at hm
    dsimp only at hF hS hm
    refine seq_cut (fun a w => Fr 135 [pl 0 (.slice A1 rows1.length c1), pl 1 (.slice A2 columns1.length c2), pl 6 (.int .i64 (columns1.length : Int)), pl 7 (.int .i64 (rows1.length : Int)), pl 8 (.slice A3 (Int.toNat (w64 ((columns1.length : Int) * (rows1.length : Int)))) c3), pl 9 (.int .i64 i1)] a ∧ Sep w0 B w (own 3 (.slice A3 (Int.toNat (w64 ((columns1.length : Int) * (rows1.length : Int)))) c3) (vI cells1) :: fs) ∧ ((gameroomref_PushOf_J2 rows1 columns1 cells1 i1)).bind φ1 = some r) ?_ ?_
    · rintro a w ⟨hF, hS, hm⟩
      unfold gameroomref_PushOf_J2 at hm
      refine seq_cut (fun a w => Fr 135 [pl 0 (.slice A1 rows1.length c1), pl 1 (.slice A2 columns1.length c2), pl 6 (.int .i64 (columns1.length : Int)), pl 7 (.int .i64 (rows1.length : Int)), pl 8 (.slice A3 (Int.toNat (w64 ((columns1.length : Int) * (rows1.length : Int)))) c3), pl 9 (.int .i64 i1)] a ∧ Sep w0 B w (own 3 (.slice A3 (Int.toNat (w64 ((columns1.length : Int) * (rows1.length : Int)))) c3) (vI (cells1.set (Int.toNat i1) (-1))) :: fs) ∧ ((gameroomref_PushOf_J3 cells1 i1)).bind φ1 = some r) ?_ ?_
      · rintro a w ⟨hF, hS, hm⟩
        unfold gameroomref_PushOf_J3 at hm
        refine reg1 [] [] [0, 1, 6, 7, 8, 9] [pl 0 (.slice A1 rows1.length c1), pl 1 (.slice A2 columns1.length c2), pl 6 (.int .i64 (columns1.length : Int)), pl 7 (.int .i64 (rows1.length : Int)), pl 8 (.slice A3 (Int.toNat (w64 ((columns1.length : Int) * (rows1.length : Int)))) c3), pl 9 (.int .i64 (w64 (i1 + 1)))] hF hS Fol (by kernel_rfl) (by kernel_rfl) (by kernel_rfl) ?_ (fun a w hF hS => ?_)
        · exact obs_nil
        refine then_n ?_
        rw [← hφ1] at hm
        exact ⟨((cells1.set (Int.toNat i1) (-1)), (w64 (i1 + 1))), ⟨hF.weak [0, 1, 6, 7, 8, 9] (by kernel_rfl), hS⟩, hm⟩
      · refine wpIn_block ?_
        refine oneR ?_
        obtain ⟨hp2, hm⟩ := asrt_b hm
        refine at_run 3 [⟨true, [], vS (Instr.indexAt 22 (.slice A3 (Int.toNat (w64 ((columns1.length : Int) * (rows1.length : Int)))) c3) (.int .i64 i1)), .pointer (some (sAddr A3 i1))⟩] [none, none, some (.pointer (some (sAddr A3 i1)))] [0, 1, 6, 7, 8, 9, 38] [pl 0 (.slice A1 rows1.length c1), pl 1 (.slice A2 columns1.length c2), pl 6 (.int .i64 (columns1.length : Int)), pl 7 (.int .i64 (rows1.length : Int)), pl 8 (.slice A3 (Int.toNat (w64 ((columns1.length : Int) * (rows1.length : Int)))) c3), pl 9 (.int .i64 i1), pl 38 (.pointer (some (sAddr A3 i1)))] hF hS (by kernel_rfl) (by kernel_rfl) ?_ (fun a w hF hS => ?_)
        · exact obs_cons (ob_ix1 (f := (Value.int .i64)) (m := cells1) Und22 hi3 hs3 (hS.at_ 0 rfl).rd ((hS.at_ 0 rfl).len1) (fun _ => hp2)) <| obs_nil
        obtain ⟨w, hrun, hS⟩ := run_set1 (P := Try.prog) (t := 3) (x := (-1)) (Value.int .i64) (hS.at_ 0 rfl) hi3 hs3 rfl rfl hp2
        refine at_skip hF (by kernel_rfl) hrun ?_
        have hS : Sep w0 B w (own 3 (.slice A3 (Int.toNat (w64 ((columns1.length : Int) * (rows1.length : Int)))) c3) (vI (cells1.set (Int.toNat i1) (-1))) :: fs) := hS
        refine at_end [0, 1, 6, 7, 8, 9] [pl 0 (.slice A1 rows1.length c1), pl 1 (.slice A2 columns1.length c2), pl 6 (.int .i64 (columns1.length : Int)), pl 7 (.int .i64 (rows1.length : Int)), pl 8 (.slice A3 (Int.toNat (w64 ((columns1.length : Int) * (rows1.length : Int)))) c3), pl 9 (.int .i64 i1)] hF rfl (by kernel_rfl) (fun hF => ?_)
        refine block_n ?_
        refine then_n ?_
        exact ⟨hF.weak [0, 1, 6, 7, 8, 9] (by kernel_rfl), hS, hm⟩
    · refine reg [] [] [0, 1, 6, 7, 8, 9, 33] [pl 0 (.slice A1 rows1.length c1), pl 1 (.slice A2 columns1.length c2), pl 6 (.int .i64 (columns1.length : Int)), pl 7 (.int .i64 (rows1.length : Int)), pl 8 (.slice A3 (Int.toNat (w64 ((columns1.length : Int) * (rows1.length : Int)))) c3), pl 9 (.int .i64 i1), pl 33 (.bool (decide (i1 < (w64 ((columns1.length : Int) * (rows1.length : Int))))))] hF hS Fol (by kernel_rfl) (by kernel_rfl) (by kernel_rfl) ?_ (fun a w hF hS => ?_)
      · exact obs_nil
      refine cond_ev (t := 33) (b := decide (i1 < (w64 ((columns1.length : Int) * (rows1.length : Int))))) hF (by kernel_rfl) (fun hb => ?_) (fun hb => ?_)
      · replace hm := if_t hm hb
        refine wpIn_skip ?_
        refine then_n ?_
        exact ⟨hF.weak [0, 1, 6, 7, 8, 9] (by kernel_rfl), hS, hm⟩
      · replace hm := if_f hm hb
        refine wpIn_exit ?_
        refine then_e (then_e (block_e (then_n ?_)))
        rw [← hφ1] at hm
        replace hm := done_b hm
        unfold gameroomref_PushOf_K1 at hm
        try dsimp only at hm
        have hm : ((gameroomref_PushOf_J1 rows1 columns1) cells1).bind some = some r := hm
        exact ⟨cells1, hF.weak [0, 1, 6, 7, 8] (by kernel_rfl), hS, hm⟩

noncomputable def gameroomlaw_sameInts_J4  (i1 : Int) : Option (St Int (Fl Unit Bool)) :=
  some (.next (w64 (i1 + 1)))

noncomputable def gameroomlaw_sameInts_J3  (a1 : List Int) (b1 : List Int) (i1 : Int) : Option (St Int (Fl Unit Bool)) :=
  asrt (0 ≤ i1 ∧ i1 < (a1.length : Int)) <| asrt (0 ≤ i1 ∧ i1 < (b1.length : Int)) <| if ((geti a1 i1) != (geti b1 i1)) then (some (.done (.ret false))) else ((gameroomlaw_sameInts_J4 i1))

noncomputable def gameroomlaw_sameInts_J2  : Option Bool :=
  some true

noncomputable def gameroomlaw_sameInts_K1  : (Fl Unit Bool) → Option Bool :=
  fun (x : (Fl Unit Bool)) => match x with | .go _ => gameroomlaw_sameInts_J2 | .ret x => some x

noncomputable def gameroomlaw_sameInts_L1  (a1 : List Int) (b1 : List Int) : Int → Option (St Int (Fl Unit Bool)) :=
  fun (x : Int) => match x with | i1 => if (decide (i1 < (a1.length : Int))) then ((gameroomlaw_sameInts_J3 a1 b1 i1)) else (some (.done (.go ())))

noncomputable def gameroomlaw_sameInts_J1  (a1 : List Int) (b1 : List Int) : Option Bool :=
  (loop (gameroomlaw_sameInts_L1 a1 b1) 0).bind gameroomlaw_sameInts_K1

noncomputable def gameroomlaw_sameInts_m  (a1 : List Int) (b1 : List Int) : Option Bool :=
  if ((a1.length : Int) != (b1.length : Int)) then (some false) else ((gameroomlaw_sameInts_J1 a1 b1))

set_option maxRecDepth 100000 in
set_option maxHeartbeats 4000000 in
theorem gameroomlaw_sameInts_w  {A1 : Option Addr} {c1 : Nat} {n1 : Nat} {a1 : List Int} {A2 : Option Addr} {c2 : Nat} {n2 : Nat} {b1 : List Int} {r : Bool} {w0 w : World} {B : Nat} {fs : List HP} (hm : gameroomlaw_sameInts_m a1 b1 = some r) (hS : Sep w0 B w (fs)) (hr_a1 : RdF w0 B fs A1 (vI a1)) (_hc_a1 : a1.length ≤ c1) (_hn_a1 : n1 = a1.length) (hr_b1 : RdF w0 B fs A2 (vI b1)) (_hc_b1 : b1.length ≤ c2) (_hn_b1 : n2 = b1.length) :
    Calls Try.prog 14 #[.slice A1 n1 c1, .slice A2 n2 c2] w fun e w' => e = .returned (.bool r) ∧ Sep w0 B w' (fs) := by
  obtain ⟨i3, hi3, hz3, hs3, hb3⟩ := info_parts Info3
  obtain rfl := _hn_a1
  obtain rfl := _hn_b1
  unfold gameroomlaw_sameInts_m at hm
  replace hm := start_b hm
  refine enter (l := [.slice A1 a1.length c1, .slice A2 b1.length c2]) (n := 26) Try.func14 rfl rfl (by simp) (fun a hF => ?_)
  refine reg [] [] [0, 1] [pl 0 (.slice A1 a1.length c1), pl 1 (.slice A2 b1.length c2)] hF hS Fol (by kernel_rfl) (by kernel_rfl) (by kernel_rfl) ?_ (fun a w hF hS => ?_)
  · exact obs_nil
  refine seq_cut (fun a w => Fr 26 [pl 0 (.slice A1 a1.length c1), pl 1 (.slice A2 b1.length c2)] a ∧ Sep w0 B w (fs) ∧ ((gameroomlaw_sameInts_J1 a1 b1)).bind some = some r) ?_ ?_
  · rintro a w ⟨hF, hS, hm⟩
    unfold gameroomlaw_sameInts_J1 at hm
    refine seq_cut (fun a w => Fr 26 [] a ∧ Sep w0 B w (fs) ∧ (gameroomlaw_sameInts_J2).bind some = some r) ?_ ?_
    · rintro a w ⟨hF, hS, hm⟩
      unfold gameroomlaw_sameInts_J2 at hm
      refine reg [] [] [4] [pl 4 (.bool true)] hF hS Fol (by kernel_rfl) (by kernel_rfl) (by kernel_rfl) ?_ (fun a w hF hS => ?_)
      · exact obs_nil
      refine wpIn_ret ?_
      have hm : some true = some r := hm
      obtain rfl := Option.some.inj hm
      exact retV (rs := [.tmp 4]) (vs := [.bool true]) hF rfl (rv_t (by kernel_rfl) <| rv_nil) rfl ⟨rfl, hS⟩
    · refine reg [] [] [0, 1, 5] [pl 0 (.slice A1 a1.length c1), pl 1 (.slice A2 b1.length c2), pl 5 (.int .i64 0)] hF hS Fol (by kernel_rfl) (by kernel_rfl) (by kernel_rfl) ?_ (fun a w hF hS => ?_)
      · exact obs_nil
      refine wpIn_block ?_
      refine wp_loop_model (S := Int) (R := (Fl Unit Bool)) (gameroomlaw_sameInts_L1 a1 b1) (fun x => (gameroomlaw_sameInts_K1 x).bind some) r (fun (x : Int) a w => Fr 26 [pl 0 (.slice A1 a1.length c1), pl 1 (.slice A2 b1.length c2), pl 5 (.int .i64 x)] a ∧ Sep w0 B w (fs)) (assoc_b hm) ⟨hF.weak [0, 1, 5] (by kernel_rfl), hS⟩ ?_
      clear hF hS hm
      rintro nn1 i1 a w ⟨hF, hS⟩ hm
      generalize hφ1 : stK (gameroomlaw_sameInts_L1 a1 b1) nn1 (fun x => (gameroomlaw_sameInts_K1 x).bind some) = φ1 at hm
      unfold gameroomlaw_sameInts_L1 at hm
      dsimp only at hm
      refine seq_cut (fun a w => Fr 26 [pl 0 (.slice A1 a1.length c1), pl 1 (.slice A2 b1.length c2), pl 5 (.int .i64 i1)] a ∧ Sep w0 B w (fs) ∧ ((gameroomlaw_sameInts_J3 a1 b1 i1)).bind φ1 = some r) ?_ ?_
      · rintro a w ⟨hF, hS, hm⟩
        unfold gameroomlaw_sameInts_J3 at hm
        refine seq_cut (fun a w => Fr 26 [pl 0 (.slice A1 a1.length c1), pl 1 (.slice A2 b1.length c2), pl 5 (.int .i64 i1)] a ∧ Sep w0 B w (fs) ∧ ((gameroomlaw_sameInts_J4 i1)).bind φ1 = some r) ?_ ?_
        · rintro a w ⟨hF, hS, hm⟩
          unfold gameroomlaw_sameInts_J4 at hm
          refine reg1 [] [] [0, 1, 5] [pl 0 (.slice A1 a1.length c1), pl 1 (.slice A2 b1.length c2), pl 5 (.int .i64 (w64 (i1 + 1)))] hF hS Fol (by kernel_rfl) (by kernel_rfl) (by kernel_rfl) ?_ (fun a w hF hS => ?_)
          · exact obs_nil
          refine then_n ?_
          rw [← hφ1] at hm
          exact ⟨(w64 (i1 + 1)), ⟨hF.weak [0, 1, 5] (by kernel_rfl), hS⟩, hm⟩
        · refine wpIn_block ?_
          obtain ⟨hp1, hm⟩ := asrt_b hm
          obtain ⟨hp2, hm⟩ := asrt_b hm
          refine reg [⟨true, [], vS (Instr.indexAt 22 (.slice A1 a1.length c1) (.int .i64 i1)), .pointer (some (sAddr A1 i1))⟩, ⟨false, [], vS (Instr.loadAt 3 (.pointer (some (sAddr A1 i1)))), .int .i64 (geti a1 i1)⟩, ⟨true, [], vS (Instr.indexAt 22 (.slice A2 b1.length c2) (.int .i64 i1)), .pointer (some (sAddr A2 i1))⟩, ⟨false, [], vS (Instr.loadAt 3 (.pointer (some (sAddr A2 i1)))), .int .i64 (geti b1 i1)⟩] [none, none, some (.pointer (some (sAddr A1 i1))), some (.int .i64 (geti a1 i1)), none, none, some (.pointer (some (sAddr A2 i1))), some (.int .i64 (geti b1 i1)), none] [0, 1, 5, 25] [pl 0 (.slice A1 a1.length c1), pl 1 (.slice A2 b1.length c2), pl 5 (.int .i64 i1), pl 25 (.bool ((geti a1 i1) != (geti b1 i1)))] hF hS Fol (by kernel_rfl) (by kernel_rfl) (by kernel_rfl) ?_ (fun a w hF hS => ?_)
          · exact obs_cons (ob_ix1 (f := (Value.int .i64)) (m := a1) Und22 hi3 hs3 (hr_a1 _ (hS.dropN 0)) rfl (fun _ => hp1)) <| obs_cons (ob_get1 (n := a1.length) (m := a1) (Value.int .i64) (0 : Int) Agg3 (fun _ hS => ⟨_, (hr_a1 _ (hS.dropN 0))⟩) (fun _ hS => rfl) (fun _ => hp1)) <| obs_cons (ob_ix1 (f := (Value.int .i64)) (m := b1) Und22 hi3 hs3 (hr_b1 _ (hS.dropN 0)) rfl (fun _ => hp2)) <| obs_cons (ob_get1 (n := b1.length) (m := b1) (Value.int .i64) (0 : Int) Agg3 (fun _ hS => ⟨_, (hr_b1 _ (hS.dropN 0))⟩) (fun _ hS => rfl) (fun _ => hp2)) <| obs_nil
          refine cond_ev (t := 25) (b := ((geti a1 i1) != (geti b1 i1))) hF (by kernel_rfl) (fun hb => ?_) (fun hb => ?_)
          · replace hm := if_t hm hb
            refine reg [] [] [4] [pl 4 (.bool false)] hF hS Fol (by kernel_rfl) (by kernel_rfl) (by kernel_rfl) ?_ (fun a w hF hS => ?_)
            · exact obs_nil
            refine wpIn_ret ?_
            refine block_r (then_r (then_r (block_r (then_r ?_))))
            rw [← hφ1] at hm
            replace hm := done_b hm
            unfold gameroomlaw_sameInts_K1 at hm
            try dsimp only at hm
            have hm : some false = some r := hm
            obtain rfl := Option.some.inj hm
            exact retV (rs := [.tmp 4]) (vs := [.bool false]) hF rfl (rv_t (by kernel_rfl) <| rv_nil) rfl ⟨rfl, hS⟩
          · replace hm := if_f hm hb
            refine wpIn_skip ?_
            refine block_n ?_
            refine then_n ?_
            exact ⟨hF.weak [0, 1, 5] (by kernel_rfl), hS, hm⟩
      · refine reg [] [] [0, 1, 5, 14] [pl 0 (.slice A1 a1.length c1), pl 1 (.slice A2 b1.length c2), pl 5 (.int .i64 i1), pl 14 (.bool (decide (i1 < (a1.length : Int))))] hF hS Fol (by kernel_rfl) (by kernel_rfl) (by kernel_rfl) ?_ (fun a w hF hS => ?_)
        · exact obs_nil
        refine cond_ev (t := 14) (b := decide (i1 < (a1.length : Int))) hF (by kernel_rfl) (fun hb => ?_) (fun hb => ?_)
        · replace hm := if_t hm hb
          refine wpIn_skip ?_
          refine then_n ?_
          exact ⟨hF.weak [0, 1, 5] (by kernel_rfl), hS, hm⟩
        · replace hm := if_f hm hb
          refine wpIn_exit ?_
          refine then_e (then_e (block_e (then_n ?_)))
          rw [← hφ1] at hm
          replace hm := done_b hm
          unfold gameroomlaw_sameInts_K1 at hm
          try dsimp only at hm
          have hm : (gameroomlaw_sameInts_J2).bind some = some r := hm
          exact ⟨hF.weak [] (by kernel_rfl), hS, hm⟩
  · refine reg [] [] [0, 1, 10] [pl 0 (.slice A1 a1.length c1), pl 1 (.slice A2 b1.length c2), pl 10 (.bool ((a1.length : Int) != (b1.length : Int)))] hF hS Fol (by kernel_rfl) (by kernel_rfl) (by kernel_rfl) ?_ (fun a w hF hS => ?_)
    · exact obs_nil
    refine cond_ev (t := 10) (b := ((a1.length : Int) != (b1.length : Int))) hF (by kernel_rfl) (fun hb => ?_) (fun hb => ?_)
    · replace hm := if_t hm hb
      refine reg [] [] [4] [pl 4 (.bool false)] hF hS Fol (by kernel_rfl) (by kernel_rfl) (by kernel_rfl) ?_ (fun a w hF hS => ?_)
      · exact obs_nil
      refine wpIn_ret ?_
      refine then_r ?_
      have hm : some false = some r := hm
      obtain rfl := Option.some.inj hm
      exact retV (rs := [.tmp 4]) (vs := [.bool false]) hF rfl (rv_t (by kernel_rfl) <| rv_nil) rfl ⟨rfl, hS⟩
    · replace hm := if_f hm hb
      refine wpIn_skip ?_
      refine then_n ?_
      exact ⟨hF.weak [0, 1] (by kernel_rfl), hS, hm⟩

noncomputable def gameroomref_ClueOf_J3  (i1 : Int) (l3 : List Int) (n4 : Int) : Option (St (List Int × Int × Int) (List Int)) :=
  some (.next (l3, n4, (w64 (i1 + 1))))

noncomputable def gameroomref_ClueOf_J4  (line1 : List Int) (l1 : List Int) (i1 : Int) (n3 : Int) : Option (St (List Int × Int × Int) (List Int)) :=
  asrt ((decide ((0 : Int) < n3)) = true → 0 ≤ i1 ∧ i1 < (line1.length : Int)) <| if ((decide ((0 : Int) < n3)) && (((geti line1 i1) == 0) || (i1 == (w64 ((line1.length : Int) - 1))))) then (asrt ((l1.length : Int) + 1 ≤ bigN) <| (gameroomref_ClueOf_J3 i1) (l1 ++ ([n3] : List Int)) 0) else ((gameroomref_ClueOf_J3 i1) l1 n3)

noncomputable def gameroomref_ClueOf_J2  (line1 : List Int) (l1 : List Int) (n2 : Int) (i1 : Int) : Option (St (List Int × Int × Int) (List Int)) :=
  asrt (0 ≤ i1 ∧ i1 < (line1.length : Int)) <| if ((geti line1 i1) == 1) then ((gameroomref_ClueOf_J4 line1 l1 i1) (w64 (n2 + 1))) else ((gameroomref_ClueOf_J4 line1 l1 i1) n2)

noncomputable def gameroomref_ClueOf_J1  (l2 : List Int) : Option (List Int) :=
  some l2

noncomputable def gameroomref_ClueOf_K1  : (List Int) → Option (List Int) :=
  fun (x : (List Int)) => match x with | l2 => gameroomref_ClueOf_J1 l2

noncomputable def gameroomref_ClueOf_L1  (line1 : List Int) : (List Int × Int × Int) → Option (St (List Int × Int × Int) (List Int)) :=
  fun (x : (List Int × Int × Int)) => match x with | (l1, n2, i1) => if (decide (i1 < (line1.length : Int))) then ((gameroomref_ClueOf_J2 line1 l1 n2 i1)) else (some (.done l1))

noncomputable def gameroomref_ClueOf_m  (line1 : List Int) : Option (List Int) :=
  (loop (gameroomref_ClueOf_L1 line1) (([] : List Int), 0, 0)).bind gameroomref_ClueOf_K1

set_option maxRecDepth 100000 in
set_option maxHeartbeats 4000000 in
theorem gameroomref_ClueOf_w  {A1 : Option Addr} {c1 : Nat} {n1 : Nat} {line1 : List Int} {r : (List Int)} {w0 w : World} {B : Nat} {fs : List HP} (hm : gameroomref_ClueOf_m line1 = some r) (hS : Sep w0 B w (fs)) (hr_line1 : RdF w0 B fs A1 (vI line1)) (_hc_line1 : line1.length ≤ c1) (_hn_line1 : n1 = line1.length) :
    Calls Try.prog 66 #[.slice A1 n1 c1] w fun e w' => ∃ v, e = .returned v ∧ ∃ (A6 : Option Addr) (c6 : Nat), v = .slice A6 r.length c6 ∧ Sep w0 B w' (own 3 (.slice A6 r.length c6) (vI r) :: fs) := by
  obtain ⟨i3, hi3, hz3, hs3, hb3⟩ := info_parts Info3
  obtain rfl := _hn_line1
  unfold gameroomref_ClueOf_m at hm
  replace hm := start_b hm
  refine enter (l := [.slice A1 line1.length c1]) (n := 40) Try.func66 rfl rfl (by simp) (fun a hF => ?_)
  refine reg [] [] [0] [pl 0 (.slice A1 line1.length c1)] hF hS Fol (by kernel_rfl) (by kernel_rfl) (by kernel_rfl) ?_ (fun a w hF hS => ?_)
  · exact obs_nil
  refine reg [] [] [0, 3] [pl 0 (.slice A1 line1.length c1), pl 3 (.slice none 0 0)] hF hS Fol (by kernel_rfl) (by kernel_rfl) (by kernel_rfl) ?_ (fun a w hF hS => ?_)
  · exact obs_nil
  refine reg [] [] [0, 3, 4] [pl 0 (.slice A1 line1.length c1), pl 3 (.slice none 0 0), pl 4 (.int .i64 0)] hF hS Fol (by kernel_rfl) (by kernel_rfl) (by kernel_rfl) ?_ (fun a w hF hS => ?_)
  · exact obs_nil
  refine seq_cut (fun a w => ∃ (l2 : List Int) (A3 : Option Addr) (c3 : Nat), Fr 40 [pl 3 (.slice A3 l2.length c3)] a ∧ Sep w0 B w (own 3 (.slice A3 l2.length c3) (vI l2) :: fs) ∧ (gameroomref_ClueOf_J1 l2).bind some = some r) ?_ ?_
  · rintro a w ⟨l2, A3, c3, hF, hS, hm⟩
    unfold gameroomref_ClueOf_J1 at hm
    refine reg [] [] [2] [pl 2 (.slice A3 l2.length c3)] hF hS Fol (by kernel_rfl) (by kernel_rfl) (by kernel_rfl) ?_ (fun a w hF hS => ?_)
    · exact obs_nil
    refine wpIn_ret ?_
    have hm : some l2 = some r := hm
    obtain rfl := Option.some.inj hm
    exact retV (rs := [.tmp 2]) (vs := [.slice A3 l2.length c3]) hF rfl (rv_t (by kernel_rfl) <| rv_nil) rfl ⟨_, rfl, A3, c3, rfl, hS⟩
  · refine reg [] [] [0, 3, 4, 5] [pl 0 (.slice A1 line1.length c1), pl 3 (.slice none 0 0), pl 4 (.int .i64 0), pl 5 (.int .i64 0)] hF hS Fol (by kernel_rfl) (by kernel_rfl) (by kernel_rfl) ?_ (fun a w hF hS => ?_)
    · exact obs_nil
    refine wpIn_block ?_
    have hS : Sep w0 B w (own 3 (.slice none 0 0) (vI ([] : List Int)) :: fs) := hS.nil 3
    have hl1 := (hS.at_ 0 rfl).len1
    have hS := (hS.at_ 0 rfl).reN hl1
    have hS : Sep w0 B w (own 3 (.slice none (([] : List Int).length) 0) (vI ([] : List Int)) :: fs) := hS
    have hF := hF.cast (t := 3) (v := .slice none 0 0) (v' := .slice none (([] : List Int).length) 0) rfl rfl (congrArg (fun k => Value.slice none k 0) hl1)
    refine wp_loop_model (S := (List Int × Int × Int)) (R := (List Int)) (gameroomref_ClueOf_L1 line1) (fun x => (gameroomref_ClueOf_K1 x).bind some) r (fun (x : (List Int × Int × Int)) a w => ∃ (A2 : Option Addr) (c2 : Nat), Fr 40 [pl 0 (.slice A1 line1.length c1), pl 3 (.slice A2 x.1.length c2), pl 4 (.int .i64 x.2.1), pl 5 (.int .i64 x.2.2)] a ∧ Sep w0 B w (own 3 (.slice A2 x.1.length c2) (vI x.1) :: fs)) (assoc_b hm) ⟨none, 0, hF.weak [0, 3, 4, 5] (by kernel_rfl), hS⟩ ?_
    clear hF hS hm
    rintro nn1 ⟨l1, n2, i1⟩ a w ⟨A2, c2, hF, hS⟩ hm
    generalize hφ1 : stK (gameroomref_ClueOf_L1 line1) nn1 (fun x => (gameroomref_ClueOf_K1 x).bind some) = φ1 at hm
    unfold gameroomref_ClueOf_L1 at hm
    dsimp only at hF hS hm
    refine seq_cut (fun a w => Fr 40 [pl 0 (.slice A1 line1.length c1), pl 3 (.slice A2 l1.length c2), pl 4 (.int .i64 n2), pl 5 (.int .i64 i1)] a ∧ Sep w0 B w (own 3 (.slice A2 l1.length c2) (vI l1) :: fs) ∧ ((gameroomref_ClueOf_J2 line1 l1 n2 i1)).bind φ1 = some r) ?_ ?_
    · rintro a w ⟨hF, hS, hm⟩
      unfold gameroomref_ClueOf_J2 at hm
      refine seq_cut (fun a w => ∃ (l3 : List Int) (n4 : Int) (A5 : Option Addr) (c5 : Nat), Fr 40 [pl 0 (.slice A1 line1.length c1), pl 3 (.slice A5 l3.length c5), pl 4 (.int .i64 n4), pl 5 (.int .i64 i1)] a ∧ Sep w0 B w (own 3 (.slice A5 l3.length c5) (vI l3) :: fs) ∧ ((gameroomref_ClueOf_J3 i1) l3 n4).bind φ1 = some r) ?_ ?_
      · rintro a w ⟨l3, n4, A5, c5, hF, hS, hm⟩
        unfold gameroomref_ClueOf_J3 at hm
        refine reg1 [] [] [0, 3, 4, 5] [pl 0 (.slice A1 line1.length c1), pl 3 (.slice A5 l3.length c5), pl 4 (.int .i64 n4), pl 5 (.int .i64 (w64 (i1 + 1)))] hF hS Fol (by kernel_rfl) (by kernel_rfl) (by kernel_rfl) ?_ (fun a w hF hS => ?_)
        · exact obs_nil
        refine then_n ?_
        rw [← hφ1] at hm
        exact ⟨(l3, n4, (w64 (i1 + 1))), ⟨A5, c5, hF.weak [0, 3, 4, 5] (by kernel_rfl), hS⟩, hm⟩
      · refine wpIn_block ?_
        refine seq_cut (fun a w => ∃ (n3 : Int), Fr 40 [pl 0 (.slice A1 line1.length c1), pl 3 (.slice A2 l1.length c2), pl 4 (.int .i64 n3), pl 5 (.int .i64 i1)] a ∧ Sep w0 B w (own 3 (.slice A2 l1.length c2) (vI l1) :: fs) ∧ ((gameroomref_ClueOf_J4 line1 l1 i1) n3).bind φ1 = some r) ?_ ?_
        · rintro a w ⟨n3, hF, hS, hm⟩
          unfold gameroomref_ClueOf_J4 at hm
          obtain ⟨hp2, hm⟩ := asrt_b hm
          refine reg [⟨true, [(decide ((0 : Int) < n3), true)], vS (Instr.indexAt 22 (.slice A1 line1.length c1) (.int .i64 i1)), .pointer (some (sAddr A1 i1))⟩, ⟨false, [(decide ((0 : Int) < n3), true)], vS (Instr.loadAt 3 (.pointer (some (sAddr A1 i1)))), .int .i64 (geti line1 i1)⟩] [none, none, none, none, none, some (.pointer (some (sAddr A1 i1))), some (.int .i64 (geti line1 i1)), none, none, none, none, none, none, none, none, none] [0, 3, 4, 5, 34] [pl 0 (.slice A1 line1.length c1), pl 3 (.slice A2 l1.length c2), pl 4 (.int .i64 n3), pl 5 (.int .i64 i1), pl 34 (.bool ((decide ((0 : Int) < n3)) && (((geti line1 i1) == 0) || (i1 == (w64 ((line1.length : Int) - 1))))))] hF hS Fol (by kernel_rfl) (by kernel_rfl) (by kernel_rfl) ?_ (fun a w hF hS => ?_)
          · exact obs_cons (ob_ix1 (f := (Value.int .i64)) (m := line1) Und22 hi3 hs3 (hr_line1 _ (hS.dropN 1)) rfl (fun hy => hp2 (hy (decide ((0 : Int) < n3), true) (by simp)))) <| obs_cons (ob_get1 (n := line1.length) (m := line1) (Value.int .i64) (0 : Int) Agg3 (fun _ hS => ⟨_, (hr_line1 _ (hS.dropN 1))⟩) (fun _ hS => rfl) (fun hy => hp2 (hy (decide ((0 : Int) < n3), true) (by simp)))) <| obs_nil
          refine cond_ev (t := 34) (b := (decide ((0 : Int) < n3)) && (((geti line1 i1) == 0) || (i1 == (w64 ((line1.length : Int) - 1))))) hF (by kernel_rfl) (fun hb => ?_) (fun hb => ?_)
          · replace hm := if_t hm hb
            refine seqR ?_
            obtain ⟨hp3, hm⟩ := asrt_b hm
            refine at_run 2 [] [] [0, 5, 35, 36] [pl 0 (.slice A1 line1.length c1), pl 5 (.int .i64 i1), pl 35 (.slice A2 l1.length c2), pl 36 (.int .i64 n3)] hF hS (by kernel_rfl) (by kernel_rfl) ?_ (fun a w hF hS => ?_)
            · exact obs_nil
            refine at_do (d := 37) (s := vS (Instr.buildSlice 22 1 #[(0, .int .i64 n3)])) (v := .slice (some ⟨w.heap.size, 0, none⟩) 1 1) (w' := w.alloc (.cells #[.int .i64 n3] 3)) hF (by kernel_rfl) (by kernel_rfl) (by kernel_rfl) (fun a hF => ?_)
            have hS : Sep w0 B (w.alloc (.cells #[.int .i64 n3] 3)) (own 3 (.slice (some (⟨w.heap.size, 0, none⟩ : Addr)) 1 1) (vI ([n3] : List Int)) :: (own 3 (.slice A2 l1.length c2) (vI l1) :: fs)) := hS.lit 3 #[.int .i64 n3] 1 rfl (by omega)
            generalize (some (⟨w.heap.size, 0, none⟩ : Addr)) = g1 at hF hS
            generalize w.alloc (.cells #[.int .i64 n3] 3) = w at hS ⊢
            obtain ⟨A4, c4, w, hrun, hS⟩ := run_app1 (P := Try.prog) (t := 22) (m := l1) (ys := ([n3] : List Int)) (A2 := g1) (m2 := 1) (c2 := 1) (Value.int .i64) (0 : Int) (hS.at_ 1 rfl) (hS.at_ 0 rfl).rd ((hS.at_ 0 rfl).len1) 22 Und22 hi3 hz3 hs3 (by omega) rfl (fun _ => rfl) hp3
            have hS : Sep w0 B w (own 3 (.slice g1 1 1) (vI ([n3] : List Int)) :: own 3 (.slice A4 ((l1 ++ ([n3] : List Int)).length) c4) (vI (l1 ++ ([n3] : List Int))) :: fs) := hS
            refine at_do (d := 38) hF (by kernel_rfl) (by kernel_rfl) hrun (fun a hF => ?_)
            refine at_run 1 [] [] [0, 3, 5] [pl 0 (.slice A1 line1.length c1), pl 3 (.slice A4 ((l1 ++ ([n3] : List Int)).length) c4), pl 5 (.int .i64 i1)] hF hS (by kernel_rfl) (by kernel_rfl) ?_ (fun a w hF hS => ?_)
            · exact obs_nil
            refine at_end [0, 3, 5] [pl 0 (.slice A1 line1.length c1), pl 3 (.slice A4 ((l1 ++ ([n3] : List Int)).length) c4), pl 5 (.int .i64 i1)] hF rfl (by kernel_rfl) (fun hF => ?_)
            refine then_n ?_
            refine reg1 [] [] [0, 3, 4, 5] [pl 0 (.slice A1 line1.length c1), pl 3 (.slice A4 ((l1 ++ ([n3] : List Int)).length) c4), pl 4 (.int .i64 0), pl 5 (.int .i64 i1)] hF hS Fol (by kernel_rfl) (by kernel_rfl) (by kernel_rfl) ?_ (fun a w hF hS => ?_)
            · exact obs_nil
            refine block_n ?_
            refine then_n ?_
            have hS := hS.pickN 2 [1] (by decide)
            exact ⟨(l1 ++ ([n3] : List Int)), 0, A4, c4, hF.weak [0, 3, 4, 5] (by kernel_rfl), hS, hm⟩
          · replace hm := if_f hm hb
            refine wpIn_skip ?_
            refine block_n ?_
            refine then_n ?_
            exact ⟨l1, n3, A2, c2, hF.weak [0, 3, 4, 5] (by kernel_rfl), hS, hm⟩
        · obtain ⟨hp1, hm⟩ := asrt_b hm
          refine reg [⟨true, [], vS (Instr.indexAt 22 (.slice A1 line1.length c1) (.int .i64 i1)), .pointer (some (sAddr A1 i1))⟩, ⟨false, [], vS (Instr.loadAt 3 (.pointer (some (sAddr A1 i1)))), .int .i64 (geti line1 i1)⟩] [none, none, some (.pointer (some (sAddr A1 i1))), some (.int .i64 (geti line1 i1)), none] [0, 3, 4, 5, 16] [pl 0 (.slice A1 line1.length c1), pl 3 (.slice A2 l1.length c2), pl 4 (.int .i64 n2), pl 5 (.int .i64 i1), pl 16 (.bool ((geti line1 i1) == 1))] hF hS Fol (by kernel_rfl) (by kernel_rfl) (by kernel_rfl) ?_ (fun a w hF hS => ?_)
          · exact obs_cons (ob_ix1 (f := (Value.int .i64)) (m := line1) Und22 hi3 hs3 (hr_line1 _ (hS.dropN 1)) rfl (fun _ => hp1)) <| obs_cons (ob_get1 (n := line1.length) (m := line1) (Value.int .i64) (0 : Int) Agg3 (fun _ hS => ⟨_, (hr_line1 _ (hS.dropN 1))⟩) (fun _ hS => rfl) (fun _ => hp1)) <| obs_nil
          refine cond_ev (t := 16) (b := ((geti line1 i1) == 1)) hF (by kernel_rfl) (fun hb => ?_) (fun hb => ?_)
          · replace hm := if_t hm hb
            refine reg1 [] [] [0, 3, 4, 5] [pl 0 (.slice A1 line1.length c1), pl 3 (.slice A2 l1.length c2), pl 4 (.int .i64 (w64 (n2 + 1))), pl 5 (.int .i64 i1)] hF hS Fol (by kernel_rfl) (by kernel_rfl) (by kernel_rfl) ?_ (fun a w hF hS => ?_)
            · exact obs_nil
            refine then_n ?_
            exact ⟨(w64 (n2 + 1)), hF.weak [0, 3, 4, 5] (by kernel_rfl), hS, hm⟩
          · replace hm := if_f hm hb
            refine wpIn_skip ?_
            refine then_n ?_
            exact ⟨n2, hF.weak [0, 3, 4, 5] (by kernel_rfl), hS, hm⟩
    · refine reg [] [] [0, 3, 4, 5, 9] [pl 0 (.slice A1 line1.length c1), pl 3 (.slice A2 l1.length c2), pl 4 (.int .i64 n2), pl 5 (.int .i64 i1), pl 9 (.bool (decide (i1 < (line1.length : Int))))] hF hS Fol (by kernel_rfl) (by kernel_rfl) (by kernel_rfl) ?_ (fun a w hF hS => ?_)
      · exact obs_nil
      refine cond_ev (t := 9) (b := decide (i1 < (line1.length : Int))) hF (by kernel_rfl) (fun hb => ?_) (fun hb => ?_)
      · replace hm := if_t hm hb
        refine wpIn_skip ?_
        refine then_n ?_
        exact ⟨hF.weak [0, 3, 4, 5] (by kernel_rfl), hS, hm⟩
      · replace hm := if_f hm hb
        refine wpIn_exit ?_
        refine then_e (then_e (block_e (then_n ?_)))
        rw [← hφ1] at hm
        replace hm := done_b hm
        unfold gameroomref_ClueOf_K1 at hm
        try dsimp only at hm
        have hm : (gameroomref_ClueOf_J1 l1).bind some = some r := hm
        exact ⟨l1, A2, c2, hF.weak [3] (by kernel_rfl), hS, hm⟩

noncomputable def gameroomref_sameInts_J4  (i1 : Int) : Option (St Int (Fl Unit Bool)) :=
  some (.next (w64 (i1 + 1)))

noncomputable def gameroomref_sameInts_J3  (a1 : List Int) (b1 : List Int) (i1 : Int) : Option (St Int (Fl Unit Bool)) :=
  asrt (0 ≤ i1 ∧ i1 < (a1.length : Int)) <| asrt (0 ≤ i1 ∧ i1 < (b1.length : Int)) <| if ((geti a1 i1) != (geti b1 i1)) then (some (.done (.ret false))) else ((gameroomref_sameInts_J4 i1))

noncomputable def gameroomref_sameInts_J2  : Option Bool :=
  some true

noncomputable def gameroomref_sameInts_K1  : (Fl Unit Bool) → Option Bool :=
  fun (x : (Fl Unit Bool)) => match x with | .go _ => gameroomref_sameInts_J2 | .ret x => some x

noncomputable def gameroomref_sameInts_L1  (a1 : List Int) (b1 : List Int) : Int → Option (St Int (Fl Unit Bool)) :=
  fun (x : Int) => match x with | i1 => if (decide (i1 < (a1.length : Int))) then ((gameroomref_sameInts_J3 a1 b1 i1)) else (some (.done (.go ())))

noncomputable def gameroomref_sameInts_J1  (a1 : List Int) (b1 : List Int) : Option Bool :=
  (loop (gameroomref_sameInts_L1 a1 b1) 0).bind gameroomref_sameInts_K1

noncomputable def gameroomref_sameInts_m  (a1 : List Int) (b1 : List Int) : Option Bool :=
  if ((a1.length : Int) != (b1.length : Int)) then (some false) else ((gameroomref_sameInts_J1 a1 b1))

set_option maxRecDepth 100000 in
set_option maxHeartbeats 4000000 in
theorem gameroomref_sameInts_w  {A1 : Option Addr} {c1 : Nat} {n1 : Nat} {a1 : List Int} {A2 : Option Addr} {c2 : Nat} {n2 : Nat} {b1 : List Int} {r : Bool} {w0 w : World} {B : Nat} {fs : List HP} (hm : gameroomref_sameInts_m a1 b1 = some r) (hS : Sep w0 B w (fs)) (hr_a1 : RdF w0 B fs A1 (vI a1)) (_hc_a1 : a1.length ≤ c1) (_hn_a1 : n1 = a1.length) (hr_b1 : RdF w0 B fs A2 (vI b1)) (_hc_b1 : b1.length ≤ c2) (_hn_b1 : n2 = b1.length) :
    Calls Try.prog 65 #[.slice A1 n1 c1, .slice A2 n2 c2] w fun e w' => e = .returned (.bool r) ∧ Sep w0 B w' (fs) := by
  obtain ⟨i3, hi3, hz3, hs3, hb3⟩ := info_parts Info3
  obtain rfl := _hn_a1
  obtain rfl := _hn_b1
  unfold gameroomref_sameInts_m at hm
  replace hm := start_b hm
  refine enter (l := [.slice A1 a1.length c1, .slice A2 b1.length c2]) (n := 26) Try.func65 rfl rfl (by simp) (fun a hF => ?_)
  refine reg [] [] [0, 1] [pl 0 (.slice A1 a1.length c1), pl 1 (.slice A2 b1.length c2)] hF hS Fol (by kernel_rfl) (by kernel_rfl) (by kernel_rfl) ?_ (fun a w hF hS => ?_)
  · exact obs_nil
  refine seq_cut (fun a w => Fr 26 [pl 0 (.slice A1 a1.length c1), pl 1 (.slice A2 b1.length c2)] a ∧ Sep w0 B w (fs) ∧ ((gameroomref_sameInts_J1 a1 b1)).bind some = some r) ?_ ?_
  · rintro a w ⟨hF, hS, hm⟩
    unfold gameroomref_sameInts_J1 at hm
    refine seq_cut (fun a w => Fr 26 [] a ∧ Sep w0 B w (fs) ∧ (gameroomref_sameInts_J2).bind some = some r) ?_ ?_
    · rintro a w ⟨hF, hS, hm⟩
      unfold gameroomref_sameInts_J2 at hm
      refine reg [] [] [4] [pl 4 (.bool true)] hF hS Fol (by kernel_rfl) (by kernel_rfl) (by kernel_rfl) ?_ (fun a w hF hS => ?_)
      · exact obs_nil
      refine wpIn_ret ?_
      have hm : some true = some r := hm
      obtain rfl := Option.some.inj hm
      exact retV (rs := [.tmp 4]) (vs := [.bool true]) hF rfl (rv_t (by kernel_rfl) <| rv_nil) rfl ⟨rfl, hS⟩
    · refine reg [] [] [0, 1, 5] [pl 0 (.slice A1 a1.length c1), pl 1 (.slice A2 b1.length c2), pl 5 (.int .i64 0)] hF hS Fol (by kernel_rfl) (by kernel_rfl) (by kernel_rfl) ?_ (fun a w hF hS => ?_)
      · exact obs_nil
      refine wpIn_block ?_
      refine wp_loop_model (S := Int) (R := (Fl Unit Bool)) (gameroomref_sameInts_L1 a1 b1) (fun x => (gameroomref_sameInts_K1 x).bind some) r (fun (x : Int) a w => Fr 26 [pl 0 (.slice A1 a1.length c1), pl 1 (.slice A2 b1.length c2), pl 5 (.int .i64 x)] a ∧ Sep w0 B w (fs)) (assoc_b hm) ⟨hF.weak [0, 1, 5] (by kernel_rfl), hS⟩ ?_
      clear hF hS hm
      rintro nn1 i1 a w ⟨hF, hS⟩ hm
      generalize hφ1 : stK (gameroomref_sameInts_L1 a1 b1) nn1 (fun x => (gameroomref_sameInts_K1 x).bind some) = φ1 at hm
      unfold gameroomref_sameInts_L1 at hm
      dsimp only at hm
      refine seq_cut (fun a w => Fr 26 [pl 0 (.slice A1 a1.length c1), pl 1 (.slice A2 b1.length c2), pl 5 (.int .i64 i1)] a ∧ Sep w0 B w (fs) ∧ ((gameroomref_sameInts_J3 a1 b1 i1)).bind φ1 = some r) ?_ ?_
      · rintro a w ⟨hF, hS, hm⟩
        unfold gameroomref_sameInts_J3 at hm
        refine seq_cut (fun a w => Fr 26 [pl 0 (.slice A1 a1.length c1), pl 1 (.slice A2 b1.length c2), pl 5 (.int .i64 i1)] a ∧ Sep w0 B w (fs) ∧ ((gameroomref_sameInts_J4 i1)).bind φ1 = some r) ?_ ?_
        · rintro a w ⟨hF, hS, hm⟩
          unfold gameroomref_sameInts_J4 at hm
          refine reg1 [] [] [0, 1, 5] [pl 0 (.slice A1 a1.length c1), pl 1 (.slice A2 b1.length c2), pl 5 (.int .i64 (w64 (i1 + 1)))] hF hS Fol (by kernel_rfl) (by kernel_rfl) (by kernel_rfl) ?_ (fun a w hF hS => ?_)
          · exact obs_nil
          refine then_n ?_
          rw [← hφ1] at hm
          exact ⟨(w64 (i1 + 1)), ⟨hF.weak [0, 1, 5] (by kernel_rfl), hS⟩, hm⟩
        · refine wpIn_block ?_
          obtain ⟨hp1, hm⟩ := asrt_b hm
          obtain ⟨hp2, hm⟩ := asrt_b hm
          refine reg [⟨true, [], vS (Instr.indexAt 22 (.slice A1 a1.length c1) (.int .i64 i1)), .pointer (some (sAddr A1 i1))⟩, ⟨false, [], vS (Instr.loadAt 3 (.pointer (some (sAddr A1 i1)))), .int .i64 (geti a1 i1)⟩, ⟨true, [], vS (Instr.indexAt 22 (.slice A2 b1.length c2) (.int .i64 i1)), .pointer (some (sAddr A2 i1))⟩, ⟨false, [], vS (Instr.loadAt 3 (.pointer (some (sAddr A2 i1)))), .int .i64 (geti b1 i1)⟩] [none, none, some (.pointer (some (sAddr A1 i1))), some (.int .i64 (geti a1 i1)), none, none, some (.pointer (some (sAddr A2 i1))), some (.int .i64 (geti b1 i1)), none] [0, 1, 5, 25] [pl 0 (.slice A1 a1.length c1), pl 1 (.slice A2 b1.length c2), pl 5 (.int .i64 i1), pl 25 (.bool ((geti a1 i1) != (geti b1 i1)))] hF hS Fol (by kernel_rfl) (by kernel_rfl) (by kernel_rfl) ?_ (fun a w hF hS => ?_)
          · exact obs_cons (ob_ix1 (f := (Value.int .i64)) (m := a1) Und22 hi3 hs3 (hr_a1 _ (hS.dropN 0)) rfl (fun _ => hp1)) <| obs_cons (ob_get1 (n := a1.length) (m := a1) (Value.int .i64) (0 : Int) Agg3 (fun _ hS => ⟨_, (hr_a1 _ (hS.dropN 0))⟩) (fun _ hS => rfl) (fun _ => hp1)) <| obs_cons (ob_ix1 (f := (Value.int .i64)) (m := b1) Und22 hi3 hs3 (hr_b1 _ (hS.dropN 0)) rfl (fun _ => hp2)) <| obs_cons (ob_get1 (n := b1.length) (m := b1) (Value.int .i64) (0 : Int) Agg3 (fun _ hS => ⟨_, (hr_b1 _ (hS.dropN 0))⟩) (fun _ hS => rfl) (fun _ => hp2)) <| obs_nil
          refine cond_ev (t := 25) (b := ((geti a1 i1) != (geti b1 i1))) hF (by kernel_rfl) (fun hb => ?_) (fun hb => ?_)
          · replace hm := if_t hm hb
            refine reg [] [] [4] [pl 4 (.bool false)] hF hS Fol (by kernel_rfl) (by kernel_rfl) (by kernel_rfl) ?_ (fun a w hF hS => ?_)
            · exact obs_nil
            refine wpIn_ret ?_
            refine block_r (then_r (then_r (block_r (then_r ?_))))
            rw [← hφ1] at hm
            replace hm := done_b hm
            unfold gameroomref_sameInts_K1 at hm
            try dsimp only at hm
            have hm : some false = some r := hm
            obtain rfl := Option.some.inj hm
            exact retV (rs := [.tmp 4]) (vs := [.bool false]) hF rfl (rv_t (by kernel_rfl) <| rv_nil) rfl ⟨rfl, hS⟩
          · replace hm := if_f hm hb
            refine wpIn_skip ?_
            refine block_n ?_
            refine then_n ?_
            exact ⟨hF.weak [0, 1, 5] (by kernel_rfl), hS, hm⟩
      · refine reg [] [] [0, 1, 5, 14] [pl 0 (.slice A1 a1.length c1), pl 1 (.slice A2 b1.length c2), pl 5 (.int .i64 i1), pl 14 (.bool (decide (i1 < (a1.length : Int))))] hF hS Fol (by kernel_rfl) (by kernel_rfl) (by kernel_rfl) ?_ (fun a w hF hS => ?_)
        · exact obs_nil
        refine cond_ev (t := 14) (b := decide (i1 < (a1.length : Int))) hF (by kernel_rfl) (fun hb => ?_) (fun hb => ?_)
        · replace hm := if_t hm hb
          refine wpIn_skip ?_
          refine then_n ?_
          exact ⟨hF.weak [0, 1, 5] (by kernel_rfl), hS, hm⟩
        · replace hm := if_f hm hb
          refine wpIn_exit ?_
          refine then_e (then_e (block_e (then_n ?_)))
          rw [← hφ1] at hm
          replace hm := done_b hm
          unfold gameroomref_sameInts_K1 at hm
          try dsimp only at hm
          have hm : (gameroomref_sameInts_J2).bind some = some r := hm
          exact ⟨hF.weak [] (by kernel_rfl), hS, hm⟩
  · refine reg [] [] [0, 1, 10] [pl 0 (.slice A1 a1.length c1), pl 1 (.slice A2 b1.length c2), pl 10 (.bool ((a1.length : Int) != (b1.length : Int)))] hF hS Fol (by kernel_rfl) (by kernel_rfl) (by kernel_rfl) ?_ (fun a w hF hS => ?_)
    · exact obs_nil
    refine cond_ev (t := 10) (b := ((a1.length : Int) != (b1.length : Int))) hF (by kernel_rfl) (fun hb => ?_) (fun hb => ?_)
    · replace hm := if_t hm hb
      refine reg [] [] [4] [pl 4 (.bool false)] hF hS Fol (by kernel_rfl) (by kernel_rfl) (by kernel_rfl) ?_ (fun a w hF hS => ?_)
      · exact obs_nil
      refine wpIn_ret ?_
      refine then_r ?_
      have hm : some false = some r := hm
      obtain rfl := Option.some.inj hm
      exact retV (rs := [.tmp 4]) (vs := [.bool false]) hF rfl (rv_t (by kernel_rfl) <| rv_nil) rfl ⟨rfl, hS⟩
    · replace hm := if_f hm hb
      refine wpIn_skip ?_
      refine then_n ?_
      exact ⟨hF.weak [0, 1] (by kernel_rfl), hS, hm⟩

noncomputable def gameroomref_PictureOf_2_J6  (i1 : Int) (line3 : List Int) : Option (St (List Int × Int) (List Int)) :=
  some (.next (line3, (w64 (i1 + 1))))

noncomputable def gameroomref_PictureOf_2_J5  (columns1 : List (List Int)) (begun1 : List Int) (x1 : Int) (line1 : List Int) (i1 : Int) : Option (St (List Int × Int) (List Int)) :=
  if (decide (i1 < (w64 (Int.tdiv (begun1.length : Int) (columns1.length : Int))))) then (asrt (0 ≤ (w64 ((w64 (i1 * (columns1.length : Int))) + x1)) ∧ (w64 ((w64 (i1 * (columns1.length : Int))) + x1)) < (begun1.length : Int)) <| asrt ((line1.length : Int) + 1 ≤ bigN) <| (gameroomref_PictureOf_2_J6 i1) (line1 ++ ([geti begun1 (w64 ((w64 (i1 * (columns1.length : Int))) + x1))] : List Int))) else (asrt ((line1.length : Int) + 1 ≤ bigN) <| (gameroomref_PictureOf_2_J6 i1) (line1 ++ ([(-1)] : List Int)))

noncomputable def gameroomref_PictureOf_2_J3  (x1 : Int) : Option (St Int (Fl Unit (Int × List Int))) :=
  some (.next (w64 (x1 + 1)))

noncomputable def gameroomref_PictureOf_2_J4  (columns1 : List (List Int)) (last1 : List Int) (x1 : Int) (line2 : List Int) : Option (St Int (Fl Unit (Int × List Int))) :=
  asrt (0 ≤ x1 ∧ x1 < (columns1.length : Int)) <| (gameroomref_LineWays_m line2 (geti2 columns1 x1)).bind fun r1 => if (r1.1 == 0) then (some (.done (.ret (0, last1)))) else ((gameroomref_PictureOf_2_J3 x1))

noncomputable def gameroomref_PictureOf_2_K2  (columns1 : List (List Int)) (last1 : List Int) (x1 : Int) : (List Int) → Option (St Int (Fl Unit (Int × List Int))) :=
  fun (x : (List Int)) => match x with | line2 => (gameroomref_PictureOf_2_J4 columns1 last1 x1) line2

noncomputable def gameroomref_PictureOf_2_L2  (rows1 : List (List Int)) (columns1 : List (List Int)) (begun1 : List Int) (x1 : Int) : (List Int × Int) → Option (St (List Int × Int) (List Int)) :=
  fun (x : (List Int × Int)) => match x with | (line1, i1) => if (decide (i1 < (rows1.length : Int))) then ((gameroomref_PictureOf_2_J5 columns1 begun1 x1 line1 i1)) else (some (.done line1))

noncomputable def gameroomref_PictureOf_2_J2  (rows1 : List (List Int)) (columns1 : List (List Int)) (begun1 : List Int) (last1 : List Int) (x1 : Int) : Option (St Int (Fl Unit (Int × List Int))) :=
  (loop (gameroomref_PictureOf_2_L2 rows1 columns1 begun1 x1) (([] : List Int), 0)).bind (gameroomref_PictureOf_2_K2 columns1 last1 x1)

noncomputable def gameroomref_PictureOf_2_J13  (x2 : Int) (row3 : List Int) : Option (St (List Int × Int) (List Int)) :=
  some (.next (row3, (w64 (x2 + 1))))

noncomputable def gameroomref_PictureOf_2_J12  (k1 : Int) (row1 : List Int) (x2 : Int) : Option (St (List Int × Int) (List Int)) :=
  asrt ((0 : Int) ≤ x2) <| asrt ((row1.length : Int) + 1 ≤ bigN) <| (gameroomref_PictureOf_2_J13 x2) (row1 ++ ([bAnd (shrK .i64 k1 x2) 1] : List Int))

noncomputable def gameroomref_PictureOf_2_L4  (columns1 : List (List Int)) (k1 : Int) : (List Int × Int) → Option (St (List Int × Int) (List Int)) :=
  fun (x : (List Int × Int)) => match x with | (row1, x2) => if (decide (x2 < (columns1.length : Int))) then ((gameroomref_PictureOf_2_J12 k1 row1 x2)) else (some (.done row1))

noncomputable def gameroomref_PictureOf_2_J10  (k1 : Int) (last5 : List Int) (many3 : Int) : Option (St (List Int × Int × Int) (Int × List Int)) :=
  some (.next (last5, many3, (w64 (k1 + 1))))

noncomputable def gameroomref_PictureOf_2_J14  (rec_gameroomref_PictureOf_2 : List (List Int) → List (List Int) → List Int → Int → List Int → Option (Int × List Int)) (rows1 : List (List Int)) (columns1 : List (List Int)) (begun1 : List Int) (most1 : Int) (last3 : List Int) (many1 : Int) (k1 : Int) (row2 : List Int) (z1 : Bool) : Option (St (List Int × Int × Int) (Int × List Int)) :=
  if z1 then ((gameroomref_Ints_m begun1).bind fun r4 => asrt ((r4.length : Int) + (row2.length : Int) ≤ bigN) <| (rec_gameroomref_PictureOf_2 rows1 columns1 (r4 ++ row2) (w64 (most1 - many1)) last3).bind fun r5 => (gameroomref_PictureOf_2_J10 k1) r5.2 (w64 (many1 + r5.1))) else ((gameroomref_PictureOf_2_J10 k1) last3 many1)

noncomputable def gameroomref_PictureOf_2_J11  (rec_gameroomref_PictureOf_2 : List (List Int) → List (List Int) → List Int → Int → List Int → Option (Int × List Int)) (rows1 : List (List Int)) (columns1 : List (List Int)) (begun1 : List Int) (most1 : Int) (last3 : List Int) (many1 : Int) (k1 : Int) (row2 : List Int) : Option (St (List Int × Int × Int) (Int × List Int)) :=
  asrt (0 ≤ (w64 (Int.tdiv (begun1.length : Int) (columns1.length : Int))) ∧ (w64 (Int.tdiv (begun1.length : Int) (columns1.length : Int))) < (rows1.length : Int)) <| (gameroomref_ClueOf_m row2).bind fun r2 => (gameroomref_sameInts_m r2 (geti2 rows1 (w64 (Int.tdiv (begun1.length : Int) (columns1.length : Int))))).bind fun r3 => (gameroomref_PictureOf_2_J14 rec_gameroomref_PictureOf_2 rows1 columns1 begun1 most1 last3 many1 k1 row2) r3

noncomputable def gameroomref_PictureOf_2_K4  (rec_gameroomref_PictureOf_2 : List (List Int) → List (List Int) → List Int → Int → List Int → Option (Int × List Int)) (rows1 : List (List Int)) (columns1 : List (List Int)) (begun1 : List Int) (most1 : Int) (last3 : List Int) (many1 : Int) (k1 : Int) : (List Int) → Option (St (List Int × Int × Int) (Int × List Int)) :=
  fun (x : (List Int)) => match x with | row2 => (gameroomref_PictureOf_2_J11 rec_gameroomref_PictureOf_2 rows1 columns1 begun1 most1 last3 many1 k1) row2

noncomputable def gameroomref_PictureOf_2_J9  (rec_gameroomref_PictureOf_2 : List (List Int) → List (List Int) → List Int → Int → List Int → Option (Int × List Int)) (rows1 : List (List Int)) (columns1 : List (List Int)) (begun1 : List Int) (most1 : Int) (last3 : List Int) (many1 : Int) (k1 : Int) : Option (St (List Int × Int × Int) (Int × List Int)) :=
  (loop (gameroomref_PictureOf_2_L4 columns1 k1) (([] : List Int), 0)).bind (gameroomref_PictureOf_2_K4 rec_gameroomref_PictureOf_2 rows1 columns1 begun1 most1 last3 many1 k1)

noncomputable def gameroomref_PictureOf_2_L3  (rec_gameroomref_PictureOf_2 : List (List Int) → List (List Int) → List Int → Int → List Int → Option (Int × List Int)) (rows1 : List (List Int)) (columns1 : List (List Int)) (begun1 : List Int) (most1 : Int) : (List Int × Int × Int) → Option (St (List Int × Int × Int) (Int × List Int)) :=
  fun (x : (List Int × Int × Int)) => match x with | (last3, many1, k1) => asrt ((0 : Int) ≤ (columns1.length : Int)) <| if ((decide (k1 < (shlK .i64 1 (columns1.length : Int)))) && (decide (many1 < most1))) then ((gameroomref_PictureOf_2_J9 rec_gameroomref_PictureOf_2 rows1 columns1 begun1 most1 last3 many1 k1)) else (some (.done (many1, last3)))

noncomputable def gameroomref_PictureOf_2_J8  (many2 : Int) (last4 : List Int) : Option (Int × List Int) :=
  some (many2, last4)

noncomputable def gameroomref_PictureOf_2_K3  : (Int × List Int) → Option (Int × List Int) :=
  fun (x : (Int × List Int)) => match x with | (many2, last4) => gameroomref_PictureOf_2_J8 many2 last4

noncomputable def gameroomref_PictureOf_2_J7  (rec_gameroomref_PictureOf_2 : List (List Int) → List (List Int) → List Int → Int → List Int → Option (Int × List Int)) (rows1 : List (List Int)) (columns1 : List (List Int)) (begun1 : List Int) (most1 : Int) (last1 : List Int) : Option (Int × List Int) :=
  (loop (gameroomref_PictureOf_2_L3 rec_gameroomref_PictureOf_2 rows1 columns1 begun1 most1) (last1, 0, 0)).bind gameroomref_PictureOf_2_K3

noncomputable def gameroomref_PictureOf_2_J1  (rec_gameroomref_PictureOf_2 : List (List Int) → List (List Int) → List Int → Int → List Int → Option (Int × List Int)) (rows1 : List (List Int)) (columns1 : List (List Int)) (begun1 : List Int) (most1 : Int) (last1 : List Int) : Option (Int × List Int) :=
  if ((w64 (Int.tdiv (begun1.length : Int) (columns1.length : Int))) == (rows1.length : Int)) then (some (1, begun1)) else ((gameroomref_PictureOf_2_J7 rec_gameroomref_PictureOf_2 rows1 columns1 begun1 most1 last1))

noncomputable def gameroomref_PictureOf_2_K1  (rec_gameroomref_PictureOf_2 : List (List Int) → List (List Int) → List Int → Int → List Int → Option (Int × List Int)) (rows1 : List (List Int)) (columns1 : List (List Int)) (begun1 : List Int) (most1 : Int) (last1 : List Int) : (Fl Unit (Int × List Int)) → Option (Int × List Int) :=
  fun (x : (Fl Unit (Int × List Int))) => match x with | .go _ => (gameroomref_PictureOf_2_J1 rec_gameroomref_PictureOf_2 rows1 columns1 begun1 most1 last1) | .ret x => some x

noncomputable def gameroomref_PictureOf_2_L1  (rows1 : List (List Int)) (columns1 : List (List Int)) (begun1 : List Int) (last1 : List Int) : Int → Option (St Int (Fl Unit (Int × List Int))) :=
  fun (x : Int) => match x with | x1 => if (decide (x1 < (columns1.length : Int))) then ((gameroomref_PictureOf_2_J2 rows1 columns1 begun1 last1 x1)) else (some (.done (.go ())))

noncomputable def gameroomref_PictureOf_2_B  (rec_gameroomref_PictureOf_2 : List (List Int) → List (List Int) → List Int → Int → List Int → Option (Int × List Int)) (rows1 : List (List Int)) (columns1 : List (List Int)) (begun1 : List Int) (most1 : Int) (last1 : List Int) : Option (Int × List Int) :=
  asrt ((columns1.length : Int) ≠ (0 : Int)) <| (loop (gameroomref_PictureOf_2_L1 rows1 columns1 begun1 last1) 0).bind (gameroomref_PictureOf_2_K1 rec_gameroomref_PictureOf_2 rows1 columns1 begun1 most1 last1)
end Go.Proofs.Ytdjjomghggplpaa
