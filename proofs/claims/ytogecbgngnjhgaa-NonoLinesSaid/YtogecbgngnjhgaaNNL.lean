/-
  Models and walks, printed by our own program (wip/gen).
-/
import Derived.Test.YtogecbgngnjhgaaFB
import Derived.Test.YtogecbgngnjhgaaFM
import Derived.Test.YtogecbgngnjhgaaNNLa
namespace Go.Proofs.Ytogecbgngnjhgaa
open Go Go.GL Go.RowKit

noncomputable def gameroomref_lineFill_2_m (line1 : List Int) (clue1 : List Int) (begun1 : List Int) (filled1 : List Int) : Option (Int × List Int) :=
  recM fun n => gameroomref_lineFill_2_mF n line1 clue1 begun1 filled1

set_option maxRecDepth 100000 in
set_option maxHeartbeats 4000000 in
theorem gameroomref_lineFill_2_wB {rec_gameroomref_lineFill_2 : List Int → List Int → List Int → List Int → Option (Int × List Int)} (ih_gameroomref_lineFill_2 : ∀ {A1 : Option Addr} {c1 : Nat} {n1 : Nat} {line1 : List Int} {A2 : Option Addr} {c2 : Nat} {n2 : Nat} {clue1 : List Int} {A3 : Option Addr} {c3 : Nat} {n3 : Nat} {begun1 : List Int} {A4 : Option Addr} {c4 : Nat} {n4 : Nat} {filled1 : List Int} {r : (Int × List Int)} {w0 w : World} {B : Nat} {fs : List HP} (_ : rec_gameroomref_lineFill_2 line1 clue1 begun1 filled1 = some r) (_ : Sep w0 B w (own 3 (.slice A4 n4 c4) (vI filled1) :: fs)) (hr_line1 : RdF w0 B fs A1 (vI line1)) (_hc_line1 : line1.length ≤ c1) (_hn_line1 : n1 = line1.length) (hr_clue1 : RdF w0 B fs A2 (vI clue1)) (_hc_clue1 : clue1.length ≤ c2) (_hn_clue1 : n2 = clue1.length) (hr_begun1 : RdF w0 B fs A3 (vI begun1)) (_hc_begun1 : begun1.length ≤ c3) (_hn_begun1 : n3 = begun1.length), Calls Try.prog 90 #[.slice A1 n1 c1, .slice A2 n2 c2, .slice A3 n3 c3, .slice A4 n4 c4] w fun e w' => ∃ v, e = .returned v ∧ v = .int .i64 r.1 ∧ Sep w0 B w' (own 3 (.slice A4 n4 c4) (vI r.2) :: fs)) {A1 : Option Addr} {c1 : Nat} {n1 : Nat} {line1 : List Int} {A2 : Option Addr} {c2 : Nat} {n2 : Nat} {clue1 : List Int} {A3 : Option Addr} {c3 : Nat} {n3 : Nat} {begun1 : List Int} {A4 : Option Addr} {c4 : Nat} {n4 : Nat} {filled1 : List Int} {r : (Int × List Int)} {w0 w : World} {B : Nat} {fs : List HP} (hm : gameroomref_lineFill_2_B rec_gameroomref_lineFill_2 line1 clue1 begun1 filled1 = some r) (hS : Sep w0 B w (own 3 (.slice A4 n4 c4) (vI filled1) :: fs)) (hr_line1 : RdF w0 B fs A1 (vI line1)) (_hc_line1 : line1.length ≤ c1) (_hn_line1 : n1 = line1.length) (hr_clue1 : RdF w0 B fs A2 (vI clue1)) (_hc_clue1 : clue1.length ≤ c2) (_hn_clue1 : n2 = clue1.length) (hr_begun1 : RdF w0 B fs A3 (vI begun1)) (_hc_begun1 : begun1.length ≤ c3) (_hn_begun1 : n3 = begun1.length) :
    Calls Try.prog 90 #[.slice A1 n1 c1, .slice A2 n2 c2, .slice A3 n3 c3, .slice A4 n4 c4] w fun e w' => ∃ v, e = .returned v ∧ v = .int .i64 r.1 ∧ Sep w0 B w' (own 3 (.slice A4 n4 c4) (vI r.2) :: fs) := by
  obtain ⟨i3, hi3, hz3, hs3, hb3⟩ := info_parts Info3
  obtain rfl := (hS.at_ 0 rfl).len1
  obtain rfl := _hn_line1
  obtain rfl := _hn_clue1
  obtain rfl := _hn_begun1
  unfold gameroomref_lineFill_2_B at hm
  replace hm := start_b hm
  refine enter (l := [.slice A1 line1.length c1, .slice A2 clue1.length c2, .slice A3 begun1.length c3, .slice A4 filled1.length c4]) (n := 145) Try.func90 rfl rfl (by simp) (fun a hF => ?_)
  refine reg [] [] [0, 1, 2, 3] [pl 0 (.slice A1 line1.length c1), pl 1 (.slice A2 clue1.length c2), pl 2 (.slice A3 begun1.length c3), pl 3 (.slice A4 filled1.length c4)] hF hS Fol (by kernel_rfl) (by kernel_rfl) (by kernel_rfl) ?_ (fun a w hF hS => ?_)
  · exact obs_nil
  refine reg [] [] [0, 1, 2, 3, 9] [pl 0 (.slice A1 line1.length c1), pl 1 (.slice A2 clue1.length c2), pl 2 (.slice A3 begun1.length c3), pl 3 (.slice A4 filled1.length c4), pl 9 (.int .i64 (begun1.length : Int))] hF hS Fol (by kernel_rfl) (by kernel_rfl) (by kernel_rfl) ?_ (fun a w hF hS => ?_)
  · exact obs_nil
  refine seq_cut (fun a w => Fr 145 [pl 0 (.slice A1 line1.length c1), pl 1 (.slice A2 clue1.length c2), pl 2 (.slice A3 begun1.length c3), pl 3 (.slice A4 filled1.length c4), pl 9 (.int .i64 (begun1.length : Int))] a ∧ Sep w0 B w (own 3 (.slice A4 filled1.length c4) (vI filled1) :: fs) ∧ ((gameroomref_lineFill_2_J1 rec_gameroomref_lineFill_2 line1 clue1 begun1 filled1)).bind some = some r) ?_ ?_
  · rintro a w ⟨hF, hS, hm⟩
    unfold gameroomref_lineFill_2_J1 at hm
    refine reg [] [] [0, 1, 2, 3, 9, 12] [pl 0 (.slice A1 line1.length c1), pl 1 (.slice A2 clue1.length c2), pl 2 (.slice A3 begun1.length c3), pl 3 (.slice A4 filled1.length c4), pl 9 (.int .i64 (begun1.length : Int)), pl 12 (.int .i64 (w64 ((clue1.length : Int) - 1)))] hF hS Fol (by kernel_rfl) (by kernel_rfl) (by kernel_rfl) ?_ (fun a w hF hS => ?_)
    · exact obs_nil
    refine seq_cut (fun a w => ∃ (need2 : Int), Fr 145 [pl 0 (.slice A1 line1.length c1), pl 1 (.slice A2 clue1.length c2), pl 2 (.slice A3 begun1.length c3), pl 3 (.slice A4 filled1.length c4), pl 9 (.int .i64 (begun1.length : Int)), pl 12 (.int .i64 need2)] a ∧ Sep w0 B w (own 3 (.slice A4 filled1.length c4) (vI filled1) :: fs) ∧ ((gameroomref_lineFill_2_J8 rec_gameroomref_lineFill_2 line1 clue1 begun1 filled1) need2).bind some = some r) ?_ ?_
    · rintro a w ⟨need2, hF, hS, hm⟩
      unfold gameroomref_lineFill_2_J8 at hm
      refine reg [] [] [0, 1, 2, 3, 9, 12, 14] [pl 0 (.slice A1 line1.length c1), pl 1 (.slice A2 clue1.length c2), pl 2 (.slice A3 begun1.length c3), pl 3 (.slice A4 filled1.length c4), pl 9 (.int .i64 (begun1.length : Int)), pl 12 (.int .i64 need2), pl 14 (.int .i64 0)] hF hS Fol (by kernel_rfl) (by kernel_rfl) (by kernel_rfl) ?_ (fun a w hF hS => ?_)
      · exact obs_nil
      refine seq_cut (fun a w => ∃ (many2 : Int) (filled6 : List Int), Fr 145 [pl 14 (.int .i64 many2)] a ∧ Sep w0 B w (own 3 (.slice A4 filled1.length c4) (vI filled6) :: fs) ∧ (gameroomref_lineFill_2_J11 many2 filled6).bind some = some r) ?_ ?_
      · rintro a w ⟨many2, filled6, hF, hS, hm⟩
        unfold gameroomref_lineFill_2_J11 at hm
        refine reg [] [] [8] [pl 8 (.int .i64 many2)] hF hS Fol (by kernel_rfl) (by kernel_rfl) (by kernel_rfl) ?_ (fun a w hF hS => ?_)
        · exact obs_nil
        refine wp_ret ?_
        have hm : some (many2, filled6) = some r := hm
        obtain rfl := Option.some.inj hm
        exact retV (rs := [.tmp 8]) (vs := [.int .i64 many2]) hF rfl (rv_t (by kernel_rfl) <| rv_nil) rfl ⟨_, rfl, rfl, hS⟩
      · refine reg [] [] [0, 1, 2, 3, 9, 12, 14, 15] [pl 0 (.slice A1 line1.length c1), pl 1 (.slice A2 clue1.length c2), pl 2 (.slice A3 begun1.length c3), pl 3 (.slice A4 filled1.length c4), pl 9 (.int .i64 (begun1.length : Int)), pl 12 (.int .i64 need2), pl 14 (.int .i64 0), pl 15 (.int .i64 0)] hF hS Fol (by kernel_rfl) (by kernel_rfl) (by kernel_rfl) ?_ (fun a w hF hS => ?_)
        · exact obs_nil
        refine wp_block ?_
        refine wp_loop_model (S := (List Int × Int × Int)) (R := (Int × List Int)) (gameroomref_lineFill_2_L4 rec_gameroomref_lineFill_2 line1 clue1 begun1 need2) (fun x => (gameroomref_lineFill_2_K4 x).bind some) r (fun (x : (List Int × Int × Int)) a w => Fr 145 [pl 0 (.slice A1 line1.length c1), pl 1 (.slice A2 clue1.length c2), pl 2 (.slice A3 begun1.length c3), pl 3 (.slice A4 filled1.length c4), pl 9 (.int .i64 (begun1.length : Int)), pl 12 (.int .i64 need2), pl 14 (.int .i64 x.2.1), pl 15 (.int .i64 x.2.2)] a ∧ Sep w0 B w (own 3 (.slice A4 filled1.length c4) (vI x.1) :: fs)) (assoc_b hm) ⟨hF.weak [0, 1, 2, 3, 9, 12, 14, 15] (by kernel_rfl), hS⟩ ?_
        clear hF hS hm
        rintro nn4 ⟨filled5, many1, gap1⟩ a w ⟨hF, hS⟩ hm
        generalize hφ4 : stK (gameroomref_lineFill_2_L4 rec_gameroomref_lineFill_2 line1 clue1 begun1 need2) nn4 (fun x => (gameroomref_lineFill_2_K4 x).bind some) = φ4 at hm
        unfold gameroomref_lineFill_2_L4 at hm
        dsimp only at hF hS hm
        refine seq_cut (fun a w => Fr 145 [pl 0 (.slice A1 line1.length c1), pl 1 (.slice A2 clue1.length c2), pl 2 (.slice A3 begun1.length c3), pl 3 (.slice A4 filled1.length c4), pl 9 (.int .i64 (begun1.length : Int)), pl 12 (.int .i64 need2), pl 14 (.int .i64 many1), pl 15 (.int .i64 gap1)] a ∧ Sep w0 B w (own 3 (.slice A4 filled1.length c4) (vI filled5) :: fs) ∧ ((gameroomref_lineFill_2_J12 rec_gameroomref_lineFill_2 line1 clue1 begun1 filled5 many1 gap1)).bind φ4 = some r) ?_ ?_
        · rintro a w ⟨hF, hS, hm⟩
          unfold gameroomref_lineFill_2_J12 at hm
          refine seq_cut (fun a w => ∃ (filled7 : List Int) (many3 : Int), Fr 145 [pl 0 (.slice A1 line1.length c1), pl 1 (.slice A2 clue1.length c2), pl 2 (.slice A3 begun1.length c3), pl 3 (.slice A4 filled1.length c4), pl 9 (.int .i64 (begun1.length : Int)), pl 12 (.int .i64 need2), pl 14 (.int .i64 many3), pl 15 (.int .i64 gap1)] a ∧ Sep w0 B w (own 3 (.slice A4 filled1.length c4) (vI filled7) :: fs) ∧ ((gameroomref_lineFill_2_J13 gap1) filled7 many3).bind φ4 = some r) ?_ ?_
          · rintro a w ⟨filled7, many3, hF, hS, hm⟩
            unfold gameroomref_lineFill_2_J13 at hm
            refine reg1 [] [] [0, 1, 2, 3, 9, 12, 14, 15] [pl 0 (.slice A1 line1.length c1), pl 1 (.slice A2 clue1.length c2), pl 2 (.slice A3 begun1.length c3), pl 3 (.slice A4 filled1.length c4), pl 9 (.int .i64 (begun1.length : Int)), pl 12 (.int .i64 need2), pl 14 (.int .i64 many3), pl 15 (.int .i64 (w64 (gap1 + 1)))] hF hS Fol (by kernel_rfl) (by kernel_rfl) (by kernel_rfl) ?_ (fun a w hF hS => ?_)
            · exact obs_nil
            refine then_n ?_
            rw [← hφ4] at hm
            exact ⟨(filled7, many3, (w64 (gap1 + 1))), ⟨hF.weak [0, 1, 2, 3, 9, 12, 14, 15] (by kernel_rfl), hS⟩, hm⟩
          · refine wp_block ?_
            refine seq_cut (fun a w => Fr 145 [pl 0 (.slice A1 line1.length c1), pl 1 (.slice A2 clue1.length c2), pl 2 (.slice A3 begun1.length c3), pl 3 (.slice A4 filled1.length c4), pl 9 (.int .i64 (begun1.length : Int)), pl 12 (.int .i64 need2), pl 14 (.int .i64 many1), pl 15 (.int .i64 gap1)] a ∧ Sep w0 B w (own 3 (.slice A4 filled1.length c4) (vI filled5) :: fs) ∧ ((gameroomref_lineFill_2_J14 rec_gameroomref_lineFill_2 line1 clue1 begun1 filled5 many1 gap1)).bind φ4 = some r) ?_ ?_
            · rintro a w ⟨hF, hS, hm⟩
              unfold gameroomref_lineFill_2_J14 at hm
              refine seqR ?_
              obtain ⟨r1, hr1, hm⟩ := call_b hm
              refine at_run 1 [] [] [0, 1, 2, 3, 9, 12, 14, 15, 89] [pl 0 (.slice A1 line1.length c1), pl 1 (.slice A2 clue1.length c2), pl 2 (.slice A3 begun1.length c3), pl 3 (.slice A4 filled1.length c4), pl 9 (.int .i64 (begun1.length : Int)), pl 12 (.int .i64 need2), pl 14 (.int .i64 many1), pl 15 (.int .i64 gap1), pl 89 (.slice A3 begun1.length c3)] hF hS (by kernel_rfl) (by kernel_rfl) ?_ (fun a w hF hS => ?_)
              · exact obs_nil
              refine at_call (f := 58) (args := #[.slice A3 begun1.length c3]) (d := 90) hF (by kernel_rfl) (by kernel_rfl) Try.func58 (by kernel_rfl) rfl (gameroomref_Ints_w hr1 hS (fun _ hS => (hr_begun1 _ (hS.dropN 1))) _hc_begun1 rfl) (fun v a w hR hF => ?_)
              clear hS
              obtain ⟨A5, c5, rfl, hS⟩ := hR
              have hS : Sep w0 B w (own 3 (.slice A5 r1.length c5) (vI r1) :: own 3 (.slice A4 filled1.length c4) (vI filled5) :: fs) := hS
              refine at_run 1 [] [] [0, 1, 2, 3, 9, 12, 14, 15, 16] [pl 0 (.slice A1 line1.length c1), pl 1 (.slice A2 clue1.length c2), pl 2 (.slice A3 begun1.length c3), pl 3 (.slice A4 filled1.length c4), pl 9 (.int .i64 (begun1.length : Int)), pl 12 (.int .i64 need2), pl 14 (.int .i64 many1), pl 15 (.int .i64 gap1), pl 16 (.slice A5 r1.length c5)] hF hS (by kernel_rfl) (by kernel_rfl) ?_ (fun a w hF hS => ?_)
              · exact obs_nil
              refine at_end [0, 1, 2, 3, 9, 12, 14, 15, 16] [pl 0 (.slice A1 line1.length c1), pl 1 (.slice A2 clue1.length c2), pl 2 (.slice A3 begun1.length c3), pl 3 (.slice A4 filled1.length c4), pl 9 (.int .i64 (begun1.length : Int)), pl 12 (.int .i64 need2), pl 14 (.int .i64 many1), pl 15 (.int .i64 gap1), pl 16 (.slice A5 r1.length c5)] hF rfl (by kernel_rfl) (fun hF => ?_)
              refine then_n ?_
              refine seq_cut (fun a w => ∃ (next2 : List Int) (A7 : Option Addr) (c7 : Nat), Fr 145 [pl 0 (.slice A1 line1.length c1), pl 1 (.slice A2 clue1.length c2), pl 2 (.slice A3 begun1.length c3), pl 3 (.slice A4 filled1.length c4), pl 9 (.int .i64 (begun1.length : Int)), pl 12 (.int .i64 need2), pl 14 (.int .i64 many1), pl 15 (.int .i64 gap1), pl 16 (.slice A7 next2.length c7)] a ∧ Sep w0 B w (own 3 (.slice A4 filled1.length c4) (vI filled5) :: own 3 (.slice A7 next2.length c7) (vI next2) :: fs) ∧ ((gameroomref_lineFill_2_J15 rec_gameroomref_lineFill_2 line1 clue1 filled5 many1 gap1) next2).bind φ4 = some r) ?_ ?_
              · rintro a w ⟨next2, A7, c7, hF, hS, hm⟩
                unfold gameroomref_lineFill_2_J15 at hm
                refine reg [] [] [0, 1, 2, 3, 9, 12, 14, 15, 16, 18] [pl 0 (.slice A1 line1.length c1), pl 1 (.slice A2 clue1.length c2), pl 2 (.slice A3 begun1.length c3), pl 3 (.slice A4 filled1.length c4), pl 9 (.int .i64 (begun1.length : Int)), pl 12 (.int .i64 need2), pl 14 (.int .i64 many1), pl 15 (.int .i64 gap1), pl 16 (.slice A7 next2.length c7), pl 18 (.bool true)] hF hS Fol (by kernel_rfl) (by kernel_rfl) (by kernel_rfl) ?_ (fun a w hF hS => ?_)
                · exact obs_nil
                refine seq_cut (fun a w => ∃ (next5 : List Int) (ok2 : Bool) (A11 : Option Addr) (c11 : Nat), Fr 145 [pl 0 (.slice A1 line1.length c1), pl 1 (.slice A2 clue1.length c2), pl 2 (.slice A3 begun1.length c3), pl 3 (.slice A4 filled1.length c4), pl 9 (.int .i64 (begun1.length : Int)), pl 12 (.int .i64 need2), pl 14 (.int .i64 many1), pl 15 (.int .i64 gap1), pl 16 (.slice A11 next5.length c11), pl 18 (.bool ok2)] a ∧ Sep w0 B w (own 3 (.slice A4 filled1.length c4) (vI filled5) :: own 3 (.slice A11 next5.length c11) (vI next5) :: fs) ∧ ((gameroomref_lineFill_2_J18 rec_gameroomref_lineFill_2 line1 clue1 filled5 many1 gap1) next5 ok2).bind φ4 = some r) ?_ ?_
                · rintro a w ⟨next5, ok2, A11, c11, hF, hS, hm⟩
                  unfold gameroomref_lineFill_2_J18 at hm
                  refine seq_cut (fun a w => ∃ (next7 : List Int) (ok3 : Bool) (A15 : Option Addr) (c15 : Nat), Fr 145 [pl 0 (.slice A1 line1.length c1), pl 1 (.slice A2 clue1.length c2), pl 2 (.slice A3 begun1.length c3), pl 3 (.slice A4 filled1.length c4), pl 9 (.int .i64 (begun1.length : Int)), pl 12 (.int .i64 need2), pl 14 (.int .i64 many1), pl 15 (.int .i64 gap1), pl 16 (.slice A15 next7.length c15), pl 18 (.bool ok3)] a ∧ Sep w0 B w (own 3 (.slice A4 filled1.length c4) (vI filled5) :: own 3 (.slice A15 next7.length c15) (vI next7) :: fs) ∧ ((gameroomref_lineFill_2_J21 rec_gameroomref_lineFill_2 line1 clue1 filled5 many1 gap1) next7 ok3).bind φ4 = some r) ?_ ?_
                  · rintro a w ⟨next7, ok3, A15, c15, hF, hS, hm⟩
                    unfold gameroomref_lineFill_2_J21 at hm
                    refine reg [] [] [0, 1, 2, 3, 9, 12, 14, 15, 16, 135] [pl 0 (.slice A1 line1.length c1), pl 1 (.slice A2 clue1.length c2), pl 2 (.slice A3 begun1.length c3), pl 3 (.slice A4 filled1.length c4), pl 9 (.int .i64 (begun1.length : Int)), pl 12 (.int .i64 need2), pl 14 (.int .i64 many1), pl 15 (.int .i64 gap1), pl 16 (.slice A15 next7.length c15), pl 135 (.bool ok3)] hF hS Fol (by kernel_rfl) (by kernel_rfl) (by kernel_rfl) ?_ (fun a w hF hS => ?_)
                    · exact obs_nil
                    refine cond_ev (t := 135) (b := ok3) hF (by kernel_rfl) (fun hb => ?_) (fun hb => ?_)
                    · replace hm := if_t hm hb
                      refine oneR ?_
                      obtain ⟨hp13, hm⟩ := asrt_b hm
                      obtain ⟨r2, hr2, hm⟩ := call_b hm
                      refine at_run 6 [⟨true, [], vS (Instr.sliceAt 22 (.slice A2 clue1.length c2) (some (.int .i64 (1 : Int))) none none), .slice (cutAddr A2 c2 (1 : Int)) ((cut clue1 (1 : Int) (clue1.length : Int)).length) (c2 - Int.toNat (1 : Int))⟩] [none, none, none, some (.slice (cutAddr A2 c2 (1 : Int)) ((cut clue1 (1 : Int) (clue1.length : Int)).length) (c2 - Int.toNat (1 : Int))), none, none] [0, 1, 2, 3, 9, 12, 15, 136, 137, 139, 140, 141] [pl 0 (.slice A1 line1.length c1), pl 1 (.slice A2 clue1.length c2), pl 2 (.slice A3 begun1.length c3), pl 3 (.slice A4 filled1.length c4), pl 9 (.int .i64 (begun1.length : Int)), pl 12 (.int .i64 need2), pl 15 (.int .i64 gap1), pl 136 (.int .i64 many1), pl 137 (.slice A1 line1.length c1), pl 139 (.slice (cutAddr A2 c2 (1 : Int)) ((cut clue1 (1 : Int) (clue1.length : Int)).length) (c2 - Int.toNat (1 : Int))), pl 140 (.slice A15 next7.length c15), pl 141 (.slice A4 filled1.length c4)] hF hS (by kernel_rfl) (by kernel_rfl) ?_ (fun a w hF hS => ?_)
                      · exact obs_cons (ob_cutn (l := clue1) (k := .i64) (k' := .i64) Und22 hi3 hs3 rfl (.inl rfl) (.inr ⟨rfl, rfl⟩) (fun _ => hp13) _hc_clue1) <| obs_nil
                      refine at_call (f := 90) (args := #[.slice A1 line1.length c1, .slice (cutAddr A2 c2 (1 : Int)) ((cut clue1 (1 : Int) (clue1.length : Int)).length) (c2 - Int.toNat (1 : Int)), .slice A15 next7.length c15, .slice A4 filled1.length c4]) (d := 142) hF (by kernel_rfl) (by kernel_rfl) Try.func90 (by kernel_rfl) rfl (ih_gameroomref_lineFill_2 hr2 hS (fun _ hS => (hr_line1 _ (hS.dropN 1))) _hc_line1 rfl (fun _ hS => (Rd.cutF (hr_clue1 _ (hS.dropN 1)) hp13 _hc_clue1)) (cap_cut hp13 _hc_clue1) rfl (fun _ hS => (hS.at_ 0 rfl).rd) (((hS.dropN 1).at_ 0 rfl).cap1) rfl) (fun v a w hR hF => ?_)
                      clear hS
                      obtain ⟨rfl, hS⟩ := hR
                      have hS : Sep w0 B w (own 3 (.slice A4 filled1.length c4) (vI r2.2) :: own 3 (.slice A15 next7.length c15) (vI next7) :: fs) := hS
                      refine at_run 2 [] [] [0, 1, 2, 3, 9, 12, 14, 15] [pl 0 (.slice A1 line1.length c1), pl 1 (.slice A2 clue1.length c2), pl 2 (.slice A3 begun1.length c3), pl 3 (.slice A4 filled1.length c4), pl 9 (.int .i64 (begun1.length : Int)), pl 12 (.int .i64 need2), pl 14 (.int .i64 (w64 (many1 + r2.1))), pl 15 (.int .i64 gap1)] hF hS (by kernel_rfl) (by kernel_rfl) ?_ (fun a w hF hS => ?_)
                      · exact obs_nil
                      refine at_end [0, 1, 2, 3, 9, 12, 14, 15] [pl 0 (.slice A1 line1.length c1), pl 1 (.slice A2 clue1.length c2), pl 2 (.slice A3 begun1.length c3), pl 3 (.slice A4 filled1.length c4), pl 9 (.int .i64 (begun1.length : Int)), pl 12 (.int .i64 need2), pl 14 (.int .i64 (w64 (many1 + r2.1))), pl 15 (.int .i64 gap1)] hF rfl (by kernel_rfl) (fun hF => ?_)
                      refine block_n ?_
                      refine then_n ?_
                      have hS := hS.pickN 2 [0] (by decide)
                      exact ⟨r2.2, (w64 (many1 + r2.1)), hF.weak [0, 1, 2, 3, 9, 12, 14, 15] (by kernel_rfl), hS, hm⟩
                    · replace hm := if_f hm hb
                      refine wp_skip ?_
                      refine block_n ?_
                      refine then_n ?_
                      have hS := hS.pickN 2 [0] (by decide)
                      exact ⟨filled5, many1, hF.weak [0, 1, 2, 3, 9, 12, 14, 15] (by kernel_rfl), hS, hm⟩
                  · refine reg [] [] [0, 1, 2, 3, 9, 12, 14, 15, 16, 18, 122] [pl 0 (.slice A1 line1.length c1), pl 1 (.slice A2 clue1.length c2), pl 2 (.slice A3 begun1.length c3), pl 3 (.slice A4 filled1.length c4), pl 9 (.int .i64 (begun1.length : Int)), pl 12 (.int .i64 need2), pl 14 (.int .i64 many1), pl 15 (.int .i64 gap1), pl 16 (.slice A11 next5.length c11), pl 18 (.bool ok2), pl 122 (.bool (decide ((next5.length : Int) < (line1.length : Int))))] hF hS Fol (by kernel_rfl) (by kernel_rfl) (by kernel_rfl) ?_ (fun a w hF hS => ?_)
                    · exact obs_nil
                    refine cond_ev (t := 122) (b := decide ((next5.length : Int) < (line1.length : Int))) hF (by kernel_rfl) (fun hb => ?_) (fun hb => ?_)
                    · replace hm := if_t hm hb
                      obtain ⟨hp11, hm⟩ := asrt_b hm
                      refine reg [⟨true, [(ok2, true)], vS (Instr.indexAt 22 (.slice A1 line1.length c1) (.int .i64 (next5.length : Int))), .pointer (some (sAddr A1 (next5.length : Int)))⟩, ⟨false, [(ok2, true)], vS (Instr.loadAt 3 (.pointer (some (sAddr A1 (next5.length : Int))))), .int .i64 (geti line1 (next5.length : Int))⟩] [none, none, none, none, none, some (.pointer (some (sAddr A1 (next5.length : Int)))), some (.int .i64 (geti line1 (next5.length : Int))), none, none, none] [0, 1, 2, 3, 9, 12, 14, 15, 16, 18] [pl 0 (.slice A1 line1.length c1), pl 1 (.slice A2 clue1.length c2), pl 2 (.slice A3 begun1.length c3), pl 3 (.slice A4 filled1.length c4), pl 9 (.int .i64 (begun1.length : Int)), pl 12 (.int .i64 need2), pl 14 (.int .i64 many1), pl 15 (.int .i64 gap1), pl 16 (.slice A11 next5.length c11), pl 18 (.bool (ok2 && ((geti line1 (next5.length : Int)) != 1)))] hF hS Fol (by kernel_rfl) (by kernel_rfl) (by kernel_rfl) ?_ (fun a w hF hS => ?_)
                      · exact obs_cons (ob_ix1 (f := (Value.int .i64)) (m := line1) Und22 hi3 hs3 (hr_line1 _ (hS.dropN 2)) rfl (fun hy => hp11 (hy (ok2, true) (by simp)))) <| obs_cons (ob_get1 (n := line1.length) (m := line1) (Value.int .i64) (0 : Int) Agg3 (fun _ hS => ⟨_, (hr_line1 _ (hS.dropN 2))⟩) (fun _ hS => rfl) (fun hy => hp11 (hy (ok2, true) (by simp)))) <| obs_nil
                      refine oneR ?_
                      obtain ⟨hp12, hm⟩ := asrt_b hm
                      refine at_run 1 [] [] [0, 1, 2, 3, 9, 12, 14, 15, 18, 132] [pl 0 (.slice A1 line1.length c1), pl 1 (.slice A2 clue1.length c2), pl 2 (.slice A3 begun1.length c3), pl 3 (.slice A4 filled1.length c4), pl 9 (.int .i64 (begun1.length : Int)), pl 12 (.int .i64 need2), pl 14 (.int .i64 many1), pl 15 (.int .i64 gap1), pl 18 (.bool (ok2 && ((geti line1 (next5.length : Int)) != 1))), pl 132 (.slice A11 next5.length c11)] hF hS (by kernel_rfl) (by kernel_rfl) ?_ (fun a w hF hS => ?_)
                      · exact obs_nil
                      refine at_do (d := 133) (s := vS (Instr.buildSlice 22 1 #[(0, .int .i64 0)])) (v := .slice (some ⟨w.heap.size, 0, none⟩) 1 1) (w' := w.alloc (.cells #[.int .i64 0] 3)) hF (by kernel_rfl) (by kernel_rfl) (by kernel_rfl) (fun a hF => ?_)
                      have hS : Sep w0 B (w.alloc (.cells #[.int .i64 0] 3)) (own 3 (.slice (some (⟨w.heap.size, 0, none⟩ : Addr)) 1 1) (vI ([0] : List Int)) :: (own 3 (.slice A4 filled1.length c4) (vI filled5) :: own 3 (.slice A11 next5.length c11) (vI next5) :: fs)) := hS.lit 3 #[.int .i64 0] 1 rfl (by omega)
                      generalize (some (⟨w.heap.size, 0, none⟩ : Addr)) = g3 at hF hS
                      generalize w.alloc (.cells #[.int .i64 0] 3) = w at hS ⊢
                      obtain ⟨A14, c14, w, hrun, hS⟩ := run_app1 (P := Try.prog) (t := 22) (m := next5) (ys := ([0] : List Int)) (A2 := g3) (m2 := 1) (c2 := 1) (Value.int .i64) (0 : Int) (hS.at_ 2 rfl) (hS.at_ 0 rfl).rd ((hS.at_ 0 rfl).len1) 22 Und22 hi3 hz3 hs3 (by omega) rfl (fun _ => rfl) hp12
                      have hS : Sep w0 B w (own 3 (.slice g3 1 1) (vI ([0] : List Int)) :: own 3 (.slice A4 filled1.length c4) (vI filled5) :: own 3 (.slice A14 ((next5 ++ ([0] : List Int)).length) c14) (vI (next5 ++ ([0] : List Int))) :: fs) := hS
                      refine at_do (d := 134) hF (by kernel_rfl) (by kernel_rfl) hrun (fun a hF => ?_)
                      refine at_run 1 [] [] [0, 1, 2, 3, 9, 12, 14, 15, 16, 18] [pl 0 (.slice A1 line1.length c1), pl 1 (.slice A2 clue1.length c2), pl 2 (.slice A3 begun1.length c3), pl 3 (.slice A4 filled1.length c4), pl 9 (.int .i64 (begun1.length : Int)), pl 12 (.int .i64 need2), pl 14 (.int .i64 many1), pl 15 (.int .i64 gap1), pl 16 (.slice A14 ((next5 ++ ([0] : List Int)).length) c14), pl 18 (.bool (ok2 && ((geti line1 (next5.length : Int)) != 1)))] hF hS (by kernel_rfl) (by kernel_rfl) ?_ (fun a w hF hS => ?_)
                      · exact obs_nil
                      refine at_end [0, 1, 2, 3, 9, 12, 14, 15, 16, 18] [pl 0 (.slice A1 line1.length c1), pl 1 (.slice A2 clue1.length c2), pl 2 (.slice A3 begun1.length c3), pl 3 (.slice A4 filled1.length c4), pl 9 (.int .i64 (begun1.length : Int)), pl 12 (.int .i64 need2), pl 14 (.int .i64 many1), pl 15 (.int .i64 gap1), pl 16 (.slice A14 ((next5 ++ ([0] : List Int)).length) c14), pl 18 (.bool (ok2 && ((geti line1 (next5.length : Int)) != 1)))] hF rfl (by kernel_rfl) (fun hF => ?_)
                      refine then_n ?_
                      have hS := hS.pickN 3 [1, 2] (by decide)
                      exact ⟨(next5 ++ ([0] : List Int)), (ok2 && ((geti line1 (next5.length : Int)) != 1)), A14, c14, hF.weak [0, 1, 2, 3, 9, 12, 14, 15, 16, 18] (by kernel_rfl), hS, hm⟩
                    · replace hm := if_f hm hb
                      refine wp_skip ?_
                      refine then_n ?_
                      exact ⟨next5, ok2, A11, c11, hF.weak [0, 1, 2, 3, 9, 12, 14, 15, 16, 18] (by kernel_rfl), hS, hm⟩
                · refine reg [] [] [0, 1, 2, 3, 9, 12, 14, 15, 16, 18, 19] [pl 0 (.slice A1 line1.length c1), pl 1 (.slice A2 clue1.length c2), pl 2 (.slice A3 begun1.length c3), pl 3 (.slice A4 filled1.length c4), pl 9 (.int .i64 (begun1.length : Int)), pl 12 (.int .i64 need2), pl 14 (.int .i64 many1), pl 15 (.int .i64 gap1), pl 16 (.slice A7 next2.length c7), pl 18 (.bool true), pl 19 (.int .i64 0)] hF hS Fol (by kernel_rfl) (by kernel_rfl) (by kernel_rfl) ?_ (fun a w hF hS => ?_)
                  · exact obs_nil
                  refine wp_block ?_
                  refine wp_loop_model (S := (List Int × Bool × Int)) (R := (List Int × Bool)) (gameroomref_lineFill_2_L6 line1 clue1) (fun x => ((gameroomref_lineFill_2_K6 rec_gameroomref_lineFill_2 line1 clue1 filled5 many1 gap1) x).bind φ4) r (fun (x : (List Int × Bool × Int)) a w => ∃ (A10 : Option Addr) (c10 : Nat), Fr 145 [pl 0 (.slice A1 line1.length c1), pl 1 (.slice A2 clue1.length c2), pl 2 (.slice A3 begun1.length c3), pl 3 (.slice A4 filled1.length c4), pl 9 (.int .i64 (begun1.length : Int)), pl 12 (.int .i64 need2), pl 14 (.int .i64 many1), pl 15 (.int .i64 gap1), pl 16 (.slice A10 x.1.length c10), pl 18 (.bool x.2.1), pl 19 (.int .i64 x.2.2)] a ∧ Sep w0 B w (own 3 (.slice A4 filled1.length c4) (vI filled5) :: own 3 (.slice A10 x.1.length c10) (vI x.1) :: fs)) (assoc_b hm) ⟨A7, c7, hF.weak [0, 1, 2, 3, 9, 12, 14, 15, 16, 18, 19] (by kernel_rfl), hS⟩ ?_
                  clear hF hS hm
                  rintro nn6 ⟨next4, ok1, i5⟩ a w ⟨A10, c10, hF, hS⟩ hm
                  generalize hφ6 : stK (gameroomref_lineFill_2_L6 line1 clue1) nn6 (fun x => ((gameroomref_lineFill_2_K6 rec_gameroomref_lineFill_2 line1 clue1 filled5 many1 gap1) x).bind φ4) = φ6 at hm
                  unfold gameroomref_lineFill_2_L6 at hm
                  dsimp only at hF hS hm
                  refine seq_cut (fun a w => Fr 145 [pl 0 (.slice A1 line1.length c1), pl 1 (.slice A2 clue1.length c2), pl 2 (.slice A3 begun1.length c3), pl 3 (.slice A4 filled1.length c4), pl 9 (.int .i64 (begun1.length : Int)), pl 12 (.int .i64 need2), pl 14 (.int .i64 many1), pl 15 (.int .i64 gap1), pl 16 (.slice A10 next4.length c10), pl 18 (.bool ok1), pl 19 (.int .i64 i5)] a ∧ Sep w0 B w (own 3 (.slice A4 filled1.length c4) (vI filled5) :: own 3 (.slice A10 next4.length c10) (vI next4) :: fs) ∧ ((gameroomref_lineFill_2_J19 line1 next4 ok1 i5)).bind φ6 = some r) ?_ ?_
                  · rintro a w ⟨hF, hS, hm⟩
                    unfold gameroomref_lineFill_2_J19 at hm
                    refine seq_cut (fun a w => ∃ (next6 : List Int) (A13 : Option Addr) (c13 : Nat), Fr 145 [pl 0 (.slice A1 line1.length c1), pl 1 (.slice A2 clue1.length c2), pl 2 (.slice A3 begun1.length c3), pl 3 (.slice A4 filled1.length c4), pl 9 (.int .i64 (begun1.length : Int)), pl 12 (.int .i64 need2), pl 14 (.int .i64 many1), pl 15 (.int .i64 gap1), pl 16 (.slice A13 next6.length c13), pl 18 (.bool (ok1 && ((geti line1 (next4.length : Int)) != 0))), pl 19 (.int .i64 i5)] a ∧ Sep w0 B w (own 3 (.slice A4 filled1.length c4) (vI filled5) :: own 3 (.slice A13 next6.length c13) (vI next6) :: fs) ∧ ((gameroomref_lineFill_2_J20 line1 next4 ok1 i5) next6).bind φ6 = some r) ?_ ?_
                    · rintro a w ⟨next6, A13, c13, hF, hS, hm⟩
                      unfold gameroomref_lineFill_2_J20 at hm
                      refine reg1 [] [] [0, 1, 2, 3, 9, 12, 14, 15, 16, 18, 19] [pl 0 (.slice A1 line1.length c1), pl 1 (.slice A2 clue1.length c2), pl 2 (.slice A3 begun1.length c3), pl 3 (.slice A4 filled1.length c4), pl 9 (.int .i64 (begun1.length : Int)), pl 12 (.int .i64 need2), pl 14 (.int .i64 many1), pl 15 (.int .i64 gap1), pl 16 (.slice A13 next6.length c13), pl 18 (.bool (ok1 && ((geti line1 (next4.length : Int)) != 0))), pl 19 (.int .i64 (w64 (i5 + 1)))] hF hS Fol (by kernel_rfl) (by kernel_rfl) (by kernel_rfl) ?_ (fun a w hF hS => ?_)
                      · exact obs_nil
                      refine then_n ?_
                      rw [← hφ6] at hm
                      exact ⟨(next6, (ok1 && ((geti line1 (next4.length : Int)) != 0)), (w64 (i5 + 1))), ⟨A13, c13, hF.weak [0, 1, 2, 3, 9, 12, 14, 15, 16, 18, 19] (by kernel_rfl), hS⟩, hm⟩
                    · refine wp_block ?_
                      obtain ⟨hp9, hm⟩ := asrt_b hm
                      refine reg [⟨true, [(ok1, true)], vS (Instr.indexAt 22 (.slice A1 line1.length c1) (.int .i64 (next4.length : Int))), .pointer (some (sAddr A1 (next4.length : Int)))⟩, ⟨false, [(ok1, true)], vS (Instr.loadAt 3 (.pointer (some (sAddr A1 (next4.length : Int))))), .int .i64 (geti line1 (next4.length : Int))⟩] [none, none, none, none, none, some (.pointer (some (sAddr A1 (next4.length : Int)))), some (.int .i64 (geti line1 (next4.length : Int))), none, none, none] [0, 1, 2, 3, 9, 12, 14, 15, 16, 18, 19] [pl 0 (.slice A1 line1.length c1), pl 1 (.slice A2 clue1.length c2), pl 2 (.slice A3 begun1.length c3), pl 3 (.slice A4 filled1.length c4), pl 9 (.int .i64 (begun1.length : Int)), pl 12 (.int .i64 need2), pl 14 (.int .i64 many1), pl 15 (.int .i64 gap1), pl 16 (.slice A10 next4.length c10), pl 18 (.bool (ok1 && ((geti line1 (next4.length : Int)) != 0))), pl 19 (.int .i64 i5)] hF hS Fol (by kernel_rfl) (by kernel_rfl) (by kernel_rfl) ?_ (fun a w hF hS => ?_)
                      · exact obs_cons (ob_ix1 (f := (Value.int .i64)) (m := line1) Und22 hi3 hs3 (hr_line1 _ (hS.dropN 2)) rfl (fun hy => hp9 (hy (ok1, true) (by simp)))) <| obs_cons (ob_get1 (n := line1.length) (m := line1) (Value.int .i64) (0 : Int) Agg3 (fun _ hS => ⟨_, (hr_line1 _ (hS.dropN 2))⟩) (fun _ hS => rfl) (fun hy => hp9 (hy (ok1, true) (by simp)))) <| obs_nil
                      refine oneR ?_
                      obtain ⟨hp10, hm⟩ := asrt_b hm
                      refine at_run 1 [] [] [0, 1, 2, 3, 9, 12, 14, 15, 18, 19, 115] [pl 0 (.slice A1 line1.length c1), pl 1 (.slice A2 clue1.length c2), pl 2 (.slice A3 begun1.length c3), pl 3 (.slice A4 filled1.length c4), pl 9 (.int .i64 (begun1.length : Int)), pl 12 (.int .i64 need2), pl 14 (.int .i64 many1), pl 15 (.int .i64 gap1), pl 18 (.bool (ok1 && ((geti line1 (next4.length : Int)) != 0))), pl 19 (.int .i64 i5), pl 115 (.slice A10 next4.length c10)] hF hS (by kernel_rfl) (by kernel_rfl) ?_ (fun a w hF hS => ?_)
                      · exact obs_nil
                      refine at_do (d := 116) (s := vS (Instr.buildSlice 22 1 #[(0, .int .i64 1)])) (v := .slice (some ⟨w.heap.size, 0, none⟩) 1 1) (w' := w.alloc (.cells #[.int .i64 1] 3)) hF (by kernel_rfl) (by kernel_rfl) (by kernel_rfl) (fun a hF => ?_)
                      have hS : Sep w0 B (w.alloc (.cells #[.int .i64 1] 3)) (own 3 (.slice (some (⟨w.heap.size, 0, none⟩ : Addr)) 1 1) (vI ([1] : List Int)) :: (own 3 (.slice A4 filled1.length c4) (vI filled5) :: own 3 (.slice A10 next4.length c10) (vI next4) :: fs)) := hS.lit 3 #[.int .i64 1] 1 rfl (by omega)
                      generalize (some (⟨w.heap.size, 0, none⟩ : Addr)) = g2 at hF hS
                      generalize w.alloc (.cells #[.int .i64 1] 3) = w at hS ⊢
                      obtain ⟨A12, c12, w, hrun, hS⟩ := run_app1 (P := Try.prog) (t := 22) (m := next4) (ys := ([1] : List Int)) (A2 := g2) (m2 := 1) (c2 := 1) (Value.int .i64) (0 : Int) (hS.at_ 2 rfl) (hS.at_ 0 rfl).rd ((hS.at_ 0 rfl).len1) 22 Und22 hi3 hz3 hs3 (by omega) rfl (fun _ => rfl) hp10
                      have hS : Sep w0 B w (own 3 (.slice g2 1 1) (vI ([1] : List Int)) :: own 3 (.slice A4 filled1.length c4) (vI filled5) :: own 3 (.slice A12 ((next4 ++ ([1] : List Int)).length) c12) (vI (next4 ++ ([1] : List Int))) :: fs) := hS
                      refine at_do (d := 117) hF (by kernel_rfl) (by kernel_rfl) hrun (fun a hF => ?_)
                      refine at_run 1 [] [] [0, 1, 2, 3, 9, 12, 14, 15, 16, 18, 19] [pl 0 (.slice A1 line1.length c1), pl 1 (.slice A2 clue1.length c2), pl 2 (.slice A3 begun1.length c3), pl 3 (.slice A4 filled1.length c4), pl 9 (.int .i64 (begun1.length : Int)), pl 12 (.int .i64 need2), pl 14 (.int .i64 many1), pl 15 (.int .i64 gap1), pl 16 (.slice A12 ((next4 ++ ([1] : List Int)).length) c12), pl 18 (.bool (ok1 && ((geti line1 (next4.length : Int)) != 0))), pl 19 (.int .i64 i5)] hF hS (by kernel_rfl) (by kernel_rfl) ?_ (fun a w hF hS => ?_)
                      · exact obs_nil
                      refine at_end [0, 1, 2, 3, 9, 12, 14, 15, 16, 18, 19] [pl 0 (.slice A1 line1.length c1), pl 1 (.slice A2 clue1.length c2), pl 2 (.slice A3 begun1.length c3), pl 3 (.slice A4 filled1.length c4), pl 9 (.int .i64 (begun1.length : Int)), pl 12 (.int .i64 need2), pl 14 (.int .i64 many1), pl 15 (.int .i64 gap1), pl 16 (.slice A12 ((next4 ++ ([1] : List Int)).length) c12), pl 18 (.bool (ok1 && ((geti line1 (next4.length : Int)) != 0))), pl 19 (.int .i64 i5)] hF rfl (by kernel_rfl) (fun hF => ?_)
                      refine block_n ?_
                      refine then_n ?_
                      have hS := hS.pickN 3 [1, 2] (by decide)
                      exact ⟨(next4 ++ ([1] : List Int)), A12, c12, hF.weak [0, 1, 2, 3, 9, 12, 14, 15, 16, 18, 19] (by kernel_rfl), hS, hm⟩
                  · obtain ⟨hp8, hm⟩ := asrt_b hm
                    refine reg [⟨true, [], vS (Instr.indexAt 22 (.slice A2 clue1.length c2) (.int .i64 0)), .pointer (some (sAddr A2 0))⟩, ⟨false, [], vS (Instr.loadAt 3 (.pointer (some (sAddr A2 0)))), .int .i64 (geti clue1 0)⟩] [none, none, some (.pointer (some (sAddr A2 0))), some (.int .i64 (geti clue1 0)), none] [0, 1, 2, 3, 9, 12, 14, 15, 16, 18, 19, 103] [pl 0 (.slice A1 line1.length c1), pl 1 (.slice A2 clue1.length c2), pl 2 (.slice A3 begun1.length c3), pl 3 (.slice A4 filled1.length c4), pl 9 (.int .i64 (begun1.length : Int)), pl 12 (.int .i64 need2), pl 14 (.int .i64 many1), pl 15 (.int .i64 gap1), pl 16 (.slice A10 next4.length c10), pl 18 (.bool ok1), pl 19 (.int .i64 i5), pl 103 (.bool (decide (i5 < (geti clue1 0))))] hF hS Fol (by kernel_rfl) (by kernel_rfl) (by kernel_rfl) ?_ (fun a w hF hS => ?_)
                    · exact obs_cons (ob_ix1 (f := (Value.int .i64)) (m := clue1) Und22 hi3 hs3 (hr_clue1 _ (hS.dropN 2)) rfl (fun _ => hp8)) <| obs_cons (ob_get1 (n := clue1.length) (m := clue1) (Value.int .i64) (0 : Int) Agg3 (fun _ hS => ⟨_, (hr_clue1 _ (hS.dropN 2))⟩) (fun _ hS => rfl) (fun _ => hp8)) <| obs_nil
                    refine cond_ev (t := 103) (b := decide (i5 < (geti clue1 0))) hF (by kernel_rfl) (fun hb => ?_) (fun hb => ?_)
                    · replace hm := if_t hm hb
                      refine wp_skip ?_
                      refine then_n ?_
                      exact ⟨hF.weak [0, 1, 2, 3, 9, 12, 14, 15, 16, 18, 19] (by kernel_rfl), hS, hm⟩
                    · replace hm := if_f hm hb
                      refine wp_exit ?_
                      refine then_e (then_e (block_e (then_n ?_)))
                      rw [← hφ6] at hm
                      replace hm := done_b hm
                      unfold gameroomref_lineFill_2_K6 at hm
                      try dsimp only at hm
                      have hm : ((gameroomref_lineFill_2_J18 rec_gameroomref_lineFill_2 line1 clue1 filled5 many1 gap1) next4 ok1).bind φ4 = some r := hm
                      exact ⟨next4, ok1, A10, c10, hF.weak [0, 1, 2, 3, 9, 12, 14, 15, 16, 18] (by kernel_rfl), hS, hm⟩
              · refine reg [] [] [0, 1, 2, 3, 9, 12, 14, 15, 16, 17] [pl 0 (.slice A1 line1.length c1), pl 1 (.slice A2 clue1.length c2), pl 2 (.slice A3 begun1.length c3), pl 3 (.slice A4 filled1.length c4), pl 9 (.int .i64 (begun1.length : Int)), pl 12 (.int .i64 need2), pl 14 (.int .i64 many1), pl 15 (.int .i64 gap1), pl 16 (.slice A5 r1.length c5), pl 17 (.int .i64 0)] hF hS Fol (by kernel_rfl) (by kernel_rfl) (by kernel_rfl) ?_ (fun a w hF hS => ?_)
                · exact obs_nil
                refine wp_block ?_
                have hS := hS.pickN 2 [1, 0] (by decide)
                refine wp_loop_model (S := (List Int × Int)) (R := (List Int)) (gameroomref_lineFill_2_L5 gap1) (fun x => ((gameroomref_lineFill_2_K5 rec_gameroomref_lineFill_2 line1 clue1 filled5 many1 gap1) x).bind φ4) r (fun (x : (List Int × Int)) a w => ∃ (A6 : Option Addr) (c6 : Nat), Fr 145 [pl 0 (.slice A1 line1.length c1), pl 1 (.slice A2 clue1.length c2), pl 2 (.slice A3 begun1.length c3), pl 3 (.slice A4 filled1.length c4), pl 9 (.int .i64 (begun1.length : Int)), pl 12 (.int .i64 need2), pl 14 (.int .i64 many1), pl 15 (.int .i64 gap1), pl 16 (.slice A6 x.1.length c6), pl 17 (.int .i64 x.2)] a ∧ Sep w0 B w (own 3 (.slice A4 filled1.length c4) (vI filled5) :: own 3 (.slice A6 x.1.length c6) (vI x.1) :: fs)) (assoc_b hm) ⟨A5, c5, hF.weak [0, 1, 2, 3, 9, 12, 14, 15, 16, 17] (by kernel_rfl), hS⟩ ?_
                clear hF hS hm
                rintro nn5 ⟨next1, i4⟩ a w ⟨A6, c6, hF, hS⟩ hm
                generalize hφ5 : stK (gameroomref_lineFill_2_L5 gap1) nn5 (fun x => ((gameroomref_lineFill_2_K5 rec_gameroomref_lineFill_2 line1 clue1 filled5 many1 gap1) x).bind φ4) = φ5 at hm
                unfold gameroomref_lineFill_2_L5 at hm
                dsimp only at hF hS hm
                refine seq_cut (fun a w => Fr 145 [pl 0 (.slice A1 line1.length c1), pl 1 (.slice A2 clue1.length c2), pl 2 (.slice A3 begun1.length c3), pl 3 (.slice A4 filled1.length c4), pl 9 (.int .i64 (begun1.length : Int)), pl 12 (.int .i64 need2), pl 14 (.int .i64 many1), pl 15 (.int .i64 gap1), pl 16 (.slice A6 next1.length c6), pl 17 (.int .i64 i4)] a ∧ Sep w0 B w (own 3 (.slice A4 filled1.length c4) (vI filled5) :: own 3 (.slice A6 next1.length c6) (vI next1) :: fs) ∧ ((gameroomref_lineFill_2_J16 next1 i4)).bind φ5 = some r) ?_ ?_
                · rintro a w ⟨hF, hS, hm⟩
                  unfold gameroomref_lineFill_2_J16 at hm
                  refine seq_cut (fun a w => ∃ (next3 : List Int) (A9 : Option Addr) (c9 : Nat), Fr 145 [pl 0 (.slice A1 line1.length c1), pl 1 (.slice A2 clue1.length c2), pl 2 (.slice A3 begun1.length c3), pl 3 (.slice A4 filled1.length c4), pl 9 (.int .i64 (begun1.length : Int)), pl 12 (.int .i64 need2), pl 14 (.int .i64 many1), pl 15 (.int .i64 gap1), pl 16 (.slice A9 next3.length c9), pl 17 (.int .i64 i4)] a ∧ Sep w0 B w (own 3 (.slice A4 filled1.length c4) (vI filled5) :: own 3 (.slice A9 next3.length c9) (vI next3) :: fs) ∧ ((gameroomref_lineFill_2_J17 i4) next3).bind φ5 = some r) ?_ ?_
                  · rintro a w ⟨next3, A9, c9, hF, hS, hm⟩
                    unfold gameroomref_lineFill_2_J17 at hm
                    refine reg1 [] [] [0, 1, 2, 3, 9, 12, 14, 15, 16, 17] [pl 0 (.slice A1 line1.length c1), pl 1 (.slice A2 clue1.length c2), pl 2 (.slice A3 begun1.length c3), pl 3 (.slice A4 filled1.length c4), pl 9 (.int .i64 (begun1.length : Int)), pl 12 (.int .i64 need2), pl 14 (.int .i64 many1), pl 15 (.int .i64 gap1), pl 16 (.slice A9 next3.length c9), pl 17 (.int .i64 (w64 (i4 + 1)))] hF hS Fol (by kernel_rfl) (by kernel_rfl) (by kernel_rfl) ?_ (fun a w hF hS => ?_)
                    · exact obs_nil
                    refine then_n ?_
                    rw [← hφ5] at hm
                    exact ⟨(next3, (w64 (i4 + 1))), ⟨A9, c9, hF.weak [0, 1, 2, 3, 9, 12, 14, 15, 16, 17] (by kernel_rfl), hS⟩, hm⟩
                  · refine wp_block ?_
                    refine oneR ?_
                    obtain ⟨hp7, hm⟩ := asrt_b hm
                    refine at_run 1 [] [] [0, 1, 2, 3, 9, 12, 14, 15, 17, 96] [pl 0 (.slice A1 line1.length c1), pl 1 (.slice A2 clue1.length c2), pl 2 (.slice A3 begun1.length c3), pl 3 (.slice A4 filled1.length c4), pl 9 (.int .i64 (begun1.length : Int)), pl 12 (.int .i64 need2), pl 14 (.int .i64 many1), pl 15 (.int .i64 gap1), pl 17 (.int .i64 i4), pl 96 (.slice A6 next1.length c6)] hF hS (by kernel_rfl) (by kernel_rfl) ?_ (fun a w hF hS => ?_)
                    · exact obs_nil
                    refine at_do (d := 97) (s := vS (Instr.buildSlice 22 1 #[(0, .int .i64 0)])) (v := .slice (some ⟨w.heap.size, 0, none⟩) 1 1) (w' := w.alloc (.cells #[.int .i64 0] 3)) hF (by kernel_rfl) (by kernel_rfl) (by kernel_rfl) (fun a hF => ?_)
                    have hS : Sep w0 B (w.alloc (.cells #[.int .i64 0] 3)) (own 3 (.slice (some (⟨w.heap.size, 0, none⟩ : Addr)) 1 1) (vI ([0] : List Int)) :: (own 3 (.slice A4 filled1.length c4) (vI filled5) :: own 3 (.slice A6 next1.length c6) (vI next1) :: fs)) := hS.lit 3 #[.int .i64 0] 1 rfl (by omega)
                    generalize (some (⟨w.heap.size, 0, none⟩ : Addr)) = g1 at hF hS
                    generalize w.alloc (.cells #[.int .i64 0] 3) = w at hS ⊢
                    obtain ⟨A8, c8, w, hrun, hS⟩ := run_app1 (P := Try.prog) (t := 22) (m := next1) (ys := ([0] : List Int)) (A2 := g1) (m2 := 1) (c2 := 1) (Value.int .i64) (0 : Int) (hS.at_ 2 rfl) (hS.at_ 0 rfl).rd ((hS.at_ 0 rfl).len1) 22 Und22 hi3 hz3 hs3 (by omega) rfl (fun _ => rfl) hp7
                    have hS : Sep w0 B w (own 3 (.slice g1 1 1) (vI ([0] : List Int)) :: own 3 (.slice A4 filled1.length c4) (vI filled5) :: own 3 (.slice A8 ((next1 ++ ([0] : List Int)).length) c8) (vI (next1 ++ ([0] : List Int))) :: fs) := hS
                    refine at_do (d := 98) hF (by kernel_rfl) (by kernel_rfl) hrun (fun a hF => ?_)
                    refine at_run 1 [] [] [0, 1, 2, 3, 9, 12, 14, 15, 16, 17] [pl 0 (.slice A1 line1.length c1), pl 1 (.slice A2 clue1.length c2), pl 2 (.slice A3 begun1.length c3), pl 3 (.slice A4 filled1.length c4), pl 9 (.int .i64 (begun1.length : Int)), pl 12 (.int .i64 need2), pl 14 (.int .i64 many1), pl 15 (.int .i64 gap1), pl 16 (.slice A8 ((next1 ++ ([0] : List Int)).length) c8), pl 17 (.int .i64 i4)] hF hS (by kernel_rfl) (by kernel_rfl) ?_ (fun a w hF hS => ?_)
                    · exact obs_nil
                    refine at_end [0, 1, 2, 3, 9, 12, 14, 15, 16, 17] [pl 0 (.slice A1 line1.length c1), pl 1 (.slice A2 clue1.length c2), pl 2 (.slice A3 begun1.length c3), pl 3 (.slice A4 filled1.length c4), pl 9 (.int .i64 (begun1.length : Int)), pl 12 (.int .i64 need2), pl 14 (.int .i64 many1), pl 15 (.int .i64 gap1), pl 16 (.slice A8 ((next1 ++ ([0] : List Int)).length) c8), pl 17 (.int .i64 i4)] hF rfl (by kernel_rfl) (fun hF => ?_)
                    refine block_n ?_
                    refine then_n ?_
                    have hS := hS.pickN 3 [1, 2] (by decide)
                    exact ⟨(next1 ++ ([0] : List Int)), A8, c8, hF.weak [0, 1, 2, 3, 9, 12, 14, 15, 16, 17] (by kernel_rfl), hS, hm⟩
                · refine reg [] [] [0, 1, 2, 3, 9, 12, 14, 15, 16, 17, 93] [pl 0 (.slice A1 line1.length c1), pl 1 (.slice A2 clue1.length c2), pl 2 (.slice A3 begun1.length c3), pl 3 (.slice A4 filled1.length c4), pl 9 (.int .i64 (begun1.length : Int)), pl 12 (.int .i64 need2), pl 14 (.int .i64 many1), pl 15 (.int .i64 gap1), pl 16 (.slice A6 next1.length c6), pl 17 (.int .i64 i4), pl 93 (.bool (decide (i4 < gap1)))] hF hS Fol (by kernel_rfl) (by kernel_rfl) (by kernel_rfl) ?_ (fun a w hF hS => ?_)
                  · exact obs_nil
                  refine cond_ev (t := 93) (b := decide (i4 < gap1)) hF (by kernel_rfl) (fun hb => ?_) (fun hb => ?_)
                  · replace hm := if_t hm hb
                    refine wp_skip ?_
                    refine then_n ?_
                    exact ⟨hF.weak [0, 1, 2, 3, 9, 12, 14, 15, 16, 17] (by kernel_rfl), hS, hm⟩
                  · replace hm := if_f hm hb
                    refine wp_exit ?_
                    refine then_e (then_e (block_e (then_n ?_)))
                    rw [← hφ5] at hm
                    replace hm := done_b hm
                    unfold gameroomref_lineFill_2_K5 at hm
                    try dsimp only at hm
                    have hm : ((gameroomref_lineFill_2_J15 rec_gameroomref_lineFill_2 line1 clue1 filled5 many1 gap1) next1).bind φ4 = some r := hm
                    exact ⟨next1, A6, c6, hF.weak [0, 1, 2, 3, 9, 12, 14, 15, 16] (by kernel_rfl), hS, hm⟩
            · obtain ⟨hp6, hm⟩ := asrt_b hm
              refine reg [⟨true, [(decide ((0 : Int) < gap1), true)], vS (Instr.indexAt 22 (.slice A1 line1.length c1) (.int .i64 (w64 ((w64 ((begun1.length : Int) + gap1)) - 1)))), .pointer (some (sAddr A1 (w64 ((w64 ((begun1.length : Int) + gap1)) - 1))))⟩, ⟨false, [(decide ((0 : Int) < gap1), true)], vS (Instr.loadAt 3 (.pointer (some (sAddr A1 (w64 ((w64 ((begun1.length : Int) + gap1)) - 1)))))), .int .i64 (geti line1 (w64 ((w64 ((begun1.length : Int) + gap1)) - 1)))⟩] [none, none, none, none, none, none, none, none, some (.pointer (some (sAddr A1 (w64 ((w64 ((begun1.length : Int) + gap1)) - 1))))), some (.int .i64 (geti line1 (w64 ((w64 ((begun1.length : Int) + gap1)) - 1)))), none, none] [0, 1, 2, 3, 9, 12, 14, 15, 88] [pl 0 (.slice A1 line1.length c1), pl 1 (.slice A2 clue1.length c2), pl 2 (.slice A3 begun1.length c3), pl 3 (.slice A4 filled1.length c4), pl 9 (.int .i64 (begun1.length : Int)), pl 12 (.int .i64 need2), pl 14 (.int .i64 many1), pl 15 (.int .i64 gap1), pl 88 (.bool ((decide ((0 : Int) < gap1)) && ((geti line1 (w64 ((w64 ((begun1.length : Int) + gap1)) - 1))) == 1)))] hF hS Fol (by kernel_rfl) (by kernel_rfl) (by kernel_rfl) ?_ (fun a w hF hS => ?_)
              · exact obs_cons (ob_ix1 (f := (Value.int .i64)) (m := line1) Und22 hi3 hs3 (hr_line1 _ (hS.dropN 1)) rfl (fun hy => hp6 (hy (decide ((0 : Int) < gap1), true) (by simp)))) <| obs_cons (ob_get1 (n := line1.length) (m := line1) (Value.int .i64) (0 : Int) Agg3 (fun _ hS => ⟨_, (hr_line1 _ (hS.dropN 1))⟩) (fun _ hS => rfl) (fun hy => hp6 (hy (decide ((0 : Int) < gap1), true) (by simp)))) <| obs_nil
              refine cond_ev (t := 88) (b := (decide ((0 : Int) < gap1)) && ((geti line1 (w64 ((w64 ((begun1.length : Int) + gap1)) - 1))) == 1)) hF (by kernel_rfl) (fun hb => ?_) (fun hb => ?_)
              · replace hm := if_t hm hb
                refine wp_exit ?_
                refine then_e (block_o rfl (then_e (then_e (block_e (then_n ?_)))))
                rw [← hφ4] at hm
                replace hm := done_b hm
                unfold gameroomref_lineFill_2_K4 at hm
                try dsimp only at hm
                have hm : (gameroomref_lineFill_2_J11 many1 filled5).bind some = some r := hm
                exact ⟨many1, filled5, hF.weak [14] (by kernel_rfl), hS, hm⟩
              · replace hm := if_f hm hb
                refine wp_skip ?_
                refine then_n ?_
                exact ⟨hF.weak [0, 1, 2, 3, 9, 12, 14, 15] (by kernel_rfl), hS, hm⟩
        · refine reg [] [] [0, 1, 2, 3, 9, 12, 14, 15, 74] [pl 0 (.slice A1 line1.length c1), pl 1 (.slice A2 clue1.length c2), pl 2 (.slice A3 begun1.length c3), pl 3 (.slice A4 filled1.length c4), pl 9 (.int .i64 (begun1.length : Int)), pl 12 (.int .i64 need2), pl 14 (.int .i64 many1), pl 15 (.int .i64 gap1), pl 74 (.bool (decide ((w64 ((w64 ((begun1.length : Int) + gap1)) + need2)) ≤ (line1.length : Int))))] hF hS Fol (by kernel_rfl) (by kernel_rfl) (by kernel_rfl) ?_ (fun a w hF hS => ?_)
          · exact obs_nil
          refine cond_ev (t := 74) (b := decide ((w64 ((w64 ((begun1.length : Int) + gap1)) + need2)) ≤ (line1.length : Int))) hF (by kernel_rfl) (fun hb => ?_) (fun hb => ?_)
          · replace hm := if_t hm hb
            refine wp_skip ?_
            refine then_n ?_
            exact ⟨hF.weak [0, 1, 2, 3, 9, 12, 14, 15] (by kernel_rfl), hS, hm⟩
          · replace hm := if_f hm hb
            refine wp_exit ?_
            refine then_e (then_e (block_e (then_n ?_)))
            rw [← hφ4] at hm
            replace hm := done_b hm
            unfold gameroomref_lineFill_2_K4 at hm
            try dsimp only at hm
            have hm : (gameroomref_lineFill_2_J11 many1 filled5).bind some = some r := hm
            exact ⟨many1, filled5, hF.weak [14] (by kernel_rfl), hS, hm⟩
    · refine reg [] [] [0, 1, 2, 3, 9, 12, 13] [pl 0 (.slice A1 line1.length c1), pl 1 (.slice A2 clue1.length c2), pl 2 (.slice A3 begun1.length c3), pl 3 (.slice A4 filled1.length c4), pl 9 (.int .i64 (begun1.length : Int)), pl 12 (.int .i64 (w64 ((clue1.length : Int) - 1))), pl 13 (.int .i64 0)] hF hS Fol (by kernel_rfl) (by kernel_rfl) (by kernel_rfl) ?_ (fun a w hF hS => ?_)
      · exact obs_nil
      refine wp_block ?_
      refine wp_loop_model (S := (Int × Int)) (R := Int) (gameroomref_lineFill_2_L3 clue1) (fun x => ((gameroomref_lineFill_2_K3 rec_gameroomref_lineFill_2 line1 clue1 begun1 filled1) x).bind some) r (fun (x : (Int × Int)) a w => Fr 145 [pl 0 (.slice A1 line1.length c1), pl 1 (.slice A2 clue1.length c2), pl 2 (.slice A3 begun1.length c3), pl 3 (.slice A4 filled1.length c4), pl 9 (.int .i64 (begun1.length : Int)), pl 12 (.int .i64 x.1), pl 13 (.int .i64 x.2)] a ∧ Sep w0 B w (own 3 (.slice A4 filled1.length c4) (vI filled1) :: fs)) (assoc_b hm) ⟨hF.weak [0, 1, 2, 3, 9, 12, 13] (by kernel_rfl), hS⟩ ?_
      clear hF hS hm
      rintro nn3 ⟨need1, i3⟩ a w ⟨hF, hS⟩ hm
      generalize hφ3 : stK (gameroomref_lineFill_2_L3 clue1) nn3 (fun x => ((gameroomref_lineFill_2_K3 rec_gameroomref_lineFill_2 line1 clue1 begun1 filled1) x).bind some) = φ3 at hm
      unfold gameroomref_lineFill_2_L3 at hm
      dsimp only at hF hS hm
      refine seq_cut (fun a w => Fr 145 [pl 0 (.slice A1 line1.length c1), pl 1 (.slice A2 clue1.length c2), pl 2 (.slice A3 begun1.length c3), pl 3 (.slice A4 filled1.length c4), pl 9 (.int .i64 (begun1.length : Int)), pl 12 (.int .i64 need1), pl 13 (.int .i64 i3)] a ∧ Sep w0 B w (own 3 (.slice A4 filled1.length c4) (vI filled1) :: fs) ∧ ((gameroomref_lineFill_2_J9 clue1 need1 i3)).bind φ3 = some r) ?_ ?_
      · rintro a w ⟨hF, hS, hm⟩
        unfold gameroomref_lineFill_2_J9 at hm
        refine seq_cut (fun a w => Fr 145 [pl 0 (.slice A1 line1.length c1), pl 1 (.slice A2 clue1.length c2), pl 2 (.slice A3 begun1.length c3), pl 3 (.slice A4 filled1.length c4), pl 9 (.int .i64 (begun1.length : Int)), pl 12 (.int .i64 (w64 (need1 + (geti clue1 i3)))), pl 13 (.int .i64 i3)] a ∧ Sep w0 B w (own 3 (.slice A4 filled1.length c4) (vI filled1) :: fs) ∧ ((gameroomref_lineFill_2_J10 clue1 need1 i3)).bind φ3 = some r) ?_ ?_
        · rintro a w ⟨hF, hS, hm⟩
          unfold gameroomref_lineFill_2_J10 at hm
          refine reg1 [] [] [0, 1, 2, 3, 9, 12, 13] [pl 0 (.slice A1 line1.length c1), pl 1 (.slice A2 clue1.length c2), pl 2 (.slice A3 begun1.length c3), pl 3 (.slice A4 filled1.length c4), pl 9 (.int .i64 (begun1.length : Int)), pl 12 (.int .i64 (w64 (need1 + (geti clue1 i3)))), pl 13 (.int .i64 (w64 (i3 + 1)))] hF hS Fol (by kernel_rfl) (by kernel_rfl) (by kernel_rfl) ?_ (fun a w hF hS => ?_)
          · exact obs_nil
          refine then_n ?_
          rw [← hφ3] at hm
          exact ⟨((w64 (need1 + (geti clue1 i3))), (w64 (i3 + 1))), ⟨hF.weak [0, 1, 2, 3, 9, 12, 13] (by kernel_rfl), hS⟩, hm⟩
        · refine wp_block ?_
          obtain ⟨hp5, hm⟩ := asrt_b hm
          refine reg1 [⟨true, [], vS (Instr.indexAt 22 (.slice A2 clue1.length c2) (.int .i64 i3)), .pointer (some (sAddr A2 i3))⟩, ⟨false, [], vS (Instr.loadAt 3 (.pointer (some (sAddr A2 i3)))), .int .i64 (geti clue1 i3)⟩] [none, none, none, some (.pointer (some (sAddr A2 i3))), some (.int .i64 (geti clue1 i3)), none, none] [0, 1, 2, 3, 9, 12, 13] [pl 0 (.slice A1 line1.length c1), pl 1 (.slice A2 clue1.length c2), pl 2 (.slice A3 begun1.length c3), pl 3 (.slice A4 filled1.length c4), pl 9 (.int .i64 (begun1.length : Int)), pl 12 (.int .i64 (w64 (need1 + (geti clue1 i3)))), pl 13 (.int .i64 i3)] hF hS Fol (by kernel_rfl) (by kernel_rfl) (by kernel_rfl) ?_ (fun a w hF hS => ?_)
          · exact obs_cons (ob_ix1 (f := (Value.int .i64)) (m := clue1) Und22 hi3 hs3 (hr_clue1 _ (hS.dropN 1)) rfl (fun _ => hp5)) <| obs_cons (ob_get1 (n := clue1.length) (m := clue1) (Value.int .i64) (0 : Int) Agg3 (fun _ hS => ⟨_, (hr_clue1 _ (hS.dropN 1))⟩) (fun _ hS => rfl) (fun _ => hp5)) <| obs_nil
          refine block_n ?_
          refine then_n ?_
          exact ⟨hF.weak [0, 1, 2, 3, 9, 12, 13] (by kernel_rfl), hS, hm⟩
      · refine reg [] [] [0, 1, 2, 3, 9, 12, 13, 58] [pl 0 (.slice A1 line1.length c1), pl 1 (.slice A2 clue1.length c2), pl 2 (.slice A3 begun1.length c3), pl 3 (.slice A4 filled1.length c4), pl 9 (.int .i64 (begun1.length : Int)), pl 12 (.int .i64 need1), pl 13 (.int .i64 i3), pl 58 (.bool (decide (i3 < (clue1.length : Int))))] hF hS Fol (by kernel_rfl) (by kernel_rfl) (by kernel_rfl) ?_ (fun a w hF hS => ?_)
        · exact obs_nil
        refine cond_ev (t := 58) (b := decide (i3 < (clue1.length : Int))) hF (by kernel_rfl) (fun hb => ?_) (fun hb => ?_)
        · replace hm := if_t hm hb
          refine wp_skip ?_
          refine then_n ?_
          exact ⟨hF.weak [0, 1, 2, 3, 9, 12, 13] (by kernel_rfl), hS, hm⟩
        · replace hm := if_f hm hb
          refine wp_exit ?_
          refine then_e (then_e (block_e (then_n ?_)))
          rw [← hφ3] at hm
          replace hm := done_b hm
          unfold gameroomref_lineFill_2_K3 at hm
          try dsimp only at hm
          have hm : ((gameroomref_lineFill_2_J8 rec_gameroomref_lineFill_2 line1 clue1 begun1 filled1) need1).bind some = some r := hm
          exact ⟨need1, hF.weak [0, 1, 2, 3, 9, 12] (by kernel_rfl), hS, hm⟩
  · refine reg [] [] [0, 1, 2, 3, 9, 24] [pl 0 (.slice A1 line1.length c1), pl 1 (.slice A2 clue1.length c2), pl 2 (.slice A3 begun1.length c3), pl 3 (.slice A4 filled1.length c4), pl 9 (.int .i64 (begun1.length : Int)), pl 24 (.bool ((clue1.length : Int) == 0))] hF hS Fol (by kernel_rfl) (by kernel_rfl) (by kernel_rfl) ?_ (fun a w hF hS => ?_)
    · exact obs_nil
    refine cond_ev (t := 24) (b := ((clue1.length : Int) == 0)) hF (by kernel_rfl) (fun hb => ?_) (fun hb => ?_)
    · replace hm := if_t hm hb
      refine seq_cut (fun a w => Fr 145 [pl 2 (.slice A3 begun1.length c3), pl 3 (.slice A4 filled1.length c4), pl 9 (.int .i64 (begun1.length : Int))] a ∧ Sep w0 B w (own 3 (.slice A4 filled1.length c4) (vI filled1) :: fs) ∧ ((gameroomref_lineFill_2_J2 begun1 filled1)).bind some = some r) ?_ ?_
      · rintro a w ⟨hF, hS, hm⟩
        unfold gameroomref_lineFill_2_J2 at hm
        refine seq_cut (fun a w => ∃ (filled4 : List Int), Fr 145 [] a ∧ Sep w0 B w (own 3 (.slice A4 filled1.length c4) (vI filled4) :: fs) ∧ (gameroomref_lineFill_2_J5 filled4).bind some = some r) ?_ ?_
        · rintro a w ⟨filled4, hF, hS, hm⟩
          unfold gameroomref_lineFill_2_J5 at hm
          refine reg [] [] [8] [pl 8 (.int .i64 1)] hF hS Fol (by kernel_rfl) (by kernel_rfl) (by kernel_rfl) ?_ (fun a w hF hS => ?_)
          · exact obs_nil
          refine wp_ret ?_
          refine then_r ?_
          have hm : some (1, filled4) = some r := hm
          obtain rfl := Option.some.inj hm
          exact retV (rs := [.tmp 8]) (vs := [.int .i64 1]) hF rfl (rv_t (by kernel_rfl) <| rv_nil) rfl ⟨_, rfl, rfl, hS⟩
        · refine reg [] [] [2, 3, 9, 11] [pl 2 (.slice A3 begun1.length c3), pl 3 (.slice A4 filled1.length c4), pl 9 (.int .i64 (begun1.length : Int)), pl 11 (.int .i64 0)] hF hS Fol (by kernel_rfl) (by kernel_rfl) (by kernel_rfl) ?_ (fun a w hF hS => ?_)
          · exact obs_nil
          refine wp_block ?_
          refine wp_loop_model (S := (List Int × Int)) (R := (List Int)) (gameroomref_lineFill_2_L2 begun1 filled1) (fun x => (gameroomref_lineFill_2_K2 x).bind some) r (fun (x : (List Int × Int)) a w => Fr 145 [pl 2 (.slice A3 begun1.length c3), pl 3 (.slice A4 filled1.length c4), pl 9 (.int .i64 (begun1.length : Int)), pl 11 (.int .i64 x.2)] a ∧ Sep w0 B w (own 3 (.slice A4 filled1.length c4) (vI x.1) :: fs)) (assoc_b hm) ⟨hF.weak [2, 3, 9, 11] (by kernel_rfl), hS⟩ ?_
          clear hF hS hm
          rintro nn2 ⟨filled3, i2⟩ a w ⟨hF, hS⟩ hm
          generalize hφ2 : stK (gameroomref_lineFill_2_L2 begun1 filled1) nn2 (fun x => (gameroomref_lineFill_2_K2 x).bind some) = φ2 at hm
          unfold gameroomref_lineFill_2_L2 at hm
          dsimp only at hF hS hm
          refine seq_cut (fun a w => Fr 145 [pl 2 (.slice A3 begun1.length c3), pl 3 (.slice A4 filled1.length c4), pl 9 (.int .i64 (begun1.length : Int)), pl 11 (.int .i64 i2)] a ∧ Sep w0 B w (own 3 (.slice A4 filled1.length c4) (vI filled3) :: fs) ∧ ((gameroomref_lineFill_2_J6 begun1 filled1 filled3 i2)).bind φ2 = some r) ?_ ?_
          · rintro a w ⟨hF, hS, hm⟩
            unfold gameroomref_lineFill_2_J6 at hm
            refine seq_cut (fun a w => Fr 145 [pl 2 (.slice A3 begun1.length c3), pl 3 (.slice A4 filled1.length c4), pl 9 (.int .i64 (begun1.length : Int)), pl 11 (.int .i64 i2)] a ∧ Sep w0 B w (own 3 (.slice A4 filled1.length c4) (vI (filled3.set (Int.toNat i2) (w64 ((geti filled3 i2) + (geti begun1 i2))))) :: fs) ∧ ((gameroomref_lineFill_2_J7 begun1 filled3 i2)).bind φ2 = some r) ?_ ?_
            · rintro a w ⟨hF, hS, hm⟩
              unfold gameroomref_lineFill_2_J7 at hm
              refine reg1 [] [] [2, 3, 9, 11] [pl 2 (.slice A3 begun1.length c3), pl 3 (.slice A4 filled1.length c4), pl 9 (.int .i64 (begun1.length : Int)), pl 11 (.int .i64 (w64 (i2 + 1)))] hF hS Fol (by kernel_rfl) (by kernel_rfl) (by kernel_rfl) ?_ (fun a w hF hS => ?_)
              · exact obs_nil
              refine then_n ?_
              rw [← hφ2] at hm
              exact ⟨((filled3.set (Int.toNat i2) (w64 ((geti filled3 i2) + (geti begun1 i2)))), (w64 (i2 + 1))), ⟨hF.weak [2, 3, 9, 11] (by kernel_rfl), hS⟩, hm⟩
            · refine wp_block ?_
              obtain ⟨hp2, hm⟩ := asrt_b hm
              obtain ⟨hp3, hm⟩ := asrt_b hm
              obtain ⟨hp4, hm⟩ := asrt_b hm
              refine regMix4 [0, 1, 2, 3, 4, 5, 6, 7, 8, 9] [10] [⟨true, [], vS (Instr.indexAt 22 (.slice A4 filled1.length c4) (.int .i64 i2)), .pointer (some (sAddr A4 i2))⟩, ⟨false, [], vS (Instr.loadAt 3 (.pointer (some (sAddr A4 i2)))), .int .i64 (geti filled3 i2)⟩, ⟨true, [], vS (Instr.indexAt 22 (.slice A3 begun1.length c3) (.int .i64 i2)), .pointer (some (sAddr A3 i2))⟩, ⟨false, [], vS (Instr.loadAt 3 (.pointer (some (sAddr A3 i2)))), .int .i64 (geti begun1 i2)⟩, ⟨true, [], vS (Instr.indexAt 22 (.slice A4 filled1.length c4) (.int .i64 i2)), .pointer (some (sAddr A4 i2))⟩] [none, none, some (.pointer (some (sAddr A4 i2))), some (.int .i64 (geti filled3 i2)), none, none, some (.pointer (some (sAddr A3 i2))), some (.int .i64 (geti begun1 i2)), none, some (.pointer (some (sAddr A4 i2)))] [2, 3, 9, 11, 50, 51] [pl 2 (.slice A3 begun1.length c3), pl 3 (.slice A4 filled1.length c4), pl 9 (.int .i64 (begun1.length : Int)), pl 11 (.int .i64 i2), pl 50 (.int .i64 (w64 ((geti filled3 i2) + (geti begun1 i2)))), pl 51 (.pointer (some (sAddr A4 i2)))] hF hS Fol (by kernel_rfl) (by kernel_rfl) (by kernel_rfl) (by kernel_rfl) (by kernel_rfl) ?_ (fun a w hF hS => ?_)
              · exact obs_cons (ob_ix1 (f := (Value.int .i64)) (m := filled3) Und22 hi3 hs3 (hS.at_ 0 rfl).rd ((hS.at_ 0 rfl).len1) (fun _ => hp2)) <| obs_cons (ob_get1 (n := filled1.length) (m := filled3) (Value.int .i64) (0 : Int) Agg3 (fun _ hS => ⟨_, (hS.at_ 0 rfl).rd⟩) (fun _ hS => ((hS.at_ 0 rfl).len1)) (fun _ => hp2)) <| obs_cons (ob_ix1 (f := (Value.int .i64)) (m := begun1) Und22 hi3 hs3 (hr_begun1 _ (hS.dropN 1)) rfl (fun _ => hp3)) <| obs_cons (ob_get1 (n := begun1.length) (m := begun1) (Value.int .i64) (0 : Int) Agg3 (fun _ hS => ⟨_, (hr_begun1 _ (hS.dropN 1))⟩) (fun _ hS => rfl) (fun _ => hp3)) <| obs_cons (ob_ix1 (f := (Value.int .i64)) (m := filled3) Und22 hi3 hs3 (hS.at_ 0 rfl).rd ((hS.at_ 0 rfl).len1) (fun _ => hp4)) <| obs_nil
              obtain ⟨w, hrun, hS⟩ := run_set1 (P := Try.prog) (t := 3) (x := (w64 ((geti filled3 i2) + (geti begun1 i2)))) (Value.int .i64) (hS.at_ 0 rfl) hi3 hs3 rfl rfl hp4
              refine at_skip hF (by kernel_rfl) hrun ?_
              have hS : Sep w0 B w (own 3 (.slice A4 filled1.length c4) (vI (filled3.set (Int.toNat i2) (w64 ((geti filled3 i2) + (geti begun1 i2))))) :: fs) := hS
              refine at_end [2, 3, 9, 11] [pl 2 (.slice A3 begun1.length c3), pl 3 (.slice A4 filled1.length c4), pl 9 (.int .i64 (begun1.length : Int)), pl 11 (.int .i64 i2)] hF rfl (by kernel_rfl) (fun hF => ?_)
              refine np_n ?_
              refine block_n ?_
              refine then_n ?_
              exact ⟨hF.weak [2, 3, 9, 11] (by kernel_rfl), hS, hm⟩
          · refine reg [] [] [2, 3, 9, 11, 39] [pl 2 (.slice A3 begun1.length c3), pl 3 (.slice A4 filled1.length c4), pl 9 (.int .i64 (begun1.length : Int)), pl 11 (.int .i64 i2), pl 39 (.bool (decide (i2 < (begun1.length : Int))))] hF hS Fol (by kernel_rfl) (by kernel_rfl) (by kernel_rfl) ?_ (fun a w hF hS => ?_)
            · exact obs_nil
            refine cond_ev (t := 39) (b := decide (i2 < (begun1.length : Int))) hF (by kernel_rfl) (fun hb => ?_) (fun hb => ?_)
            · replace hm := if_t hm hb
              refine wp_skip ?_
              refine then_n ?_
              exact ⟨hF.weak [2, 3, 9, 11] (by kernel_rfl), hS, hm⟩
            · replace hm := if_f hm hb
              refine wp_exit ?_
              refine then_e (then_e (block_e (then_n ?_)))
              rw [← hφ2] at hm
              replace hm := done_b hm
              unfold gameroomref_lineFill_2_K2 at hm
              try dsimp only at hm
              have hm : (gameroomref_lineFill_2_J5 filled3).bind some = some r := hm
              exact ⟨filled3, hF.weak [] (by kernel_rfl), hS, hm⟩
      · refine reg [] [] [0, 2, 3, 9, 10] [pl 0 (.slice A1 line1.length c1), pl 2 (.slice A3 begun1.length c3), pl 3 (.slice A4 filled1.length c4), pl 9 (.int .i64 (begun1.length : Int)), pl 10 (.int .i64 (begun1.length : Int))] hF hS Fol (by kernel_rfl) (by kernel_rfl) (by kernel_rfl) ?_ (fun a w hF hS => ?_)
        · exact obs_nil
        refine wp_block ?_
        refine wp_loop_model (S := Int) (R := (Fl Unit (Int × List Int))) (gameroomref_lineFill_2_L1 line1 filled1) (fun x => ((gameroomref_lineFill_2_K1 begun1 filled1) x).bind some) r (fun (x : Int) a w => Fr 145 [pl 0 (.slice A1 line1.length c1), pl 2 (.slice A3 begun1.length c3), pl 3 (.slice A4 filled1.length c4), pl 9 (.int .i64 (begun1.length : Int)), pl 10 (.int .i64 x)] a ∧ Sep w0 B w (own 3 (.slice A4 filled1.length c4) (vI filled1) :: fs)) (assoc_b hm) ⟨hF.weak [0, 2, 3, 9, 10] (by kernel_rfl), hS⟩ ?_
        clear hF hS hm
        rintro nn1 i1 a w ⟨hF, hS⟩ hm
        generalize hφ1 : stK (gameroomref_lineFill_2_L1 line1 filled1) nn1 (fun x => ((gameroomref_lineFill_2_K1 begun1 filled1) x).bind some) = φ1 at hm
        unfold gameroomref_lineFill_2_L1 at hm
        dsimp only at hm
        refine seq_cut (fun a w => Fr 145 [pl 0 (.slice A1 line1.length c1), pl 2 (.slice A3 begun1.length c3), pl 3 (.slice A4 filled1.length c4), pl 9 (.int .i64 (begun1.length : Int)), pl 10 (.int .i64 i1)] a ∧ Sep w0 B w (own 3 (.slice A4 filled1.length c4) (vI filled1) :: fs) ∧ ((gameroomref_lineFill_2_J3 line1 filled1 i1)).bind φ1 = some r) ?_ ?_
        · rintro a w ⟨hF, hS, hm⟩
          unfold gameroomref_lineFill_2_J3 at hm
          refine seq_cut (fun a w => Fr 145 [pl 0 (.slice A1 line1.length c1), pl 2 (.slice A3 begun1.length c3), pl 3 (.slice A4 filled1.length c4), pl 9 (.int .i64 (begun1.length : Int)), pl 10 (.int .i64 i1)] a ∧ Sep w0 B w (own 3 (.slice A4 filled1.length c4) (vI filled1) :: fs) ∧ ((gameroomref_lineFill_2_J4 i1)).bind φ1 = some r) ?_ ?_
          · rintro a w ⟨hF, hS, hm⟩
            unfold gameroomref_lineFill_2_J4 at hm
            refine reg1 [] [] [0, 2, 3, 9, 10] [pl 0 (.slice A1 line1.length c1), pl 2 (.slice A3 begun1.length c3), pl 3 (.slice A4 filled1.length c4), pl 9 (.int .i64 (begun1.length : Int)), pl 10 (.int .i64 (w64 (i1 + 1)))] hF hS Fol (by kernel_rfl) (by kernel_rfl) (by kernel_rfl) ?_ (fun a w hF hS => ?_)
            · exact obs_nil
            refine then_n ?_
            rw [← hφ1] at hm
            exact ⟨(w64 (i1 + 1)), ⟨hF.weak [0, 2, 3, 9, 10] (by kernel_rfl), hS⟩, hm⟩
          · refine wp_block ?_
            obtain ⟨hp1, hm⟩ := asrt_b hm
            refine reg [⟨true, [], vS (Instr.indexAt 22 (.slice A1 line1.length c1) (.int .i64 i1)), .pointer (some (sAddr A1 i1))⟩, ⟨false, [], vS (Instr.loadAt 3 (.pointer (some (sAddr A1 i1)))), .int .i64 (geti line1 i1)⟩] [none, none, some (.pointer (some (sAddr A1 i1))), some (.int .i64 (geti line1 i1)), none] [0, 2, 3, 9, 10, 36] [pl 0 (.slice A1 line1.length c1), pl 2 (.slice A3 begun1.length c3), pl 3 (.slice A4 filled1.length c4), pl 9 (.int .i64 (begun1.length : Int)), pl 10 (.int .i64 i1), pl 36 (.bool ((geti line1 i1) == 1))] hF hS Fol (by kernel_rfl) (by kernel_rfl) (by kernel_rfl) ?_ (fun a w hF hS => ?_)
            · exact obs_cons (ob_ix1 (f := (Value.int .i64)) (m := line1) Und22 hi3 hs3 (hr_line1 _ (hS.dropN 1)) rfl (fun _ => hp1)) <| obs_cons (ob_get1 (n := line1.length) (m := line1) (Value.int .i64) (0 : Int) Agg3 (fun _ hS => ⟨_, (hr_line1 _ (hS.dropN 1))⟩) (fun _ hS => rfl) (fun _ => hp1)) <| obs_nil
            refine cond_ev (t := 36) (b := ((geti line1 i1) == 1)) hF (by kernel_rfl) (fun hb => ?_) (fun hb => ?_)
            · replace hm := if_t hm hb
              refine reg [] [] [8] [pl 8 (.int .i64 0)] hF hS Fol (by kernel_rfl) (by kernel_rfl) (by kernel_rfl) ?_ (fun a w hF hS => ?_)
              · exact obs_nil
              refine wp_ret ?_
              refine block_r (then_r (then_r (block_r (then_r (then_r ?_)))))
              rw [← hφ1] at hm
              replace hm := done_b hm
              unfold gameroomref_lineFill_2_K1 at hm
              try dsimp only at hm
              have hm : some (0, filled1) = some r := hm
              obtain rfl := Option.some.inj hm
              exact retV (rs := [.tmp 8]) (vs := [.int .i64 0]) hF rfl (rv_t (by kernel_rfl) <| rv_nil) rfl ⟨_, rfl, rfl, hS⟩
            · replace hm := if_f hm hb
              refine wp_skip ?_
              refine block_n ?_
              refine then_n ?_
              exact ⟨hF.weak [0, 2, 3, 9, 10] (by kernel_rfl), hS, hm⟩
        · refine reg [] [] [0, 2, 3, 9, 10, 29] [pl 0 (.slice A1 line1.length c1), pl 2 (.slice A3 begun1.length c3), pl 3 (.slice A4 filled1.length c4), pl 9 (.int .i64 (begun1.length : Int)), pl 10 (.int .i64 i1), pl 29 (.bool (decide (i1 < (line1.length : Int))))] hF hS Fol (by kernel_rfl) (by kernel_rfl) (by kernel_rfl) ?_ (fun a w hF hS => ?_)
          · exact obs_nil
          refine cond_ev (t := 29) (b := decide (i1 < (line1.length : Int))) hF (by kernel_rfl) (fun hb => ?_) (fun hb => ?_)
          · replace hm := if_t hm hb
            refine wp_skip ?_
            refine then_n ?_
            exact ⟨hF.weak [0, 2, 3, 9, 10] (by kernel_rfl), hS, hm⟩
          · replace hm := if_f hm hb
            refine wp_exit ?_
            refine then_e (then_e (block_e (then_n ?_)))
            rw [← hφ1] at hm
            replace hm := done_b hm
            unfold gameroomref_lineFill_2_K1 at hm
            try dsimp only at hm
            have hm : ((gameroomref_lineFill_2_J2 begun1 filled1)).bind some = some r := hm
            exact ⟨hF.weak [2, 3, 9] (by kernel_rfl), hS, hm⟩
    · replace hm := if_f hm hb
      refine wp_skip ?_
      refine then_n ?_
      exact ⟨hF.weak [0, 1, 2, 3, 9] (by kernel_rfl), hS, hm⟩

theorem gameroomref_lineFill_2_w {A1 : Option Addr} {c1 : Nat} {n1 : Nat} {line1 : List Int} {A2 : Option Addr} {c2 : Nat} {n2 : Nat} {clue1 : List Int} {A3 : Option Addr} {c3 : Nat} {n3 : Nat} {begun1 : List Int} {A4 : Option Addr} {c4 : Nat} {n4 : Nat} {filled1 : List Int} {r : (Int × List Int)} {w0 w : World} {B : Nat} {fs : List HP} (hm : gameroomref_lineFill_2_m line1 clue1 begun1 filled1 = some r) (hS : Sep w0 B w (own 3 (.slice A4 n4 c4) (vI filled1) :: fs)) (hr_line1 : RdF w0 B fs A1 (vI line1)) (_hc_line1 : line1.length ≤ c1) (_hn_line1 : n1 = line1.length) (hr_clue1 : RdF w0 B fs A2 (vI clue1)) (_hc_clue1 : clue1.length ≤ c2) (_hn_clue1 : n2 = clue1.length) (hr_begun1 : RdF w0 B fs A3 (vI begun1)) (_hc_begun1 : begun1.length ≤ c3) (_hn_begun1 : n3 = begun1.length) :
    Calls Try.prog 90 #[.slice A1 n1 c1, .slice A2 n2 c2, .slice A3 n3 c3, .slice A4 n4 c4] w fun e w' => ∃ v, e = .returned v ∧ v = .int .i64 r.1 ∧ Sep w0 B w' (own 3 (.slice A4 n4 c4) (vI r.2) :: fs) := by
  have key : ∀ (n : Nat) {A1 : Option Addr} {c1 : Nat} {n1 : Nat} {line1 : List Int} {A2 : Option Addr} {c2 : Nat} {n2 : Nat} {clue1 : List Int} {A3 : Option Addr} {c3 : Nat} {n3 : Nat} {begun1 : List Int} {A4 : Option Addr} {c4 : Nat} {n4 : Nat} {filled1 : List Int} {r : (Int × List Int)} {w0 w : World} {B : Nat} {fs : List HP} (_ : gameroomref_lineFill_2_mF n line1 clue1 begun1 filled1 = some r) (_ : Sep w0 B w (own 3 (.slice A4 n4 c4) (vI filled1) :: fs)) (hr_line1 : RdF w0 B fs A1 (vI line1)) (_hc_line1 : line1.length ≤ c1) (_hn_line1 : n1 = line1.length) (hr_clue1 : RdF w0 B fs A2 (vI clue1)) (_hc_clue1 : clue1.length ≤ c2) (_hn_clue1 : n2 = clue1.length) (hr_begun1 : RdF w0 B fs A3 (vI begun1)) (_hc_begun1 : begun1.length ≤ c3) (_hn_begun1 : n3 = begun1.length), Calls Try.prog 90 #[.slice A1 n1 c1, .slice A2 n2 c2, .slice A3 n3 c3, .slice A4 n4 c4] w fun e w' => ∃ v, e = .returned v ∧ v = .int .i64 r.1 ∧ Sep w0 B w' (own 3 (.slice A4 n4 c4) (vI r.2) :: fs) := by
    intro n
    induction n with
    | zero => intros; rename_i hm0 _ _ _ _ _ _ _ _ _ _; cases hm0
    | succ n ih => intros; rename_i hm0 hS0 h0 h1 h2 h3 h4 h5 h6 h7 h8; exact gameroomref_lineFill_2_wB (rec_gameroomref_lineFill_2 := gameroomref_lineFill_2_mF n) (fun hm hS h0 h1 h2 h3 h4 h5 h6 h7 h8 => ih hm hS h0 h1 h2 h3 h4 h5 h6 h7 h8) hm0 hS0 h0 h1 h2 h3 h4 h5 h6 h7 h8
  obtain ⟨n, hn⟩ := recM_some hm
  exact key n hn hS hr_line1 _hc_line1 _hn_line1 hr_clue1 _hc_clue1 _hn_clue1 hr_begun1 _hc_begun1 _hn_begun1

theorem gameroomref_lineFill_2_J21_le_gameroomref_lineFill_2 {rec_gameroomref_lineFill_21 rec_gameroomref_lineFill_22 : List Int → List Int → List Int → List Int → Option (Int × List Int)} (h_rec_gameroomref_lineFill_2 : ∀ a0 a1 a2 a3, Le (rec_gameroomref_lineFill_21 a0 a1 a2 a3) (rec_gameroomref_lineFill_22 a0 a1 a2 a3)) (line1 : List Int) (clue1 : List Int) (filled5 : List Int) (many1 : Int) (gap1 : Int) (next7 : List Int) (ok3 : Bool) : Le (gameroomref_lineFill_2_J21 rec_gameroomref_lineFill_21 line1 clue1 filled5 many1 gap1 next7 ok3) (gameroomref_lineFill_2_J21 rec_gameroomref_lineFill_22 line1 clue1 filled5 many1 gap1 next7 ok3) := by
  unfold gameroomref_lineFill_2_J21
  repeat' (first | with_reducible exact Le.refl _ | with_reducible exact h_rec_gameroomref_lineFill_2 _ _ _ _ | refine Le.asrt ?_ | refine Le.ite ?_ ?_ | refine Le.bind ?_ (fun _ => ?_) | refine Le.loop2 (fun _ => ?_) | refine Le.elim2 (fun _ => ?_) (fun _ => ?_))

theorem gameroomref_lineFill_2_J18_le_gameroomref_lineFill_2 {rec_gameroomref_lineFill_21 rec_gameroomref_lineFill_22 : List Int → List Int → List Int → List Int → Option (Int × List Int)} (h_rec_gameroomref_lineFill_2 : ∀ a0 a1 a2 a3, Le (rec_gameroomref_lineFill_21 a0 a1 a2 a3) (rec_gameroomref_lineFill_22 a0 a1 a2 a3)) (line1 : List Int) (clue1 : List Int) (filled5 : List Int) (many1 : Int) (gap1 : Int) (next5 : List Int) (ok2 : Bool) : Le (gameroomref_lineFill_2_J18 rec_gameroomref_lineFill_21 line1 clue1 filled5 many1 gap1 next5 ok2) (gameroomref_lineFill_2_J18 rec_gameroomref_lineFill_22 line1 clue1 filled5 many1 gap1 next5 ok2) := by
  unfold gameroomref_lineFill_2_J18
  repeat' (first | with_reducible exact Le.refl _ | with_reducible exact h_rec_gameroomref_lineFill_2 _ _ _ _ | with_reducible exact gameroomref_lineFill_2_J21_le_gameroomref_lineFill_2 h_rec_gameroomref_lineFill_2 _ _ _ _ _ _ _ | refine Le.asrt ?_ | refine Le.ite ?_ ?_ | refine Le.bind ?_ (fun _ => ?_) | refine Le.loop2 (fun _ => ?_) | refine Le.elim2 (fun _ => ?_) (fun _ => ?_))

theorem gameroomref_lineFill_2_K6_le_gameroomref_lineFill_2 {rec_gameroomref_lineFill_21 rec_gameroomref_lineFill_22 : List Int → List Int → List Int → List Int → Option (Int × List Int)} (h_rec_gameroomref_lineFill_2 : ∀ a0 a1 a2 a3, Le (rec_gameroomref_lineFill_21 a0 a1 a2 a3) (rec_gameroomref_lineFill_22 a0 a1 a2 a3)) (line1 : List Int) (clue1 : List Int) (filled5 : List Int) (many1 : Int) (gap1 : Int) (x : (List Int × Bool)) : Le (gameroomref_lineFill_2_K6 rec_gameroomref_lineFill_21 line1 clue1 filled5 many1 gap1 x) (gameroomref_lineFill_2_K6 rec_gameroomref_lineFill_22 line1 clue1 filled5 many1 gap1 x) := by
  rcases x with ⟨next5, ok2⟩
  all_goals
    unfold gameroomref_lineFill_2_K6
    try dsimp only
    repeat' (first | with_reducible exact Le.refl _ | with_reducible exact h_rec_gameroomref_lineFill_2 _ _ _ _ | with_reducible exact gameroomref_lineFill_2_J18_le_gameroomref_lineFill_2 h_rec_gameroomref_lineFill_2 _ _ _ _ _ _ _ | refine Le.asrt ?_ | refine Le.ite ?_ ?_ | refine Le.bind ?_ (fun _ => ?_) | refine Le.loop2 (fun _ => ?_) | refine Le.elim2 (fun _ => ?_) (fun _ => ?_))

theorem gameroomref_lineFill_2_J15_le_gameroomref_lineFill_2 {rec_gameroomref_lineFill_21 rec_gameroomref_lineFill_22 : List Int → List Int → List Int → List Int → Option (Int × List Int)} (h_rec_gameroomref_lineFill_2 : ∀ a0 a1 a2 a3, Le (rec_gameroomref_lineFill_21 a0 a1 a2 a3) (rec_gameroomref_lineFill_22 a0 a1 a2 a3)) (line1 : List Int) (clue1 : List Int) (filled5 : List Int) (many1 : Int) (gap1 : Int) (next2 : List Int) : Le (gameroomref_lineFill_2_J15 rec_gameroomref_lineFill_21 line1 clue1 filled5 many1 gap1 next2) (gameroomref_lineFill_2_J15 rec_gameroomref_lineFill_22 line1 clue1 filled5 many1 gap1 next2) := by
  unfold gameroomref_lineFill_2_J15
  repeat' (first | with_reducible exact Le.refl _ | with_reducible exact h_rec_gameroomref_lineFill_2 _ _ _ _ | with_reducible exact gameroomref_lineFill_2_K6_le_gameroomref_lineFill_2 h_rec_gameroomref_lineFill_2 _ _ _ _ _ _ | refine Le.asrt ?_ | refine Le.ite ?_ ?_ | refine Le.bind ?_ (fun _ => ?_) | refine Le.loop2 (fun _ => ?_) | refine Le.elim2 (fun _ => ?_) (fun _ => ?_))

theorem gameroomref_lineFill_2_K5_le_gameroomref_lineFill_2 {rec_gameroomref_lineFill_21 rec_gameroomref_lineFill_22 : List Int → List Int → List Int → List Int → Option (Int × List Int)} (h_rec_gameroomref_lineFill_2 : ∀ a0 a1 a2 a3, Le (rec_gameroomref_lineFill_21 a0 a1 a2 a3) (rec_gameroomref_lineFill_22 a0 a1 a2 a3)) (line1 : List Int) (clue1 : List Int) (filled5 : List Int) (many1 : Int) (gap1 : Int) (x : (List Int)) : Le (gameroomref_lineFill_2_K5 rec_gameroomref_lineFill_21 line1 clue1 filled5 many1 gap1 x) (gameroomref_lineFill_2_K5 rec_gameroomref_lineFill_22 line1 clue1 filled5 many1 gap1 x) := by
  rcases x with next2
  all_goals
    unfold gameroomref_lineFill_2_K5
    try dsimp only
    repeat' (first | with_reducible exact Le.refl _ | with_reducible exact h_rec_gameroomref_lineFill_2 _ _ _ _ | with_reducible exact gameroomref_lineFill_2_J15_le_gameroomref_lineFill_2 h_rec_gameroomref_lineFill_2 _ _ _ _ _ _ | refine Le.asrt ?_ | refine Le.ite ?_ ?_ | refine Le.bind ?_ (fun _ => ?_) | refine Le.loop2 (fun _ => ?_) | refine Le.elim2 (fun _ => ?_) (fun _ => ?_))

theorem gameroomref_lineFill_2_J14_le_gameroomref_lineFill_2 {rec_gameroomref_lineFill_21 rec_gameroomref_lineFill_22 : List Int → List Int → List Int → List Int → Option (Int × List Int)} (h_rec_gameroomref_lineFill_2 : ∀ a0 a1 a2 a3, Le (rec_gameroomref_lineFill_21 a0 a1 a2 a3) (rec_gameroomref_lineFill_22 a0 a1 a2 a3)) (line1 : List Int) (clue1 : List Int) (begun1 : List Int) (filled5 : List Int) (many1 : Int) (gap1 : Int) : Le (gameroomref_lineFill_2_J14 rec_gameroomref_lineFill_21 line1 clue1 begun1 filled5 many1 gap1) (gameroomref_lineFill_2_J14 rec_gameroomref_lineFill_22 line1 clue1 begun1 filled5 many1 gap1) := by
  unfold gameroomref_lineFill_2_J14
  repeat' (first | with_reducible exact Le.refl _ | with_reducible exact h_rec_gameroomref_lineFill_2 _ _ _ _ | with_reducible exact gameroomref_lineFill_2_K5_le_gameroomref_lineFill_2 h_rec_gameroomref_lineFill_2 _ _ _ _ _ _ | refine Le.asrt ?_ | refine Le.ite ?_ ?_ | refine Le.bind ?_ (fun _ => ?_) | refine Le.loop2 (fun _ => ?_) | refine Le.elim2 (fun _ => ?_) (fun _ => ?_))

theorem gameroomref_lineFill_2_J12_le_gameroomref_lineFill_2 {rec_gameroomref_lineFill_21 rec_gameroomref_lineFill_22 : List Int → List Int → List Int → List Int → Option (Int × List Int)} (h_rec_gameroomref_lineFill_2 : ∀ a0 a1 a2 a3, Le (rec_gameroomref_lineFill_21 a0 a1 a2 a3) (rec_gameroomref_lineFill_22 a0 a1 a2 a3)) (line1 : List Int) (clue1 : List Int) (begun1 : List Int) (filled5 : List Int) (many1 : Int) (gap1 : Int) : Le (gameroomref_lineFill_2_J12 rec_gameroomref_lineFill_21 line1 clue1 begun1 filled5 many1 gap1) (gameroomref_lineFill_2_J12 rec_gameroomref_lineFill_22 line1 clue1 begun1 filled5 many1 gap1) := by
  unfold gameroomref_lineFill_2_J12
  repeat' (first | with_reducible exact Le.refl _ | with_reducible exact h_rec_gameroomref_lineFill_2 _ _ _ _ | with_reducible exact gameroomref_lineFill_2_J14_le_gameroomref_lineFill_2 h_rec_gameroomref_lineFill_2 _ _ _ _ _ _ | refine Le.asrt ?_ | refine Le.ite ?_ ?_ | refine Le.bind ?_ (fun _ => ?_) | refine Le.loop2 (fun _ => ?_) | refine Le.elim2 (fun _ => ?_) (fun _ => ?_))

theorem gameroomref_lineFill_2_L4_le_gameroomref_lineFill_2 {rec_gameroomref_lineFill_21 rec_gameroomref_lineFill_22 : List Int → List Int → List Int → List Int → Option (Int × List Int)} (h_rec_gameroomref_lineFill_2 : ∀ a0 a1 a2 a3, Le (rec_gameroomref_lineFill_21 a0 a1 a2 a3) (rec_gameroomref_lineFill_22 a0 a1 a2 a3)) (line1 : List Int) (clue1 : List Int) (begun1 : List Int) (need2 : Int) (x : (List Int × Int × Int)) : Le (gameroomref_lineFill_2_L4 rec_gameroomref_lineFill_21 line1 clue1 begun1 need2 x) (gameroomref_lineFill_2_L4 rec_gameroomref_lineFill_22 line1 clue1 begun1 need2 x) := by
  rcases x with ⟨filled5, many1, gap1⟩
  all_goals
    unfold gameroomref_lineFill_2_L4
    try dsimp only
    repeat' (first | with_reducible exact Le.refl _ | with_reducible exact h_rec_gameroomref_lineFill_2 _ _ _ _ | with_reducible exact gameroomref_lineFill_2_J12_le_gameroomref_lineFill_2 h_rec_gameroomref_lineFill_2 _ _ _ _ _ _ | refine Le.asrt ?_ | refine Le.ite ?_ ?_ | refine Le.bind ?_ (fun _ => ?_) | refine Le.loop2 (fun _ => ?_) | refine Le.elim2 (fun _ => ?_) (fun _ => ?_))

theorem gameroomref_lineFill_2_J8_le_gameroomref_lineFill_2 {rec_gameroomref_lineFill_21 rec_gameroomref_lineFill_22 : List Int → List Int → List Int → List Int → Option (Int × List Int)} (h_rec_gameroomref_lineFill_2 : ∀ a0 a1 a2 a3, Le (rec_gameroomref_lineFill_21 a0 a1 a2 a3) (rec_gameroomref_lineFill_22 a0 a1 a2 a3)) (line1 : List Int) (clue1 : List Int) (begun1 : List Int) (filled1 : List Int) (need2 : Int) : Le (gameroomref_lineFill_2_J8 rec_gameroomref_lineFill_21 line1 clue1 begun1 filled1 need2) (gameroomref_lineFill_2_J8 rec_gameroomref_lineFill_22 line1 clue1 begun1 filled1 need2) := by
  unfold gameroomref_lineFill_2_J8
  repeat' (first | with_reducible exact Le.refl _ | with_reducible exact h_rec_gameroomref_lineFill_2 _ _ _ _ | with_reducible exact gameroomref_lineFill_2_L4_le_gameroomref_lineFill_2 h_rec_gameroomref_lineFill_2 _ _ _ _ _ | refine Le.asrt ?_ | refine Le.ite ?_ ?_ | refine Le.bind ?_ (fun _ => ?_) | refine Le.loop2 (fun _ => ?_) | refine Le.elim2 (fun _ => ?_) (fun _ => ?_))

theorem gameroomref_lineFill_2_K3_le_gameroomref_lineFill_2 {rec_gameroomref_lineFill_21 rec_gameroomref_lineFill_22 : List Int → List Int → List Int → List Int → Option (Int × List Int)} (h_rec_gameroomref_lineFill_2 : ∀ a0 a1 a2 a3, Le (rec_gameroomref_lineFill_21 a0 a1 a2 a3) (rec_gameroomref_lineFill_22 a0 a1 a2 a3)) (line1 : List Int) (clue1 : List Int) (begun1 : List Int) (filled1 : List Int) (x : Int) : Le (gameroomref_lineFill_2_K3 rec_gameroomref_lineFill_21 line1 clue1 begun1 filled1 x) (gameroomref_lineFill_2_K3 rec_gameroomref_lineFill_22 line1 clue1 begun1 filled1 x) := by
  rcases x with need2
  all_goals
    unfold gameroomref_lineFill_2_K3
    try dsimp only
    repeat' (first | with_reducible exact Le.refl _ | with_reducible exact h_rec_gameroomref_lineFill_2 _ _ _ _ | with_reducible exact gameroomref_lineFill_2_J8_le_gameroomref_lineFill_2 h_rec_gameroomref_lineFill_2 _ _ _ _ _ | refine Le.asrt ?_ | refine Le.ite ?_ ?_ | refine Le.bind ?_ (fun _ => ?_) | refine Le.loop2 (fun _ => ?_) | refine Le.elim2 (fun _ => ?_) (fun _ => ?_))

theorem gameroomref_lineFill_2_J1_le_gameroomref_lineFill_2 {rec_gameroomref_lineFill_21 rec_gameroomref_lineFill_22 : List Int → List Int → List Int → List Int → Option (Int × List Int)} (h_rec_gameroomref_lineFill_2 : ∀ a0 a1 a2 a3, Le (rec_gameroomref_lineFill_21 a0 a1 a2 a3) (rec_gameroomref_lineFill_22 a0 a1 a2 a3)) (line1 : List Int) (clue1 : List Int) (begun1 : List Int) (filled1 : List Int) : Le (gameroomref_lineFill_2_J1 rec_gameroomref_lineFill_21 line1 clue1 begun1 filled1) (gameroomref_lineFill_2_J1 rec_gameroomref_lineFill_22 line1 clue1 begun1 filled1) := by
  unfold gameroomref_lineFill_2_J1
  repeat' (first | with_reducible exact Le.refl _ | with_reducible exact h_rec_gameroomref_lineFill_2 _ _ _ _ | with_reducible exact gameroomref_lineFill_2_K3_le_gameroomref_lineFill_2 h_rec_gameroomref_lineFill_2 _ _ _ _ _ | refine Le.asrt ?_ | refine Le.ite ?_ ?_ | refine Le.bind ?_ (fun _ => ?_) | refine Le.loop2 (fun _ => ?_) | refine Le.elim2 (fun _ => ?_) (fun _ => ?_))

theorem gameroomref_lineFill_2_B_le {rec_gameroomref_lineFill_21 rec_gameroomref_lineFill_22 : List Int → List Int → List Int → List Int → Option (Int × List Int)} (h_rec_gameroomref_lineFill_2 : ∀ a0 a1 a2 a3, Le (rec_gameroomref_lineFill_21 a0 a1 a2 a3) (rec_gameroomref_lineFill_22 a0 a1 a2 a3)) (line1 : List Int) (clue1 : List Int) (begun1 : List Int) (filled1 : List Int) : Le (gameroomref_lineFill_2_B rec_gameroomref_lineFill_21 line1 clue1 begun1 filled1) (gameroomref_lineFill_2_B rec_gameroomref_lineFill_22 line1 clue1 begun1 filled1) := by
  unfold gameroomref_lineFill_2_B
  repeat' (first | with_reducible exact Le.refl _ | with_reducible exact h_rec_gameroomref_lineFill_2 _ _ _ _ | with_reducible exact gameroomref_lineFill_2_J1_le_gameroomref_lineFill_2 h_rec_gameroomref_lineFill_2 _ _ _ _ | refine Le.asrt ?_ | refine Le.ite ?_ ?_ | refine Le.bind ?_ (fun _ => ?_) | refine Le.loop2 (fun _ => ?_) | refine Le.elim2 (fun _ => ?_) (fun _ => ?_))

theorem gameroomref_lineFill_2_mF_le : ∀ (n : Nat) (line1 : List Int) (clue1 : List Int) (begun1 : List Int) (filled1 : List Int), Le (gameroomref_lineFill_2_mF n line1 clue1 begun1 filled1) (gameroomref_lineFill_2_mF (n + 1) line1 clue1 begun1 filled1)
  | 0, _, _, _, _ => fun _ h => by cases h
  | n + 1, _, _, _, _ => gameroomref_lineFill_2_B_le (fun a0 a1 a2 a3 => gameroomref_lineFill_2_mF_le n a0 a1 a2 a3) _ _ _ _

theorem gameroomref_lineFill_2_m_of (N : Nat) (line1 : List Int) (clue1 : List Int) (begun1 : List Int) (filled1 : List Int) {r : (Int × List Int)} (h : gameroomref_lineFill_2_mF N line1 clue1 begun1 filled1 = some r) : gameroomref_lineFill_2_m line1 clue1 begun1 filled1 = some r :=
  recM_mono (fun n => gameroomref_lineFill_2_mF_le n _ _ _ _) h

noncomputable def gameroomref_LineWays_m (line1 : List Int) (clue1 : List Int) : Option (Int × List Int) :=
  asrt ((0 : Int) ≤ (line1.length : Int) ∧ (line1.length : Int) ≤ bigN) <| (gameroomref_lineFill_2_m line1 clue1 ([] : List Int) (List.replicate (Int.toNat (line1.length : Int)) (0 : Int))).bind fun r1 => some (r1.1, r1.2)

set_option maxRecDepth 100000 in
set_option maxHeartbeats 4000000 in
theorem gameroomref_LineWays_w {A1 : Option Addr} {c1 : Nat} {n1 : Nat} {line1 : List Int} {A2 : Option Addr} {c2 : Nat} {n2 : Nat} {clue1 : List Int} {r : (Int × List Int)} {w0 w : World} {B : Nat} {fs : List HP} (hm : gameroomref_LineWays_m line1 clue1 = some r) (hS : Sep w0 B w (fs)) (hr_line1 : RdF w0 B fs A1 (vI line1)) (_hc_line1 : line1.length ≤ c1) (_hn_line1 : n1 = line1.length) (hr_clue1 : RdF w0 B fs A2 (vI clue1)) (_hc_clue1 : clue1.length ≤ c2) (_hn_clue1 : n2 = clue1.length) :
    Calls Try.prog 46 #[.slice A1 n1 c1, .slice A2 n2 c2] w fun e w' => ∃ v, e = .returned v ∧ ∃ (A4 : Option Addr) (c4 : Nat), v = .tuple #[.int .i64 r.1, .slice A4 r.2.length c4] ∧ Sep w0 B w' (own 3 (.slice A4 r.2.length c4) (vI r.2) :: fs) := by
  obtain ⟨i3, hi3, hz3, hs3, hb3⟩ := info_parts Info3
  obtain rfl := _hn_line1
  obtain rfl := _hn_clue1
  unfold gameroomref_LineWays_m at hm
  replace hm := start_b hm
  refine enter (l := [.slice A1 line1.length c1, .slice A2 clue1.length c2]) (n := 17) Try.func46 rfl rfl (by simp) (fun a hF => ?_)
  refine reg [] [] [0, 1] [pl 0 (.slice A1 line1.length c1), pl 1 (.slice A2 clue1.length c2)] hF hS Fol (by kernel_rfl) (by kernel_rfl) (by kernel_rfl) ?_ (fun a w hF hS => ?_)
  · exact obs_nil
  refine seqR ?_
  obtain ⟨hp1, hm⟩ := asrt_b hm
  refine at_run 2 [] [] [0, 1, 9] [pl 0 (.slice A1 line1.length c1), pl 1 (.slice A2 clue1.length c2), pl 9 (.int .i64 (line1.length : Int))] hF hS (by kernel_rfl) (by kernel_rfl) ?_ (fun a w hF hS => ?_)
  · exact obs_nil
  obtain ⟨A3, c3, w, hrun, hS⟩ := run_mk1 (P := Try.prog) (t := 22) (Value.int .i64) (0 : Int) hS .i64 .i64 Und22 hi3 hz3 hs3 (by omega) rfl hp1
  have hS : Sep w0 B w (own 3 (.slice A3 (Int.toNat (line1.length : Int)) c3) (vI (List.replicate (Int.toNat (line1.length : Int)) (0 : Int))) :: fs) := hS
  refine at_do (d := 10) hF (by kernel_rfl) (by kernel_rfl) hrun (fun a hF => ?_)
  refine at_run 1 [] [] [0, 1, 6] [pl 0 (.slice A1 line1.length c1), pl 1 (.slice A2 clue1.length c2), pl 6 (.slice A3 (Int.toNat (line1.length : Int)) c3)] hF hS (by kernel_rfl) (by kernel_rfl) ?_ (fun a w hF hS => ?_)
  · exact obs_nil
  refine at_end [0, 1, 6] [pl 0 (.slice A1 line1.length c1), pl 1 (.slice A2 clue1.length c2), pl 6 (.slice A3 (Int.toNat (line1.length : Int)) c3)] hF rfl (by kernel_rfl) (fun hF => ?_)
  refine then_n ?_
  refine seqR ?_
  obtain ⟨r1, hr1, hm⟩ := call_b hm
  refine at_run 3 [] [] [6, 11, 12, 13] [pl 6 (.slice A3 (Int.toNat (line1.length : Int)) c3), pl 11 (.slice A1 line1.length c1), pl 12 (.slice A2 clue1.length c2), pl 13 (.slice A3 (Int.toNat (line1.length : Int)) c3)] hF hS (by kernel_rfl) (by kernel_rfl) ?_ (fun a w hF hS => ?_)
  · exact obs_nil
  refine at_call (f := 90) (args := #[.slice A1 line1.length c1, .slice A2 clue1.length c2, .slice none 0 0, .slice A3 (Int.toNat (line1.length : Int)) c3]) (d := 14) hF (by kernel_rfl) (by kernel_rfl) Try.func90 (by kernel_rfl) rfl (gameroomref_lineFill_2_w hr1 hS (fun _ hS => (hr_line1 _ (hS.dropN 0))) _hc_line1 rfl (fun _ hS => (hr_clue1 _ (hS.dropN 0))) _hc_clue1 rfl (fun _ hS => Rd.nil _ _ _) (Nat.le_refl _) rfl) (fun v a w hR hF => ?_)
  clear hS
  obtain ⟨rfl, hS⟩ := hR
  have hS : Sep w0 B w (own 3 (.slice A3 (Int.toNat (line1.length : Int)) c3) (vI r1.2) :: fs) := hS
  refine at_run 1 [] [] [6, 7] [pl 6 (.slice A3 (Int.toNat (line1.length : Int)) c3), pl 7 (.int .i64 r1.1)] hF hS (by kernel_rfl) (by kernel_rfl) ?_ (fun a w hF hS => ?_)
  · exact obs_nil
  refine at_end [6, 7] [pl 6 (.slice A3 (Int.toNat (line1.length : Int)) c3), pl 7 (.int .i64 r1.1)] hF rfl (by kernel_rfl) (fun hF => ?_)
  refine then_n ?_
  refine reg [] [] [4, 5] [pl 4 (.int .i64 r1.1), pl 5 (.slice A3 (Int.toNat (line1.length : Int)) c3)] hF hS Fol (by kernel_rfl) (by kernel_rfl) (by kernel_rfl) ?_ (fun a w hF hS => ?_)
  · exact obs_nil
  refine wp_ret ?_
  have hl1 := (hS.at_ 0 rfl).len1
  have hS := (hS.at_ 0 rfl).reN hl1
  have hS : Sep w0 B w (own 3 (.slice A3 r1.2.length c3) (vI r1.2) :: fs) := hS
  have hF := hF.cast (t := 5) (v := .slice A3 (Int.toNat (line1.length : Int)) c3) (v' := .slice A3 r1.2.length c3) rfl rfl (congrArg (fun k => Value.slice A3 k c3) hl1)
  have hm : some (r1.1, r1.2) = some r := hm
  obtain rfl := Option.some.inj hm
  exact retV (rs := [.tmp 4, .tmp 5]) (vs := [.int .i64 r1.1, .slice A3 r1.2.length c3]) hF rfl (rv_t (by kernel_rfl) <| rv_t (by kernel_rfl) <| rv_nil) rfl ⟨_, rfl, A3, c3, rfl, hS⟩

noncomputable def gameroomref_SureOf_J3 (i1 : Int) (out3 : List Int) : Option (St (List Int × Int) (List Int)) :=
  some (.next (out3, (w64 (i1 + 1))))

noncomputable def gameroomref_SureOf_J2 (r1 : (Int × List Int)) (r2 : (List Int)) (out1 : List Int) (i1 : Int) : Option (St (List Int × Int) (List Int)) :=
  asrt (0 ≤ i1 ∧ i1 < (r1.2.length : Int)) <| if ((geti r1.2 i1) == r1.1) then (asrt (0 ≤ i1 ∧ i1 < (r2.length : Int)) <| (gameroomref_SureOf_J3 i1) (out1.set (Int.toNat i1) 1)) else (asrt (0 ≤ i1 ∧ i1 < (r1.2.length : Int)) <| if ((geti r1.2 i1) == 0) then (asrt (0 ≤ i1 ∧ i1 < (r2.length : Int)) <| (gameroomref_SureOf_J3 i1) (out1.set (Int.toNat i1) 0)) else ((gameroomref_SureOf_J3 i1) out1))

noncomputable def gameroomref_SureOf_J1 (r1 : (Int × List Int)) (out2 : List Int) : Option (List Int × Bool) :=
  some (out2, (decide ((0 : Int) < r1.1)))

noncomputable def gameroomref_SureOf_K1 (r1 : (Int × List Int)) : (List Int) → Option (List Int × Bool) :=
  fun (x : (List Int)) => match x with | out2 => (gameroomref_SureOf_J1 r1) out2

noncomputable def gameroomref_SureOf_L1 (line1 : List Int) (r1 : (Int × List Int)) (r2 : (List Int)) : (List Int × Int) → Option (St (List Int × Int) (List Int)) :=
  fun (x : (List Int × Int)) => match x with | (out1, i1) => if (decide (i1 < (line1.length : Int))) then ((gameroomref_SureOf_J2 r1 r2 out1 i1)) else (some (.done out1))

noncomputable def gameroomref_SureOf_m (line1 : List Int) (clue1 : List Int) : Option (List Int × Bool) :=
  (gameroomref_LineWays_m line1 clue1).bind fun r1 => (gameroomref_Ints_m line1).bind fun r2 => (loop (gameroomref_SureOf_L1 line1 r1 r2) (r2, 0)).bind (gameroomref_SureOf_K1 r1)

set_option maxRecDepth 100000 in
set_option maxHeartbeats 4000000 in
theorem gameroomref_SureOf_w {A1 : Option Addr} {c1 : Nat} {n1 : Nat} {line1 : List Int} {A2 : Option Addr} {c2 : Nat} {n2 : Nat} {clue1 : List Int} {r : (List Int × Bool)} {w0 w : World} {B : Nat} {fs : List HP} (hm : gameroomref_SureOf_m line1 clue1 = some r) (hS : Sep w0 B w (fs)) (hr_line1 : RdF w0 B fs A1 (vI line1)) (_hc_line1 : line1.length ≤ c1) (_hn_line1 : n1 = line1.length) (hr_clue1 : RdF w0 B fs A2 (vI clue1)) (_hc_clue1 : clue1.length ≤ c2) (_hn_clue1 : n2 = clue1.length) :
    Calls Try.prog 47 #[.slice A1 n1 c1, .slice A2 n2 c2] w fun e w' => ∃ v, e = .returned v ∧ ∃ (A5 : Option Addr) (c5 : Nat), v = .tuple #[.slice A5 r.1.length c5, .bool r.2] ∧ Sep w0 B w' (own 3 (.slice A5 r.1.length c5) (vI r.1) :: fs) := by
  obtain ⟨i3, hi3, hz3, hs3, hb3⟩ := info_parts Info3
  obtain rfl := _hn_line1
  obtain rfl := _hn_clue1
  unfold gameroomref_SureOf_m at hm
  replace hm := start_b hm
  refine enter (l := [.slice A1 line1.length c1, .slice A2 clue1.length c2]) (n := 44) Try.func47 rfl rfl (by simp) (fun a hF => ?_)
  refine reg [] [] [0, 1] [pl 0 (.slice A1 line1.length c1), pl 1 (.slice A2 clue1.length c2)] hF hS Fol (by kernel_rfl) (by kernel_rfl) (by kernel_rfl) ?_ (fun a w hF hS => ?_)
  · exact obs_nil
  refine seqR ?_
  obtain ⟨r1, hr1, hm⟩ := call_b hm
  refine at_run 2 [] [] [0, 11, 12] [pl 0 (.slice A1 line1.length c1), pl 11 (.slice A1 line1.length c1), pl 12 (.slice A2 clue1.length c2)] hF hS (by kernel_rfl) (by kernel_rfl) ?_ (fun a w hF hS => ?_)
  · exact obs_nil
  refine at_call (f := 46) (args := #[.slice A1 line1.length c1, .slice A2 clue1.length c2]) (d := 13) hF (by kernel_rfl) (by kernel_rfl) Try.func46 (by kernel_rfl) rfl (gameroomref_LineWays_w hr1 hS (fun _ hS => (hr_line1 _ (hS.dropN 0))) _hc_line1 rfl (fun _ hS => (hr_clue1 _ (hS.dropN 0))) _hc_clue1 rfl) (fun v a w hR hF => ?_)
  clear hS
  obtain ⟨A3, c3, rfl, hS⟩ := hR
  have hS : Sep w0 B w (own 3 (.slice A3 r1.2.length c3) (vI r1.2) :: fs) := hS
  refine at_run 5 [] [] [0, 6, 7] [pl 0 (.slice A1 line1.length c1), pl 6 (.int .i64 r1.1), pl 7 (.slice A3 r1.2.length c3)] hF hS (by kernel_rfl) (by kernel_rfl) ?_ (fun a w hF hS => ?_)
  · exact obs_nil
  refine at_end [0, 6, 7] [pl 0 (.slice A1 line1.length c1), pl 6 (.int .i64 r1.1), pl 7 (.slice A3 r1.2.length c3)] hF rfl (by kernel_rfl) (fun hF => ?_)
  refine then_n ?_
  refine seqR ?_
  obtain ⟨r2, hr2, hm⟩ := call_b hm
  refine at_run 1 [] [] [0, 6, 7, 16] [pl 0 (.slice A1 line1.length c1), pl 6 (.int .i64 r1.1), pl 7 (.slice A3 r1.2.length c3), pl 16 (.slice A1 line1.length c1)] hF hS (by kernel_rfl) (by kernel_rfl) ?_ (fun a w hF hS => ?_)
  · exact obs_nil
  refine at_call (f := 58) (args := #[.slice A1 line1.length c1]) (d := 17) hF (by kernel_rfl) (by kernel_rfl) Try.func58 (by kernel_rfl) rfl (gameroomref_Ints_w hr2 hS (fun _ hS => (hr_line1 _ (hS.dropN 1))) _hc_line1 rfl) (fun v a w hR hF => ?_)
  clear hS
  obtain ⟨A4, c4, rfl, hS⟩ := hR
  have hS : Sep w0 B w (own 3 (.slice A4 r2.length c4) (vI r2) :: own 3 (.slice A3 r1.2.length c3) (vI r1.2) :: fs) := hS
  refine at_run 1 [] [] [0, 6, 7, 8] [pl 0 (.slice A1 line1.length c1), pl 6 (.int .i64 r1.1), pl 7 (.slice A3 r1.2.length c3), pl 8 (.slice A4 r2.length c4)] hF hS (by kernel_rfl) (by kernel_rfl) ?_ (fun a w hF hS => ?_)
  · exact obs_nil
  refine at_end [0, 6, 7, 8] [pl 0 (.slice A1 line1.length c1), pl 6 (.int .i64 r1.1), pl 7 (.slice A3 r1.2.length c3), pl 8 (.slice A4 r2.length c4)] hF rfl (by kernel_rfl) (fun hF => ?_)
  refine then_n ?_
  refine seq_cut (fun a w => ∃ (out2 : List Int), Fr 44 [pl 6 (.int .i64 r1.1), pl 8 (.slice A4 r2.length c4)] a ∧ Sep w0 B w (own 3 (.slice A4 r2.length c4) (vI out2) :: fs) ∧ ((gameroomref_SureOf_J1 r1) out2).bind some = some r) ?_ ?_
  · rintro a w ⟨out2, hF, hS, hm⟩
    unfold gameroomref_SureOf_J1 at hm
    refine reg [] [] [4, 5] [pl 4 (.slice A4 r2.length c4), pl 5 (.bool (decide ((0 : Int) < r1.1)))] hF hS Fol (by kernel_rfl) (by kernel_rfl) (by kernel_rfl) ?_ (fun a w hF hS => ?_)
    · exact obs_nil
    refine wp_ret ?_
    have hl1 := (hS.at_ 0 rfl).len1
    have hS := (hS.at_ 0 rfl).reN hl1
    have hS : Sep w0 B w (own 3 (.slice A4 out2.length c4) (vI out2) :: fs) := hS
    have hF := hF.cast (t := 4) (v := .slice A4 r2.length c4) (v' := .slice A4 out2.length c4) rfl rfl (congrArg (fun k => Value.slice A4 k c4) hl1)
    have hm : some (out2, (decide ((0 : Int) < r1.1))) = some r := hm
    obtain rfl := Option.some.inj hm
    exact retV (rs := [.tmp 4, .tmp 5]) (vs := [.slice A4 out2.length c4, .bool (decide ((0 : Int) < r1.1))]) hF rfl (rv_t (by kernel_rfl) <| rv_t (by kernel_rfl) <| rv_nil) rfl ⟨_, rfl, A4, c4, rfl, hS⟩
  · refine reg [] [] [0, 6, 7, 8, 9] [pl 0 (.slice A1 line1.length c1), pl 6 (.int .i64 r1.1), pl 7 (.slice A3 r1.2.length c3), pl 8 (.slice A4 r2.length c4), pl 9 (.int .i64 0)] hF hS Fol (by kernel_rfl) (by kernel_rfl) (by kernel_rfl) ?_ (fun a w hF hS => ?_)
    · exact obs_nil
    refine wp_block ?_
    have hS := hS.pickN 2 [1, 0] (by decide)
    refine wp_loop_model (S := (List Int × Int)) (R := (List Int)) (gameroomref_SureOf_L1 line1 r1 r2) (fun x => ((gameroomref_SureOf_K1 r1) x).bind some) r (fun (x : (List Int × Int)) a w => Fr 44 [pl 0 (.slice A1 line1.length c1), pl 6 (.int .i64 r1.1), pl 7 (.slice A3 r1.2.length c3), pl 8 (.slice A4 r2.length c4), pl 9 (.int .i64 x.2)] a ∧ Sep w0 B w (own 3 (.slice A3 r1.2.length c3) (vI r1.2) :: own 3 (.slice A4 r2.length c4) (vI x.1) :: fs)) (assoc_b hm) ⟨hF.weak [0, 6, 7, 8, 9] (by kernel_rfl), hS⟩ ?_
    clear hF hS hm
    rintro nn1 ⟨out1, i1⟩ a w ⟨hF, hS⟩ hm
    generalize hφ1 : stK (gameroomref_SureOf_L1 line1 r1 r2) nn1 (fun x => ((gameroomref_SureOf_K1 r1) x).bind some) = φ1 at hm
    unfold gameroomref_SureOf_L1 at hm
    dsimp only at hF hS hm
    refine seq_cut (fun a w => Fr 44 [pl 0 (.slice A1 line1.length c1), pl 6 (.int .i64 r1.1), pl 7 (.slice A3 r1.2.length c3), pl 8 (.slice A4 r2.length c4), pl 9 (.int .i64 i1)] a ∧ Sep w0 B w (own 3 (.slice A3 r1.2.length c3) (vI r1.2) :: own 3 (.slice A4 r2.length c4) (vI out1) :: fs) ∧ ((gameroomref_SureOf_J2 r1 r2 out1 i1)).bind φ1 = some r) ?_ ?_
    · rintro a w ⟨hF, hS, hm⟩
      unfold gameroomref_SureOf_J2 at hm
      refine seq_cut (fun a w => ∃ (out3 : List Int), Fr 44 [pl 0 (.slice A1 line1.length c1), pl 6 (.int .i64 r1.1), pl 7 (.slice A3 r1.2.length c3), pl 8 (.slice A4 r2.length c4), pl 9 (.int .i64 i1)] a ∧ Sep w0 B w (own 3 (.slice A3 r1.2.length c3) (vI r1.2) :: own 3 (.slice A4 r2.length c4) (vI out3) :: fs) ∧ ((gameroomref_SureOf_J3 i1) out3).bind φ1 = some r) ?_ ?_
      · rintro a w ⟨out3, hF, hS, hm⟩
        unfold gameroomref_SureOf_J3 at hm
        refine reg1 [] [] [0, 6, 7, 8, 9] [pl 0 (.slice A1 line1.length c1), pl 6 (.int .i64 r1.1), pl 7 (.slice A3 r1.2.length c3), pl 8 (.slice A4 r2.length c4), pl 9 (.int .i64 (w64 (i1 + 1)))] hF hS Fol (by kernel_rfl) (by kernel_rfl) (by kernel_rfl) ?_ (fun a w hF hS => ?_)
        · exact obs_nil
        refine then_n ?_
        rw [← hφ1] at hm
        exact ⟨(out3, (w64 (i1 + 1))), ⟨hF.weak [0, 6, 7, 8, 9] (by kernel_rfl), hS⟩, hm⟩
      · refine wp_block ?_
        obtain ⟨hp1, hm⟩ := asrt_b hm
        refine reg [⟨true, [], vS (Instr.indexAt 22 (.slice A3 r1.2.length c3) (.int .i64 i1)), .pointer (some (sAddr A3 i1))⟩, ⟨false, [], vS (Instr.loadAt 3 (.pointer (some (sAddr A3 i1)))), .int .i64 (geti r1.2 i1)⟩] [none, none, some (.pointer (some (sAddr A3 i1))), some (.int .i64 (geti r1.2 i1)), none, none] [0, 6, 7, 8, 9, 29] [pl 0 (.slice A1 line1.length c1), pl 6 (.int .i64 r1.1), pl 7 (.slice A3 r1.2.length c3), pl 8 (.slice A4 r2.length c4), pl 9 (.int .i64 i1), pl 29 (.bool ((geti r1.2 i1) == r1.1))] hF hS Fol (by kernel_rfl) (by kernel_rfl) (by kernel_rfl) ?_ (fun a w hF hS => ?_)
        · exact obs_cons (ob_ix1 (f := (Value.int .i64)) (m := r1.2) Und22 hi3 hs3 (hS.at_ 0 rfl).rd rfl (fun _ => hp1)) <| obs_cons (ob_get1 (n := r1.2.length) (m := r1.2) (Value.int .i64) (0 : Int) Agg3 (fun _ hS => ⟨_, (hS.at_ 0 rfl).rd⟩) (fun _ hS => rfl) (fun _ => hp1)) <| obs_nil
        refine cond_ev (t := 29) (b := ((geti r1.2 i1) == r1.1)) hF (by kernel_rfl) (fun hb => ?_) (fun hb => ?_)
        · replace hm := if_t hm hb
          refine oneR ?_
          obtain ⟨hp2, hm⟩ := asrt_b hm
          refine at_run 3 [⟨true, [], vS (Instr.indexAt 22 (.slice A4 r2.length c4) (.int .i64 i1)), .pointer (some (sAddr A4 i1))⟩] [none, none, some (.pointer (some (sAddr A4 i1)))] [0, 6, 7, 8, 9, 32] [pl 0 (.slice A1 line1.length c1), pl 6 (.int .i64 r1.1), pl 7 (.slice A3 r1.2.length c3), pl 8 (.slice A4 r2.length c4), pl 9 (.int .i64 i1), pl 32 (.pointer (some (sAddr A4 i1)))] hF hS (by kernel_rfl) (by kernel_rfl) ?_ (fun a w hF hS => ?_)
          · exact obs_cons (ob_ix1 (f := (Value.int .i64)) (m := out1) Und22 hi3 hs3 (hS.at_ 1 rfl).rd ((hS.at_ 1 rfl).len1) (fun _ => hp2)) <| obs_nil
          obtain ⟨w, hrun, hS⟩ := run_set1 (P := Try.prog) (t := 3) (x := 1) (Value.int .i64) (hS.at_ 1 rfl) hi3 hs3 rfl rfl hp2
          refine at_skip hF (by kernel_rfl) hrun ?_
          have hS : Sep w0 B w (own 3 (.slice A3 r1.2.length c3) (vI r1.2) :: own 3 (.slice A4 r2.length c4) (vI (out1.set (Int.toNat i1) 1)) :: fs) := hS
          refine at_end [0, 6, 7, 8, 9] [pl 0 (.slice A1 line1.length c1), pl 6 (.int .i64 r1.1), pl 7 (.slice A3 r1.2.length c3), pl 8 (.slice A4 r2.length c4), pl 9 (.int .i64 i1)] hF rfl (by kernel_rfl) (fun hF => ?_)
          refine block_n ?_
          refine then_n ?_
          exact ⟨(out1.set (Int.toNat i1) 1), hF.weak [0, 6, 7, 8, 9] (by kernel_rfl), hS, hm⟩
        · replace hm := if_f hm hb
          obtain ⟨hp3, hm⟩ := asrt_b hm
          refine reg [⟨true, [], vS (Instr.indexAt 22 (.slice A3 r1.2.length c3) (.int .i64 i1)), .pointer (some (sAddr A3 i1))⟩, ⟨false, [], vS (Instr.loadAt 3 (.pointer (some (sAddr A3 i1)))), .int .i64 (geti r1.2 i1)⟩] [none, none, some (.pointer (some (sAddr A3 i1))), some (.int .i64 (geti r1.2 i1)), none] [0, 6, 7, 8, 9, 37] [pl 0 (.slice A1 line1.length c1), pl 6 (.int .i64 r1.1), pl 7 (.slice A3 r1.2.length c3), pl 8 (.slice A4 r2.length c4), pl 9 (.int .i64 i1), pl 37 (.bool ((geti r1.2 i1) == 0))] hF hS Fol (by kernel_rfl) (by kernel_rfl) (by kernel_rfl) ?_ (fun a w hF hS => ?_)
          · exact obs_cons (ob_ix1 (f := (Value.int .i64)) (m := r1.2) Und22 hi3 hs3 (hS.at_ 0 rfl).rd rfl (fun _ => hp3)) <| obs_cons (ob_get1 (n := r1.2.length) (m := r1.2) (Value.int .i64) (0 : Int) Agg3 (fun _ hS => ⟨_, (hS.at_ 0 rfl).rd⟩) (fun _ hS => rfl) (fun _ => hp3)) <| obs_nil
          refine cond_ev (t := 37) (b := ((geti r1.2 i1) == 0)) hF (by kernel_rfl) (fun hb => ?_) (fun hb => ?_)
          · replace hm := if_t hm hb
            refine oneR ?_
            obtain ⟨hp4, hm⟩ := asrt_b hm
            refine at_run 3 [⟨true, [], vS (Instr.indexAt 22 (.slice A4 r2.length c4) (.int .i64 i1)), .pointer (some (sAddr A4 i1))⟩] [none, none, some (.pointer (some (sAddr A4 i1)))] [0, 6, 7, 8, 9, 40] [pl 0 (.slice A1 line1.length c1), pl 6 (.int .i64 r1.1), pl 7 (.slice A3 r1.2.length c3), pl 8 (.slice A4 r2.length c4), pl 9 (.int .i64 i1), pl 40 (.pointer (some (sAddr A4 i1)))] hF hS (by kernel_rfl) (by kernel_rfl) ?_ (fun a w hF hS => ?_)
            · exact obs_cons (ob_ix1 (f := (Value.int .i64)) (m := out1) Und22 hi3 hs3 (hS.at_ 1 rfl).rd ((hS.at_ 1 rfl).len1) (fun _ => hp4)) <| obs_nil
            obtain ⟨w, hrun, hS⟩ := run_set1 (P := Try.prog) (t := 3) (x := 0) (Value.int .i64) (hS.at_ 1 rfl) hi3 hs3 rfl rfl hp4
            refine at_skip hF (by kernel_rfl) hrun ?_
            have hS : Sep w0 B w (own 3 (.slice A3 r1.2.length c3) (vI r1.2) :: own 3 (.slice A4 r2.length c4) (vI (out1.set (Int.toNat i1) 0)) :: fs) := hS
            refine at_end [0, 6, 7, 8, 9] [pl 0 (.slice A1 line1.length c1), pl 6 (.int .i64 r1.1), pl 7 (.slice A3 r1.2.length c3), pl 8 (.slice A4 r2.length c4), pl 9 (.int .i64 i1)] hF rfl (by kernel_rfl) (fun hF => ?_)
            refine block_n ?_
            refine then_n ?_
            exact ⟨(out1.set (Int.toNat i1) 0), hF.weak [0, 6, 7, 8, 9] (by kernel_rfl), hS, hm⟩
          · replace hm := if_f hm hb
            refine wp_skip ?_
            refine block_n ?_
            refine then_n ?_
            exact ⟨out1, hF.weak [0, 6, 7, 8, 9] (by kernel_rfl), hS, hm⟩
    · refine reg [] [] [0, 6, 7, 8, 9, 21] [pl 0 (.slice A1 line1.length c1), pl 6 (.int .i64 r1.1), pl 7 (.slice A3 r1.2.length c3), pl 8 (.slice A4 r2.length c4), pl 9 (.int .i64 i1), pl 21 (.bool (decide (i1 < (line1.length : Int))))] hF hS Fol (by kernel_rfl) (by kernel_rfl) (by kernel_rfl) ?_ (fun a w hF hS => ?_)
      · exact obs_nil
      refine cond_ev (t := 21) (b := decide (i1 < (line1.length : Int))) hF (by kernel_rfl) (fun hb => ?_) (fun hb => ?_)
      · replace hm := if_t hm hb
        refine wp_skip ?_
        refine then_n ?_
        exact ⟨hF.weak [0, 6, 7, 8, 9] (by kernel_rfl), hS, hm⟩
      · replace hm := if_f hm hb
        refine wp_exit ?_
        refine then_e (then_e (block_e (then_n ?_)))
        have hS := hS.pickN 2 [1] (by decide)
        rw [← hφ1] at hm
        replace hm := done_b hm
        unfold gameroomref_SureOf_K1 at hm
        try dsimp only at hm
        have hm : ((gameroomref_SureOf_J1 r1) out1).bind some = some r := hm
        exact ⟨out1, hF.weak [6, 8] (by kernel_rfl), hS, hm⟩

noncomputable def gameroomlaw_NonoLines_J4 (line1 : List Int) (open1 : Bool) (i1 : Int) : Option (St (Bool × Int) Bool) :=
  some (.next ((open1 || (decide ((geti line1 i1) < 0))), (w64 (i1 + 1))))

noncomputable def gameroomlaw_NonoLines_J3 (line1 : List Int) (open1 : Bool) (i1 : Int) : Option (St (Bool × Int) Bool) :=
  asrt (open1 = false → 0 ≤ i1 ∧ i1 < (line1.length : Int)) <| (gameroomlaw_NonoLines_J4 line1 open1 i1)

noncomputable def gameroomlaw_NonoLines_J9 (r8 : (List Int × Int)) (r15 : (List Int × Bool)) : Option Bool :=
  ((if (r8.2 == 0) then gameroomlaw_sameInts_m r8.1 r15.1 else some false)).bind fun r16 => some ((r8.2 == 0) && r16)

noncomputable def gameroomlaw_NonoLines_J8 (line1 : List Int) (clue1 : List Int) (r8 : (List Int × Int)) : Option Bool :=
  (gameroomref_SureOf_m line1 clue1).bind fun r15 => if (!r15.2) then (some ((r8.2 == 10) && ((r8.1.length : Int) == 0))) else ((gameroomlaw_NonoLines_J9 r8 r15))

noncomputable def gameroomlaw_NonoLines_J7 (line1 : List Int) (clue1 : List Int) (r5 : (Int × Int)) (r8 : (List Int × Int)) : Option Bool :=
  (gameroomref_LineWays_m line1 clue1).bind fun r14 => if ((r5.2 != 0) || (r5.1 != r14.1)) then (some false) else ((gameroomlaw_NonoLines_J8 line1 clue1 r8))

noncomputable def gameroomlaw_NonoLines_J5 (line1 : List Int) (clue1 : List Int) (r5 : (Int × Int)) (r8 : (List Int × Int)) : Option Bool :=
  (gameroomref_ClueMay_m clue1).bind fun r13 => if (!r13) then (some ((((r5.2 == 4) && (r8.2 == 4)) && (r5.1 == 0)) && ((r8.1.length : Int) == 0))) else ((gameroomlaw_NonoLines_J7 line1 clue1 r5 r8))

noncomputable def gameroomlaw_NonoLines_J6 (line1 : List Int) (clue1 : List Int) (r5 : (Int × Int)) (r8 : (List Int × Int)) (z1 : Bool) : Option Bool :=
  if z1 then (some false) else ((gameroomlaw_NonoLines_J5 line1 clue1 r5 r8))

noncomputable def gameroomlaw_NonoLines_J2 (line1 : List Int) (clue1 : List Int) (r2 : (List Int × Int)) (r5 : (Int × Int)) (r8 : (List Int × Int)) (open2 : Bool) : Option Bool :=
  if open2 then (if ((r2.2 != 10) || (decide ((0 : Int) < (r2.1.length : Int)))) then (some false) else ((gameroomlaw_NonoLines_J5 line1 clue1 r5 r8))) else (if (r2.2 != 0) then (((if (!(r2.2 != 0)) then gameroomlaw_sameInts_m r2.1 ([] : List Int) else some false)).bind fun r10 => (gameroomlaw_NonoLines_J6 line1 clue1 r5 r8) ((r2.2 != 0) || (!r10))) else ((gameroomref_ClueOf_m line1).bind fun r11 => ((if (!(r2.2 != 0)) then gameroomlaw_sameInts_m r2.1 r11 else some false)).bind fun r12 => (gameroomlaw_NonoLines_J6 line1 clue1 r5 r8) ((r2.2 != 0) || (!r12))))

noncomputable def gameroomlaw_NonoLines_K1 (line1 : List Int) (clue1 : List Int) (r2 : (List Int × Int)) (r5 : (Int × Int)) (r8 : (List Int × Int)) : Bool → Option Bool :=
  fun (x : Bool) => match x with | open2 => (gameroomlaw_NonoLines_J2 line1 clue1 r2 r5 r8) open2

noncomputable def gameroomlaw_NonoLines_L1 (line1 : List Int) : (Bool × Int) → Option (St (Bool × Int) Bool) :=
  fun (x : (Bool × Int)) => match x with | (open1, i1) => if (decide (i1 < (line1.length : Int))) then ((gameroomlaw_NonoLines_J3 line1 open1 i1)) else (some (.done open1))

noncomputable def gameroomlaw_NonoLines_J1 (line1 : List Int) (clue1 : List Int) (r2 : (List Int × Int)) (r5 : (Int × Int)) (r8 : (List Int × Int)) : Option Bool :=
  (loop (gameroomlaw_NonoLines_L1 line1) (false, 0)).bind (gameroomlaw_NonoLines_K1 line1 clue1 r2 r5 r8)

noncomputable def gameroomlaw_NonoLines_m (line1 : List Int) (clue1 : List Int) : Option Bool :=
  (gameroomlaw_ints_m line1).bind fun r1 => (nono_Clue_m r1).bind fun r2 => (gameroomlaw_ints_m line1).bind fun r3 => (gameroomlaw_ints_m clue1).bind fun r4 => (nono_Ways_m r3 r4).bind fun r5 => (gameroomlaw_ints_m line1).bind fun r6 => (gameroomlaw_ints_m clue1).bind fun r7 => (nono_Sure_m r6 r7).bind fun r8 => (gameroomref_LineMay_m line1).bind fun r9 => if (r9 != 0) then (some ((((((r2.2 == r9) && (r5.2 == r9)) && (r8.2 == r9)) && ((r2.1.length : Int) == 0)) && (r5.1 == 0)) && ((r8.1.length : Int) == 0))) else ((gameroomlaw_NonoLines_J1 line1 clue1 r2 r5 r8))

set_option maxRecDepth 100000 in
set_option maxHeartbeats 4000000 in
theorem gameroomlaw_NonoLines_w {A1 : Option Addr} {c1 : Nat} {n1 : Nat} {line1 : List Int} {A2 : Option Addr} {c2 : Nat} {n2 : Nat} {clue1 : List Int} {r : Bool} {w0 w : World} {B : Nat} {fs : List HP} (hm : gameroomlaw_NonoLines_m line1 clue1 = some r) (hS : Sep w0 B w (fs)) (hr_line1 : RdF w0 B fs A1 (vI line1)) (_hc_line1 : line1.length ≤ c1) (_hn_line1 : n1 = line1.length) (hr_clue1 : RdF w0 B fs A2 (vI clue1)) (_hc_clue1 : clue1.length ≤ c2) (_hn_clue1 : n2 = clue1.length) :
    Calls Try.prog 8 #[.slice A1 n1 c1, .slice A2 n2 c2] w fun e w' => e = .returned (.bool r) ∧ Sep w0 B w' (fs) := by
  obtain ⟨i3, hi3, hz3, hs3, hb3⟩ := info_parts Info3
  obtain rfl := _hn_line1
  obtain rfl := _hn_clue1
  unfold gameroomlaw_NonoLines_m at hm
  replace hm := start_b hm
  refine enter (l := [.slice A1 line1.length c1, .slice A2 clue1.length c2]) (n := 155) Try.func8 rfl rfl (by simp) (fun a hF => ?_)
  refine reg [] [] [0, 1] [pl 0 (.slice A1 line1.length c1), pl 1 (.slice A2 clue1.length c2)] hF hS Fol (by kernel_rfl) (by kernel_rfl) (by kernel_rfl) ?_ (fun a w hF hS => ?_)
  · exact obs_nil
  refine seqR ?_
  obtain ⟨r1, hr1, hm⟩ := call_b hm
  obtain ⟨r2, hr2, hm⟩ := call_b hm
  refine at_run 1 [] [] [0, 1, 19] [pl 0 (.slice A1 line1.length c1), pl 1 (.slice A2 clue1.length c2), pl 19 (.slice A1 line1.length c1)] hF hS (by kernel_rfl) (by kernel_rfl) ?_ (fun a w hF hS => ?_)
  · exact obs_nil
  refine at_call (f := 40) (args := #[.slice A1 line1.length c1]) (d := 20) hF (by kernel_rfl) (by kernel_rfl) Try.func40 (by kernel_rfl) rfl (gameroomlaw_ints_w hr1 hS (fun _ hS => (hr_line1 _ (hS.dropN 0))) _hc_line1 rfl) (fun v a w hR hF => ?_)
  clear hS
  obtain ⟨A3, c3, rfl, hS⟩ := hR
  have hS : Sep w0 B w (own 3 (.slice A3 r1.length c3) (vI r1) :: fs) := hS
  refine at_call (f := 39) (args := #[.slice A3 r1.length c3]) (d := 21) hF (by kernel_rfl) (by kernel_rfl) Try.func39 (by kernel_rfl) rfl (nono_Clue_w hr2 hS (fun _ hS => (hS.at_ 0 rfl).rd) ((hS.at_ 0 rfl).cap1) rfl) (fun v a w hR hF => ?_)
  clear hS
  obtain ⟨A4, c4, rfl, hS⟩ := hR
  have hS : Sep w0 B w (own 3 (.slice A4 r2.1.length c4) (vI r2.1) :: own 3 (.slice A3 r1.length c3) (vI r1) :: fs) := hS
  refine at_run 5 [] [] [0, 1, 5, 6] [pl 0 (.slice A1 line1.length c1), pl 1 (.slice A2 clue1.length c2), pl 5 (.slice A4 r2.1.length c4), pl 6 (.int .i64 r2.2)] hF hS (by kernel_rfl) (by kernel_rfl) ?_ (fun a w hF hS => ?_)
  · exact obs_nil
  refine at_end [0, 1, 5, 6] [pl 0 (.slice A1 line1.length c1), pl 1 (.slice A2 clue1.length c2), pl 5 (.slice A4 r2.1.length c4), pl 6 (.int .i64 r2.2)] hF rfl (by kernel_rfl) (fun hF => ?_)
  refine then_n ?_
  refine seqR ?_
  obtain ⟨r3, hr3, hm⟩ := call_b hm
  obtain ⟨r4, hr4, hm⟩ := call_b hm
  obtain ⟨r5, hr5, hm⟩ := call_b hm
  refine at_run 1 [] [] [0, 1, 5, 6, 25] [pl 0 (.slice A1 line1.length c1), pl 1 (.slice A2 clue1.length c2), pl 5 (.slice A4 r2.1.length c4), pl 6 (.int .i64 r2.2), pl 25 (.slice A1 line1.length c1)] hF hS (by kernel_rfl) (by kernel_rfl) ?_ (fun a w hF hS => ?_)
  · exact obs_nil
  refine at_call (f := 40) (args := #[.slice A1 line1.length c1]) (d := 26) hF (by kernel_rfl) (by kernel_rfl) Try.func40 (by kernel_rfl) rfl (gameroomlaw_ints_w hr3 hS (fun _ hS => (hr_line1 _ (hS.dropN 2))) _hc_line1 rfl) (fun v a w hR hF => ?_)
  clear hS
  obtain ⟨A5, c5, rfl, hS⟩ := hR
  have hS : Sep w0 B w (own 3 (.slice A5 r3.length c5) (vI r3) :: own 3 (.slice A4 r2.1.length c4) (vI r2.1) :: own 3 (.slice A3 r1.length c3) (vI r1) :: fs) := hS
  refine at_run 1 [] [] [0, 1, 5, 6, 26, 27] [pl 0 (.slice A1 line1.length c1), pl 1 (.slice A2 clue1.length c2), pl 5 (.slice A4 r2.1.length c4), pl 6 (.int .i64 r2.2), pl 26 (.slice A5 r3.length c5), pl 27 (.slice A2 clue1.length c2)] hF hS (by kernel_rfl) (by kernel_rfl) ?_ (fun a w hF hS => ?_)
  · exact obs_nil
  refine at_call (f := 40) (args := #[.slice A2 clue1.length c2]) (d := 28) hF (by kernel_rfl) (by kernel_rfl) Try.func40 (by kernel_rfl) rfl (gameroomlaw_ints_w hr4 hS (fun _ hS => (hr_clue1 _ (hS.dropN 3))) _hc_clue1 rfl) (fun v a w hR hF => ?_)
  clear hS
  obtain ⟨A6, c6, rfl, hS⟩ := hR
  have hS : Sep w0 B w (own 3 (.slice A6 r4.length c6) (vI r4) :: own 3 (.slice A5 r3.length c5) (vI r3) :: own 3 (.slice A4 r2.1.length c4) (vI r2.1) :: own 3 (.slice A3 r1.length c3) (vI r1) :: fs) := hS
  refine at_run 6 [⟨false, [], callFunc 41 #[.slice A5 r3.length c5, .slice A6 r4.length c6], .tuple #[.int .i64 r5.1, .int .i64 r5.2]⟩] [some (.tuple #[.int .i64 r5.1, .int .i64 r5.2]), none, none, none, none, none] [0, 1, 5, 6, 7, 8] [pl 0 (.slice A1 line1.length c1), pl 1 (.slice A2 clue1.length c2), pl 5 (.slice A4 r2.1.length c4), pl 6 (.int .i64 r2.2), pl 7 (.int .i64 r5.1), pl 8 (.int .i64 r5.2)] hF hS (by kernel_rfl) (by kernel_rfl) ?_ (fun a w hF hS => ?_)
  · exact obs_cons (ob_call Try.func41 (by kernel_rfl) rfl (fun _ _ hS => nono_Ways_w hr5 hS (fun _ hS => (hS.at_ 1 rfl).rd) ((hS.at_ 1 rfl).cap1) rfl (fun _ hS => (hS.at_ 0 rfl).rd) ((hS.at_ 0 rfl).cap1) rfl)) <| obs_nil
  refine at_end [0, 1, 5, 6, 7, 8] [pl 0 (.slice A1 line1.length c1), pl 1 (.slice A2 clue1.length c2), pl 5 (.slice A4 r2.1.length c4), pl 6 (.int .i64 r2.2), pl 7 (.int .i64 r5.1), pl 8 (.int .i64 r5.2)] hF rfl (by kernel_rfl) (fun hF => ?_)
  refine then_n ?_
  refine seqR ?_
  obtain ⟨r6, hr6, hm⟩ := call_b hm
  obtain ⟨r7, hr7, hm⟩ := call_b hm
  obtain ⟨r8, hr8, hm⟩ := call_b hm
  refine at_run 1 [] [] [0, 1, 5, 6, 7, 8, 33] [pl 0 (.slice A1 line1.length c1), pl 1 (.slice A2 clue1.length c2), pl 5 (.slice A4 r2.1.length c4), pl 6 (.int .i64 r2.2), pl 7 (.int .i64 r5.1), pl 8 (.int .i64 r5.2), pl 33 (.slice A1 line1.length c1)] hF hS (by kernel_rfl) (by kernel_rfl) ?_ (fun a w hF hS => ?_)
  · exact obs_nil
  refine at_call (f := 40) (args := #[.slice A1 line1.length c1]) (d := 34) hF (by kernel_rfl) (by kernel_rfl) Try.func40 (by kernel_rfl) rfl (gameroomlaw_ints_w hr6 hS (fun _ hS => (hr_line1 _ (hS.dropN 4))) _hc_line1 rfl) (fun v a w hR hF => ?_)
  clear hS
  obtain ⟨A7, c7, rfl, hS⟩ := hR
  have hS : Sep w0 B w (own 3 (.slice A7 r6.length c7) (vI r6) :: own 3 (.slice A6 r4.length c6) (vI r4) :: own 3 (.slice A5 r3.length c5) (vI r3) :: own 3 (.slice A4 r2.1.length c4) (vI r2.1) :: own 3 (.slice A3 r1.length c3) (vI r1) :: fs) := hS
  refine at_run 1 [] [] [0, 1, 5, 6, 7, 8, 34, 35] [pl 0 (.slice A1 line1.length c1), pl 1 (.slice A2 clue1.length c2), pl 5 (.slice A4 r2.1.length c4), pl 6 (.int .i64 r2.2), pl 7 (.int .i64 r5.1), pl 8 (.int .i64 r5.2), pl 34 (.slice A7 r6.length c7), pl 35 (.slice A2 clue1.length c2)] hF hS (by kernel_rfl) (by kernel_rfl) ?_ (fun a w hF hS => ?_)
  · exact obs_nil
  refine at_call (f := 40) (args := #[.slice A2 clue1.length c2]) (d := 36) hF (by kernel_rfl) (by kernel_rfl) Try.func40 (by kernel_rfl) rfl (gameroomlaw_ints_w hr7 hS (fun _ hS => (hr_clue1 _ (hS.dropN 5))) _hc_clue1 rfl) (fun v a w hR hF => ?_)
  clear hS
  obtain ⟨A8, c8, rfl, hS⟩ := hR
  have hS : Sep w0 B w (own 3 (.slice A8 r7.length c8) (vI r7) :: own 3 (.slice A7 r6.length c7) (vI r6) :: own 3 (.slice A6 r4.length c6) (vI r4) :: own 3 (.slice A5 r3.length c5) (vI r3) :: own 3 (.slice A4 r2.1.length c4) (vI r2.1) :: own 3 (.slice A3 r1.length c3) (vI r1) :: fs) := hS
  refine at_call (f := 42) (args := #[.slice A7 r6.length c7, .slice A8 r7.length c8]) (d := 37) hF (by kernel_rfl) (by kernel_rfl) Try.func42 (by kernel_rfl) rfl (nono_Sure_w hr8 hS (fun _ hS => (hS.at_ 1 rfl).rd) ((hS.at_ 1 rfl).cap1) rfl (fun _ hS => (hS.at_ 0 rfl).rd) ((hS.at_ 0 rfl).cap1) rfl) (fun v a w hR hF => ?_)
  clear hS
  obtain ⟨A9, c9, rfl, hS⟩ := hR
  have hS : Sep w0 B w (own 3 (.slice A9 r8.1.length c9) (vI r8.1) :: own 3 (.slice A8 r7.length c8) (vI r7) :: own 3 (.slice A7 r6.length c7) (vI r6) :: own 3 (.slice A6 r4.length c6) (vI r4) :: own 3 (.slice A5 r3.length c5) (vI r3) :: own 3 (.slice A4 r2.1.length c4) (vI r2.1) :: own 3 (.slice A3 r1.length c3) (vI r1) :: fs) := hS
  refine at_run 5 [] [] [0, 1, 5, 6, 7, 8, 9, 10] [pl 0 (.slice A1 line1.length c1), pl 1 (.slice A2 clue1.length c2), pl 5 (.slice A4 r2.1.length c4), pl 6 (.int .i64 r2.2), pl 7 (.int .i64 r5.1), pl 8 (.int .i64 r5.2), pl 9 (.slice A9 r8.1.length c9), pl 10 (.int .i64 r8.2)] hF hS (by kernel_rfl) (by kernel_rfl) ?_ (fun a w hF hS => ?_)
  · exact obs_nil
  refine at_end [0, 1, 5, 6, 7, 8, 9, 10] [pl 0 (.slice A1 line1.length c1), pl 1 (.slice A2 clue1.length c2), pl 5 (.slice A4 r2.1.length c4), pl 6 (.int .i64 r2.2), pl 7 (.int .i64 r5.1), pl 8 (.int .i64 r5.2), pl 9 (.slice A9 r8.1.length c9), pl 10 (.int .i64 r8.2)] hF rfl (by kernel_rfl) (fun hF => ?_)
  refine then_n ?_
  obtain ⟨r9, hr9, hm⟩ := call_b hm
  refine reg [⟨false, [], callFunc 43 #[.slice A1 line1.length c1], .int .i64 r9⟩] [none, some (.int .i64 r9), none] [0, 1, 5, 6, 7, 8, 9, 10, 11] [pl 0 (.slice A1 line1.length c1), pl 1 (.slice A2 clue1.length c2), pl 5 (.slice A4 r2.1.length c4), pl 6 (.int .i64 r2.2), pl 7 (.int .i64 r5.1), pl 8 (.int .i64 r5.2), pl 9 (.slice A9 r8.1.length c9), pl 10 (.int .i64 r8.2), pl 11 (.int .i64 r9)] hF hS Fol (by kernel_rfl) (by kernel_rfl) (by kernel_rfl) ?_ (fun a w hF hS => ?_)
  · exact obs_cons (ob_call Try.func43 (by kernel_rfl) rfl (fun _ _ hS => gameroomref_LineMay_w hr9 hS (fun _ hS => (hr_line1 _ (hS.dropN 7))) _hc_line1 rfl)) <| obs_nil
  refine seq_cut (fun a w => Fr 155 [pl 0 (.slice A1 line1.length c1), pl 1 (.slice A2 clue1.length c2), pl 5 (.slice A4 r2.1.length c4), pl 6 (.int .i64 r2.2), pl 7 (.int .i64 r5.1), pl 8 (.int .i64 r5.2), pl 9 (.slice A9 r8.1.length c9), pl 10 (.int .i64 r8.2)] a ∧ Sep w0 B w (own 3 (.slice A4 r2.1.length c4) (vI r2.1) :: own 3 (.slice A9 r8.1.length c9) (vI r8.1) :: fs) ∧ ((gameroomlaw_NonoLines_J1 line1 clue1 r2 r5 r8)).bind some = some r) ?_ ?_
  · rintro a w ⟨hF, hS, hm⟩
    unfold gameroomlaw_NonoLines_J1 at hm
    refine reg [] [] [0, 1, 5, 6, 7, 8, 9, 10, 12] [pl 0 (.slice A1 line1.length c1), pl 1 (.slice A2 clue1.length c2), pl 5 (.slice A4 r2.1.length c4), pl 6 (.int .i64 r2.2), pl 7 (.int .i64 r5.1), pl 8 (.int .i64 r5.2), pl 9 (.slice A9 r8.1.length c9), pl 10 (.int .i64 r8.2), pl 12 (.bool false)] hF hS Fol (by kernel_rfl) (by kernel_rfl) (by kernel_rfl) ?_ (fun a w hF hS => ?_)
    · exact obs_nil
    refine seq_cut (fun a w => ∃ (open2 : Bool), Fr 155 [pl 0 (.slice A1 line1.length c1), pl 1 (.slice A2 clue1.length c2), pl 5 (.slice A4 r2.1.length c4), pl 6 (.int .i64 r2.2), pl 7 (.int .i64 r5.1), pl 8 (.int .i64 r5.2), pl 9 (.slice A9 r8.1.length c9), pl 10 (.int .i64 r8.2), pl 12 (.bool open2)] a ∧ Sep w0 B w (own 3 (.slice A4 r2.1.length c4) (vI r2.1) :: own 3 (.slice A9 r8.1.length c9) (vI r8.1) :: fs) ∧ ((gameroomlaw_NonoLines_J2 line1 clue1 r2 r5 r8) open2).bind some = some r) ?_ ?_
    · rintro a w ⟨open2, hF, hS, hm⟩
      unfold gameroomlaw_NonoLines_J2 at hm
      refine seq_cut (fun a w => Fr 155 [pl 0 (.slice A1 line1.length c1), pl 1 (.slice A2 clue1.length c2), pl 7 (.int .i64 r5.1), pl 8 (.int .i64 r5.2), pl 9 (.slice A9 r8.1.length c9), pl 10 (.int .i64 r8.2)] a ∧ Sep w0 B w (own 3 (.slice A9 r8.1.length c9) (vI r8.1) :: fs) ∧ ((gameroomlaw_NonoLines_J5 line1 clue1 r5 r8)).bind some = some r) ?_ ?_
      · rintro a w ⟨hF, hS, hm⟩
        unfold gameroomlaw_NonoLines_J5 at hm
        refine seq_cut (fun a w => Fr 155 [pl 0 (.slice A1 line1.length c1), pl 1 (.slice A2 clue1.length c2), pl 7 (.int .i64 r5.1), pl 8 (.int .i64 r5.2), pl 9 (.slice A9 r8.1.length c9), pl 10 (.int .i64 r8.2)] a ∧ Sep w0 B w (own 3 (.slice A9 r8.1.length c9) (vI r8.1) :: fs) ∧ ((gameroomlaw_NonoLines_J7 line1 clue1 r5 r8)).bind some = some r) ?_ ?_
        · rintro a w ⟨hF, hS, hm⟩
          unfold gameroomlaw_NonoLines_J7 at hm
          refine seqR ?_
          obtain ⟨r14, hr14, hm⟩ := call_b hm
          refine at_run 2 [] [] [0, 1, 7, 8, 9, 10, 121, 122] [pl 0 (.slice A1 line1.length c1), pl 1 (.slice A2 clue1.length c2), pl 7 (.int .i64 r5.1), pl 8 (.int .i64 r5.2), pl 9 (.slice A9 r8.1.length c9), pl 10 (.int .i64 r8.2), pl 121 (.slice A1 line1.length c1), pl 122 (.slice A2 clue1.length c2)] hF hS (by kernel_rfl) (by kernel_rfl) ?_ (fun a w hF hS => ?_)
          · exact obs_nil
          refine at_call (f := 46) (args := #[.slice A1 line1.length c1, .slice A2 clue1.length c2]) (d := 123) hF (by kernel_rfl) (by kernel_rfl) Try.func46 (by kernel_rfl) rfl (gameroomref_LineWays_w hr14 hS (fun _ hS => (hr_line1 _ (hS.dropN 1))) _hc_line1 rfl (fun _ hS => (hr_clue1 _ (hS.dropN 1))) _hc_clue1 rfl) (fun v a w hR hF => ?_)
          clear hS
          obtain ⟨A11, c11, rfl, hS⟩ := hR
          have hS : Sep w0 B w (own 3 (.slice A11 r14.2.length c11) (vI r14.2) :: own 3 (.slice A9 r8.1.length c9) (vI r8.1) :: fs) := hS
          refine at_run 5 [] [] [0, 1, 7, 8, 9, 10, 14] [pl 0 (.slice A1 line1.length c1), pl 1 (.slice A2 clue1.length c2), pl 7 (.int .i64 r5.1), pl 8 (.int .i64 r5.2), pl 9 (.slice A9 r8.1.length c9), pl 10 (.int .i64 r8.2), pl 14 (.int .i64 r14.1)] hF hS (by kernel_rfl) (by kernel_rfl) ?_ (fun a w hF hS => ?_)
          · exact obs_nil
          refine at_end [0, 1, 7, 8, 9, 10, 14] [pl 0 (.slice A1 line1.length c1), pl 1 (.slice A2 clue1.length c2), pl 7 (.int .i64 r5.1), pl 8 (.int .i64 r5.2), pl 9 (.slice A9 r8.1.length c9), pl 10 (.int .i64 r8.2), pl 14 (.int .i64 r14.1)] hF rfl (by kernel_rfl) (fun hF => ?_)
          refine then_n ?_
          refine seq_cut (fun a w => Fr 155 [pl 0 (.slice A1 line1.length c1), pl 1 (.slice A2 clue1.length c2), pl 9 (.slice A9 r8.1.length c9), pl 10 (.int .i64 r8.2)] a ∧ Sep w0 B w (own 3 (.slice A9 r8.1.length c9) (vI r8.1) :: fs) ∧ ((gameroomlaw_NonoLines_J8 line1 clue1 r8)).bind some = some r) ?_ ?_
          · rintro a w ⟨hF, hS, hm⟩
            unfold gameroomlaw_NonoLines_J8 at hm
            refine seqR ?_
            obtain ⟨r15, hr15, hm⟩ := call_b hm
            refine at_run 2 [] [] [9, 10, 134, 135] [pl 9 (.slice A9 r8.1.length c9), pl 10 (.int .i64 r8.2), pl 134 (.slice A1 line1.length c1), pl 135 (.slice A2 clue1.length c2)] hF hS (by kernel_rfl) (by kernel_rfl) ?_ (fun a w hF hS => ?_)
            · exact obs_nil
            refine at_call (f := 47) (args := #[.slice A1 line1.length c1, .slice A2 clue1.length c2]) (d := 136) hF (by kernel_rfl) (by kernel_rfl) Try.func47 (by kernel_rfl) rfl (gameroomref_SureOf_w hr15 hS (fun _ hS => (hr_line1 _ (hS.dropN 1))) _hc_line1 rfl (fun _ hS => (hr_clue1 _ (hS.dropN 1))) _hc_clue1 rfl) (fun v a w hR hF => ?_)
            clear hS
            obtain ⟨A12, c12, rfl, hS⟩ := hR
            have hS : Sep w0 B w (own 3 (.slice A12 r15.1.length c12) (vI r15.1) :: own 3 (.slice A9 r8.1.length c9) (vI r8.1) :: fs) := hS
            refine at_run 5 [] [] [9, 10, 16, 17] [pl 9 (.slice A9 r8.1.length c9), pl 10 (.int .i64 r8.2), pl 16 (.slice A12 r15.1.length c12), pl 17 (.bool r15.2)] hF hS (by kernel_rfl) (by kernel_rfl) ?_ (fun a w hF hS => ?_)
            · exact obs_nil
            refine at_end [9, 10, 16, 17] [pl 9 (.slice A9 r8.1.length c9), pl 10 (.int .i64 r8.2), pl 16 (.slice A12 r15.1.length c12), pl 17 (.bool r15.2)] hF rfl (by kernel_rfl) (fun hF => ?_)
            refine then_n ?_
            refine seq_cut (fun a w => Fr 155 [pl 9 (.slice A9 r8.1.length c9), pl 10 (.int .i64 r8.2), pl 16 (.slice A12 r15.1.length c12)] a ∧ Sep w0 B w (own 3 (.slice A9 r8.1.length c9) (vI r8.1) :: own 3 (.slice A12 r15.1.length c12) (vI r15.1) :: fs) ∧ ((gameroomlaw_NonoLines_J9 r8 r15)).bind some = some r) ?_ ?_
            · rintro a w ⟨hF, hS, hm⟩
              unfold gameroomlaw_NonoLines_J9 at hm
              obtain ⟨r16, hr16, hm⟩ := call_b hm
              refine reg [⟨false, [((r8.2 == 0), true)], callFunc 20 #[.slice A9 r8.1.length c9, .slice A12 r15.1.length c12], .bool r16⟩] [none, none, none, none, none, some (.bool r16), none, none] [4] [pl 4 (.bool ((r8.2 == 0) && r16))] hF hS Fol (by kernel_rfl) (by kernel_rfl) (by kernel_rfl) ?_ (fun a w hF hS => ?_)
              · exact obs_cons (ob_call Try.func20 (by kernel_rfl) rfl (fun hy _ hS => gameroomlaw_sameInts_w (ite_some hr16 (by rw [show (r8.2 == 0) = true from hy ((r8.2 == 0), true) (by simp)]; try rfl)) hS (fun _ hS => (hS.at_ 0 rfl).rd) ((hS.at_ 0 rfl).cap1) rfl (fun _ hS => (hS.at_ 1 rfl).rd) ((hS.at_ 1 rfl).cap1) rfl)) <| obs_nil
              refine wp_ret ?_
              have hS := hS.pickN 2 [] (by decide)
              have hm : some ((r8.2 == 0) && r16) = some r := hm
              obtain rfl := Option.some.inj hm
              exact retV (rs := [.tmp 4]) (vs := [.bool ((r8.2 == 0) && r16)]) hF rfl (rv_t (by kernel_rfl) <| rv_nil) rfl ⟨rfl, hS⟩
            · refine reg [] [] [9, 10, 16, 140] [pl 9 (.slice A9 r8.1.length c9), pl 10 (.int .i64 r8.2), pl 16 (.slice A12 r15.1.length c12), pl 140 (.bool (!r15.2))] hF hS Fol (by kernel_rfl) (by kernel_rfl) (by kernel_rfl) ?_ (fun a w hF hS => ?_)
              · exact obs_nil
              refine cond_ev (t := 140) (b := !r15.2) hF (by kernel_rfl) (fun hb => ?_) (fun hb => ?_)
              · replace hm := if_t hm hb
                refine reg [] [] [4] [pl 4 (.bool ((r8.2 == 10) && ((r8.1.length : Int) == 0)))] hF hS Fol (by kernel_rfl) (by kernel_rfl) (by kernel_rfl) ?_ (fun a w hF hS => ?_)
                · exact obs_nil
                refine wp_ret ?_
                refine then_r ?_
                have hS := hS.pickN 2 [] (by decide)
                have hm : some ((r8.2 == 10) && ((r8.1.length : Int) == 0)) = some r := hm
                obtain rfl := Option.some.inj hm
                exact retV (rs := [.tmp 4]) (vs := [.bool ((r8.2 == 10) && ((r8.1.length : Int) == 0))]) hF rfl (rv_t (by kernel_rfl) <| rv_nil) rfl ⟨rfl, hS⟩
              · replace hm := if_f hm hb
                refine wp_skip ?_
                refine then_n ?_
                have hS := hS.pickN 2 [1, 0] (by decide)
                exact ⟨hF.weak [9, 10, 16] (by kernel_rfl), hS, hm⟩
          · refine reg [] [] [0, 1, 9, 10, 132] [pl 0 (.slice A1 line1.length c1), pl 1 (.slice A2 clue1.length c2), pl 9 (.slice A9 r8.1.length c9), pl 10 (.int .i64 r8.2), pl 132 (.bool ((r5.2 != 0) || (r5.1 != r14.1)))] hF hS Fol (by kernel_rfl) (by kernel_rfl) (by kernel_rfl) ?_ (fun a w hF hS => ?_)
            · exact obs_nil
            refine cond_ev (t := 132) (b := (r5.2 != 0) || (r5.1 != r14.1)) hF (by kernel_rfl) (fun hb => ?_) (fun hb => ?_)
            · replace hm := if_t hm hb
              refine reg [] [] [4] [pl 4 (.bool false)] hF hS Fol (by kernel_rfl) (by kernel_rfl) (by kernel_rfl) ?_ (fun a w hF hS => ?_)
              · exact obs_nil
              refine wp_ret ?_
              refine then_r ?_
              have hS := hS.pickN 2 [] (by decide)
              have hm : some false = some r := hm
              obtain rfl := Option.some.inj hm
              exact retV (rs := [.tmp 4]) (vs := [.bool false]) hF rfl (rv_t (by kernel_rfl) <| rv_nil) rfl ⟨rfl, hS⟩
            · replace hm := if_f hm hb
              refine wp_skip ?_
              refine then_n ?_
              have hS := hS.pickN 2 [1] (by decide)
              exact ⟨hF.weak [0, 1, 9, 10] (by kernel_rfl), hS, hm⟩
        · obtain ⟨r13, hr13, hm⟩ := call_b hm
          refine reg [⟨false, [], callFunc 45 #[.slice A2 clue1.length c2], .bool r13⟩] [none, some (.bool r13), none] [0, 1, 7, 8, 9, 10, 104] [pl 0 (.slice A1 line1.length c1), pl 1 (.slice A2 clue1.length c2), pl 7 (.int .i64 r5.1), pl 8 (.int .i64 r5.2), pl 9 (.slice A9 r8.1.length c9), pl 10 (.int .i64 r8.2), pl 104 (.bool (!r13))] hF hS Fol (by kernel_rfl) (by kernel_rfl) (by kernel_rfl) ?_ (fun a w hF hS => ?_)
          · exact obs_cons (ob_call Try.func45 (by kernel_rfl) rfl (fun _ _ hS => gameroomref_ClueMay_w hr13 hS (fun _ hS => (hr_clue1 _ (hS.dropN 1))) _hc_clue1 rfl)) <| obs_nil
          refine cond_ev (t := 104) (b := !r13) hF (by kernel_rfl) (fun hb => ?_) (fun hb => ?_)
          · replace hm := if_t hm hb
            refine reg [] [] [4] [pl 4 (.bool ((((r5.2 == 4) && (r8.2 == 4)) && (r5.1 == 0)) && ((r8.1.length : Int) == 0)))] hF hS Fol (by kernel_rfl) (by kernel_rfl) (by kernel_rfl) ?_ (fun a w hF hS => ?_)
            · exact obs_nil
            refine wp_ret ?_
            refine then_r ?_
            have hS := hS.pickN 1 [] (by decide)
            have hm : some ((((r5.2 == 4) && (r8.2 == 4)) && (r5.1 == 0)) && ((r8.1.length : Int) == 0)) = some r := hm
            obtain rfl := Option.some.inj hm
            exact retV (rs := [.tmp 4]) (vs := [.bool ((((r5.2 == 4) && (r8.2 == 4)) && (r5.1 == 0)) && ((r8.1.length : Int) == 0))]) hF rfl (rv_t (by kernel_rfl) <| rv_nil) rfl ⟨rfl, hS⟩
          · replace hm := if_f hm hb
            refine wp_skip ?_
            refine then_n ?_
            exact ⟨hF.weak [0, 1, 7, 8, 9, 10] (by kernel_rfl), hS, hm⟩
      · refine reg [] [] [0, 1, 5, 6, 7, 8, 9, 10, 85] [pl 0 (.slice A1 line1.length c1), pl 1 (.slice A2 clue1.length c2), pl 5 (.slice A4 r2.1.length c4), pl 6 (.int .i64 r2.2), pl 7 (.int .i64 r5.1), pl 8 (.int .i64 r5.2), pl 9 (.slice A9 r8.1.length c9), pl 10 (.int .i64 r8.2), pl 85 (.bool open2)] hF hS Fol (by kernel_rfl) (by kernel_rfl) (by kernel_rfl) ?_ (fun a w hF hS => ?_)
        · exact obs_nil
        refine cond_ev (t := 85) (b := open2) hF (by kernel_rfl) (fun hb => ?_) (fun hb => ?_)
        · replace hm := if_t hm hb
          refine reg [] [] [0, 1, 7, 8, 9, 10, 92] [pl 0 (.slice A1 line1.length c1), pl 1 (.slice A2 clue1.length c2), pl 7 (.int .i64 r5.1), pl 8 (.int .i64 r5.2), pl 9 (.slice A9 r8.1.length c9), pl 10 (.int .i64 r8.2), pl 92 (.bool ((r2.2 != 10) || (decide ((0 : Int) < (r2.1.length : Int)))))] hF hS Fol (by kernel_rfl) (by kernel_rfl) (by kernel_rfl) ?_ (fun a w hF hS => ?_)
          · exact obs_nil
          refine cond_ev (t := 92) (b := (r2.2 != 10) || (decide ((0 : Int) < (r2.1.length : Int)))) hF (by kernel_rfl) (fun hb => ?_) (fun hb => ?_)
          · replace hm := if_t hm hb
            refine reg [] [] [4] [pl 4 (.bool false)] hF hS Fol (by kernel_rfl) (by kernel_rfl) (by kernel_rfl) ?_ (fun a w hF hS => ?_)
            · exact obs_nil
            refine wp_ret ?_
            refine then_r ?_
            have hS := hS.pickN 2 [] (by decide)
            have hm : some false = some r := hm
            obtain rfl := Option.some.inj hm
            exact retV (rs := [.tmp 4]) (vs := [.bool false]) hF rfl (rv_t (by kernel_rfl) <| rv_nil) rfl ⟨rfl, hS⟩
          · replace hm := if_f hm hb
            refine wp_skip ?_
            refine then_n ?_
            have hS := hS.pickN 2 [1] (by decide)
            exact ⟨hF.weak [0, 1, 7, 8, 9, 10] (by kernel_rfl), hS, hm⟩
        · replace hm := if_f hm hb
          refine seq_cut (fun a w => ∃ (z1 : Bool), Fr 155 [pl 0 (.slice A1 line1.length c1), pl 1 (.slice A2 clue1.length c2), pl 7 (.int .i64 r5.1), pl 8 (.int .i64 r5.2), pl 9 (.slice A9 r8.1.length c9), pl 10 (.int .i64 r8.2), pl 101 (.bool z1)] a ∧ Sep w0 B w (own 3 (.slice A9 r8.1.length c9) (vI r8.1) :: fs) ∧ ((gameroomlaw_NonoLines_J6 line1 clue1 r5 r8) z1).bind some = some r) ?_ ?_
          · rintro a w ⟨z1, hF, hS, hm⟩
            unfold gameroomlaw_NonoLines_J6 at hm
            refine cond_ev (t := 101) (b := z1) hF (by kernel_rfl) (fun hb => ?_) (fun hb => ?_)
            · replace hm := if_t hm hb
              refine reg [] [] [4] [pl 4 (.bool false)] hF hS Fol (by kernel_rfl) (by kernel_rfl) (by kernel_rfl) ?_ (fun a w hF hS => ?_)
              · exact obs_nil
              refine wp_ret ?_
              refine then_r ?_
              have hS := hS.pickN 1 [] (by decide)
              have hm : some false = some r := hm
              obtain rfl := Option.some.inj hm
              exact retV (rs := [.tmp 4]) (vs := [.bool false]) hF rfl (rv_t (by kernel_rfl) <| rv_nil) rfl ⟨rfl, hS⟩
            · replace hm := if_f hm hb
              refine wp_skip ?_
              refine then_n ?_
              exact ⟨hF.weak [0, 1, 7, 8, 9, 10] (by kernel_rfl), hS, hm⟩
          · refine oneR ?_
            refine at_run 5 [] [] [0, 1, 7, 8, 9, 10, 95, 96, 97] [pl 0 (.slice A1 line1.length c1), pl 1 (.slice A2 clue1.length c2), pl 7 (.int .i64 r5.1), pl 8 (.int .i64 r5.2), pl 9 (.slice A9 r8.1.length c9), pl 10 (.int .i64 r8.2), pl 95 (.bool (r2.2 != 0)), ⟨96, [(95, false)], .slice A4 r2.1.length c4⟩, ⟨97, [(95, false)], .slice A1 line1.length c1⟩] hF hS (by kernel_rfl) (by kernel_rfl) ?_ (fun a w hF hS => ?_)
            · exact obs_nil
            rcases Bool.eq_false_or_eq_true (r2.2 != 0) with hg1 | hg1
            · replace hm := if_t hm hg1
              obtain ⟨r10, hr10, hm⟩ := call_b hm
              refine at_gskip (d := 98) (v := .slice none 0 0) (hs := [((r2.2 != 0), false)]) (ctx := [(95, false)]) hF (by kernel_rfl) (by kernel_rfl) (fun h => absurd (h ((r2.2 != 0), false) (by simp)) (by simp [hg1])) (fun a hF => ?_)
              refine at_run 3 [⟨false, [((r2.2 != 0), false)], callFunc 20 #[.slice A4 r2.1.length c4, .slice none 0 0], .bool r10⟩] [some (.bool r10), none, none] [0, 1, 7, 8, 9, 10, 101] [pl 0 (.slice A1 line1.length c1), pl 1 (.slice A2 clue1.length c2), pl 7 (.int .i64 r5.1), pl 8 (.int .i64 r5.2), pl 9 (.slice A9 r8.1.length c9), pl 10 (.int .i64 r8.2), pl 101 (.bool ((r2.2 != 0) || (!r10)))] hF hS (by kernel_rfl) (by kernel_rfl) ?_ (fun a w hF hS => ?_)
              · exact obs_cons (Ob.vac (fun h => absurd (h ((r2.2 != 0), false) (by simp)) (by simp [hg1]))) <| obs_nil
              refine at_end [0, 1, 7, 8, 9, 10, 101] [pl 0 (.slice A1 line1.length c1), pl 1 (.slice A2 clue1.length c2), pl 7 (.int .i64 r5.1), pl 8 (.int .i64 r5.2), pl 9 (.slice A9 r8.1.length c9), pl 10 (.int .i64 r8.2), pl 101 (.bool ((r2.2 != 0) || (!r10)))] hF rfl (by kernel_rfl) (fun hF => ?_)
              refine then_n ?_
              have hS := hS.pickN 2 [1] (by decide)
              exact ⟨((r2.2 != 0) || (!r10)), hF.weak [0, 1, 7, 8, 9, 10, 101] (by kernel_rfl), hS, hm⟩
            · replace hm := if_f hm hg1
              obtain ⟨r11, hr11, hm⟩ := call_b hm
              obtain ⟨r12, hr12, hm⟩ := call_b hm
              refine at_gcall (hs := [((r2.2 != 0), false)]) (fun y hy => by simp only [List.mem_cons, List.not_mem_nil, or_false] at hy; subst hy; first | exact hg1) (f := 44) (args := #[.slice A1 line1.length c1]) (d := 98) hF (by kernel_rfl) (by kernel_rfl) Try.func44 (by kernel_rfl) rfl (gameroomref_ClueOf_w hr11 hS (fun _ hS => (hr_line1 _ (hS.dropN 2))) _hc_line1 rfl) (fun v a w hR hF => ?_)
              clear hS
              obtain ⟨A10, c10, rfl, hS⟩ := hR
              have hS : Sep w0 B w (own 3 (.slice A10 r11.length c10) (vI r11) :: own 3 (.slice A4 r2.1.length c4) (vI r2.1) :: own 3 (.slice A9 r8.1.length c9) (vI r8.1) :: fs) := hS
              refine at_run 3 [⟨false, [((r2.2 != 0), false)], callFunc 20 #[.slice A4 r2.1.length c4, .slice A10 r11.length c10], .bool r12⟩] [some (.bool r12), none, none] [0, 1, 7, 8, 9, 10, 101] [pl 0 (.slice A1 line1.length c1), pl 1 (.slice A2 clue1.length c2), pl 7 (.int .i64 r5.1), pl 8 (.int .i64 r5.2), pl 9 (.slice A9 r8.1.length c9), pl 10 (.int .i64 r8.2), pl 101 (.bool ((r2.2 != 0) || (!r12)))] hF hS (by kernel_rfl) (by kernel_rfl) ?_ (fun a w hF hS => ?_)
              · exact obs_cons (ob_call Try.func20 (by kernel_rfl) rfl (fun hy _ hS => gameroomlaw_sameInts_w (ite_some hr12 (by rw [show (r2.2 != 0) = false from hy ((r2.2 != 0), false) (by simp)]; try rfl)) hS (fun _ hS => (hS.at_ 1 rfl).rd) ((hS.at_ 1 rfl).cap1) rfl (fun _ hS => (hS.at_ 0 rfl).rd) ((hS.at_ 0 rfl).cap1) rfl)) <| obs_nil
              refine at_end [0, 1, 7, 8, 9, 10, 101] [pl 0 (.slice A1 line1.length c1), pl 1 (.slice A2 clue1.length c2), pl 7 (.int .i64 r5.1), pl 8 (.int .i64 r5.2), pl 9 (.slice A9 r8.1.length c9), pl 10 (.int .i64 r8.2), pl 101 (.bool ((r2.2 != 0) || (!r12)))] hF rfl (by kernel_rfl) (fun hF => ?_)
              refine then_n ?_
              have hS := hS.pickN 3 [2] (by decide)
              exact ⟨((r2.2 != 0) || (!r12)), hF.weak [0, 1, 7, 8, 9, 10, 101] (by kernel_rfl), hS, hm⟩
    · refine reg [] [] [0, 1, 5, 6, 7, 8, 9, 10, 12, 13] [pl 0 (.slice A1 line1.length c1), pl 1 (.slice A2 clue1.length c2), pl 5 (.slice A4 r2.1.length c4), pl 6 (.int .i64 r2.2), pl 7 (.int .i64 r5.1), pl 8 (.int .i64 r5.2), pl 9 (.slice A9 r8.1.length c9), pl 10 (.int .i64 r8.2), pl 12 (.bool false), pl 13 (.int .i64 0)] hF hS Fol (by kernel_rfl) (by kernel_rfl) (by kernel_rfl) ?_ (fun a w hF hS => ?_)
      · exact obs_nil
      refine wp_block ?_
      refine wp_loop_model (S := (Bool × Int)) (R := Bool) (gameroomlaw_NonoLines_L1 line1) (fun x => ((gameroomlaw_NonoLines_K1 line1 clue1 r2 r5 r8) x).bind some) r (fun (x : (Bool × Int)) a w => Fr 155 [pl 0 (.slice A1 line1.length c1), pl 1 (.slice A2 clue1.length c2), pl 5 (.slice A4 r2.1.length c4), pl 6 (.int .i64 r2.2), pl 7 (.int .i64 r5.1), pl 8 (.int .i64 r5.2), pl 9 (.slice A9 r8.1.length c9), pl 10 (.int .i64 r8.2), pl 12 (.bool x.1), pl 13 (.int .i64 x.2)] a ∧ Sep w0 B w (own 3 (.slice A4 r2.1.length c4) (vI r2.1) :: own 3 (.slice A9 r8.1.length c9) (vI r8.1) :: fs)) (assoc_b hm) ⟨hF.weak [0, 1, 5, 6, 7, 8, 9, 10, 12, 13] (by kernel_rfl), hS⟩ ?_
      clear hF hS hm
      rintro nn1 ⟨open1, i1⟩ a w ⟨hF, hS⟩ hm
      generalize hφ1 : stK (gameroomlaw_NonoLines_L1 line1) nn1 (fun x => ((gameroomlaw_NonoLines_K1 line1 clue1 r2 r5 r8) x).bind some) = φ1 at hm
      unfold gameroomlaw_NonoLines_L1 at hm
      dsimp only at hF hS hm
      refine seq_cut (fun a w => Fr 155 [pl 0 (.slice A1 line1.length c1), pl 1 (.slice A2 clue1.length c2), pl 5 (.slice A4 r2.1.length c4), pl 6 (.int .i64 r2.2), pl 7 (.int .i64 r5.1), pl 8 (.int .i64 r5.2), pl 9 (.slice A9 r8.1.length c9), pl 10 (.int .i64 r8.2), pl 12 (.bool open1), pl 13 (.int .i64 i1)] a ∧ Sep w0 B w (own 3 (.slice A4 r2.1.length c4) (vI r2.1) :: own 3 (.slice A9 r8.1.length c9) (vI r8.1) :: fs) ∧ ((gameroomlaw_NonoLines_J3 line1 open1 i1)).bind φ1 = some r) ?_ ?_
      · rintro a w ⟨hF, hS, hm⟩
        unfold gameroomlaw_NonoLines_J3 at hm
        refine seq_cut (fun a w => Fr 155 [pl 0 (.slice A1 line1.length c1), pl 1 (.slice A2 clue1.length c2), pl 5 (.slice A4 r2.1.length c4), pl 6 (.int .i64 r2.2), pl 7 (.int .i64 r5.1), pl 8 (.int .i64 r5.2), pl 9 (.slice A9 r8.1.length c9), pl 10 (.int .i64 r8.2), pl 12 (.bool (open1 || (decide ((geti line1 i1) < 0)))), pl 13 (.int .i64 i1)] a ∧ Sep w0 B w (own 3 (.slice A4 r2.1.length c4) (vI r2.1) :: own 3 (.slice A9 r8.1.length c9) (vI r8.1) :: fs) ∧ ((gameroomlaw_NonoLines_J4 line1 open1 i1)).bind φ1 = some r) ?_ ?_
        · rintro a w ⟨hF, hS, hm⟩
          unfold gameroomlaw_NonoLines_J4 at hm
          refine reg1 [] [] [0, 1, 5, 6, 7, 8, 9, 10, 12, 13] [pl 0 (.slice A1 line1.length c1), pl 1 (.slice A2 clue1.length c2), pl 5 (.slice A4 r2.1.length c4), pl 6 (.int .i64 r2.2), pl 7 (.int .i64 r5.1), pl 8 (.int .i64 r5.2), pl 9 (.slice A9 r8.1.length c9), pl 10 (.int .i64 r8.2), pl 12 (.bool (open1 || (decide ((geti line1 i1) < 0)))), pl 13 (.int .i64 (w64 (i1 + 1)))] hF hS Fol (by kernel_rfl) (by kernel_rfl) (by kernel_rfl) ?_ (fun a w hF hS => ?_)
          · exact obs_nil
          refine then_n ?_
          rw [← hφ1] at hm
          exact ⟨((open1 || (decide ((geti line1 i1) < 0))), (w64 (i1 + 1))), ⟨hF.weak [0, 1, 5, 6, 7, 8, 9, 10, 12, 13] (by kernel_rfl), hS⟩, hm⟩
        · refine wp_block ?_
          obtain ⟨hp1, hm⟩ := asrt_b hm
          refine reg1 [⟨true, [(open1, false)], vS (Instr.indexAt 22 (.slice A1 line1.length c1) (.int .i64 i1)), .pointer (some (sAddr A1 i1))⟩, ⟨false, [(open1, false)], vS (Instr.loadAt 3 (.pointer (some (sAddr A1 i1)))), .int .i64 (geti line1 i1)⟩] [none, none, none, none, some (.pointer (some (sAddr A1 i1))), some (.int .i64 (geti line1 i1)), none, none, none] [0, 1, 5, 6, 7, 8, 9, 10, 12, 13] [pl 0 (.slice A1 line1.length c1), pl 1 (.slice A2 clue1.length c2), pl 5 (.slice A4 r2.1.length c4), pl 6 (.int .i64 r2.2), pl 7 (.int .i64 r5.1), pl 8 (.int .i64 r5.2), pl 9 (.slice A9 r8.1.length c9), pl 10 (.int .i64 r8.2), pl 12 (.bool (open1 || (decide ((geti line1 i1) < 0)))), pl 13 (.int .i64 i1)] hF hS Fol (by kernel_rfl) (by kernel_rfl) (by kernel_rfl) ?_ (fun a w hF hS => ?_)
          · exact obs_cons (ob_ix1 (f := (Value.int .i64)) (m := line1) Und22 hi3 hs3 (hr_line1 _ (hS.dropN 2)) rfl (fun hy => hp1 (hy (open1, false) (by simp)))) <| obs_cons (ob_get1 (n := line1.length) (m := line1) (Value.int .i64) (0 : Int) Agg3 (fun _ hS => ⟨_, (hr_line1 _ (hS.dropN 2))⟩) (fun _ hS => rfl) (fun hy => hp1 (hy (open1, false) (by simp)))) <| obs_nil
          refine block_n ?_
          refine then_n ?_
          exact ⟨hF.weak [0, 1, 5, 6, 7, 8, 9, 10, 12, 13] (by kernel_rfl), hS, hm⟩
      · refine reg [] [] [0, 1, 5, 6, 7, 8, 9, 10, 12, 13, 74] [pl 0 (.slice A1 line1.length c1), pl 1 (.slice A2 clue1.length c2), pl 5 (.slice A4 r2.1.length c4), pl 6 (.int .i64 r2.2), pl 7 (.int .i64 r5.1), pl 8 (.int .i64 r5.2), pl 9 (.slice A9 r8.1.length c9), pl 10 (.int .i64 r8.2), pl 12 (.bool open1), pl 13 (.int .i64 i1), pl 74 (.bool (decide (i1 < (line1.length : Int))))] hF hS Fol (by kernel_rfl) (by kernel_rfl) (by kernel_rfl) ?_ (fun a w hF hS => ?_)
        · exact obs_nil
        refine cond_ev (t := 74) (b := decide (i1 < (line1.length : Int))) hF (by kernel_rfl) (fun hb => ?_) (fun hb => ?_)
        · replace hm := if_t hm hb
          refine wp_skip ?_
          refine then_n ?_
          exact ⟨hF.weak [0, 1, 5, 6, 7, 8, 9, 10, 12, 13] (by kernel_rfl), hS, hm⟩
        · replace hm := if_f hm hb
          refine wp_exit ?_
          refine then_e (then_e (block_e (then_n ?_)))
          rw [← hφ1] at hm
          replace hm := done_b hm
          unfold gameroomlaw_NonoLines_K1 at hm
          try dsimp only at hm
          have hm : ((gameroomlaw_NonoLines_J2 line1 clue1 r2 r5 r8) open1).bind some = some r := hm
          exact ⟨open1, hF.weak [0, 1, 5, 6, 7, 8, 9, 10, 12] (by kernel_rfl), hS, hm⟩
  · refine reg [] [] [0, 1, 5, 6, 7, 8, 9, 10, 11, 43] [pl 0 (.slice A1 line1.length c1), pl 1 (.slice A2 clue1.length c2), pl 5 (.slice A4 r2.1.length c4), pl 6 (.int .i64 r2.2), pl 7 (.int .i64 r5.1), pl 8 (.int .i64 r5.2), pl 9 (.slice A9 r8.1.length c9), pl 10 (.int .i64 r8.2), pl 11 (.int .i64 r9), pl 43 (.bool (r9 != 0))] hF hS Fol (by kernel_rfl) (by kernel_rfl) (by kernel_rfl) ?_ (fun a w hF hS => ?_)
    · exact obs_nil
    refine cond_ev (t := 43) (b := (r9 != 0)) hF (by kernel_rfl) (fun hb => ?_) (fun hb => ?_)
    · replace hm := if_t hm hb
      refine reg [] [] [4] [pl 4 (.bool ((((((r2.2 == r9) && (r5.2 == r9)) && (r8.2 == r9)) && ((r2.1.length : Int) == 0)) && (r5.1 == 0)) && ((r8.1.length : Int) == 0)))] hF hS Fol (by kernel_rfl) (by kernel_rfl) (by kernel_rfl) ?_ (fun a w hF hS => ?_)
      · exact obs_nil
      refine wp_ret ?_
      refine then_r ?_
      have hS := hS.pickN 7 [] (by decide)
      have hm : some ((((((r2.2 == r9) && (r5.2 == r9)) && (r8.2 == r9)) && ((r2.1.length : Int) == 0)) && (r5.1 == 0)) && ((r8.1.length : Int) == 0)) = some r := hm
      obtain rfl := Option.some.inj hm
      exact retV (rs := [.tmp 4]) (vs := [.bool ((((((r2.2 == r9) && (r5.2 == r9)) && (r8.2 == r9)) && ((r2.1.length : Int) == 0)) && (r5.1 == 0)) && ((r8.1.length : Int) == 0))]) hF rfl (rv_t (by kernel_rfl) <| rv_nil) rfl ⟨rfl, hS⟩
    · replace hm := if_f hm hb
      refine wp_skip ?_
      refine then_n ?_
      have hS := hS.pickN 7 [5, 0] (by decide)
      exact ⟨hF.weak [0, 1, 5, 6, 7, 8, 9, 10] (by kernel_rfl), hS, hm⟩

end Go.Proofs.Ytogecbgngnjhgaa
