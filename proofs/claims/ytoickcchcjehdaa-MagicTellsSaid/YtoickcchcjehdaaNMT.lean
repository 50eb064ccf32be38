/-
  Models and walks, printed by our own program (wip/gen).
-/
import Derived.Test.YtoickcchcjehdaaFB
import Derived.Test.YtoickcchcjehdaaSR
import Derived.Test.YtoickcchcjehdaaLibPl
import Derived.Test.YtoickcchcjehdaaLibAS
import Derived.Test.YtoickcchcjehdaaLibHd
import Derived.Test.YtoickcchcjehdaaLibRt
import Derived.Test.YtoickcchcjehdaaNMTb
namespace Go.Proofs.Ytoickcchcjehdaa
open Go Go.GL Go.RowKit

noncomputable def gameroomlaw_MagicTells_m  (l1 : List Int) (b1 : List Int) : Option Bool :=
  (gameroomlaw_ints_m l1).bind fun r1 => (magic_Is_m r1).bind fun r2 => (gameroomlaw_ints_m l1).bind fun r3 => (magic_Forms_m r3).bind fun r4 => (gameroomlaw_ints_m l1).bind fun r5 => (gameroomlaw_ints_m b1).bind fun r6 => (magic_Product_m r5 r6).bind fun r7 => (gameroomref_MagicSide_m l1).bind fun r8 => (gameroomref_MagicSide_m b1).bind fun r9 => if (r8 == 0) then (some (((((((r2.2.2 == 2) && (r4.2 == 2)) && (r7.2 == 2)) && (r2.1 == 0)) && (r2.2.1 == 0)) && ((r4.1.length : Int) == 0)) && ((r7.1.length : Int) == 0))) else ((gameroomlaw_MagicTells_J1 l1 b1 r2 r4 r7 r8 r9))

set_option maxRecDepth 100000 in
set_option maxHeartbeats 4000000 in
theorem gameroomlaw_MagicTells_w  {A1 : Option Addr} {c1 : Nat} {n1 : Nat} {l1 : List Int} {A2 : Option Addr} {c2 : Nat} {n2 : Nat} {b1 : List Int} {r : Bool} {w0 w : World} {B : Nat} {fs : List HP} (hm : gameroomlaw_MagicTells_m l1 b1 = some r) (hS : Sep w0 B w (fs)) (hr_l1 : RdF w0 B fs A1 (vI l1)) (_hc_l1 : l1.length ≤ c1) (_hn_l1 : n1 = l1.length) (hr_b1 : RdF w0 B fs A2 (vI b1)) (_hc_b1 : b1.length ≤ c2) (_hn_b1 : n2 = b1.length) :
    Calls Try.prog 10 #[.slice A1 n1 c1, .slice A2 n2 c2] w fun e w' => e = .returned (.bool r) ∧ Sep w0 B w' (fs) := by
  obtain ⟨i3, hi3, hz3, hs3, hb3⟩ := info_parts Info3
  obtain rfl := _hn_l1
  obtain rfl := _hn_b1
  unfold gameroomlaw_MagicTells_m at hm
  replace hm := start_b hm
  refine enter (l := [.slice A1 l1.length c1, .slice A2 b1.length c2]) (n := 213) Try.func10 rfl rfl (by simp) (fun a hF => ?_)
  refine reg [] [] [0, 1] [pl 0 (.slice A1 l1.length c1), pl 1 (.slice A2 b1.length c2)] hF hS Fol (by kernel_rfl) (by kernel_rfl) (by kernel_rfl) ?_ (fun a w hF hS => ?_)
  · exact obs_nil
  refine seqR ?_
  obtain ⟨r1, hr1, hm⟩ := call_b hm
  obtain ⟨r2, hr2, hm⟩ := call_b hm
  refine at_run 1 [] [] [0, 1, 21] [pl 0 (.slice A1 l1.length c1), pl 1 (.slice A2 b1.length c2), pl 21 (.slice A1 l1.length c1)] hF hS (by kernel_rfl) (by kernel_rfl) ?_ (fun a w hF hS => ?_)
  · exact obs_nil
  refine at_call (f := 17) (args := #[.slice A1 l1.length c1]) (d := 22) hF (by kernel_rfl) (by kernel_rfl) Try.func17 (by kernel_rfl) rfl (gameroomlaw_ints_w hr1 hS (fun _ hS => (hr_l1 _ (hS.dropN 0))) _hc_l1 rfl) (fun v a w hR hF => ?_)
  clear hS
  obtain ⟨A3, c3, rfl, hS⟩ := hR
  have hS : Sep w0 B w (own 3 (.slice A3 r1.length c3) (vI r1) :: fs) := hS
  refine at_run 8 [⟨false, [], callFunc 53 #[.slice A3 r1.length c3], .tuple #[.int .i64 r2.1, .int .i64 r2.2.1, .int .i64 r2.2.2]⟩] [some (.tuple #[.int .i64 r2.1, .int .i64 r2.2.1, .int .i64 r2.2.2]), none, none, none, none, none, none, none] [0, 1, 5, 6, 7] [pl 0 (.slice A1 l1.length c1), pl 1 (.slice A2 b1.length c2), pl 5 (.int .i64 r2.1), pl 6 (.int .i64 r2.2.1), pl 7 (.int .i64 r2.2.2)] hF hS (by kernel_rfl) (by kernel_rfl) ?_ (fun a w hF hS => ?_)
  · exact obs_cons (ob_call Try.func53 (by kernel_rfl) rfl (fun _ _ hS => magic_Is_w hr2 hS (fun _ hS => (hS.at_ 0 rfl).rd) ((hS.at_ 0 rfl).cap1) rfl)) <| obs_nil
  refine at_end [0, 1, 5, 6, 7] [pl 0 (.slice A1 l1.length c1), pl 1 (.slice A2 b1.length c2), pl 5 (.int .i64 r2.1), pl 6 (.int .i64 r2.2.1), pl 7 (.int .i64 r2.2.2)] hF rfl (by kernel_rfl) (fun hF => ?_)
  refine then_n ?_
  refine seqR ?_
  obtain ⟨r3, hr3, hm⟩ := call_b hm
  obtain ⟨r4, hr4, hm⟩ := call_b hm
  refine at_run 1 [] [] [0, 1, 5, 6, 7, 28] [pl 0 (.slice A1 l1.length c1), pl 1 (.slice A2 b1.length c2), pl 5 (.int .i64 r2.1), pl 6 (.int .i64 r2.2.1), pl 7 (.int .i64 r2.2.2), pl 28 (.slice A1 l1.length c1)] hF hS (by kernel_rfl) (by kernel_rfl) ?_ (fun a w hF hS => ?_)
  · exact obs_nil
  refine at_call (f := 17) (args := #[.slice A1 l1.length c1]) (d := 29) hF (by kernel_rfl) (by kernel_rfl) Try.func17 (by kernel_rfl) rfl (gameroomlaw_ints_w hr3 hS (fun _ hS => (hr_l1 _ (hS.dropN 1))) _hc_l1 rfl) (fun v a w hR hF => ?_)
  clear hS
  obtain ⟨A4, c4, rfl, hS⟩ := hR
  have hS : Sep w0 B w (own 3 (.slice A4 r3.length c4) (vI r3) :: own 3 (.slice A3 r1.length c3) (vI r1) :: fs) := hS
  refine at_call (f := 54) (args := #[.slice A4 r3.length c4]) (d := 30) hF (by kernel_rfl) (by kernel_rfl) Try.func54 (by kernel_rfl) rfl (magic_Forms_w hr4 hS (fun _ hS => (hS.at_ 0 rfl).rd) ((hS.at_ 0 rfl).cap1) rfl) (fun v a w hR hF => ?_)
  clear hS
  obtain ⟨A5, c5, hd1, rfl, hS⟩ := hR
  have hS : Sep w0 B w (rows 22 3 (.slice A5 r4.1.length c5) hd1 r4.1 :: own 3 (.slice A4 r3.length c4) (vI r3) :: own 3 (.slice A3 r1.length c3) (vI r1) :: fs) := hS
  refine at_run 5 [] [] [0, 1, 5, 6, 7, 8, 9] [pl 0 (.slice A1 l1.length c1), pl 1 (.slice A2 b1.length c2), pl 5 (.int .i64 r2.1), pl 6 (.int .i64 r2.2.1), pl 7 (.int .i64 r2.2.2), pl 8 (.slice A5 r4.1.length c5), pl 9 (.int .i64 r4.2)] hF hS (by kernel_rfl) (by kernel_rfl) ?_ (fun a w hF hS => ?_)
  · exact obs_nil
  refine at_end [0, 1, 5, 6, 7, 8, 9] [pl 0 (.slice A1 l1.length c1), pl 1 (.slice A2 b1.length c2), pl 5 (.int .i64 r2.1), pl 6 (.int .i64 r2.2.1), pl 7 (.int .i64 r2.2.2), pl 8 (.slice A5 r4.1.length c5), pl 9 (.int .i64 r4.2)] hF rfl (by kernel_rfl) (fun hF => ?_)
  refine then_n ?_
  refine seqR ?_
  obtain ⟨r5, hr5, hm⟩ := call_b hm
  obtain ⟨r6, hr6, hm⟩ := call_b hm
  obtain ⟨r7, hr7, hm⟩ := call_b hm
  refine at_run 1 [] [] [0, 1, 5, 6, 7, 8, 9, 34] [pl 0 (.slice A1 l1.length c1), pl 1 (.slice A2 b1.length c2), pl 5 (.int .i64 r2.1), pl 6 (.int .i64 r2.2.1), pl 7 (.int .i64 r2.2.2), pl 8 (.slice A5 r4.1.length c5), pl 9 (.int .i64 r4.2), pl 34 (.slice A1 l1.length c1)] hF hS (by kernel_rfl) (by kernel_rfl) ?_ (fun a w hF hS => ?_)
  · exact obs_nil
  refine at_call (f := 17) (args := #[.slice A1 l1.length c1]) (d := 35) hF (by kernel_rfl) (by kernel_rfl) Try.func17 (by kernel_rfl) rfl (gameroomlaw_ints_w hr5 hS (fun _ hS => (hr_l1 _ (hS.dropN 3))) _hc_l1 rfl) (fun v a w hR hF => ?_)
  clear hS
  obtain ⟨A6, c6, rfl, hS⟩ := hR
  have hS : Sep w0 B w (own 3 (.slice A6 r5.length c6) (vI r5) :: rows 22 3 (.slice A5 r4.1.length c5) hd1 r4.1 :: own 3 (.slice A4 r3.length c4) (vI r3) :: own 3 (.slice A3 r1.length c3) (vI r1) :: fs) := hS
  refine at_run 1 [] [] [0, 1, 5, 6, 7, 8, 9, 35, 36] [pl 0 (.slice A1 l1.length c1), pl 1 (.slice A2 b1.length c2), pl 5 (.int .i64 r2.1), pl 6 (.int .i64 r2.2.1), pl 7 (.int .i64 r2.2.2), pl 8 (.slice A5 r4.1.length c5), pl 9 (.int .i64 r4.2), pl 35 (.slice A6 r5.length c6), pl 36 (.slice A2 b1.length c2)] hF hS (by kernel_rfl) (by kernel_rfl) ?_ (fun a w hF hS => ?_)
  · exact obs_nil
  refine at_call (f := 17) (args := #[.slice A2 b1.length c2]) (d := 37) hF (by kernel_rfl) (by kernel_rfl) Try.func17 (by kernel_rfl) rfl (gameroomlaw_ints_w hr6 hS (fun _ hS => (hr_b1 _ (hS.dropN 4))) _hc_b1 rfl) (fun v a w hR hF => ?_)
  clear hS
  obtain ⟨A7, c7, rfl, hS⟩ := hR
  have hS : Sep w0 B w (own 3 (.slice A7 r6.length c7) (vI r6) :: own 3 (.slice A6 r5.length c6) (vI r5) :: rows 22 3 (.slice A5 r4.1.length c5) hd1 r4.1 :: own 3 (.slice A4 r3.length c4) (vI r3) :: own 3 (.slice A3 r1.length c3) (vI r1) :: fs) := hS
  refine at_call (f := 55) (args := #[.slice A6 r5.length c6, .slice A7 r6.length c7]) (d := 38) hF (by kernel_rfl) (by kernel_rfl) Try.func55 (by kernel_rfl) rfl (magic_Product_w hr7 hS (fun _ hS => (hS.at_ 1 rfl).rd) ((hS.at_ 1 rfl).cap1) rfl (fun _ hS => (hS.at_ 0 rfl).rd) ((hS.at_ 0 rfl).cap1) rfl) (fun v a w hR hF => ?_)
  clear hS
  obtain ⟨A8, c8, rfl, hS⟩ := hR
  have hS : Sep w0 B w (own 3 (.slice A8 r7.1.length c8) (vI r7.1) :: own 3 (.slice A7 r6.length c7) (vI r6) :: own 3 (.slice A6 r5.length c6) (vI r5) :: rows 22 3 (.slice A5 r4.1.length c5) hd1 r4.1 :: own 3 (.slice A4 r3.length c4) (vI r3) :: own 3 (.slice A3 r1.length c3) (vI r1) :: fs) := hS
  refine at_run 5 [] [] [0, 1, 5, 6, 7, 8, 9, 10, 11] [pl 0 (.slice A1 l1.length c1), pl 1 (.slice A2 b1.length c2), pl 5 (.int .i64 r2.1), pl 6 (.int .i64 r2.2.1), pl 7 (.int .i64 r2.2.2), pl 8 (.slice A5 r4.1.length c5), pl 9 (.int .i64 r4.2), pl 10 (.slice A8 r7.1.length c8), pl 11 (.int .i64 r7.2)] hF hS (by kernel_rfl) (by kernel_rfl) ?_ (fun a w hF hS => ?_)
  · exact obs_nil
  refine at_end [0, 1, 5, 6, 7, 8, 9, 10, 11] [pl 0 (.slice A1 l1.length c1), pl 1 (.slice A2 b1.length c2), pl 5 (.int .i64 r2.1), pl 6 (.int .i64 r2.2.1), pl 7 (.int .i64 r2.2.2), pl 8 (.slice A5 r4.1.length c5), pl 9 (.int .i64 r4.2), pl 10 (.slice A8 r7.1.length c8), pl 11 (.int .i64 r7.2)] hF rfl (by kernel_rfl) (fun hF => ?_)
  refine then_n ?_
  obtain ⟨r8, hr8, hm⟩ := call_b hm
  obtain ⟨r9, hr9, hm⟩ := call_b hm
  refine reg [⟨false, [], callFunc 56 #[.slice A1 l1.length c1], .int .i64 r8⟩, ⟨false, [], callFunc 56 #[.slice A2 b1.length c2], .int .i64 r9⟩] [none, some (.int .i64 r8), none, some (.int .i64 r9), none, none] [0, 1, 5, 6, 7, 8, 9, 10, 11, 12, 13] [pl 0 (.slice A1 l1.length c1), pl 1 (.slice A2 b1.length c2), pl 5 (.int .i64 r2.1), pl 6 (.int .i64 r2.2.1), pl 7 (.int .i64 r2.2.2), pl 8 (.slice A5 r4.1.length c5), pl 9 (.int .i64 r4.2), pl 10 (.slice A8 r7.1.length c8), pl 11 (.int .i64 r7.2), pl 12 (.int .i64 r8), pl 13 (.int .i64 r9)] hF hS Fol (by kernel_rfl) (by kernel_rfl) (by kernel_rfl) ?_ (fun a w hF hS => ?_)
  · exact obs_cons (ob_call Try.func56 (by kernel_rfl) rfl (fun _ _ hS => gameroomref_MagicSide_w hr8 hS (fun _ hS => (hr_l1 _ (hS.dropN 6))) _hc_l1 rfl)) <| obs_cons (ob_call Try.func56 (by kernel_rfl) rfl (fun _ _ hS => gameroomref_MagicSide_w hr9 hS (fun _ hS => (hr_b1 _ (hS.dropN 6))) _hc_b1 rfl)) <| obs_nil
  refine seq_cut (fun a w => Fr 213 [pl 0 (.slice A1 l1.length c1), pl 1 (.slice A2 b1.length c2), pl 5 (.int .i64 r2.1), pl 6 (.int .i64 r2.2.1), pl 7 (.int .i64 r2.2.2), pl 8 (.slice A5 r4.1.length c5), pl 9 (.int .i64 r4.2), pl 10 (.slice A8 r7.1.length c8), pl 11 (.int .i64 r7.2), pl 12 (.int .i64 r8), pl 13 (.int .i64 r9)] a ∧ Sep w0 B w (rows 22 3 (.slice A5 r4.1.length c5) hd1 r4.1 :: own 3 (.slice A8 r7.1.length c8) (vI r7.1) :: fs) ∧ ((gameroomlaw_MagicTells_J1 l1 b1 r2 r4 r7 r8 r9)).bind some = some r) ?_ ?_
  · rintro a w ⟨hF, hS, hm⟩
    unfold gameroomlaw_MagicTells_J1 at hm
    refine reg [] [] [0, 1, 5, 6, 7, 8, 9, 10, 11, 12, 13, 14] [pl 0 (.slice A1 l1.length c1), pl 1 (.slice A2 b1.length c2), pl 5 (.int .i64 r2.1), pl 6 (.int .i64 r2.2.1), pl 7 (.int .i64 r2.2.2), pl 8 (.slice A5 r4.1.length c5), pl 9 (.int .i64 r4.2), pl 10 (.slice A8 r7.1.length c8), pl 11 (.int .i64 r7.2), pl 12 (.int .i64 r8), pl 13 (.int .i64 r9), pl 14 (.bool false)] hF hS Fol (by kernel_rfl) (by kernel_rfl) (by kernel_rfl) ?_ (fun a w hF hS => ?_)
    · exact obs_nil
    refine seq_cut (fun a w => ∃ (far2 : Bool), Fr 213 [pl 0 (.slice A1 l1.length c1), pl 1 (.slice A2 b1.length c2), pl 5 (.int .i64 r2.1), pl 6 (.int .i64 r2.2.1), pl 7 (.int .i64 r2.2.2), pl 8 (.slice A5 r4.1.length c5), pl 9 (.int .i64 r4.2), pl 10 (.slice A8 r7.1.length c8), pl 11 (.int .i64 r7.2), pl 12 (.int .i64 r8), pl 13 (.int .i64 r9), pl 14 (.bool far2)] a ∧ Sep w0 B w (rows 22 3 (.slice A5 r4.1.length c5) hd1 r4.1 :: own 3 (.slice A8 r7.1.length c8) (vI r7.1) :: fs) ∧ ((gameroomlaw_MagicTells_J2 l1 b1 r2 r4 r7 r8 r9) far2).bind some = some r) ?_ ?_
    · rintro a w ⟨far2, hF, hS, hm⟩
      unfold gameroomlaw_MagicTells_J2 at hm
      refine seq_cut (fun a w => Fr 213 [pl 0 (.slice A1 l1.length c1), pl 1 (.slice A2 b1.length c2), pl 8 (.slice A5 r4.1.length c5), pl 9 (.int .i64 r4.2), pl 10 (.slice A8 r7.1.length c8), pl 11 (.int .i64 r7.2), pl 12 (.int .i64 r8), pl 13 (.int .i64 r9)] a ∧ Sep w0 B w (rows 22 3 (.slice A5 r4.1.length c5) hd1 r4.1 :: own 3 (.slice A8 r7.1.length c8) (vI r7.1) :: fs) ∧ ((gameroomlaw_MagicTells_J5 l1 b1 r4 r7 r8 r9)).bind some = some r) ?_ ?_
      · rintro a w ⟨hF, hS, hm⟩
        unfold gameroomlaw_MagicTells_J5 at hm
        refine seq_cut (fun a w => Fr 213 [pl 0 (.slice A1 l1.length c1), pl 1 (.slice A2 b1.length c2), pl 10 (.slice A8 r7.1.length c8), pl 11 (.int .i64 r7.2), pl 12 (.int .i64 r8), pl 13 (.int .i64 r9)] a ∧ Sep w0 B w (own 3 (.slice A8 r7.1.length c8) (vI r7.1) :: fs) ∧ ((gameroomlaw_MagicTells_J6 l1 b1 r7 r8 r9)).bind some = some r) ?_ ?_
        · rintro a w ⟨hF, hS, hm⟩
          unfold gameroomlaw_MagicTells_J6 at hm
          refine seq_cut (fun a w => Fr 213 [pl 0 (.slice A1 l1.length c1), pl 1 (.slice A2 b1.length c2), pl 10 (.slice A8 r7.1.length c8), pl 11 (.int .i64 r7.2), pl 12 (.int .i64 r8), pl 13 (.int .i64 r9)] a ∧ Sep w0 B w (own 3 (.slice A8 r7.1.length c8) (vI r7.1) :: fs) ∧ ((gameroomlaw_MagicTells_J8 l1 b1 r7 r8 r9)).bind some = some r) ?_ ?_
          · rintro a w ⟨hF, hS, hm⟩
            unfold gameroomlaw_MagicTells_J8 at hm
            refine seq_cut (fun a w => Fr 213 [pl 0 (.slice A1 l1.length c1), pl 1 (.slice A2 b1.length c2), pl 10 (.slice A8 r7.1.length c8), pl 11 (.int .i64 r7.2), pl 13 (.int .i64 r9)] a ∧ Sep w0 B w (own 3 (.slice A8 r7.1.length c8) (vI r7.1) :: fs) ∧ ((gameroomlaw_MagicTells_J9 l1 b1 r7 r9)).bind some = some r) ?_ ?_
            · rintro a w ⟨hF, hS, hm⟩
              unfold gameroomlaw_MagicTells_J9 at hm
              refine seq_cut (fun a w => Fr 213 [pl 0 (.slice A1 l1.length c1), pl 1 (.slice A2 b1.length c2), pl 10 (.slice A8 r7.1.length c8), pl 11 (.int .i64 r7.2)] a ∧ Sep w0 B w (own 3 (.slice A8 r7.1.length c8) (vI r7.1) :: fs) ∧ ((gameroomlaw_MagicTells_J12 l1 b1 r7)).bind some = some r) ?_ ?_
              · rintro a w ⟨hF, hS, hm⟩
                unfold gameroomlaw_MagicTells_J12 at hm
                refine seq_cut (fun a w => ∃ (z2 : Bool), Fr 213 [pl 4 (.bool z2)] a ∧ Sep w0 B w (fs) ∧ (gameroomlaw_MagicTells_J15 z2).bind some = some r) ?_ ?_
                · rintro a w ⟨z2, hF, hS, hm⟩
                  unfold gameroomlaw_MagicTells_J15 at hm
                  refine wpIn_ret ?_
                  have hm : some z2 = some r := hm
                  obtain rfl := Option.some.inj hm
                  exact retV (rs := [.tmp 4]) (vs := [.bool z2]) hF rfl (rv_t (by kernel_rfl) <| rv_nil) rfl ⟨rfl, hS⟩
                · refine oneR ?_
                  refine at_run 6 [] [] [206, 207, 208, 209] [pl 206 (.bool (r7.2 == 0)), ⟨207, [(206, true)], .slice A8 r7.1.length c8⟩, ⟨208, [(206, true)], .slice A1 l1.length c1⟩, ⟨209, [(206, true)], .slice A2 b1.length c2⟩] hF hS (by kernel_rfl) (by kernel_rfl) ?_ (fun a w hF hS => ?_)
                  · exact obs_nil
                  rcases Bool.eq_false_or_eq_true (r7.2 == 0) with hg2 | hg2
                  · replace hm := if_t hm hg2
                    obtain ⟨r13, hr13, hm⟩ := call_b hm
                    obtain ⟨r14, hr14, hm⟩ := call_b hm
                    refine at_gcall (hs := [((r7.2 == 0), true)]) (fun y hy => by simp only [List.mem_cons, List.not_mem_nil, or_false] at hy; subst hy; first | exact hg2) (f := 59) (args := #[.slice A1 l1.length c1, .slice A2 b1.length c2]) (d := 210) hF (by kernel_rfl) (by kernel_rfl) Try.func59 (by kernel_rfl) rfl (gameroomref_MagicProduct_w hr13 hS (fun _ hS => (hr_l1 _ (hS.dropN 1))) _hc_l1 rfl (fun _ hS => (hr_b1 _ (hS.dropN 1))) _hc_b1 rfl) (fun v a w hR hF => ?_)
                    clear hS
                    obtain ⟨A10, c10, rfl, hS⟩ := hR
                    have hS : Sep w0 B w (own 3 (.slice A10 r13.length c10) (vI r13) :: own 3 (.slice A8 r7.1.length c8) (vI r7.1) :: fs) := hS
                    refine at_run 3 [⟨false, [((r7.2 == 0), true)], callFunc 25 #[.slice A8 r7.1.length c8, .slice A10 r13.length c10], .bool r14⟩] [some (.bool r14), none, none] [4] [pl 4 (.bool ((r7.2 == 0) && r14))] hF hS (by kernel_rfl) (by kernel_rfl) ?_ (fun a w hF hS => ?_)
                    · exact obs_cons (ob_call Try.func25 (by kernel_rfl) rfl (fun hy _ hS => gameroomlaw_sameInts_w (ite_some hr14 (by rw [show (r7.2 == 0) = true from hy ((r7.2 == 0), true) (by simp)]; try rfl)) hS (fun _ hS => (hS.at_ 1 rfl).rd) ((hS.at_ 1 rfl).cap1) rfl (fun _ hS => (hS.at_ 0 rfl).rd) ((hS.at_ 0 rfl).cap1) rfl)) <| obs_nil
                    refine at_end [4] [pl 4 (.bool ((r7.2 == 0) && r14))] hF rfl (by kernel_rfl) (fun hF => ?_)
                    refine then_n ?_
                    have hS := hS.pickN 2 [] (by decide)
                    exact ⟨((r7.2 == 0) && r14), hF.weak [4] (by kernel_rfl), hS, hm⟩
                  · replace hm := if_f hm hg2
                    refine at_gskip (d := 210) (v := .slice none 0 0) (hs := [((r7.2 == 0), true)]) (ctx := [(206, true)]) hF (by kernel_rfl) (by kernel_rfl) (fun h => absurd (h ((r7.2 == 0), true) (by simp)) (by simp [hg2])) (fun a hF => ?_)
                    refine at_run 3 [⟨false, [((r7.2 == 0), true)], callFunc 25 #[.slice A8 r7.1.length c8, .slice none 0 0], .bool false⟩] [some (.bool false), none, none] [4] [pl 4 (.bool ((r7.2 == 0) && false))] hF hS (by kernel_rfl) (by kernel_rfl) ?_ (fun a w hF hS => ?_)
                    · exact obs_cons (Ob.vac (fun h => absurd (h ((r7.2 == 0), true) (by simp)) (by simp [hg2]))) <| obs_nil
                    refine at_end [4] [pl 4 (.bool ((r7.2 == 0) && false))] hF rfl (by kernel_rfl) (fun hF => ?_)
                    refine then_n ?_
                    have hS := hS.pickN 1 [] (by decide)
                    exact ⟨((r7.2 == 0) && false), hF.weak [4] (by kernel_rfl), hS, hm⟩
              · refine reg [] [] [0, 1, 10, 11, 13, 19] [pl 0 (.slice A1 l1.length c1), pl 1 (.slice A2 b1.length c2), pl 10 (.slice A8 r7.1.length c8), pl 11 (.int .i64 r7.2), pl 13 (.int .i64 r9), pl 19 (.int .i64 0)] hF hS Fol (by kernel_rfl) (by kernel_rfl) (by kernel_rfl) ?_ (fun a w hF hS => ?_)
                · exact obs_nil
                refine wpIn_block ?_
                refine wp_loop_model (S := Int) (R := (Fl Unit Bool)) (gameroomlaw_MagicTells_L3 b1 r7 r9) (fun x => ((gameroomlaw_MagicTells_K3 l1 b1 r7) x).bind some) r (fun (x : Int) a w => Fr 213 [pl 0 (.slice A1 l1.length c1), pl 1 (.slice A2 b1.length c2), pl 10 (.slice A8 r7.1.length c8), pl 11 (.int .i64 r7.2), pl 13 (.int .i64 r9), pl 19 (.int .i64 x)] a ∧ Sep w0 B w (own 3 (.slice A8 r7.1.length c8) (vI r7.1) :: fs)) (assoc_b hm) ⟨hF.weak [0, 1, 10, 11, 13, 19] (by kernel_rfl), hS⟩ ?_
                clear hF hS hm
                rintro nn3 i3 a w ⟨hF, hS⟩ hm
                generalize hφ3 : stK (gameroomlaw_MagicTells_L3 b1 r7 r9) nn3 (fun x => ((gameroomlaw_MagicTells_K3 l1 b1 r7) x).bind some) = φ3 at hm
                unfold gameroomlaw_MagicTells_L3 at hm
                dsimp only at hm
                refine seq_cut (fun a w => Fr 213 [pl 0 (.slice A1 l1.length c1), pl 1 (.slice A2 b1.length c2), pl 10 (.slice A8 r7.1.length c8), pl 11 (.int .i64 r7.2), pl 13 (.int .i64 r9), pl 19 (.int .i64 i3)] a ∧ Sep w0 B w (own 3 (.slice A8 r7.1.length c8) (vI r7.1) :: fs) ∧ ((gameroomlaw_MagicTells_J13 b1 r7 r9 i3)).bind φ3 = some r) ?_ ?_
                · rintro a w ⟨hF, hS, hm⟩
                  unfold gameroomlaw_MagicTells_J13 at hm
                  refine seq_cut (fun a w => Fr 213 [pl 0 (.slice A1 l1.length c1), pl 1 (.slice A2 b1.length c2), pl 10 (.slice A8 r7.1.length c8), pl 11 (.int .i64 r7.2), pl 13 (.int .i64 r9), pl 19 (.int .i64 i3)] a ∧ Sep w0 B w (own 3 (.slice A8 r7.1.length c8) (vI r7.1) :: fs) ∧ ((gameroomlaw_MagicTells_J14 i3)).bind φ3 = some r) ?_ ?_
                  · rintro a w ⟨hF, hS, hm⟩
                    unfold gameroomlaw_MagicTells_J14 at hm
                    refine reg1 [] [] [0, 1, 10, 11, 13, 19] [pl 0 (.slice A1 l1.length c1), pl 1 (.slice A2 b1.length c2), pl 10 (.slice A8 r7.1.length c8), pl 11 (.int .i64 r7.2), pl 13 (.int .i64 r9), pl 19 (.int .i64 (w64 (i3 + 1)))] hF hS Fol (by kernel_rfl) (by kernel_rfl) (by kernel_rfl) ?_ (fun a w hF hS => ?_)
                    · exact obs_nil
                    refine then_n ?_
                    rw [← hφ3] at hm
                    exact ⟨(w64 (i3 + 1)), ⟨hF.weak [0, 1, 10, 11, 13, 19] (by kernel_rfl), hS⟩, hm⟩
                  · refine wpIn_block ?_
                    obtain ⟨hp6, hm⟩ := asrt_b hm
                    obtain ⟨hp7, hm⟩ := asrt_b hm
                    refine reg [⟨true, [], vS (Instr.indexAt 22 (.slice A2 b1.length c2) (.int .i64 i3)), .pointer (some (sAddr A2 i3))⟩, ⟨false, [], vS (Instr.loadAt 3 (.pointer (some (sAddr A2 i3)))), .int .i64 (geti b1 i3)⟩, ⟨true, [(decide ((geti b1 i3) < 1), false)], vS (Instr.indexAt 22 (.slice A2 b1.length c2) (.int .i64 i3)), .pointer (some (sAddr A2 i3))⟩, ⟨false, [(decide ((geti b1 i3) < 1), false)], vS (Instr.loadAt 3 (.pointer (some (sAddr A2 i3)))), .int .i64 (geti b1 i3)⟩] [none, none, some (.pointer (some (sAddr A2 i3))), some (.int .i64 (geti b1 i3)), none, none, none, none, some (.pointer (some (sAddr A2 i3))), some (.int .i64 (geti b1 i3)), none, none, none, none, none] [0, 1, 10, 11, 13, 19, 196] [pl 0 (.slice A1 l1.length c1), pl 1 (.slice A2 b1.length c2), pl 10 (.slice A8 r7.1.length c8), pl 11 (.int .i64 r7.2), pl 13 (.int .i64 r9), pl 19 (.int .i64 i3), pl 196 (.bool ((decide ((geti b1 i3) < 1)) || (decide ((w64 (r9 * r9)) < (geti b1 i3)))))] hF hS Fol (by kernel_rfl) (by kernel_rfl) (by kernel_rfl) ?_ (fun a w hF hS => ?_)
                    · exact obs_cons (ob_ix1 (f := (Value.int .i64)) (m := b1) Und22 hi3 hs3 (hr_b1 _ (hS.dropN 1)) rfl (fun _ => hp6)) <| obs_cons (ob_get1 (n := b1.length) (m := b1) (Value.int .i64) (0 : Int) Agg3 (fun _ hS => ⟨_, (hr_b1 _ (hS.dropN 1))⟩) (fun _ hS => rfl) (fun _ => hp6)) <| obs_cons (ob_ix1 (f := (Value.int .i64)) (m := b1) Und22 hi3 hs3 (hr_b1 _ (hS.dropN 1)) rfl (fun hy => hp7 (hy (decide ((geti b1 i3) < 1), false) (by simp)))) <| obs_cons (ob_get1 (n := b1.length) (m := b1) (Value.int .i64) (0 : Int) Agg3 (fun _ hS => ⟨_, (hr_b1 _ (hS.dropN 1))⟩) (fun _ hS => rfl) (fun hy => hp7 (hy (decide ((geti b1 i3) < 1), false) (by simp)))) <| obs_nil
                    refine cond_ev (t := 196) (b := (decide ((geti b1 i3) < 1)) || (decide ((w64 (r9 * r9)) < (geti b1 i3)))) hF (by kernel_rfl) (fun hb => ?_) (fun hb => ?_)
                    · replace hm := if_t hm hb
                      refine reg [] [] [4] [pl 4 (.bool ((r7.2 == 3) && ((r7.1.length : Int) == 0)))] hF hS Fol (by kernel_rfl) (by kernel_rfl) (by kernel_rfl) ?_ (fun a w hF hS => ?_)
                      · exact obs_nil
                      refine wpIn_ret ?_
                      refine block_r (then_r (then_r (block_r (then_r ?_))))
                      rw [← hφ3] at hm
                      replace hm := done_b hm
                      unfold gameroomlaw_MagicTells_K3 at hm
                      try dsimp only at hm
                      have hS := hS.pickN 1 [] (by decide)
                      have hm : some ((r7.2 == 3) && ((r7.1.length : Int) == 0)) = some r := hm
                      obtain rfl := Option.some.inj hm
                      exact retV (rs := [.tmp 4]) (vs := [.bool ((r7.2 == 3) && ((r7.1.length : Int) == 0))]) hF rfl (rv_t (by kernel_rfl) <| rv_nil) rfl ⟨rfl, hS⟩
                    · replace hm := if_f hm hb
                      refine wpIn_skip ?_
                      refine block_n ?_
                      refine then_n ?_
                      exact ⟨hF.weak [0, 1, 10, 11, 13, 19] (by kernel_rfl), hS, hm⟩
                · refine reg [] [] [0, 1, 10, 11, 13, 19, 179] [pl 0 (.slice A1 l1.length c1), pl 1 (.slice A2 b1.length c2), pl 10 (.slice A8 r7.1.length c8), pl 11 (.int .i64 r7.2), pl 13 (.int .i64 r9), pl 19 (.int .i64 i3), pl 179 (.bool (decide (i3 < (b1.length : Int))))] hF hS Fol (by kernel_rfl) (by kernel_rfl) (by kernel_rfl) ?_ (fun a w hF hS => ?_)
                  · exact obs_nil
                  refine cond_ev (t := 179) (b := decide (i3 < (b1.length : Int))) hF (by kernel_rfl) (fun hb => ?_) (fun hb => ?_)
                  · replace hm := if_t hm hb
                    refine wpIn_skip ?_
                    refine then_n ?_
                    exact ⟨hF.weak [0, 1, 10, 11, 13, 19] (by kernel_rfl), hS, hm⟩
                  · replace hm := if_f hm hb
                    refine wpIn_exit ?_
                    refine then_e (then_e (block_e (then_n ?_)))
                    rw [← hφ3] at hm
                    replace hm := done_b hm
                    unfold gameroomlaw_MagicTells_K3 at hm
                    try dsimp only at hm
                    have hm : ((gameroomlaw_MagicTells_J12 l1 b1 r7)).bind some = some r := hm
                    exact ⟨hF.weak [0, 1, 10, 11] (by kernel_rfl), hS, hm⟩
            · refine reg [] [] [0, 1, 10, 11, 12, 13, 18] [pl 0 (.slice A1 l1.length c1), pl 1 (.slice A2 b1.length c2), pl 10 (.slice A8 r7.1.length c8), pl 11 (.int .i64 r7.2), pl 12 (.int .i64 r8), pl 13 (.int .i64 r9), pl 18 (.int .i64 0)] hF hS Fol (by kernel_rfl) (by kernel_rfl) (by kernel_rfl) ?_ (fun a w hF hS => ?_)
              · exact obs_nil
              refine wpIn_block ?_
              refine wp_loop_model (S := Int) (R := (Fl Unit Bool)) (gameroomlaw_MagicTells_L2 l1 r7 r8) (fun x => ((gameroomlaw_MagicTells_K2 l1 b1 r7 r9) x).bind some) r (fun (x : Int) a w => Fr 213 [pl 0 (.slice A1 l1.length c1), pl 1 (.slice A2 b1.length c2), pl 10 (.slice A8 r7.1.length c8), pl 11 (.int .i64 r7.2), pl 12 (.int .i64 r8), pl 13 (.int .i64 r9), pl 18 (.int .i64 x)] a ∧ Sep w0 B w (own 3 (.slice A8 r7.1.length c8) (vI r7.1) :: fs)) (assoc_b hm) ⟨hF.weak [0, 1, 10, 11, 12, 13, 18] (by kernel_rfl), hS⟩ ?_
              clear hF hS hm
              rintro nn2 i2 a w ⟨hF, hS⟩ hm
              generalize hφ2 : stK (gameroomlaw_MagicTells_L2 l1 r7 r8) nn2 (fun x => ((gameroomlaw_MagicTells_K2 l1 b1 r7 r9) x).bind some) = φ2 at hm
              unfold gameroomlaw_MagicTells_L2 at hm
              dsimp only at hm
              refine seq_cut (fun a w => Fr 213 [pl 0 (.slice A1 l1.length c1), pl 1 (.slice A2 b1.length c2), pl 10 (.slice A8 r7.1.length c8), pl 11 (.int .i64 r7.2), pl 12 (.int .i64 r8), pl 13 (.int .i64 r9), pl 18 (.int .i64 i2)] a ∧ Sep w0 B w (own 3 (.slice A8 r7.1.length c8) (vI r7.1) :: fs) ∧ ((gameroomlaw_MagicTells_J10 l1 r7 r8 i2)).bind φ2 = some r) ?_ ?_
              · rintro a w ⟨hF, hS, hm⟩
                unfold gameroomlaw_MagicTells_J10 at hm
                refine seq_cut (fun a w => Fr 213 [pl 0 (.slice A1 l1.length c1), pl 1 (.slice A2 b1.length c2), pl 10 (.slice A8 r7.1.length c8), pl 11 (.int .i64 r7.2), pl 12 (.int .i64 r8), pl 13 (.int .i64 r9), pl 18 (.int .i64 i2)] a ∧ Sep w0 B w (own 3 (.slice A8 r7.1.length c8) (vI r7.1) :: fs) ∧ ((gameroomlaw_MagicTells_J11 i2)).bind φ2 = some r) ?_ ?_
                · rintro a w ⟨hF, hS, hm⟩
                  unfold gameroomlaw_MagicTells_J11 at hm
                  refine reg1 [] [] [0, 1, 10, 11, 12, 13, 18] [pl 0 (.slice A1 l1.length c1), pl 1 (.slice A2 b1.length c2), pl 10 (.slice A8 r7.1.length c8), pl 11 (.int .i64 r7.2), pl 12 (.int .i64 r8), pl 13 (.int .i64 r9), pl 18 (.int .i64 (w64 (i2 + 1)))] hF hS Fol (by kernel_rfl) (by kernel_rfl) (by kernel_rfl) ?_ (fun a w hF hS => ?_)
                  · exact obs_nil
                  refine then_n ?_
                  rw [← hφ2] at hm
                  exact ⟨(w64 (i2 + 1)), ⟨hF.weak [0, 1, 10, 11, 12, 13, 18] (by kernel_rfl), hS⟩, hm⟩
                · refine wpIn_block ?_
                  obtain ⟨hp4, hm⟩ := asrt_b hm
                  obtain ⟨hp5, hm⟩ := asrt_b hm
                  refine reg [⟨true, [], vS (Instr.indexAt 22 (.slice A1 l1.length c1) (.int .i64 i2)), .pointer (some (sAddr A1 i2))⟩, ⟨false, [], vS (Instr.loadAt 3 (.pointer (some (sAddr A1 i2)))), .int .i64 (geti l1 i2)⟩, ⟨true, [(decide ((geti l1 i2) < 1), false)], vS (Instr.indexAt 22 (.slice A1 l1.length c1) (.int .i64 i2)), .pointer (some (sAddr A1 i2))⟩, ⟨false, [(decide ((geti l1 i2) < 1), false)], vS (Instr.loadAt 3 (.pointer (some (sAddr A1 i2)))), .int .i64 (geti l1 i2)⟩] [none, none, some (.pointer (some (sAddr A1 i2))), some (.int .i64 (geti l1 i2)), none, none, none, none, some (.pointer (some (sAddr A1 i2))), some (.int .i64 (geti l1 i2)), none, none, none, none, none] [0, 1, 10, 11, 12, 13, 18, 168] [pl 0 (.slice A1 l1.length c1), pl 1 (.slice A2 b1.length c2), pl 10 (.slice A8 r7.1.length c8), pl 11 (.int .i64 r7.2), pl 12 (.int .i64 r8), pl 13 (.int .i64 r9), pl 18 (.int .i64 i2), pl 168 (.bool ((decide ((geti l1 i2) < 1)) || (decide ((w64 (r8 * r8)) < (geti l1 i2)))))] hF hS Fol (by kernel_rfl) (by kernel_rfl) (by kernel_rfl) ?_ (fun a w hF hS => ?_)
                  · exact obs_cons (ob_ix1 (f := (Value.int .i64)) (m := l1) Und22 hi3 hs3 (hr_l1 _ (hS.dropN 1)) rfl (fun _ => hp4)) <| obs_cons (ob_get1 (n := l1.length) (m := l1) (Value.int .i64) (0 : Int) Agg3 (fun _ hS => ⟨_, (hr_l1 _ (hS.dropN 1))⟩) (fun _ hS => rfl) (fun _ => hp4)) <| obs_cons (ob_ix1 (f := (Value.int .i64)) (m := l1) Und22 hi3 hs3 (hr_l1 _ (hS.dropN 1)) rfl (fun hy => hp5 (hy (decide ((geti l1 i2) < 1), false) (by simp)))) <| obs_cons (ob_get1 (n := l1.length) (m := l1) (Value.int .i64) (0 : Int) Agg3 (fun _ hS => ⟨_, (hr_l1 _ (hS.dropN 1))⟩) (fun _ hS => rfl) (fun hy => hp5 (hy (decide ((geti l1 i2) < 1), false) (by simp)))) <| obs_nil
                  refine cond_ev (t := 168) (b := (decide ((geti l1 i2) < 1)) || (decide ((w64 (r8 * r8)) < (geti l1 i2)))) hF (by kernel_rfl) (fun hb => ?_) (fun hb => ?_)
                  · replace hm := if_t hm hb
                    refine reg [] [] [4] [pl 4 (.bool ((r7.2 == 3) && ((r7.1.length : Int) == 0)))] hF hS Fol (by kernel_rfl) (by kernel_rfl) (by kernel_rfl) ?_ (fun a w hF hS => ?_)
                    · exact obs_nil
                    refine wpIn_ret ?_
                    refine block_r (then_r (then_r (block_r (then_r ?_))))
                    rw [← hφ2] at hm
                    replace hm := done_b hm
                    unfold gameroomlaw_MagicTells_K2 at hm
                    try dsimp only at hm
                    have hS := hS.pickN 1 [] (by decide)
                    have hm : some ((r7.2 == 3) && ((r7.1.length : Int) == 0)) = some r := hm
                    obtain rfl := Option.some.inj hm
                    exact retV (rs := [.tmp 4]) (vs := [.bool ((r7.2 == 3) && ((r7.1.length : Int) == 0))]) hF rfl (rv_t (by kernel_rfl) <| rv_nil) rfl ⟨rfl, hS⟩
                  · replace hm := if_f hm hb
                    refine wpIn_skip ?_
                    refine block_n ?_
                    refine then_n ?_
                    exact ⟨hF.weak [0, 1, 10, 11, 12, 13, 18] (by kernel_rfl), hS, hm⟩
              · refine reg [] [] [0, 1, 10, 11, 12, 13, 18, 151] [pl 0 (.slice A1 l1.length c1), pl 1 (.slice A2 b1.length c2), pl 10 (.slice A8 r7.1.length c8), pl 11 (.int .i64 r7.2), pl 12 (.int .i64 r8), pl 13 (.int .i64 r9), pl 18 (.int .i64 i2), pl 151 (.bool (decide (i2 < (l1.length : Int))))] hF hS Fol (by kernel_rfl) (by kernel_rfl) (by kernel_rfl) ?_ (fun a w hF hS => ?_)
                · exact obs_nil
                refine cond_ev (t := 151) (b := decide (i2 < (l1.length : Int))) hF (by kernel_rfl) (fun hb => ?_) (fun hb => ?_)
                · replace hm := if_t hm hb
                  refine wpIn_skip ?_
                  refine then_n ?_
                  exact ⟨hF.weak [0, 1, 10, 11, 12, 13, 18] (by kernel_rfl), hS, hm⟩
                · replace hm := if_f hm hb
                  refine wpIn_exit ?_
                  refine then_e (then_e (block_e (then_n ?_)))
                  rw [← hφ2] at hm
                  replace hm := done_b hm
                  unfold gameroomlaw_MagicTells_K2 at hm
                  try dsimp only at hm
                  have hm : ((gameroomlaw_MagicTells_J9 l1 b1 r7 r9)).bind some = some r := hm
                  exact ⟨hF.weak [0, 1, 10, 11, 13] (by kernel_rfl), hS, hm⟩
          · refine reg [] [] [0, 1, 10, 11, 12, 13, 140] [pl 0 (.slice A1 l1.length c1), pl 1 (.slice A2 b1.length c2), pl 10 (.slice A8 r7.1.length c8), pl 11 (.int .i64 r7.2), pl 12 (.int .i64 r8), pl 13 (.int .i64 r9), pl 140 (.bool ((r9 == 0) || (decide ((12 : Int) < (w64 (r8 * r9))))))] hF hS Fol (by kernel_rfl) (by kernel_rfl) (by kernel_rfl) ?_ (fun a w hF hS => ?_)
            · exact obs_nil
            refine cond_ev (t := 140) (b := (r9 == 0) || (decide ((12 : Int) < (w64 (r8 * r9))))) hF (by kernel_rfl) (fun hb => ?_) (fun hb => ?_)
            · replace hm := if_t hm hb
              refine reg [] [] [4] [pl 4 (.bool ((r7.2 == 2) && ((r7.1.length : Int) == 0)))] hF hS Fol (by kernel_rfl) (by kernel_rfl) (by kernel_rfl) ?_ (fun a w hF hS => ?_)
              · exact obs_nil
              refine wpIn_ret ?_
              refine then_r ?_
              have hS := hS.pickN 1 [] (by decide)
              have hm : some ((r7.2 == 2) && ((r7.1.length : Int) == 0)) = some r := hm
              obtain rfl := Option.some.inj hm
              exact retV (rs := [.tmp 4]) (vs := [.bool ((r7.2 == 2) && ((r7.1.length : Int) == 0))]) hF rfl (rv_t (by kernel_rfl) <| rv_nil) rfl ⟨rfl, hS⟩
            · replace hm := if_f hm hb
              refine wpIn_skip ?_
              refine then_n ?_
              exact ⟨hF.weak [0, 1, 10, 11, 12, 13] (by kernel_rfl), hS, hm⟩
        · refine seq_cut (fun a w => ∃ (z1 : Bool), Fr 213 [pl 0 (.slice A1 l1.length c1), pl 1 (.slice A2 b1.length c2), pl 10 (.slice A8 r7.1.length c8), pl 11 (.int .i64 r7.2), pl 12 (.int .i64 r8), pl 13 (.int .i64 r9), pl 132 (.bool z1)] a ∧ Sep w0 B w (own 3 (.slice A8 r7.1.length c8) (vI r7.1) :: fs) ∧ ((gameroomlaw_MagicTells_J7 l1 b1 r7 r8 r9) z1).bind some = some r) ?_ ?_
          · rintro a w ⟨z1, hF, hS, hm⟩
            unfold gameroomlaw_MagicTells_J7 at hm
            refine cond_ev (t := 132) (b := z1) hF (by kernel_rfl) (fun hb => ?_) (fun hb => ?_)
            · replace hm := if_t hm hb
              refine reg [] [] [4] [pl 4 (.bool false)] hF hS Fol (by kernel_rfl) (by kernel_rfl) (by kernel_rfl) ?_ (fun a w hF hS => ?_)
              · exact obs_nil
              refine wpIn_ret ?_
              refine then_r ?_
              have hS := hS.pickN 1 [] (by decide)
              have hm : some false = some r := hm
              obtain rfl := Option.some.inj hm
              exact retV (rs := [.tmp 4]) (vs := [.bool false]) hF rfl (rv_t (by kernel_rfl) <| rv_nil) rfl ⟨rfl, hS⟩
            · replace hm := if_f hm hb
              refine wpIn_skip ?_
              refine then_n ?_
              exact ⟨hF.weak [0, 1, 10, 11, 12, 13] (by kernel_rfl), hS, hm⟩
          · refine oneR ?_
            refine at_run 5 [] [] [0, 1, 10, 11, 12, 13, 126, 127, 128] [pl 0 (.slice A1 l1.length c1), pl 1 (.slice A2 b1.length c2), pl 10 (.slice A8 r7.1.length c8), pl 11 (.int .i64 r7.2), pl 12 (.int .i64 r8), pl 13 (.int .i64 r9), pl 126 (.bool (r4.2 != 0)), ⟨127, [(126, false)], .slice A5 r4.1.length c5⟩, ⟨128, [(126, false)], .slice A1 l1.length c1⟩] hF hS (by kernel_rfl) (by kernel_rfl) ?_ (fun a w hF hS => ?_)
            · exact obs_nil
            rcases Bool.eq_false_or_eq_true (r4.2 != 0) with hg1 | hg1
            · replace hm := if_t hm hg1
              refine at_gskip (d := 129) (v := .slice none 0 0) (hs := [((r4.2 != 0), false)]) (ctx := [(126, false)]) hF (by kernel_rfl) (by kernel_rfl) (fun h => absurd (h ((r4.2 != 0), false) (by simp)) (by simp [hg1])) (fun a hF => ?_)
              refine at_run 3 [⟨false, [((r4.2 != 0), false)], callFunc 47 #[.slice A5 r4.1.length c5, .slice none 0 0], .bool false⟩] [some (.bool false), none, none] [0, 1, 10, 11, 12, 13, 132] [pl 0 (.slice A1 l1.length c1), pl 1 (.slice A2 b1.length c2), pl 10 (.slice A8 r7.1.length c8), pl 11 (.int .i64 r7.2), pl 12 (.int .i64 r8), pl 13 (.int .i64 r9), pl 132 (.bool ((r4.2 != 0) || true))] hF hS (by kernel_rfl) (by kernel_rfl) ?_ (fun a w hF hS => ?_)
              · exact obs_cons (Ob.vac (fun h => absurd (h ((r4.2 != 0), false) (by simp)) (by simp [hg1]))) <| obs_nil
              refine at_end [0, 1, 10, 11, 12, 13, 132] [pl 0 (.slice A1 l1.length c1), pl 1 (.slice A2 b1.length c2), pl 10 (.slice A8 r7.1.length c8), pl 11 (.int .i64 r7.2), pl 12 (.int .i64 r8), pl 13 (.int .i64 r9), pl 132 (.bool ((r4.2 != 0) || true))] hF rfl (by kernel_rfl) (fun hF => ?_)
              refine then_n ?_
              have hS := hS.pickN 2 [1] (by decide)
              exact ⟨((r4.2 != 0) || true), hF.weak [0, 1, 10, 11, 12, 13, 132] (by kernel_rfl), hS, hm⟩
            · replace hm := if_f hm hg1
              obtain ⟨r11, hr11, hm⟩ := call_b hm
              obtain ⟨r12, hr12, hm⟩ := call_b hm
              refine at_gcall (hs := [((r4.2 != 0), false)]) (fun y hy => by simp only [List.mem_cons, List.not_mem_nil, or_false] at hy; subst hy; first | exact hg1) (f := 58) (args := #[.slice A1 l1.length c1]) (d := 129) hF (by kernel_rfl) (by kernel_rfl) Try.func58 (by kernel_rfl) rfl (gameroomref_MagicForms_w hr11 hS (fun _ hS => (hr_l1 _ (hS.dropN 2))) _hc_l1 rfl) (fun v a w hR hF => ?_)
              clear hS
              obtain ⟨pg1, A9, c9, hd2, rfl, hp3, hc1, hS⟩ := hR
              have hS : Sep w0 B w (pg1 :: rows 22 3 (.slice A5 r4.1.length c5) hd1 r4.1 :: own 3 (.slice A8 r7.1.length c8) (vI r7.1) :: fs) := hS
              refine at_run 3 [⟨false, [((r4.2 != 0), false)], callFunc 47 #[.slice A5 r4.1.length c5, .slice A9 r11.length c9], .bool r12⟩] [some (.bool r12), none, none] [0, 1, 10, 11, 12, 13, 132] [pl 0 (.slice A1 l1.length c1), pl 1 (.slice A2 b1.length c2), pl 10 (.slice A8 r7.1.length c8), pl 11 (.int .i64 r7.2), pl 12 (.int .i64 r8), pl 13 (.int .i64 r9), pl 132 (.bool ((r4.2 != 0) || (!r12)))] hF hS (by kernel_rfl) (by kernel_rfl) ?_ (fun a w hF hS => ?_)
              · exact obs_cons (ob_call Try.func47 (by kernel_rfl) rfl (fun hy _ hS => gameroomlaw_sameRows_w (ite_some hr12 (by rw [show (r4.2 != 0) = false from hy ((r4.2 != 0), false) (by simp)]; try rfl)) hS (fun _ hS => (hS.at_ 1 rfl).rdRows) (hS.at_ 1 rfl).rowsLen.2 (hS.at_ 1 rfl).lenR (fun _ hS => (hp3.at_ hS 0 rfl)) hc1 rfl)) <| obs_nil
              refine at_end [0, 1, 10, 11, 12, 13, 132] [pl 0 (.slice A1 l1.length c1), pl 1 (.slice A2 b1.length c2), pl 10 (.slice A8 r7.1.length c8), pl 11 (.int .i64 r7.2), pl 12 (.int .i64 r8), pl 13 (.int .i64 r9), pl 132 (.bool ((r4.2 != 0) || (!r12)))] hF rfl (by kernel_rfl) (fun hF => ?_)
              refine then_n ?_
              have hS := hS.pickN 3 [2] (by decide)
              exact ⟨((r4.2 != 0) || (!r12)), hF.weak [0, 1, 10, 11, 12, 13, 132] (by kernel_rfl), hS, hm⟩
      · refine reg [] [] [0, 1, 5, 6, 7, 8, 9, 10, 11, 12, 13, 96] [pl 0 (.slice A1 l1.length c1), pl 1 (.slice A2 b1.length c2), pl 5 (.int .i64 r2.1), pl 6 (.int .i64 r2.2.1), pl 7 (.int .i64 r2.2.2), pl 8 (.slice A5 r4.1.length c5), pl 9 (.int .i64 r4.2), pl 10 (.slice A8 r7.1.length c8), pl 11 (.int .i64 r7.2), pl 12 (.int .i64 r8), pl 13 (.int .i64 r9), pl 96 (.bool far2)] hF hS Fol (by kernel_rfl) (by kernel_rfl) (by kernel_rfl) ?_ (fun a w hF hS => ?_)
        · exact obs_nil
        refine cond_ev (t := 96) (b := far2) hF (by kernel_rfl) (fun hb => ?_) (fun hb => ?_)
        · replace hm := if_t hm hb
          refine reg [] [] [0, 1, 8, 9, 10, 11, 12, 13, 106] [pl 0 (.slice A1 l1.length c1), pl 1 (.slice A2 b1.length c2), pl 8 (.slice A5 r4.1.length c5), pl 9 (.int .i64 r4.2), pl 10 (.slice A8 r7.1.length c8), pl 11 (.int .i64 r7.2), pl 12 (.int .i64 r8), pl 13 (.int .i64 r9), pl 106 (.bool (((r2.2.2 != 3) || (r2.1 != 0)) || (r2.2.1 != 0)))] hF hS Fol (by kernel_rfl) (by kernel_rfl) (by kernel_rfl) ?_ (fun a w hF hS => ?_)
          · exact obs_nil
          refine cond_ev (t := 106) (b := ((r2.2.2 != 3) || (r2.1 != 0)) || (r2.2.1 != 0)) hF (by kernel_rfl) (fun hb => ?_) (fun hb => ?_)
          · replace hm := if_t hm hb
            refine reg [] [] [4] [pl 4 (.bool false)] hF hS Fol (by kernel_rfl) (by kernel_rfl) (by kernel_rfl) ?_ (fun a w hF hS => ?_)
            · exact obs_nil
            refine wpIn_ret ?_
            refine then_r ?_
            have hS := hS.pickN 2 [] (by decide)
            have hm : some false = some r := hm
            obtain rfl := Option.some.inj hm
            exact retV (rs := [.tmp 4]) (vs := [.bool false]) hF rfl (rv_t (by kernel_rfl) <| rv_nil) rfl ⟨rfl, hS⟩
          · replace hm := if_f hm hb
            refine wpIn_skip ?_
            refine then_n ?_
            exact ⟨hF.weak [0, 1, 8, 9, 10, 11, 12, 13] (by kernel_rfl), hS, hm⟩
        · replace hm := if_f hm hb
          obtain ⟨r10, hr10, hm⟩ := call_b hm
          refine reg [⟨false, [], callFunc 57 #[.slice A1 l1.length c1], .tuple #[.int .i64 r10.1, .int .i64 r10.2]⟩] [none, some (.tuple #[.int .i64 r10.1, .int .i64 r10.2]), none, none, none, none, none] [0, 1, 5, 6, 7, 8, 9, 10, 11, 12, 13, 16, 17] [pl 0 (.slice A1 l1.length c1), pl 1 (.slice A2 b1.length c2), pl 5 (.int .i64 r2.1), pl 6 (.int .i64 r2.2.1), pl 7 (.int .i64 r2.2.2), pl 8 (.slice A5 r4.1.length c5), pl 9 (.int .i64 r4.2), pl 10 (.slice A8 r7.1.length c8), pl 11 (.int .i64 r7.2), pl 12 (.int .i64 r8), pl 13 (.int .i64 r9), pl 16 (.int .i64 r10.1), pl 17 (.int .i64 r10.2)] hF hS Fol (by kernel_rfl) (by kernel_rfl) (by kernel_rfl) ?_ (fun a w hF hS => ?_)
          · exact obs_cons (ob_call Try.func57 (by kernel_rfl) rfl (fun _ _ hS => gameroomref_MagicKind_w hr10 hS (fun _ hS => (hr_l1 _ (hS.dropN 2))) _hc_l1 rfl)) <| obs_nil
          refine reg [] [] [0, 1, 8, 9, 10, 11, 12, 13, 123] [pl 0 (.slice A1 l1.length c1), pl 1 (.slice A2 b1.length c2), pl 8 (.slice A5 r4.1.length c5), pl 9 (.int .i64 r4.2), pl 10 (.slice A8 r7.1.length c8), pl 11 (.int .i64 r7.2), pl 12 (.int .i64 r8), pl 13 (.int .i64 r9), pl 123 (.bool (((r2.2.2 != 0) || (r2.1 != r10.1)) || (r2.2.1 != r10.2)))] hF hS Fol (by kernel_rfl) (by kernel_rfl) (by kernel_rfl) ?_ (fun a w hF hS => ?_)
          · exact obs_nil
          refine cond_ev (t := 123) (b := ((r2.2.2 != 0) || (r2.1 != r10.1)) || (r2.2.1 != r10.2)) hF (by kernel_rfl) (fun hb => ?_) (fun hb => ?_)
          · replace hm := if_t hm hb
            refine reg [] [] [4] [pl 4 (.bool false)] hF hS Fol (by kernel_rfl) (by kernel_rfl) (by kernel_rfl) ?_ (fun a w hF hS => ?_)
            · exact obs_nil
            refine wpIn_ret ?_
            refine then_r ?_
            have hS := hS.pickN 2 [] (by decide)
            have hm : some false = some r := hm
            obtain rfl := Option.some.inj hm
            exact retV (rs := [.tmp 4]) (vs := [.bool false]) hF rfl (rv_t (by kernel_rfl) <| rv_nil) rfl ⟨rfl, hS⟩
          · replace hm := if_f hm hb
            refine wpIn_skip ?_
            refine then_n ?_
            exact ⟨hF.weak [0, 1, 8, 9, 10, 11, 12, 13] (by kernel_rfl), hS, hm⟩
    · refine reg [] [] [0, 1, 5, 6, 7, 8, 9, 10, 11, 12, 13, 14, 15] [pl 0 (.slice A1 l1.length c1), pl 1 (.slice A2 b1.length c2), pl 5 (.int .i64 r2.1), pl 6 (.int .i64 r2.2.1), pl 7 (.int .i64 r2.2.2), pl 8 (.slice A5 r4.1.length c5), pl 9 (.int .i64 r4.2), pl 10 (.slice A8 r7.1.length c8), pl 11 (.int .i64 r7.2), pl 12 (.int .i64 r8), pl 13 (.int .i64 r9), pl 14 (.bool false), pl 15 (.int .i64 0)] hF hS Fol (by kernel_rfl) (by kernel_rfl) (by kernel_rfl) ?_ (fun a w hF hS => ?_)
      · exact obs_nil
      refine wpIn_block ?_
      refine wp_loop_model (S := (Bool × Int)) (R := Bool) (gameroomlaw_MagicTells_L1 l1) (fun x => ((gameroomlaw_MagicTells_K1 l1 b1 r2 r4 r7 r8 r9) x).bind some) r (fun (x : (Bool × Int)) a w => Fr 213 [pl 0 (.slice A1 l1.length c1), pl 1 (.slice A2 b1.length c2), pl 5 (.int .i64 r2.1), pl 6 (.int .i64 r2.2.1), pl 7 (.int .i64 r2.2.2), pl 8 (.slice A5 r4.1.length c5), pl 9 (.int .i64 r4.2), pl 10 (.slice A8 r7.1.length c8), pl 11 (.int .i64 r7.2), pl 12 (.int .i64 r8), pl 13 (.int .i64 r9), pl 14 (.bool x.1), pl 15 (.int .i64 x.2)] a ∧ Sep w0 B w (rows 22 3 (.slice A5 r4.1.length c5) hd1 r4.1 :: own 3 (.slice A8 r7.1.length c8) (vI r7.1) :: fs)) (assoc_b hm) ⟨hF.weak [0, 1, 5, 6, 7, 8, 9, 10, 11, 12, 13, 14, 15] (by kernel_rfl), hS⟩ ?_
      clear hF hS hm
      rintro nn1 ⟨far1, i1⟩ a w ⟨hF, hS⟩ hm
      generalize hφ1 : stK (gameroomlaw_MagicTells_L1 l1) nn1 (fun x => ((gameroomlaw_MagicTells_K1 l1 b1 r2 r4 r7 r8 r9) x).bind some) = φ1 at hm
      unfold gameroomlaw_MagicTells_L1 at hm
      dsimp only at hF hS hm
      refine seq_cut (fun a w => Fr 213 [pl 0 (.slice A1 l1.length c1), pl 1 (.slice A2 b1.length c2), pl 5 (.int .i64 r2.1), pl 6 (.int .i64 r2.2.1), pl 7 (.int .i64 r2.2.2), pl 8 (.slice A5 r4.1.length c5), pl 9 (.int .i64 r4.2), pl 10 (.slice A8 r7.1.length c8), pl 11 (.int .i64 r7.2), pl 12 (.int .i64 r8), pl 13 (.int .i64 r9), pl 14 (.bool far1), pl 15 (.int .i64 i1)] a ∧ Sep w0 B w (rows 22 3 (.slice A5 r4.1.length c5) hd1 r4.1 :: own 3 (.slice A8 r7.1.length c8) (vI r7.1) :: fs) ∧ ((gameroomlaw_MagicTells_J3 l1 far1 i1)).bind φ1 = some r) ?_ ?_
      · rintro a w ⟨hF, hS, hm⟩
        unfold gameroomlaw_MagicTells_J3 at hm
        refine seq_cut (fun a w => Fr 213 [pl 0 (.slice A1 l1.length c1), pl 1 (.slice A2 b1.length c2), pl 5 (.int .i64 r2.1), pl 6 (.int .i64 r2.2.1), pl 7 (.int .i64 r2.2.2), pl 8 (.slice A5 r4.1.length c5), pl 9 (.int .i64 r4.2), pl 10 (.slice A8 r7.1.length c8), pl 11 (.int .i64 r7.2), pl 12 (.int .i64 r8), pl 13 (.int .i64 r9), pl 14 (.bool ((far1 || (decide ((geti l1 i1) < (-1000000)))) || (decide ((1000000 : Int) < (geti l1 i1))))), pl 15 (.int .i64 i1)] a ∧ Sep w0 B w (rows 22 3 (.slice A5 r4.1.length c5) hd1 r4.1 :: own 3 (.slice A8 r7.1.length c8) (vI r7.1) :: fs) ∧ ((gameroomlaw_MagicTells_J4 l1 far1 i1)).bind φ1 = some r) ?_ ?_
        · rintro a w ⟨hF, hS, hm⟩
          unfold gameroomlaw_MagicTells_J4 at hm
          refine reg1 [] [] [0, 1, 5, 6, 7, 8, 9, 10, 11, 12, 13, 14, 15] [pl 0 (.slice A1 l1.length c1), pl 1 (.slice A2 b1.length c2), pl 5 (.int .i64 r2.1), pl 6 (.int .i64 r2.2.1), pl 7 (.int .i64 r2.2.2), pl 8 (.slice A5 r4.1.length c5), pl 9 (.int .i64 r4.2), pl 10 (.slice A8 r7.1.length c8), pl 11 (.int .i64 r7.2), pl 12 (.int .i64 r8), pl 13 (.int .i64 r9), pl 14 (.bool ((far1 || (decide ((geti l1 i1) < (-1000000)))) || (decide ((1000000 : Int) < (geti l1 i1))))), pl 15 (.int .i64 (w64 (i1 + 1)))] hF hS Fol (by kernel_rfl) (by kernel_rfl) (by kernel_rfl) ?_ (fun a w hF hS => ?_)
          · exact obs_nil
          refine then_n ?_
          rw [← hφ1] at hm
          exact ⟨(((far1 || (decide ((geti l1 i1) < (-1000000)))) || (decide ((1000000 : Int) < (geti l1 i1)))), (w64 (i1 + 1))), ⟨hF.weak [0, 1, 5, 6, 7, 8, 9, 10, 11, 12, 13, 14, 15] (by kernel_rfl), hS⟩, hm⟩
        · refine wpIn_block ?_
          obtain ⟨hp1, hm⟩ := asrt_b hm
          obtain ⟨hp2, hm⟩ := asrt_b hm
          refine reg1 [⟨true, [(far1, false)], vS (Instr.indexAt 22 (.slice A1 l1.length c1) (.int .i64 i1)), .pointer (some (sAddr A1 i1))⟩, ⟨false, [(far1, false)], vS (Instr.loadAt 3 (.pointer (some (sAddr A1 i1)))), .int .i64 (geti l1 i1)⟩, ⟨true, [(far1 || (decide ((geti l1 i1) < (-1000000))), false)], vS (Instr.indexAt 22 (.slice A1 l1.length c1) (.int .i64 i1)), .pointer (some (sAddr A1 i1))⟩, ⟨false, [(far1 || (decide ((geti l1 i1) < (-1000000))), false)], vS (Instr.loadAt 3 (.pointer (some (sAddr A1 i1)))), .int .i64 (geti l1 i1)⟩] [none, none, none, none, some (.pointer (some (sAddr A1 i1))), some (.int .i64 (geti l1 i1)), none, none, none, none, none, some (.pointer (some (sAddr A1 i1))), some (.int .i64 (geti l1 i1)), none, none, none] [0, 1, 5, 6, 7, 8, 9, 10, 11, 12, 13, 14, 15] [pl 0 (.slice A1 l1.length c1), pl 1 (.slice A2 b1.length c2), pl 5 (.int .i64 r2.1), pl 6 (.int .i64 r2.2.1), pl 7 (.int .i64 r2.2.2), pl 8 (.slice A5 r4.1.length c5), pl 9 (.int .i64 r4.2), pl 10 (.slice A8 r7.1.length c8), pl 11 (.int .i64 r7.2), pl 12 (.int .i64 r8), pl 13 (.int .i64 r9), pl 14 (.bool ((far1 || (decide ((geti l1 i1) < (-1000000)))) || (decide ((1000000 : Int) < (geti l1 i1))))), pl 15 (.int .i64 i1)] hF hS Fol (by kernel_rfl) (by kernel_rfl) (by kernel_rfl) ?_ (fun a w hF hS => ?_)
          · exact obs_cons (ob_ix1 (f := (Value.int .i64)) (m := l1) Und22 hi3 hs3 (hr_l1 _ (hS.dropN 2)) rfl (fun hy => hp1 (hy (far1, false) (by simp)))) <| obs_cons (ob_get1 (n := l1.length) (m := l1) (Value.int .i64) (0 : Int) Agg3 (fun _ hS => ⟨_, (hr_l1 _ (hS.dropN 2))⟩) (fun _ hS => rfl) (fun hy => hp1 (hy (far1, false) (by simp)))) <| obs_cons (ob_ix1 (f := (Value.int .i64)) (m := l1) Und22 hi3 hs3 (hr_l1 _ (hS.dropN 2)) rfl (fun hy => hp2 (hy (far1 || (decide ((geti l1 i1) < (-1000000))), false) (by simp)))) <| obs_cons (ob_get1 (n := l1.length) (m := l1) (Value.int .i64) (0 : Int) Agg3 (fun _ hS => ⟨_, (hr_l1 _ (hS.dropN 2))⟩) (fun _ hS => rfl) (fun hy => hp2 (hy (far1 || (decide ((geti l1 i1) < (-1000000))), false) (by simp)))) <| obs_nil
          refine block_n ?_
          refine then_n ?_
          exact ⟨hF.weak [0, 1, 5, 6, 7, 8, 9, 10, 11, 12, 13, 14, 15] (by kernel_rfl), hS, hm⟩
      · refine reg [] [] [0, 1, 5, 6, 7, 8, 9, 10, 11, 12, 13, 14, 15, 78] [pl 0 (.slice A1 l1.length c1), pl 1 (.slice A2 b1.length c2), pl 5 (.int .i64 r2.1), pl 6 (.int .i64 r2.2.1), pl 7 (.int .i64 r2.2.2), pl 8 (.slice A5 r4.1.length c5), pl 9 (.int .i64 r4.2), pl 10 (.slice A8 r7.1.length c8), pl 11 (.int .i64 r7.2), pl 12 (.int .i64 r8), pl 13 (.int .i64 r9), pl 14 (.bool far1), pl 15 (.int .i64 i1), pl 78 (.bool (decide (i1 < (l1.length : Int))))] hF hS Fol (by kernel_rfl) (by kernel_rfl) (by kernel_rfl) ?_ (fun a w hF hS => ?_)
        · exact obs_nil
        refine cond_ev (t := 78) (b := decide (i1 < (l1.length : Int))) hF (by kernel_rfl) (fun hb => ?_) (fun hb => ?_)
        · replace hm := if_t hm hb
          refine wpIn_skip ?_
          refine then_n ?_
          exact ⟨hF.weak [0, 1, 5, 6, 7, 8, 9, 10, 11, 12, 13, 14, 15] (by kernel_rfl), hS, hm⟩
        · replace hm := if_f hm hb
          refine wpIn_exit ?_
          refine then_e (then_e (block_e (then_n ?_)))
          rw [← hφ1] at hm
          replace hm := done_b hm
          unfold gameroomlaw_MagicTells_K1 at hm
          try dsimp only at hm
          have hm : ((gameroomlaw_MagicTells_J2 l1 b1 r2 r4 r7 r8 r9) far1).bind some = some r := hm
          exact ⟨far1, hF.weak [0, 1, 5, 6, 7, 8, 9, 10, 11, 12, 13, 14] (by kernel_rfl), hS, hm⟩
  · refine reg [] [] [0, 1, 5, 6, 7, 8, 9, 10, 11, 12, 13, 46] [pl 0 (.slice A1 l1.length c1), pl 1 (.slice A2 b1.length c2), pl 5 (.int .i64 r2.1), pl 6 (.int .i64 r2.2.1), pl 7 (.int .i64 r2.2.2), pl 8 (.slice A5 r4.1.length c5), pl 9 (.int .i64 r4.2), pl 10 (.slice A8 r7.1.length c8), pl 11 (.int .i64 r7.2), pl 12 (.int .i64 r8), pl 13 (.int .i64 r9), pl 46 (.bool (r8 == 0))] hF hS Fol (by kernel_rfl) (by kernel_rfl) (by kernel_rfl) ?_ (fun a w hF hS => ?_)
    · exact obs_nil
    refine cond_ev (t := 46) (b := (r8 == 0)) hF (by kernel_rfl) (fun hb => ?_) (fun hb => ?_)
    · replace hm := if_t hm hb
      refine reg [] [] [4] [pl 4 (.bool (((((((r2.2.2 == 2) && (r4.2 == 2)) && (r7.2 == 2)) && (r2.1 == 0)) && (r2.2.1 == 0)) && ((r4.1.length : Int) == 0)) && ((r7.1.length : Int) == 0)))] hF hS Fol (by kernel_rfl) (by kernel_rfl) (by kernel_rfl) ?_ (fun a w hF hS => ?_)
      · exact obs_nil
      refine wpIn_ret ?_
      refine then_r ?_
      have hS := hS.pickN 6 [] (by decide)
      have hm : some (((((((r2.2.2 == 2) && (r4.2 == 2)) && (r7.2 == 2)) && (r2.1 == 0)) && (r2.2.1 == 0)) && ((r4.1.length : Int) == 0)) && ((r7.1.length : Int) == 0)) = some r := hm
      obtain rfl := Option.some.inj hm
      exact retV (rs := [.tmp 4]) (vs := [.bool (((((((r2.2.2 == 2) && (r4.2 == 2)) && (r7.2 == 2)) && (r2.1 == 0)) && (r2.2.1 == 0)) && ((r4.1.length : Int) == 0)) && ((r7.1.length : Int) == 0))]) hF rfl (rv_t (by kernel_rfl) <| rv_nil) rfl ⟨rfl, hS⟩
    · replace hm := if_f hm hb
      refine wpIn_skip ?_
      refine then_n ?_
      have hS := hS.pickN 6 [3, 0] (by decide)
      exact ⟨hF.weak [0, 1, 5, 6, 7, 8, 9, 10, 11, 12, 13] (by kernel_rfl), hS, hm⟩

end Go.Proofs.Ytoickcchcjehdaa
