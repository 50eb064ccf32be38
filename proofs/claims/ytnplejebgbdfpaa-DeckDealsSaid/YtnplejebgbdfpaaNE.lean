/-
  Models and walks, printed by our own program (wip/gen).
-/
import Derived.Test.YtnplejebgbdfpaaFA
import Derived.Test.YtnplejebgbdfpaaND
namespace Go.Proofs.Ytnplejebgbdfpaa
open Go Go.GL Go.RowKit


noncomputable def gameroomlaw_DeckRiffles_J5 (z2 : Bool) : Option Bool :=
  some z2

noncomputable def gameroomlaw_DeckRiffles_J4 (l1 : List Int) (n1 : Int) (r4 : (List Int × Int)) : Option Bool :=
  asrt ((r4.2 == 0) = true → 0 ≤ n1 ∧ n1 ≤ (l1.length : Int) ∧ (l1.length : Int) ≤ (l1.length : Int)) <| asrt ((r4.2 == 0) = true → 0 ≤ (0 : Int) ∧ (0 : Int) ≤ n1 ∧ n1 ≤ (l1.length : Int)) <| ((if (r4.2 == 0) then gameroomlaw_ints_m (cut l1 n1 (l1.length : Int)) else some [])).bind fun r7 => asrt ((r4.2 == 0) = true → (r7.length : Int) + (cut l1 (0 : Int) n1).length ≤ bigN) <| ((if (r4.2 == 0) then gameroomlaw_sameInts_m r4.1 (r7 ++ (cut l1 (0 : Int) n1)) else some false)).bind fun r8 => gameroomlaw_DeckRiffles_J5 ((r4.2 == 0) && r8)

noncomputable def gameroomlaw_DeckRiffles_J3 (l1 : List Int) (n1 : Int) (r4 : (List Int × Int)) : Option Bool :=
  if ((decide (n1 < 0)) || (decide ((l1.length : Int) < n1))) then (some ((r4.2 == 3) && ((r4.1.length : Int) == 0))) else ((gameroomlaw_DeckRiffles_J4 l1 n1 r4))

noncomputable def gameroomlaw_DeckRiffles_J1 (l1 : List Int) (n1 : Int) (r4 : (List Int × Int)) : Option Bool :=
  if (decide ((104 : Int) < (l1.length : Int))) then (some ((r4.2 == 2) && ((r4.1.length : Int) == 0))) else ((gameroomlaw_DeckRiffles_J3 l1 n1 r4))

noncomputable def gameroomlaw_DeckRiffles_J2 (l1 : List Int) (n1 : Int) (r4 : (List Int × Int)) (z1 : Bool) : Option Bool :=
  if z1 then (some false) else ((gameroomlaw_DeckRiffles_J1 l1 n1 r4))

noncomputable def gameroomlaw_DeckRiffles_m (l1 : List Int) (in1 : Bool) (n1 : Int) : Option Bool :=
  (gameroomlaw_ints_m l1).bind fun r1 => (deck_Riffle_m r1 in1).bind fun r2 => (gameroomlaw_ints_m l1).bind fun r3 => (deck_Cut_m r3 n1).bind fun r4 => if (((Int.tmod (l1.length : Int) 2) == 1) || (decide ((104 : Int) < (l1.length : Int)))) then (if ((r2.2 != 2) || (decide ((0 : Int) < (r2.1.length : Int)))) then (some false) else ((gameroomlaw_DeckRiffles_J1 l1 n1 r4))) else (((if (!(r2.2 != 0)) then gameroomref_RiffleOf_m l1 in1 else some [])).bind fun r5 => ((if (!(r2.2 != 0)) then gameroomlaw_sameInts_m r2.1 r5 else some false)).bind fun r6 => (gameroomlaw_DeckRiffles_J2 l1 n1 r4) ((r2.2 != 0) || (!r6)))

set_option maxRecDepth 100000 in
set_option maxHeartbeats 4000000 in
theorem gameroomlaw_DeckRiffles_w {A1 : Option Addr} {c1 : Nat} {l1 : List Int} {in1 : Bool} {n1 : Int} {r : Bool} {w0 : World} (hm : gameroomlaw_DeckRiffles_m l1 in1 n1 = some r) (hr_l1 : Rd w0 w0.heap.size A1 (vI l1)) (_hc_l1 : l1.length ≤ c1) :
    Calls Try.prog 10 #[.slice A1 l1.length c1, .bool in1, .int .i64 n1] w0 fun e w' => e = .returned (.bool r) ∧ Sep w0 w0.heap.size w' [] := by
  obtain ⟨i3, hi3, hz3, hs3, hb3⟩ := info_parts Info3
  unfold gameroomlaw_DeckRiffles_m at hm
  replace hm := start_b hm
  refine enterS (l := [.slice A1 l1.length c1, .bool in1, .int .i64 n1]) (n := 90) Try.func10 rfl rfl (by simp) (fun a w hF hS => ?_)
  refine reg [] [] [0, 1, 2] [pl 0 (.slice A1 l1.length c1), pl 1 (.bool in1), pl 2 (.int .i64 n1)] hF hS Fol (by kernel_rfl) (by kernel_rfl) (by kernel_rfl) ?_ (fun a w hF hS => ?_)
  · exact obs_nil
  obtain ⟨r1, hr1, hm⟩ := call_b hm
  obtain ⟨r2, hr2, hm⟩ := call_b hm
  refine seqR ?_
  refine at_run 1 [] [] [0, 1, 2, 12] [pl 0 (.slice A1 l1.length c1), pl 1 (.bool in1), pl 2 (.int .i64 n1), pl 12 (.slice A1 l1.length c1)] hF hS (by kernel_rfl) (by kernel_rfl) ?_ (fun a w hF hS => ?_)
  · exact obs_nil
  refine at_call (f := 16) (args := #[.slice A1 l1.length c1]) (d := 13) hF (by kernel_rfl) (by kernel_rfl) Try.func16 (by kernel_rfl) rfl (gameroomlaw_ints_w hr1 (hr_l1.sep hS) _hc_l1) (fun v a w hR hF => ?_)
  obtain ⟨A2, c2, rfl, hS'⟩ := hR
  have hS : Sep w0 w0.heap.size w [own 3 (.slice A2 r1.length c2) (vI r1)] := hS.merge hS'
  refine at_run 1 [] [] [0, 1, 2, 13, 14] [pl 0 (.slice A1 l1.length c1), pl 1 (.bool in1), pl 2 (.int .i64 n1), pl 13 (.slice A2 r1.length c2), pl 14 (.bool in1)] hF hS (by kernel_rfl) (by kernel_rfl) ?_ (fun a w hF hS => ?_)
  · exact obs_nil
  refine at_call (f := 32) (args := #[.slice A2 r1.length c2, .bool in1]) (d := 15) hF (by kernel_rfl) (by kernel_rfl) Try.func32 (by kernel_rfl) rfl (deck_Riffle_w hr2 (hS.at_ 0 rfl).rd (hS.at_ 0 rfl).cap) (fun v a w hR hF => ?_)
  obtain ⟨A3, c3, rfl, hS'⟩ := hR
  have hS : Sep w0 w0.heap.size w [own 3 (.slice A3 r2.1.length c3) (vI r2.1), own 3 (.slice A2 r1.length c2) (vI r1)] := hS.merge hS'
  refine at_run 5 [] [] [0, 1, 2, 7, 8] [pl 0 (.slice A1 l1.length c1), pl 1 (.bool in1), pl 2 (.int .i64 n1), pl 7 (.slice A3 r2.1.length c3), pl 8 (.int .i64 r2.2)] hF hS (by kernel_rfl) (by kernel_rfl) ?_ (fun a w hF hS => ?_)
  · exact obs_nil
  refine at_end [0, 1, 2, 7, 8] [pl 0 (.slice A1 l1.length c1), pl 1 (.bool in1), pl 2 (.int .i64 n1), pl 7 (.slice A3 r2.1.length c3), pl 8 (.int .i64 r2.2)] hF rfl (by kernel_rfl) (fun hF => ?_)
  refine then_n ?_
  obtain ⟨r3, hr3, hm⟩ := call_b hm
  obtain ⟨r4, hr4, hm⟩ := call_b hm
  refine seqR ?_
  refine at_run 1 [] [] [0, 1, 2, 7, 8, 19] [pl 0 (.slice A1 l1.length c1), pl 1 (.bool in1), pl 2 (.int .i64 n1), pl 7 (.slice A3 r2.1.length c3), pl 8 (.int .i64 r2.2), pl 19 (.slice A1 l1.length c1)] hF hS (by kernel_rfl) (by kernel_rfl) ?_ (fun a w hF hS => ?_)
  · exact obs_nil
  refine at_call (f := 16) (args := #[.slice A1 l1.length c1]) (d := 20) hF (by kernel_rfl) (by kernel_rfl) Try.func16 (by kernel_rfl) rfl (gameroomlaw_ints_w hr3 (hr_l1.sep hS) _hc_l1) (fun v a w hR hF => ?_)
  obtain ⟨A4, c4, rfl, hS'⟩ := hR
  have hS : Sep w0 w0.heap.size w [own 3 (.slice A4 r3.length c4) (vI r3), own 3 (.slice A3 r2.1.length c3) (vI r2.1), own 3 (.slice A2 r1.length c2) (vI r1)] := hS.merge hS'
  refine at_run 1 [] [] [0, 1, 2, 7, 8, 20, 21] [pl 0 (.slice A1 l1.length c1), pl 1 (.bool in1), pl 2 (.int .i64 n1), pl 7 (.slice A3 r2.1.length c3), pl 8 (.int .i64 r2.2), pl 20 (.slice A4 r3.length c4), pl 21 (.int .i64 n1)] hF hS (by kernel_rfl) (by kernel_rfl) ?_ (fun a w hF hS => ?_)
  · exact obs_nil
  refine at_call (f := 33) (args := #[.slice A4 r3.length c4, .int .i64 n1]) (d := 22) hF (by kernel_rfl) (by kernel_rfl) Try.func33 (by kernel_rfl) rfl (deck_Cut_w hr4 (hS.at_ 0 rfl).rd (hS.at_ 0 rfl).cap) (fun v a w hR hF => ?_)
  obtain ⟨A5, c5, rfl, hS'⟩ := hR
  have hS : Sep w0 w0.heap.size w [own 3 (.slice A5 r4.1.length c5) (vI r4.1), own 3 (.slice A4 r3.length c4) (vI r3), own 3 (.slice A3 r2.1.length c3) (vI r2.1), own 3 (.slice A2 r1.length c2) (vI r1)] := hS.merge hS'
  refine at_run 5 [] [] [0, 1, 2, 7, 8, 9, 10] [pl 0 (.slice A1 l1.length c1), pl 1 (.bool in1), pl 2 (.int .i64 n1), pl 7 (.slice A3 r2.1.length c3), pl 8 (.int .i64 r2.2), pl 9 (.slice A5 r4.1.length c5), pl 10 (.int .i64 r4.2)] hF hS (by kernel_rfl) (by kernel_rfl) ?_ (fun a w hF hS => ?_)
  · exact obs_nil
  refine at_end [0, 1, 2, 7, 8, 9, 10] [pl 0 (.slice A1 l1.length c1), pl 1 (.bool in1), pl 2 (.int .i64 n1), pl 7 (.slice A3 r2.1.length c3), pl 8 (.int .i64 r2.2), pl 9 (.slice A5 r4.1.length c5), pl 10 (.int .i64 r4.2)] hF rfl (by kernel_rfl) (fun hF => ?_)
  refine then_n ?_
  refine seq_cut (fun a w => Fr 90 [pl 0 (.slice A1 l1.length c1), pl 2 (.int .i64 n1), pl 9 (.slice A5 r4.1.length c5), pl 10 (.int .i64 r4.2)] a ∧ Sep w0 w0.heap.size w [own 3 (.slice A5 r4.1.length c5) (vI r4.1)] ∧ ((gameroomlaw_DeckRiffles_J1 l1 n1 r4)).bind some = some r) ?_ ?_
  · rintro a w ⟨hF, hS, hm⟩
    unfold gameroomlaw_DeckRiffles_J1 at hm
    refine seq_cut (fun a w => Fr 90 [pl 0 (.slice A1 l1.length c1), pl 2 (.int .i64 n1), pl 9 (.slice A5 r4.1.length c5), pl 10 (.int .i64 r4.2)] a ∧ Sep w0 w0.heap.size w [own 3 (.slice A5 r4.1.length c5) (vI r4.1)] ∧ ((gameroomlaw_DeckRiffles_J3 l1 n1 r4)).bind some = some r) ?_ ?_
    · rintro a w ⟨hF, hS, hm⟩
      unfold gameroomlaw_DeckRiffles_J3 at hm
      refine seq_cut (fun a w => Fr 90 [pl 0 (.slice A1 l1.length c1), pl 2 (.int .i64 n1), pl 9 (.slice A5 r4.1.length c5), pl 10 (.int .i64 r4.2)] a ∧ Sep w0 w0.heap.size w [own 3 (.slice A5 r4.1.length c5) (vI r4.1)] ∧ ((gameroomlaw_DeckRiffles_J4 l1 n1 r4)).bind some = some r) ?_ ?_
      · rintro a w ⟨hF, hS, hm⟩
        unfold gameroomlaw_DeckRiffles_J4 at hm
        refine seq_cut (fun a w => ∃ (z2 : Bool), Fr 90 [pl 6 (.bool z2)] a ∧ Sep w0 w0.heap.size w [] ∧ (gameroomlaw_DeckRiffles_J5 z2).bind some = some r) ?_ ?_
        · rintro a w ⟨z2, hF, hS, hm⟩
          unfold gameroomlaw_DeckRiffles_J5 at hm
          refine wp_ret ?_
          have hm : some z2 = some r := hm
          obtain rfl := Option.some.inj hm
          exact ret1 (t := 6) (v := .bool z2) hF rfl (by kernel_rfl) ⟨rfl, hS⟩
        · obtain ⟨hp1, hm⟩ := asrt_b hm
          obtain ⟨hp2, hm⟩ := asrt_b hm
          refine regMix2 [0, 1, 2, 3, 4, 5, 6, 8, 9, 10] [7, 11, 12, 13, 14] [⟨true, [((r4.2 == 0), true)], vS (Instr.sliceAt 22 (.slice A1 l1.length c1) (some (.int .i64 n1)) none none), .slice (cutAddr A1 c1 n1) (cut l1 n1 (l1.length : Int)).length (c1 - Int.toNat n1)⟩, ⟨true, [((r4.2 == 0), true)], vS (Instr.sliceAt 22 (.slice A1 l1.length c1) none (some (.int .i64 n1)) none), .slice (cutAddr A1 c1 (0 : Int)) (cut l1 (0 : Int) n1).length (c1 - Int.toNat (0 : Int))⟩] [none, none, none, none, none, none, some (.slice (cutAddr A1 c1 n1) (cut l1 n1 (l1.length : Int)).length (c1 - Int.toNat n1)), none, none, some (.slice (cutAddr A1 c1 (0 : Int)) (cut l1 (0 : Int) n1).length (c1 - Int.toNat (0 : Int)))] [78, 79, 82, 86] [pl 78 (.bool (r4.2 == 0)), ⟨79, [(78, true)], .slice A5 r4.1.length c5⟩, ⟨82, [(78, true)], .slice (cutAddr A1 c1 n1) (cut l1 n1 (l1.length : Int)).length (c1 - Int.toNat n1)⟩, ⟨86, [(78, true)], .slice (cutAddr A1 c1 (0 : Int)) (cut l1 (0 : Int) n1).length (c1 - Int.toNat (0 : Int))⟩] hF hS Fol (by kernel_rfl) (by kernel_rfl) (by kernel_rfl) (by kernel_rfl) (by kernel_rfl) ?_ (fun a w hF hS => ?_)
          · exact obs_cons (ob_cut (k := .i64) (k' := .i64) Und22 hi3 hs3 (.inl rfl) (.inr ⟨rfl, rfl⟩) (fun hy => hp1 (hy ((r4.2 == 0), true) (by simp))) _hc_l1) <| obs_cons (ob_cut (k := .i64) (k' := .i64) Und22 hi3 hs3 (.inr ⟨rfl, rfl⟩) (.inl rfl) (fun hy => hp2 (hy ((r4.2 == 0), true) (by simp))) _hc_l1) <| obs_nil
          rcases Bool.eq_false_or_eq_true (r4.2 == 0) with hg2 | hg2
          · obtain ⟨r7, hr7, hm⟩ := call_b hm
            obtain ⟨hp3, hm⟩ := asrt_b hm
            obtain ⟨r8, hr8, hm⟩ := call_b hm
            refine at_gcall (hs := [((r4.2 == 0), true)]) (fun y hy => by simp only [List.mem_cons, List.not_mem_nil, or_false] at hy; subst hy; first | exact hg2) (f := 16) (args := #[.slice (cutAddr A1 c1 n1) (cut l1 n1 (l1.length : Int)).length (c1 - Int.toNat n1)]) (d := 83) hF (by kernel_rfl) (by kernel_rfl) Try.func16 (by kernel_rfl) rfl (gameroomlaw_ints_w (ite_some hr7 (by rw [show (r4.2 == 0) = true from hg2]; try rfl)) (Rd.cutI (hr_l1.sep hS) (hp1 hg2) _hc_l1) (cap_cut (hp1 hg2) _hc_l1)) (fun v a w hR hF => ?_)
            obtain ⟨A7, c7, rfl, hS'⟩ := hR
            have hS : Sep w0 w0.heap.size w [own 3 (.slice A7 r7.length c7) (vI r7), own 3 (.slice A5 r4.1.length c5) (vI r4.1)] := hS.merge hS'
            obtain ⟨A8, c8, w, hrun, hS⟩ := run_appI (P := Try.prog) (t := 22) (xs := r7) (ys := (cut l1 (0 : Int) n1)) (m := (cut l1 (0 : Int) n1).length) (c := (c1 - Int.toNat (0 : Int))) (hS.at_ 0 rfl) (Rd.cutI (hr_l1.sep hS) (hp2 hg2) _hc_l1) (by rfl) 22 Und22 hi3 hz3 hs3 hb3 (hp3 hg2)
            have hS : Sep w0 w0.heap.size w [own 3 (.slice A8 (r7 ++ (cut l1 (0 : Int) n1)).length c8) (vI (r7 ++ (cut l1 (0 : Int) n1))), own 3 (.slice A5 r4.1.length c5) (vI r4.1)] := hS
            refine at_gdo (hs := [((r4.2 == 0), true)]) (fun y hy => by simp only [List.mem_cons, List.not_mem_nil, or_false] at hy; subst hy; first | exact hg2) (d := 87) hF (by kernel_rfl) (by kernel_rfl) hrun (fun a hF => ?_)
            refine at_run 3 [⟨false, [((r4.2 == 0), true)], callFunc 17 #[.slice A5 r4.1.length c5, .slice A8 (r7 ++ (cut l1 (0 : Int) n1)).length c8], .bool r8⟩] [some (.bool r8), none, none] [6] [pl 6 (.bool ((r4.2 == 0) && r8))] hF hS (by kernel_rfl) (by kernel_rfl) ?_ (fun a w hF hS => ?_)
            · exact obs_cons (ob_call Try.func17 (by kernel_rfl) rfl (fun hy _ hS => quiet_of hS (gameroomlaw_sameInts_w (ite_some hr8 (by rw [show (r4.2 == 0) = true from hy ((r4.2 == 0), true) (by simp)]; try rfl)) (hS.at_ 1 rfl).rd (hS.at_ 1 rfl).cap (hS.at_ 0 rfl).rd (hS.at_ 0 rfl).cap))) <| obs_nil
            refine at_end [6] [pl 6 (.bool ((r4.2 == 0) && r8))] hF rfl (by kernel_rfl) (fun hF => ?_)
            refine np_n ?_
            refine then_n ?_
            have hS := hS.pick [] (by decide)
            exact ⟨((r4.2 == 0) && r8), hF.weak [6] (by kernel_rfl), hS, hm⟩
          · obtain ⟨r7, hr7, hm⟩ := call_b hm
            obtain ⟨hp3, hm⟩ := asrt_b hm
            obtain ⟨r8, hr8, hm⟩ := call_b hm
            refine at_gskip (d := 83) (v := .slice none r7.length 0) (hs := [((r4.2 == 0), true)]) (ctx := [(78, true)]) hF (by kernel_rfl) (by kernel_rfl) (fun h => absurd (h ((r4.2 == 0), true) (by simp)) (by simp [hg2])) (fun a hF => ?_)
            refine at_gskip (d := 87) (v := .slice none (r7 ++ (cut l1 (0 : Int) n1)).length 0) (hs := [((r4.2 == 0), true)]) (ctx := [(78, true)]) hF (by kernel_rfl) (by kernel_rfl) (fun h => absurd (h ((r4.2 == 0), true) (by simp)) (by simp [hg2])) (fun a hF => ?_)
            refine at_run 3 [⟨false, [((r4.2 == 0), true)], callFunc 17 #[.slice A5 r4.1.length c5, .slice none (r7 ++ (cut l1 (0 : Int) n1)).length 0], .bool r8⟩] [some (.bool r8), none, none] [6] [pl 6 (.bool ((r4.2 == 0) && r8))] hF hS (by kernel_rfl) (by kernel_rfl) ?_ (fun a w hF hS => ?_)
            · exact obs_cons (Ob.vac (fun h => absurd (h ((r4.2 == 0), true) (by simp)) (by simp [hg2]))) <| obs_nil
            refine at_end [6] [pl 6 (.bool ((r4.2 == 0) && r8))] hF rfl (by kernel_rfl) (fun hF => ?_)
            refine np_n ?_
            refine then_n ?_
            have hS := hS.pick [] (by decide)
            exact ⟨((r4.2 == 0) && r8), hF.weak [6] (by kernel_rfl), hS, hm⟩
      · refine reg [] [] [0, 2, 9, 10, 68] [pl 0 (.slice A1 l1.length c1), pl 2 (.int .i64 n1), pl 9 (.slice A5 r4.1.length c5), pl 10 (.int .i64 r4.2), pl 68 (.bool ((decide (n1 < 0)) || (decide ((l1.length : Int) < n1))))] hF hS Fol (by kernel_rfl) (by kernel_rfl) (by kernel_rfl) ?_ (fun a w hF hS => ?_)
        · exact obs_nil
        refine cond_ev (t := 68) (b := (decide (n1 < 0)) || (decide ((l1.length : Int) < n1))) hF (by kernel_rfl) (fun hb => ?_) (fun hb => ?_)
        · replace hm := if_t hm hb
          refine reg [] [] [6] [pl 6 (.bool ((r4.2 == 3) && ((r4.1.length : Int) == 0)))] hF hS Fol (by kernel_rfl) (by kernel_rfl) (by kernel_rfl) ?_ (fun a w hF hS => ?_)
          · exact obs_nil
          refine wp_ret ?_
          refine then_r ?_
          have hS := hS.pick [] (by decide)
          have hm : some ((r4.2 == 3) && ((r4.1.length : Int) == 0)) = some r := hm
          obtain rfl := Option.some.inj hm
          exact ret1 (t := 6) (v := .bool ((r4.2 == 3) && ((r4.1.length : Int) == 0))) hF rfl (by kernel_rfl) ⟨rfl, hS⟩
        · replace hm := if_f hm hb
          refine wp_skip ?_
          refine then_n ?_
          exact ⟨hF.weak [0, 2, 9, 10] (by kernel_rfl), hS, hm⟩
    · refine reg [] [] [0, 2, 9, 10, 53] [pl 0 (.slice A1 l1.length c1), pl 2 (.int .i64 n1), pl 9 (.slice A5 r4.1.length c5), pl 10 (.int .i64 r4.2), pl 53 (.bool (decide ((104 : Int) < (l1.length : Int))))] hF hS Fol (by kernel_rfl) (by kernel_rfl) (by kernel_rfl) ?_ (fun a w hF hS => ?_)
      · exact obs_nil
      refine cond_ev (t := 53) (b := decide ((104 : Int) < (l1.length : Int))) hF (by kernel_rfl) (fun hb => ?_) (fun hb => ?_)
      · replace hm := if_t hm hb
        refine reg [] [] [6] [pl 6 (.bool ((r4.2 == 2) && ((r4.1.length : Int) == 0)))] hF hS Fol (by kernel_rfl) (by kernel_rfl) (by kernel_rfl) ?_ (fun a w hF hS => ?_)
        · exact obs_nil
        refine wp_ret ?_
        refine then_r ?_
        have hS := hS.pick [] (by decide)
        have hm : some ((r4.2 == 2) && ((r4.1.length : Int) == 0)) = some r := hm
        obtain rfl := Option.some.inj hm
        exact ret1 (t := 6) (v := .bool ((r4.2 == 2) && ((r4.1.length : Int) == 0))) hF rfl (by kernel_rfl) ⟨rfl, hS⟩
      · replace hm := if_f hm hb
        refine wp_skip ?_
        refine then_n ?_
        exact ⟨hF.weak [0, 2, 9, 10] (by kernel_rfl), hS, hm⟩
  · refine reg [] [] [0, 1, 2, 7, 8, 9, 10, 33] [pl 0 (.slice A1 l1.length c1), pl 1 (.bool in1), pl 2 (.int .i64 n1), pl 7 (.slice A3 r2.1.length c3), pl 8 (.int .i64 r2.2), pl 9 (.slice A5 r4.1.length c5), pl 10 (.int .i64 r4.2), pl 33 (.bool (((Int.tmod (l1.length : Int) 2) == 1) || (decide ((104 : Int) < (l1.length : Int)))))] hF hS Fol (by kernel_rfl) (by kernel_rfl) (by kernel_rfl) ?_ (fun a w hF hS => ?_)
    · exact obs_nil
    refine cond_ev (t := 33) (b := ((Int.tmod (l1.length : Int) 2) == 1) || (decide ((104 : Int) < (l1.length : Int)))) hF (by kernel_rfl) (fun hb => ?_) (fun hb => ?_)
    · replace hm := if_t hm hb
      refine reg [] [] [0, 2, 9, 10, 40] [pl 0 (.slice A1 l1.length c1), pl 2 (.int .i64 n1), pl 9 (.slice A5 r4.1.length c5), pl 10 (.int .i64 r4.2), pl 40 (.bool ((r2.2 != 2) || (decide ((0 : Int) < (r2.1.length : Int)))))] hF hS Fol (by kernel_rfl) (by kernel_rfl) (by kernel_rfl) ?_ (fun a w hF hS => ?_)
      · exact obs_nil
      refine cond_ev (t := 40) (b := (r2.2 != 2) || (decide ((0 : Int) < (r2.1.length : Int)))) hF (by kernel_rfl) (fun hb => ?_) (fun hb => ?_)
      · replace hm := if_t hm hb
        refine reg [] [] [6] [pl 6 (.bool false)] hF hS Fol (by kernel_rfl) (by kernel_rfl) (by kernel_rfl) ?_ (fun a w hF hS => ?_)
        · exact obs_nil
        refine wp_ret ?_
        refine then_r ?_
        have hS := hS.pick [] (by decide)
        have hm : some false = some r := hm
        obtain rfl := Option.some.inj hm
        exact ret1 (t := 6) (v := .bool false) hF rfl (by kernel_rfl) ⟨rfl, hS⟩
      · replace hm := if_f hm hb
        refine wp_skip ?_
        refine then_n ?_
        have hS := hS.pick [0] (by decide)
        exact ⟨hF.weak [0, 2, 9, 10] (by kernel_rfl), hS, hm⟩
    · replace hm := if_f hm hb
      refine seq_cut (fun a w => ∃ (z1 : Bool), Fr 90 [pl 0 (.slice A1 l1.length c1), pl 2 (.int .i64 n1), pl 9 (.slice A5 r4.1.length c5), pl 10 (.int .i64 r4.2), pl 50 (.bool z1)] a ∧ Sep w0 w0.heap.size w [own 3 (.slice A5 r4.1.length c5) (vI r4.1)] ∧ ((gameroomlaw_DeckRiffles_J2 l1 n1 r4) z1).bind some = some r) ?_ ?_
      · rintro a w ⟨z1, hF, hS, hm⟩
        unfold gameroomlaw_DeckRiffles_J2 at hm
        refine cond_ev (t := 50) (b := z1) hF (by kernel_rfl) (fun hb => ?_) (fun hb => ?_)
        · replace hm := if_t hm hb
          refine reg [] [] [6] [pl 6 (.bool false)] hF hS Fol (by kernel_rfl) (by kernel_rfl) (by kernel_rfl) ?_ (fun a w hF hS => ?_)
          · exact obs_nil
          refine wp_ret ?_
          refine then_r ?_
          have hS := hS.pick [] (by decide)
          have hm : some false = some r := hm
          obtain rfl := Option.some.inj hm
          exact ret1 (t := 6) (v := .bool false) hF rfl (by kernel_rfl) ⟨rfl, hS⟩
        · replace hm := if_f hm hb
          refine wp_skip ?_
          refine then_n ?_
          exact ⟨hF.weak [0, 2, 9, 10] (by kernel_rfl), hS, hm⟩
      · refine oneR ?_
        refine at_run 6 [] [] [0, 2, 9, 10, 43, 44, 45, 46] [pl 0 (.slice A1 l1.length c1), pl 2 (.int .i64 n1), pl 9 (.slice A5 r4.1.length c5), pl 10 (.int .i64 r4.2), pl 43 (.bool (r2.2 != 0)), ⟨44, [(43, false)], .slice A3 r2.1.length c3⟩, ⟨45, [(43, false)], .slice A1 l1.length c1⟩, ⟨46, [(43, false)], .bool in1⟩] hF hS (by kernel_rfl) (by kernel_rfl) ?_ (fun a w hF hS => ?_)
        · exact obs_nil
        rcases Bool.eq_false_or_eq_true (r2.2 != 0) with hg1 | hg1
        · obtain ⟨r5, hr5, hm⟩ := call_b hm
          obtain ⟨r6, hr6, hm⟩ := call_b hm
          refine at_gskip (d := 47) (v := .slice none r5.length 0) (hs := [((r2.2 != 0), false)]) (ctx := [(43, false)]) hF (by kernel_rfl) (by kernel_rfl) (fun h => absurd (h ((r2.2 != 0), false) (by simp)) (by simp [hg1])) (fun a hF => ?_)
          refine at_run 3 [⟨false, [((r2.2 != 0), false)], callFunc 17 #[.slice A3 r2.1.length c3, .slice none r5.length 0], .bool r6⟩] [some (.bool r6), none, none] [0, 2, 9, 10, 50] [pl 0 (.slice A1 l1.length c1), pl 2 (.int .i64 n1), pl 9 (.slice A5 r4.1.length c5), pl 10 (.int .i64 r4.2), pl 50 (.bool ((r2.2 != 0) || (!r6)))] hF hS (by kernel_rfl) (by kernel_rfl) ?_ (fun a w hF hS => ?_)
          · exact obs_cons (Ob.vac (fun h => absurd (h ((r2.2 != 0), false) (by simp)) (by simp [hg1]))) <| obs_nil
          refine at_end [0, 2, 9, 10, 50] [pl 0 (.slice A1 l1.length c1), pl 2 (.int .i64 n1), pl 9 (.slice A5 r4.1.length c5), pl 10 (.int .i64 r4.2), pl 50 (.bool ((r2.2 != 0) || (!r6)))] hF rfl (by kernel_rfl) (fun hF => ?_)
          refine then_n ?_
          have hS := hS.pick [0] (by decide)
          exact ⟨((r2.2 != 0) || (!r6)), hF.weak [0, 2, 9, 10, 50] (by kernel_rfl), hS, hm⟩
        · obtain ⟨r5, hr5, hm⟩ := call_b hm
          obtain ⟨r6, hr6, hm⟩ := call_b hm
          refine at_gcall (hs := [((r2.2 != 0), false)]) (fun y hy => by simp only [List.mem_cons, List.not_mem_nil, or_false] at hy; subst hy; first | exact hg1) (f := 34) (args := #[.slice A1 l1.length c1, .bool in1]) (d := 47) hF (by kernel_rfl) (by kernel_rfl) Try.func34 (by kernel_rfl) rfl (gameroomref_RiffleOf_w (ite_some hr5 (by rw [show (r2.2 != 0) = false from hg1]; try rfl)) (hr_l1.sep hS) _hc_l1) (fun v a w hR hF => ?_)
          obtain ⟨A6, c6, rfl, hS'⟩ := hR
          have hS : Sep w0 w0.heap.size w [own 3 (.slice A6 r5.length c6) (vI r5), own 3 (.slice A5 r4.1.length c5) (vI r4.1), own 3 (.slice A4 r3.length c4) (vI r3), own 3 (.slice A3 r2.1.length c3) (vI r2.1), own 3 (.slice A2 r1.length c2) (vI r1)] := hS.merge hS'
          refine at_run 3 [⟨false, [((r2.2 != 0), false)], callFunc 17 #[.slice A3 r2.1.length c3, .slice A6 r5.length c6], .bool r6⟩] [some (.bool r6), none, none] [0, 2, 9, 10, 50] [pl 0 (.slice A1 l1.length c1), pl 2 (.int .i64 n1), pl 9 (.slice A5 r4.1.length c5), pl 10 (.int .i64 r4.2), pl 50 (.bool ((r2.2 != 0) || (!r6)))] hF hS (by kernel_rfl) (by kernel_rfl) ?_ (fun a w hF hS => ?_)
          · exact obs_cons (ob_call Try.func17 (by kernel_rfl) rfl (fun hy _ hS => quiet_of hS (gameroomlaw_sameInts_w (ite_some hr6 (by rw [show (r2.2 != 0) = false from hy ((r2.2 != 0), false) (by simp)]; try rfl)) (hS.at_ 3 rfl).rd (hS.at_ 3 rfl).cap (hS.at_ 0 rfl).rd (hS.at_ 0 rfl).cap))) <| obs_nil
          refine at_end [0, 2, 9, 10, 50] [pl 0 (.slice A1 l1.length c1), pl 2 (.int .i64 n1), pl 9 (.slice A5 r4.1.length c5), pl 10 (.int .i64 r4.2), pl 50 (.bool ((r2.2 != 0) || (!r6)))] hF rfl (by kernel_rfl) (fun hF => ?_)
          refine then_n ?_
          have hS := hS.pick [1] (by decide)
          exact ⟨((r2.2 != 0) || (!r6)), hF.weak [0, 2, 9, 10, 50] (by kernel_rfl), hS, hm⟩

noncomputable def gameroomlaw_DeckDeals_J4 : Option Bool :=
  some true

noncomputable def gameroomlaw_DeckDeals_K1 : (Fl Unit Bool) → Option Bool :=
  fun (x : (Fl Unit Bool)) => match x with | .go () => gameroomlaw_DeckDeals_J4 | .ret x => some x

noncomputable def gameroomlaw_DeckDeals_J6 (i1 : Int) : Option (St Int (Fl Unit Bool)) :=
  some (.next (w64 (i1 + 1)))

noncomputable def gameroomlaw_DeckDeals_K2 (i1 : Int) : (Fl Unit Bool) → Option (St Int (Fl Unit Bool)) :=
  fun (x : (Fl Unit Bool)) => match x with | .go () => (gameroomlaw_DeckDeals_J6 i1) | .ret x => some (.done (.ret x))

noncomputable def gameroomlaw_DeckDeals_J9 (k1 : Int) : Option (St Int (Fl Unit Bool)) :=
  some (.next (w64 (k1 + 1)))

noncomputable def gameroomlaw_DeckDeals_J8 (l1 : List Int) (hands1 : Int) (r2 : (List (List Int) × List Int × Int)) (i1 : Int) (k1 : Int) : Option (St Int (Fl Unit Bool)) :=
  asrt (0 ≤ i1 ∧ i1 < (r2.1.length : Int)) <| asrt (0 ≤ k1 ∧ k1 < ((geti2 r2.1 i1).length : Int)) <| asrt (0 ≤ (w64 ((w64 (k1 * hands1)) + i1)) ∧ (w64 ((w64 (k1 * hands1)) + i1)) < (l1.length : Int)) <| if ((geti (geti2 r2.1 i1) k1) != (geti l1 (w64 ((w64 (k1 * hands1)) + i1)))) then (some (.done (.ret false))) else ((gameroomlaw_DeckDeals_J9 k1))

noncomputable def gameroomlaw_DeckDeals_L2 (l1 : List Int) (hands1 : Int) (each1 : Int) (r2 : (List (List Int) × List Int × Int)) (i1 : Int) : Int → Option (St Int (Fl Unit Bool)) :=
  fun (x : Int) => match x with | k1 => if (decide (k1 < each1)) then ((gameroomlaw_DeckDeals_J8 l1 hands1 r2 i1 k1)) else (some (.done (.go ())))

noncomputable def gameroomlaw_DeckDeals_J7 (l1 : List Int) (hands1 : Int) (each1 : Int) (r2 : (List (List Int) × List Int × Int)) (i1 : Int) : Option (St Int (Fl Unit Bool)) :=
  (loop (gameroomlaw_DeckDeals_L2 l1 hands1 each1 r2 i1) 0).bind (gameroomlaw_DeckDeals_K2 i1)

noncomputable def gameroomlaw_DeckDeals_J5 (l1 : List Int) (hands1 : Int) (each1 : Int) (r2 : (List (List Int) × List Int × Int)) (i1 : Int) : Option (St Int (Fl Unit Bool)) :=
  asrt (0 ≤ i1 ∧ i1 < (r2.1.length : Int)) <| if (((geti2 r2.1 i1).length : Int) != each1) then (some (.done (.ret false))) else ((gameroomlaw_DeckDeals_J7 l1 hands1 each1 r2 i1))

noncomputable def gameroomlaw_DeckDeals_L1 (l1 : List Int) (hands1 : Int) (each1 : Int) (r2 : (List (List Int) × List Int × Int)) : Int → Option (St Int (Fl Unit Bool)) :=
  fun (x : Int) => match x with | i1 => if (decide (i1 < hands1)) then ((gameroomlaw_DeckDeals_J5 l1 hands1 each1 r2 i1)) else (some (.done (.go ())))

noncomputable def gameroomlaw_DeckDeals_J3 (l1 : List Int) (hands1 : Int) (each1 : Int) (r2 : (List (List Int) × List Int × Int)) : Option Bool :=
  (loop (gameroomlaw_DeckDeals_L1 l1 hands1 each1 r2) 0).bind gameroomlaw_DeckDeals_K1

noncomputable def gameroomlaw_DeckDeals_J2 (l1 : List Int) (hands1 : Int) (each1 : Int) (r2 : (List (List Int) × List Int × Int)) : Option Bool :=
  asrt (((r2.2.2 != 0) || ((r2.1.length : Int) != hands1)) = false → 0 ≤ (w64 (hands1 * each1)) ∧ (w64 (hands1 * each1)) ≤ (l1.length : Int) ∧ (l1.length : Int) ≤ (l1.length : Int)) <| ((if (!((r2.2.2 != 0) || ((r2.1.length : Int) != hands1))) then gameroomlaw_sameInts_m r2.2.1 (cut l1 (w64 (hands1 * each1)) (l1.length : Int)) else some false)).bind fun r3 => if (((r2.2.2 != 0) || ((r2.1.length : Int) != hands1)) || (!r3)) then (some false) else ((gameroomlaw_DeckDeals_J3 l1 hands1 each1 r2))

noncomputable def gameroomlaw_DeckDeals_J1 (l1 : List Int) (hands1 : Int) (each1 : Int) (r2 : (List (List Int) × List Int × Int)) (no1 : Int) : Option Bool :=
  if (no1 != 0) then (some (((r2.2.2 == no1) && ((r2.1.length : Int) == 0)) && ((r2.2.1.length : Int) == 0))) else ((gameroomlaw_DeckDeals_J2 l1 hands1 each1 r2))

noncomputable def gameroomlaw_DeckDeals_m (l1 : List Int) (hands1 : Int) (each1 : Int) : Option Bool :=
  (gameroomlaw_ints_m l1).bind fun r1 => (deck_Deal_m r1 hands1 each1).bind fun r2 => if ((((decide ((104 : Int) < (l1.length : Int))) || (decide (hands1 < 1))) || (decide ((10 : Int) < hands1))) || (decide (each1 < 0))) then ((gameroomlaw_DeckDeals_J1 l1 hands1 each1 r2) 2) else (asrt (hands1 ≠ (0 : Int)) <| if (decide ((w64 (Int.tdiv (l1.length : Int) hands1)) < each1)) then ((gameroomlaw_DeckDeals_J1 l1 hands1 each1 r2) 11) else ((gameroomlaw_DeckDeals_J1 l1 hands1 each1 r2) 0))

set_option maxRecDepth 100000 in
set_option maxHeartbeats 4000000 in
theorem gameroomlaw_DeckDeals_w {A1 : Option Addr} {c1 : Nat} {l1 : List Int} {hands1 : Int} {each1 : Int} {r : Bool} {w0 : World} (hm : gameroomlaw_DeckDeals_m l1 hands1 each1 = some r) (hr_l1 : Rd w0 w0.heap.size A1 (vI l1)) (_hc_l1 : l1.length ≤ c1) :
    Calls Try.prog 3 #[.slice A1 l1.length c1, .int .i64 hands1, .int .i64 each1] w0 fun e w' => e = .returned (.bool r) ∧ Sep w0 w0.heap.size w' [] := by
  obtain ⟨i3, hi3, hz3, hs3, hb3⟩ := info_parts Info3
  obtain ⟨i22, hi22, hz22, hs22, hb22⟩ := info_parts Info22
  unfold gameroomlaw_DeckDeals_m at hm
  replace hm := start_b hm
  refine enterS (l := [.slice A1 l1.length c1, .int .i64 hands1, .int .i64 each1]) (n := 109) Try.func3 rfl rfl (by simp) (fun a w hF hS => ?_)
  refine reg [] [] [0, 1, 2] [pl 0 (.slice A1 l1.length c1), pl 1 (.int .i64 hands1), pl 2 (.int .i64 each1)] hF hS Fol (by kernel_rfl) (by kernel_rfl) (by kernel_rfl) ?_ (fun a w hF hS => ?_)
  · exact obs_nil
  obtain ⟨r1, hr1, hm⟩ := call_b hm
  obtain ⟨r2, hr2, hm⟩ := call_b hm
  refine seqR ?_
  refine at_run 1 [] [] [0, 1, 2, 14] [pl 0 (.slice A1 l1.length c1), pl 1 (.int .i64 hands1), pl 2 (.int .i64 each1), pl 14 (.slice A1 l1.length c1)] hF hS (by kernel_rfl) (by kernel_rfl) ?_ (fun a w hF hS => ?_)
  · exact obs_nil
  refine at_call (f := 16) (args := #[.slice A1 l1.length c1]) (d := 15) hF (by kernel_rfl) (by kernel_rfl) Try.func16 (by kernel_rfl) rfl (gameroomlaw_ints_w hr1 (hr_l1.sep hS) _hc_l1) (fun v a w hR hF => ?_)
  obtain ⟨A2, c2, rfl, hS'⟩ := hR
  have hS : Sep w0 w0.heap.size w [own 3 (.slice A2 r1.length c2) (vI r1)] := hS.merge hS'
  refine at_run 2 [] [] [0, 1, 2, 15, 16, 17] [pl 0 (.slice A1 l1.length c1), pl 1 (.int .i64 hands1), pl 2 (.int .i64 each1), pl 15 (.slice A2 r1.length c2), pl 16 (.int .i64 hands1), pl 17 (.int .i64 each1)] hF hS (by kernel_rfl) (by kernel_rfl) ?_ (fun a w hF hS => ?_)
  · exact obs_nil
  refine at_call (f := 15) (args := #[.slice A2 r1.length c2, .int .i64 hands1, .int .i64 each1]) (d := 18) hF (by kernel_rfl) (by kernel_rfl) Try.func15 (by kernel_rfl) rfl (deck_Deal_w hr2 (hS.at_ 0 rfl).rd (hS.at_ 0 rfl).cap) (fun v a w hR hF => ?_)
  obtain ⟨A3, c3, hd1, A4, c4, rfl, hS'⟩ := hR
  have hS : Sep w0 w0.heap.size w [rows 22 3 (.slice A3 r2.1.length c3) hd1 r2.1, own 3 (.slice A4 r2.2.1.length c4) (vI r2.2.1), own 3 (.slice A2 r1.length c2) (vI r1)] := hS.merge hS'
  refine at_run 7 [] [] [0, 1, 2, 7, 8, 9] [pl 0 (.slice A1 l1.length c1), pl 1 (.int .i64 hands1), pl 2 (.int .i64 each1), pl 7 (.slice A3 r2.1.length c3), pl 8 (.slice A4 r2.2.1.length c4), pl 9 (.int .i64 r2.2.2)] hF hS (by kernel_rfl) (by kernel_rfl) ?_ (fun a w hF hS => ?_)
  · exact obs_nil
  refine at_end [0, 1, 2, 7, 8, 9] [pl 0 (.slice A1 l1.length c1), pl 1 (.int .i64 hands1), pl 2 (.int .i64 each1), pl 7 (.slice A3 r2.1.length c3), pl 8 (.slice A4 r2.2.1.length c4), pl 9 (.int .i64 r2.2.2)] hF rfl (by kernel_rfl) (fun hF => ?_)
  refine then_n ?_
  refine reg [] [] [0, 1, 2, 7, 8, 9, 10] [pl 0 (.slice A1 l1.length c1), pl 1 (.int .i64 hands1), pl 2 (.int .i64 each1), pl 7 (.slice A3 r2.1.length c3), pl 8 (.slice A4 r2.2.1.length c4), pl 9 (.int .i64 r2.2.2), pl 10 (.int .i64 0)] hF hS Fol (by kernel_rfl) (by kernel_rfl) (by kernel_rfl) ?_ (fun a w hF hS => ?_)
  · exact obs_nil
  refine seq_cut (fun a w => ∃ (no1 : Int), Fr 109 [pl 0 (.slice A1 l1.length c1), pl 1 (.int .i64 hands1), pl 2 (.int .i64 each1), pl 7 (.slice A3 r2.1.length c3), pl 8 (.slice A4 r2.2.1.length c4), pl 9 (.int .i64 r2.2.2), pl 10 (.int .i64 no1)] a ∧ Sep w0 w0.heap.size w [rows 22 3 (.slice A3 r2.1.length c3) hd1 r2.1, own 3 (.slice A4 r2.2.1.length c4) (vI r2.2.1)] ∧ ((gameroomlaw_DeckDeals_J1 l1 hands1 each1 r2) no1).bind some = some r) ?_ ?_
  · rintro a w ⟨no1, hF, hS, hm⟩
    unfold gameroomlaw_DeckDeals_J1 at hm
    refine seq_cut (fun a w => Fr 109 [pl 0 (.slice A1 l1.length c1), pl 1 (.int .i64 hands1), pl 2 (.int .i64 each1), pl 7 (.slice A3 r2.1.length c3), pl 8 (.slice A4 r2.2.1.length c4), pl 9 (.int .i64 r2.2.2)] a ∧ Sep w0 w0.heap.size w [rows 22 3 (.slice A3 r2.1.length c3) hd1 r2.1, own 3 (.slice A4 r2.2.1.length c4) (vI r2.2.1)] ∧ ((gameroomlaw_DeckDeals_J2 l1 hands1 each1 r2)).bind some = some r) ?_ ?_
    · rintro a w ⟨hF, hS, hm⟩
      unfold gameroomlaw_DeckDeals_J2 at hm
      refine seq_cut (fun a w => Fr 109 [pl 0 (.slice A1 l1.length c1), pl 1 (.int .i64 hands1), pl 2 (.int .i64 each1), pl 7 (.slice A3 r2.1.length c3)] a ∧ Sep w0 w0.heap.size w [rows 22 3 (.slice A3 r2.1.length c3) hd1 r2.1] ∧ ((gameroomlaw_DeckDeals_J3 l1 hands1 each1 r2)).bind some = some r) ?_ ?_
      · rintro a w ⟨hF, hS, hm⟩
        unfold gameroomlaw_DeckDeals_J3 at hm
        refine seq_cut (fun a w => Fr 109 [] a ∧ Sep w0 w0.heap.size w [] ∧ (gameroomlaw_DeckDeals_J4).bind some = some r) ?_ ?_
        · rintro a w ⟨hF, hS, hm⟩
          unfold gameroomlaw_DeckDeals_J4 at hm
          refine reg [] [] [6] [pl 6 (.bool true)] hF hS Fol (by kernel_rfl) (by kernel_rfl) (by kernel_rfl) ?_ (fun a w hF hS => ?_)
          · exact obs_nil
          refine wp_ret ?_
          have hm : some true = some r := hm
          obtain rfl := Option.some.inj hm
          exact ret1 (t := 6) (v := .bool true) hF rfl (by kernel_rfl) ⟨rfl, hS⟩
        · refine reg [] [] [0, 1, 2, 7, 11] [pl 0 (.slice A1 l1.length c1), pl 1 (.int .i64 hands1), pl 2 (.int .i64 each1), pl 7 (.slice A3 r2.1.length c3), pl 11 (.int .i64 0)] hF hS Fol (by kernel_rfl) (by kernel_rfl) (by kernel_rfl) ?_ (fun a w hF hS => ?_)
          · exact obs_nil
          refine wp_block ?_
          refine wp_loop_model (S := Int) (R := (Fl Unit Bool)) (gameroomlaw_DeckDeals_L1 l1 hands1 each1 r2) (fun x => (gameroomlaw_DeckDeals_K1 x).bind some) r (fun (x : Int) a w => Fr 109 [pl 0 (.slice A1 l1.length c1), pl 1 (.int .i64 hands1), pl 2 (.int .i64 each1), pl 7 (.slice A3 r2.1.length c3), pl 11 (.int .i64 x)] a ∧ Sep w0 w0.heap.size w [rows 22 3 (.slice A3 r2.1.length c3) hd1 r2.1]) (assoc_b hm) ⟨hF.weak [0, 1, 2, 7, 11] (by kernel_rfl), hS⟩ ?_
          clear hF hS hm
          rintro nn1 i1 a w ⟨hF, hS⟩ hm
          generalize hφ1 : stK (gameroomlaw_DeckDeals_L1 l1 hands1 each1 r2) nn1 (fun x => (gameroomlaw_DeckDeals_K1 x).bind some) = φ1 at hm
          unfold gameroomlaw_DeckDeals_L1 at hm
          dsimp only at hm
          refine seq_cut (fun a w => Fr 109 [pl 0 (.slice A1 l1.length c1), pl 1 (.int .i64 hands1), pl 2 (.int .i64 each1), pl 7 (.slice A3 r2.1.length c3), pl 11 (.int .i64 i1)] a ∧ Sep w0 w0.heap.size w [rows 22 3 (.slice A3 r2.1.length c3) hd1 r2.1] ∧ ((gameroomlaw_DeckDeals_J5 l1 hands1 each1 r2 i1)).bind φ1 = some r) ?_ ?_
          · rintro a w ⟨hF, hS, hm⟩
            unfold gameroomlaw_DeckDeals_J5 at hm
            refine seq_cut (fun a w => Fr 109 [pl 0 (.slice A1 l1.length c1), pl 1 (.int .i64 hands1), pl 2 (.int .i64 each1), pl 7 (.slice A3 r2.1.length c3), pl 11 (.int .i64 i1)] a ∧ Sep w0 w0.heap.size w [rows 22 3 (.slice A3 r2.1.length c3) hd1 r2.1] ∧ ((gameroomlaw_DeckDeals_J6 i1)).bind φ1 = some r) ?_ ?_
            · rintro a w ⟨hF, hS, hm⟩
              unfold gameroomlaw_DeckDeals_J6 at hm
              refine reg1 [] [] [0, 1, 2, 7, 11] [pl 0 (.slice A1 l1.length c1), pl 1 (.int .i64 hands1), pl 2 (.int .i64 each1), pl 7 (.slice A3 r2.1.length c3), pl 11 (.int .i64 (w64 (i1 + 1)))] hF hS Fol (by kernel_rfl) (by kernel_rfl) (by kernel_rfl) ?_ (fun a w hF hS => ?_)
              · exact obs_nil
              refine then_n ?_
              rw [← hφ1] at hm
              exact ⟨(w64 (i1 + 1)), ⟨hF.weak [0, 1, 2, 7, 11] (by kernel_rfl), hS⟩, hm⟩
            · refine wp_block ?_
              refine seq_cut (fun a w => Fr 109 [pl 0 (.slice A1 l1.length c1), pl 1 (.int .i64 hands1), pl 2 (.int .i64 each1), pl 7 (.slice A3 r2.1.length c3), pl 11 (.int .i64 i1)] a ∧ Sep w0 w0.heap.size w [rows 22 3 (.slice A3 r2.1.length c3) hd1 r2.1] ∧ ((gameroomlaw_DeckDeals_J7 l1 hands1 each1 r2 i1)).bind φ1 = some r) ?_ ?_
              · rintro a w ⟨hF, hS, hm⟩
                unfold gameroomlaw_DeckDeals_J7 at hm
                refine reg [] [] [0, 1, 2, 7, 11, 12] [pl 0 (.slice A1 l1.length c1), pl 1 (.int .i64 hands1), pl 2 (.int .i64 each1), pl 7 (.slice A3 r2.1.length c3), pl 11 (.int .i64 i1), pl 12 (.int .i64 0)] hF hS Fol (by kernel_rfl) (by kernel_rfl) (by kernel_rfl) ?_ (fun a w hF hS => ?_)
                · exact obs_nil
                refine wp_block ?_
                refine wp_loop_model (S := Int) (R := (Fl Unit Bool)) (gameroomlaw_DeckDeals_L2 l1 hands1 each1 r2 i1) (fun x => ((gameroomlaw_DeckDeals_K2 i1) x).bind φ1) r (fun (x : Int) a w => Fr 109 [pl 0 (.slice A1 l1.length c1), pl 1 (.int .i64 hands1), pl 2 (.int .i64 each1), pl 7 (.slice A3 r2.1.length c3), pl 11 (.int .i64 i1), pl 12 (.int .i64 x)] a ∧ Sep w0 w0.heap.size w [rows 22 3 (.slice A3 r2.1.length c3) hd1 r2.1]) (assoc_b hm) ⟨hF.weak [0, 1, 2, 7, 11, 12] (by kernel_rfl), hS⟩ ?_
                clear hF hS hm
                rintro nn2 k1 a w ⟨hF, hS⟩ hm
                generalize hφ2 : stK (gameroomlaw_DeckDeals_L2 l1 hands1 each1 r2 i1) nn2 (fun x => ((gameroomlaw_DeckDeals_K2 i1) x).bind φ1) = φ2 at hm
                unfold gameroomlaw_DeckDeals_L2 at hm
                dsimp only at hm
                refine seq_cut (fun a w => Fr 109 [pl 0 (.slice A1 l1.length c1), pl 1 (.int .i64 hands1), pl 2 (.int .i64 each1), pl 7 (.slice A3 r2.1.length c3), pl 11 (.int .i64 i1), pl 12 (.int .i64 k1)] a ∧ Sep w0 w0.heap.size w [rows 22 3 (.slice A3 r2.1.length c3) hd1 r2.1] ∧ ((gameroomlaw_DeckDeals_J8 l1 hands1 r2 i1 k1)).bind φ2 = some r) ?_ ?_
                · rintro a w ⟨hF, hS, hm⟩
                  unfold gameroomlaw_DeckDeals_J8 at hm
                  refine seq_cut (fun a w => Fr 109 [pl 0 (.slice A1 l1.length c1), pl 1 (.int .i64 hands1), pl 2 (.int .i64 each1), pl 7 (.slice A3 r2.1.length c3), pl 11 (.int .i64 i1), pl 12 (.int .i64 k1)] a ∧ Sep w0 w0.heap.size w [rows 22 3 (.slice A3 r2.1.length c3) hd1 r2.1] ∧ ((gameroomlaw_DeckDeals_J9 k1)).bind φ2 = some r) ?_ ?_
                  · rintro a w ⟨hF, hS, hm⟩
                    unfold gameroomlaw_DeckDeals_J9 at hm
                    refine reg1 [] [] [0, 1, 2, 7, 11, 12] [pl 0 (.slice A1 l1.length c1), pl 1 (.int .i64 hands1), pl 2 (.int .i64 each1), pl 7 (.slice A3 r2.1.length c3), pl 11 (.int .i64 i1), pl 12 (.int .i64 (w64 (k1 + 1)))] hF hS Fol (by kernel_rfl) (by kernel_rfl) (by kernel_rfl) ?_ (fun a w hF hS => ?_)
                    · exact obs_nil
                    refine then_n ?_
                    rw [← hφ2] at hm
                    exact ⟨(w64 (k1 + 1)), ⟨hF.weak [0, 1, 2, 7, 11, 12] (by kernel_rfl), hS⟩, hm⟩
                  · refine wp_block ?_
                    obtain ⟨hp4, hm⟩ := asrt_b hm
                    obtain ⟨hp5, hm⟩ := asrt_b hm
                    obtain ⟨hp6, hm⟩ := asrt_b hm
                    refine reg [⟨true, [], vS (Instr.indexAt 23 (.slice A3 r2.1.length c3) (.int .i64 i1)), .pointer (some (sAddr A3 i1))⟩, ⟨false, [], vS (Instr.loadAt 22 (.pointer (some (sAddr A3 i1)))), .slice (hdA hd1 i1) (geti2 r2.1 i1).length (hdC hd1 i1)⟩, ⟨true, [], vS (Instr.indexAt 22 (.slice (hdA hd1 i1) (geti2 r2.1 i1).length (hdC hd1 i1)) (.int .i64 k1)), .pointer (some (sAddr (hdA hd1 i1) k1))⟩, ⟨false, [], vS (Instr.loadAt 3 (.pointer (some (sAddr (hdA hd1 i1) k1)))), .int .i64 (geti (geti2 r2.1 i1) k1)⟩, ⟨true, [], vS (Instr.indexAt 22 (.slice A1 l1.length c1) (.int .i64 (w64 ((w64 (k1 * hands1)) + i1)))), .pointer (some (sAddr A1 (w64 ((w64 (k1 * hands1)) + i1))))⟩, ⟨false, [], vS (Instr.loadAt 3 (.pointer (some (sAddr A1 (w64 ((w64 (k1 * hands1)) + i1)))))), .int .i64 (geti l1 (w64 ((w64 (k1 * hands1)) + i1)))⟩] [none, none, some (.pointer (some (sAddr A3 i1))), some (.slice (hdA hd1 i1) (geti2 r2.1 i1).length (hdC hd1 i1)), none, some (.pointer (some (sAddr (hdA hd1 i1) k1))), some (.int .i64 (geti (geti2 r2.1 i1) k1)), none, none, none, none, none, none, some (.pointer (some (sAddr A1 (w64 ((w64 (k1 * hands1)) + i1))))), some (.int .i64 (geti l1 (w64 ((w64 (k1 * hands1)) + i1)))), none] [0, 1, 2, 7, 11, 12, 108] [pl 0 (.slice A1 l1.length c1), pl 1 (.int .i64 hands1), pl 2 (.int .i64 each1), pl 7 (.slice A3 r2.1.length c3), pl 11 (.int .i64 i1), pl 12 (.int .i64 k1), pl 108 (.bool ((geti (geti2 r2.1 i1) k1) != (geti l1 (w64 ((w64 (k1 * hands1)) + i1)))))] hF hS Fol (by kernel_rfl) (by kernel_rfl) (by kernel_rfl) ?_ (fun a w hF hS => ?_)
                    · exact obs_cons (ob_ixR Und23 hi22 hs22 (hS.at_ 0 rfl).rdRows (fun _ => hp4)) <| obs_cons (ob_getR Agg22 (fun _ hS => ⟨_, (hS.at_ 0 rfl).rdRows⟩) (fun _ => hp4)) <| obs_cons (ob_ixI Und22 hi3 hs3 ((hS.at_ 0 rfl).rdRows.row _ hp4).1 (fun _ => hp5)) <| obs_cons (ob_geti Agg3 (fun _ hS => ⟨_, ((hS.at_ 0 rfl).rdRows.row _ hp4).1⟩) (fun _ => hp5)) <| obs_cons (ob_ixI Und22 hi3 hs3 (hr_l1.sep hS) (fun _ => hp6)) <| obs_cons (ob_geti Agg3 (fun _ hS => ⟨_, (hr_l1.sep hS)⟩) (fun _ => hp6)) <| obs_nil
                    refine cond_ev (t := 108) (b := ((geti (geti2 r2.1 i1) k1) != (geti l1 (w64 ((w64 (k1 * hands1)) + i1))))) hF (by kernel_rfl) (fun hb => ?_) (fun hb => ?_)
                    · replace hm := if_t hm hb
                      refine reg [] [] [6] [pl 6 (.bool false)] hF hS Fol (by kernel_rfl) (by kernel_rfl) (by kernel_rfl) ?_ (fun a w hF hS => ?_)
                      · exact obs_nil
                      refine wp_ret ?_
                      refine block_r (then_r (then_r (block_r (block_r (then_r (then_r (block_r (then_r ?_))))))))
                      rw [← hφ2] at hm
                      rw [← hφ1] at hm
                      have hS := hS.pick [] (by decide)
                      have hm : some false = some r := hm
                      obtain rfl := Option.some.inj hm
                      exact ret1 (t := 6) (v := .bool false) hF rfl (by kernel_rfl) ⟨rfl, hS⟩
                    · replace hm := if_f hm hb
                      refine wp_skip ?_
                      refine block_n ?_
                      refine then_n ?_
                      exact ⟨hF.weak [0, 1, 2, 7, 11, 12] (by kernel_rfl), hS, hm⟩
                · refine reg [] [] [0, 1, 2, 7, 11, 12, 90] [pl 0 (.slice A1 l1.length c1), pl 1 (.int .i64 hands1), pl 2 (.int .i64 each1), pl 7 (.slice A3 r2.1.length c3), pl 11 (.int .i64 i1), pl 12 (.int .i64 k1), pl 90 (.bool (decide (k1 < each1)))] hF hS Fol (by kernel_rfl) (by kernel_rfl) (by kernel_rfl) ?_ (fun a w hF hS => ?_)
                  · exact obs_nil
                  refine cond_ev (t := 90) (b := decide (k1 < each1)) hF (by kernel_rfl) (fun hb => ?_) (fun hb => ?_)
                  · replace hm := if_t hm hb
                    refine wp_skip ?_
                    refine then_n ?_
                    exact ⟨hF.weak [0, 1, 2, 7, 11, 12] (by kernel_rfl), hS, hm⟩
                  · replace hm := if_f hm hb
                    refine wp_exit ?_
                    refine then_e (then_e (block_e (block_n (then_n ?_))))
                    rw [← hφ2] at hm
                    have hm : ((gameroomlaw_DeckDeals_J6 i1)).bind φ1 = some r := hm
                    exact ⟨hF.weak [0, 1, 2, 7, 11] (by kernel_rfl), hS, hm⟩
              · obtain ⟨hp3, hm⟩ := asrt_b hm
                refine reg [⟨true, [], vS (Instr.indexAt 23 (.slice A3 r2.1.length c3) (.int .i64 i1)), .pointer (some (sAddr A3 i1))⟩, ⟨false, [], vS (Instr.loadAt 22 (.pointer (some (sAddr A3 i1)))), .slice (hdA hd1 i1) (geti2 r2.1 i1).length (hdC hd1 i1)⟩] [none, none, some (.pointer (some (sAddr A3 i1))), some (.slice (hdA hd1 i1) (geti2 r2.1 i1).length (hdC hd1 i1)), none, none, none] [0, 1, 2, 7, 11, 87] [pl 0 (.slice A1 l1.length c1), pl 1 (.int .i64 hands1), pl 2 (.int .i64 each1), pl 7 (.slice A3 r2.1.length c3), pl 11 (.int .i64 i1), pl 87 (.bool (((geti2 r2.1 i1).length : Int) != each1))] hF hS Fol (by kernel_rfl) (by kernel_rfl) (by kernel_rfl) ?_ (fun a w hF hS => ?_)
                · exact obs_cons (ob_ixR Und23 hi22 hs22 (hS.at_ 0 rfl).rdRows (fun _ => hp3)) <| obs_cons (ob_getR Agg22 (fun _ hS => ⟨_, (hS.at_ 0 rfl).rdRows⟩) (fun _ => hp3)) <| obs_nil
                refine cond_ev (t := 87) (b := (((geti2 r2.1 i1).length : Int) != each1)) hF (by kernel_rfl) (fun hb => ?_) (fun hb => ?_)
                · replace hm := if_t hm hb
                  refine reg [] [] [6] [pl 6 (.bool false)] hF hS Fol (by kernel_rfl) (by kernel_rfl) (by kernel_rfl) ?_ (fun a w hF hS => ?_)
                  · exact obs_nil
                  refine wp_ret ?_
                  refine then_r (block_r (then_r (then_r (block_r (then_r ?_)))))
                  rw [← hφ1] at hm
                  have hS := hS.pick [] (by decide)
                  have hm : some false = some r := hm
                  obtain rfl := Option.some.inj hm
                  exact ret1 (t := 6) (v := .bool false) hF rfl (by kernel_rfl) ⟨rfl, hS⟩
                · replace hm := if_f hm hb
                  refine wp_skip ?_
                  refine then_n ?_
                  exact ⟨hF.weak [0, 1, 2, 7, 11] (by kernel_rfl), hS, hm⟩
          · refine reg [] [] [0, 1, 2, 7, 11, 78] [pl 0 (.slice A1 l1.length c1), pl 1 (.int .i64 hands1), pl 2 (.int .i64 each1), pl 7 (.slice A3 r2.1.length c3), pl 11 (.int .i64 i1), pl 78 (.bool (decide (i1 < hands1)))] hF hS Fol (by kernel_rfl) (by kernel_rfl) (by kernel_rfl) ?_ (fun a w hF hS => ?_)
            · exact obs_nil
            refine cond_ev (t := 78) (b := decide (i1 < hands1)) hF (by kernel_rfl) (fun hb => ?_) (fun hb => ?_)
            · replace hm := if_t hm hb
              refine wp_skip ?_
              refine then_n ?_
              exact ⟨hF.weak [0, 1, 2, 7, 11] (by kernel_rfl), hS, hm⟩
            · replace hm := if_f hm hb
              refine wp_exit ?_
              refine then_e (then_e (block_e (then_n ?_)))
              have hS := hS.pick [] (by decide)
              rw [← hφ1] at hm
              have hm : (gameroomlaw_DeckDeals_J4).bind some = some r := hm
              exact ⟨hF.weak [] (by kernel_rfl), hS, hm⟩
      · obtain ⟨hp2, hm⟩ := asrt_b hm
        obtain ⟨r3, hr3, hm⟩ := call_b hm
        refine reg [⟨true, [((r2.2.2 != 0) || ((r2.1.length : Int) != hands1), false)], vS (Instr.sliceAt 22 (.slice A1 l1.length c1) (some (.int .i64 (w64 (hands1 * each1)))) none none), .slice (cutAddr A1 c1 (w64 (hands1 * each1))) (cut l1 (w64 (hands1 * each1)) (l1.length : Int)).length (c1 - Int.toNat (w64 (hands1 * each1)))⟩, ⟨false, [((r2.2.2 != 0) || ((r2.1.length : Int) != hands1), false)], callFunc 17 #[.slice A4 r2.2.1.length c4, .slice (cutAddr A1 c1 (w64 (hands1 * each1))) (cut l1 (w64 (hands1 * each1)) (l1.length : Int)).length (c1 - Int.toNat (w64 (hands1 * each1)))], .bool r3⟩] [none, none, none, none, none, none, none, none, none, none, none, none, none, none, some (.slice (cutAddr A1 c1 (w64 (hands1 * each1))) (cut l1 (w64 (hands1 * each1)) (l1.length : Int)).length (c1 - Int.toNat (w64 (hands1 * each1)))), some (.bool r3), none, none] [0, 1, 2, 7, 75] [pl 0 (.slice A1 l1.length c1), pl 1 (.int .i64 hands1), pl 2 (.int .i64 each1), pl 7 (.slice A3 r2.1.length c3), pl 75 (.bool (((r2.2.2 != 0) || ((r2.1.length : Int) != hands1)) || (!r3)))] hF hS Fol (by kernel_rfl) (by kernel_rfl) (by kernel_rfl) ?_ (fun a w hF hS => ?_)
        · exact obs_cons (ob_cut (k := .i64) (k' := .i64) Und22 hi3 hs3 (.inl rfl) (.inr ⟨rfl, rfl⟩) (fun hy => hp2 (hy ((r2.2.2 != 0) || ((r2.1.length : Int) != hands1), false) (by simp))) _hc_l1) <| obs_cons (ob_call Try.func17 (by kernel_rfl) rfl (fun hy _ hS => quiet_of hS (gameroomlaw_sameInts_w (ite_some hr3 (by rw [show ((r2.2.2 != 0) || ((r2.1.length : Int) != hands1)) = false from hy ((r2.2.2 != 0) || ((r2.1.length : Int) != hands1), false) (by simp)]; try rfl)) (hS.at_ 1 rfl).rd (hS.at_ 1 rfl).cap (Rd.cutI (hr_l1.sep hS) (hp2 (hy ((r2.2.2 != 0) || ((r2.1.length : Int) != hands1), false) (by simp))) _hc_l1) (cap_cut (hp2 (hy ((r2.2.2 != 0) || ((r2.1.length : Int) != hands1), false) (by simp))) _hc_l1)))) <| obs_nil
        refine cond_ev (t := 75) (b := ((r2.2.2 != 0) || ((r2.1.length : Int) != hands1)) || (!r3)) hF (by kernel_rfl) (fun hb => ?_) (fun hb => ?_)
        · replace hm := if_t hm hb
          refine reg [] [] [6] [pl 6 (.bool false)] hF hS Fol (by kernel_rfl) (by kernel_rfl) (by kernel_rfl) ?_ (fun a w hF hS => ?_)
          · exact obs_nil
          refine wp_ret ?_
          refine then_r ?_
          have hS := hS.pick [] (by decide)
          have hm : some false = some r := hm
          obtain rfl := Option.some.inj hm
          exact ret1 (t := 6) (v := .bool false) hF rfl (by kernel_rfl) ⟨rfl, hS⟩
        · replace hm := if_f hm hb
          refine wp_skip ?_
          refine then_n ?_
          have hS := hS.pick [0] (by decide)
          exact ⟨hF.weak [0, 1, 2, 7] (by kernel_rfl), hS, hm⟩
    · refine reg [] [] [0, 1, 2, 7, 8, 9, 10, 44] [pl 0 (.slice A1 l1.length c1), pl 1 (.int .i64 hands1), pl 2 (.int .i64 each1), pl 7 (.slice A3 r2.1.length c3), pl 8 (.slice A4 r2.2.1.length c4), pl 9 (.int .i64 r2.2.2), pl 10 (.int .i64 no1), pl 44 (.bool (no1 != 0))] hF hS Fol (by kernel_rfl) (by kernel_rfl) (by kernel_rfl) ?_ (fun a w hF hS => ?_)
      · exact obs_nil
      refine cond_ev (t := 44) (b := (no1 != 0)) hF (by kernel_rfl) (fun hb => ?_) (fun hb => ?_)
      · replace hm := if_t hm hb
        refine reg [] [] [6] [pl 6 (.bool (((r2.2.2 == no1) && ((r2.1.length : Int) == 0)) && ((r2.2.1.length : Int) == 0)))] hF hS Fol (by kernel_rfl) (by kernel_rfl) (by kernel_rfl) ?_ (fun a w hF hS => ?_)
        · exact obs_nil
        refine wp_ret ?_
        refine then_r ?_
        have hS := hS.pick [] (by decide)
        have hm : some (((r2.2.2 == no1) && ((r2.1.length : Int) == 0)) && ((r2.2.1.length : Int) == 0)) = some r := hm
        obtain rfl := Option.some.inj hm
        exact ret1 (t := 6) (v := .bool (((r2.2.2 == no1) && ((r2.1.length : Int) == 0)) && ((r2.2.1.length : Int) == 0))) hF rfl (by kernel_rfl) ⟨rfl, hS⟩
      · replace hm := if_f hm hb
        refine wp_skip ?_
        refine then_n ?_
        exact ⟨hF.weak [0, 1, 2, 7, 8, 9] (by kernel_rfl), hS, hm⟩
  · refine reg [] [] [0, 1, 2, 7, 8, 9, 10, 36] [pl 0 (.slice A1 l1.length c1), pl 1 (.int .i64 hands1), pl 2 (.int .i64 each1), pl 7 (.slice A3 r2.1.length c3), pl 8 (.slice A4 r2.2.1.length c4), pl 9 (.int .i64 r2.2.2), pl 10 (.int .i64 0), pl 36 (.bool ((((decide ((104 : Int) < (l1.length : Int))) || (decide (hands1 < 1))) || (decide ((10 : Int) < hands1))) || (decide (each1 < 0))))] hF hS Fol (by kernel_rfl) (by kernel_rfl) (by kernel_rfl) ?_ (fun a w hF hS => ?_)
    · exact obs_nil
    refine cond_ev (t := 36) (b := (((decide ((104 : Int) < (l1.length : Int))) || (decide (hands1 < 1))) || (decide ((10 : Int) < hands1))) || (decide (each1 < 0))) hF (by kernel_rfl) (fun hb => ?_) (fun hb => ?_)
    · replace hm := if_t hm hb
      refine reg1 [] [] [0, 1, 2, 7, 8, 9, 10] [pl 0 (.slice A1 l1.length c1), pl 1 (.int .i64 hands1), pl 2 (.int .i64 each1), pl 7 (.slice A3 r2.1.length c3), pl 8 (.slice A4 r2.2.1.length c4), pl 9 (.int .i64 r2.2.2), pl 10 (.int .i64 2)] hF hS Fol (by kernel_rfl) (by kernel_rfl) (by kernel_rfl) ?_ (fun a w hF hS => ?_)
      · exact obs_nil
      refine then_n ?_
      have hS := hS.pick [0, 1] (by decide)
      exact ⟨2, hF.weak [0, 1, 2, 7, 8, 9, 10] (by kernel_rfl), hS, hm⟩
    · replace hm := if_f hm hb
      obtain ⟨hp1, hm⟩ := asrt_b hm
      refine reg [⟨true, [], vS (Op.intDiv .quo .i64 (l1.length : Int) hands1), .int .i64 (w64 (Int.tdiv (l1.length : Int) hands1))⟩] [none, none, none, none, some (.int .i64 (w64 (Int.tdiv (l1.length : Int) hands1))), none] [0, 1, 2, 7, 8, 9, 10, 42] [pl 0 (.slice A1 l1.length c1), pl 1 (.int .i64 hands1), pl 2 (.int .i64 each1), pl 7 (.slice A3 r2.1.length c3), pl 8 (.slice A4 r2.2.1.length c4), pl 9 (.int .i64 r2.2.2), pl 10 (.int .i64 0), pl 42 (.bool (decide ((w64 (Int.tdiv (l1.length : Int) hands1)) < each1)))] hF hS Fol (by kernel_rfl) (by kernel_rfl) (by kernel_rfl) ?_ (fun a w hF hS => ?_)
      · exact obs_cons (ob_quo rfl (fun _ => hp1)) <| obs_nil
      refine cond_ev (t := 42) (b := decide ((w64 (Int.tdiv (l1.length : Int) hands1)) < each1)) hF (by kernel_rfl) (fun hb => ?_) (fun hb => ?_)
      · replace hm := if_t hm hb
        refine reg1 [] [] [0, 1, 2, 7, 8, 9, 10] [pl 0 (.slice A1 l1.length c1), pl 1 (.int .i64 hands1), pl 2 (.int .i64 each1), pl 7 (.slice A3 r2.1.length c3), pl 8 (.slice A4 r2.2.1.length c4), pl 9 (.int .i64 r2.2.2), pl 10 (.int .i64 11)] hF hS Fol (by kernel_rfl) (by kernel_rfl) (by kernel_rfl) ?_ (fun a w hF hS => ?_)
        · exact obs_nil
        refine then_n ?_
        have hS := hS.pick [0, 1] (by decide)
        exact ⟨11, hF.weak [0, 1, 2, 7, 8, 9, 10] (by kernel_rfl), hS, hm⟩
      · replace hm := if_f hm hb
        refine wp_skip ?_
        refine then_n ?_
        have hS := hS.pick [0, 1] (by decide)
        exact ⟨0, hF.weak [0, 1, 2, 7, 8, 9, 10] (by kernel_rfl), hS, hm⟩

end Go.Proofs.Ytnplejebgbdfpaa
