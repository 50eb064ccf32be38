/-
  Models and walks, printed by our own program (wip/gen).
-/
import Derived.Test.YtbmhcapeikebgaaFB
import Derived.Test.YtbmhcapeikebgaaLibH
namespace Go.Proofs.Ytbmhcapeikebgaa
open Go Go.GL Go.RowKit




set_option maxRecDepth 100000 in
theorem EqlA101 {a0 b0 : Int} {a1 b1 : Int} {a2 b2 : Int} {a3 b3 : Int} (w : World) : (Op.equal 101 (.agg #[.int .i64 a0, .int .i64 a1, .int .i64 a2, .int .i64 a3]) (.agg #[.int .i64 b0, .int .i64 b1, .int .i64 b2, .int .i64 b3])).run Try.prog w = .ok ((((a0 == b0) && (a1 == b1)) && ((a2 == b2) && (a3 == b3)))) w :=
  eq_struct2 [((a0 == b0) && (a1 == b1)), (a2 == b2), (a3 == b3)] Try.underlying101 (by kernel_rfl) ⟨⟨by decide, .agg #[.int .i64 a0, .int .i64 a1], .agg #[.int .i64 b0, .int .i64 b1], part_agg (n := 2) (by kernel_rfl) (by kernel_rfl) (by rfl) w, part_agg (n := 2) (by kernel_rfl) (by kernel_rfl) (by rfl) w, eq_array_d (d := 9998) [(a0 == b0), (a1 == b1)] Try.underlying99 (by kernel_rfl) (by kernel_rfl) rfl ⟨⟨_, _, rfl, rfl, eqv_int1 Try.underlying3⟩, ⟨_, _, rfl, rfl, eqv_int1 Try.underlying3⟩, trivial⟩⟩, ⟨by decide, _, _, part_one (by kernel_rfl) rfl w, part_one (by kernel_rfl) rfl w, eqv_int Try.underlying3⟩, ⟨by decide, _, _, part_one (by kernel_rfl) rfl w, part_one (by kernel_rfl) rfl w, eqv_int Try.underlying3⟩, trivial⟩

noncomputable def gameroomlaw_ints_m (l1 : List Int) : Option (List Int) :=
  asrt ((0 : Int) + (l1.length : Int) ≤ bigN) <| some ([] ++ l1)

set_option maxRecDepth 100000 in
set_option maxHeartbeats 4000000 in
theorem gameroomlaw_ints_w {A1 : Option Addr} {c1 : Nat} {n1 : Nat} {l1 : List Int} {r : (List Int)} {w0 w : World} {B : Nat} {fs : List HP} (hm : gameroomlaw_ints_m l1 = some r) (hS : Sep w0 B w (fs)) (hr_l1 : RdF w0 B fs A1 (vI l1)) (_hc_l1 : l1.length ≤ c1) (_hn_l1 : n1 = l1.length) :
    Calls Try.prog 30 #[.slice A1 n1 c1] w fun e w' => ∃ v, e = .returned v ∧ ∃ (A3 : Option Addr) (c3 : Nat), v = .slice A3 r.length c3 ∧ Sep w0 B w' (own 3 (.slice A3 r.length c3) (vI r) :: fs) := by
  obtain ⟨i3, hi3, hz3, hs3, hb3⟩ := info_parts Info3
  obtain rfl := _hn_l1
  unfold gameroomlaw_ints_m at hm
  replace hm := start_b hm
  refine enter (l := [.slice A1 l1.length c1]) (n := 5) Try.func30 rfl rfl (by simp) (fun a hF => ?_)
  refine reg [] [] [0] [pl 0 (.slice A1 l1.length c1)] hF hS Fol (by kernel_rfl) (by kernel_rfl) (by kernel_rfl) ?_ (fun a w hF hS => ?_)
  · exact obs_nil
  refine seqR ?_
  obtain ⟨hp1, hm⟩ := asrt_b hm
  refine at_run 1 [] [] [3] [pl 3 (.slice A1 l1.length c1)] hF hS (by kernel_rfl) (by kernel_rfl) ?_ (fun a w hF hS => ?_)
  · exact obs_nil
  have hS : Sep w0 B w (own 3 (.slice none 0 0) (vI ([] : List Int)) :: fs) := hS.nil 3
  obtain ⟨A2, c2, w, hrun, hS⟩ := run_app1 (P := Try.prog) (t := 40) (m := ([] : List Int)) (ys := l1) (A2 := A1) (m2 := l1.length) (c2 := c1) (Value.int .i64) (0 : Int) (hS.at_ 0 rfl) (hr_l1 _ (hS.dropN 1)) rfl 40 Und40 hi3 hz3 hs3 (by omega) rfl (fun _ => rfl) hp1
  have hS : Sep w0 B w (own 3 (.slice A2 (([] ++ l1).length) c2) (vI ([] ++ l1)) :: fs) := hS
  refine at_do (d := 4) hF (by kernel_rfl) (by kernel_rfl) hrun (fun a hF => ?_)
  refine at_run 1 [] [] [2] [pl 2 (.slice A2 (([] ++ l1).length) c2)] hF hS (by kernel_rfl) (by kernel_rfl) ?_ (fun a w hF hS => ?_)
  · exact obs_nil
  refine at_end [2] [pl 2 (.slice A2 (([] ++ l1).length) c2)] hF rfl (by kernel_rfl) (fun hF => ?_)
  refine then_n ?_
  refine wp_ret ?_
  have hm : some ([] ++ l1) = some r := hm
  obtain rfl := Option.some.inj hm
  exact retV (rs := [.tmp 2]) (vs := [.slice A2 (([] ++ l1).length) c2]) hF rfl (rv_t (by kernel_rfl) <| rv_nil) rfl ⟨_, rfl, A2, c2, rfl, hS⟩

noncomputable def clock_far_m (n1 : Int) : Option Bool :=
  some ((decide (n1 < 0)) || (decide ((36000000 : Int) < n1)))

set_option maxRecDepth 100000 in
set_option maxHeartbeats 4000000 in
theorem clock_far_w {n1 : Int} {r : Bool} {w0 w : World} {B : Nat} {fs : List HP} (hm : clock_far_m n1 = some r) (hS : Sep w0 B w (fs)) :
    Calls Try.prog 154 #[.int .i64 n1] w fun e w' => e = .returned (.bool r) ∧ Sep w0 B w' (fs) := by
  unfold clock_far_m at hm
  replace hm := start_b hm
  refine enter (l := [.int .i64 n1]) (n := 9) Try.func154 rfl rfl (by simp) (fun a hF => ?_)
  refine reg [] [] [0] [pl 0 (.int .i64 n1)] hF hS Fol (by kernel_rfl) (by kernel_rfl) (by kernel_rfl) ?_ (fun a w hF hS => ?_)
  · exact obs_nil
  refine reg [] [] [2] [pl 2 (.bool ((decide (n1 < 0)) || (decide ((36000000 : Int) < n1))))] hF hS Fol (by kernel_rfl) (by kernel_rfl) (by kernel_rfl) ?_ (fun a w hF hS => ?_)
  · exact obs_nil
  refine wp_ret ?_
  have hm : some ((decide (n1 < 0)) || (decide ((36000000 : Int) < n1))) = some r := hm
  obtain rfl := Option.some.inj hm
  exact retV (rs := [.tmp 2]) (vs := [.bool ((decide (n1 < 0)) || (decide ((36000000 : Int) < n1)))]) hF rfl (rv_t (by kernel_rfl) <| rv_nil) rfl ⟨rfl, hS⟩

noncomputable def clock_check_J1 : Option Int :=
  some 0

noncomputable def clock_check_m (c1 : Int) (c2 : Int) (c3 : Int) (c4 : Int) (c5 : Int) : Option Int :=
  (clock_far_m c1).bind fun r1 => ((if (!r1) then clock_far_m c3 else some false)).bind fun r2 => ((if (!(r1 || r2)) then clock_far_m c5 else some false)).bind fun r3 => if ((((r1 || r2) || r3) || (decide (c4 < 0))) || (decide ((1000 : Int) < c4))) then (some 3) else (if ((decide (c2 < 0)) || (decide ((3 : Int) < c2))) then (some 4) else (clock_check_J1))

set_option maxRecDepth 100000 in
set_option maxHeartbeats 4000000 in
theorem clock_check_w {c1 : Int} {c2 : Int} {c3 : Int} {c4 : Int} {c5 : Int} {r : Int} {w0 w : World} {B : Nat} {fs : List HP} (hm : clock_check_m c1 c2 c3 c4 c5 = some r) (hS : Sep w0 B w (fs)) :
    Calls Try.prog 125 #[.agg #[.int .i64 c1, .int .i64 c2, .int .i64 c3, .int .i64 c4, .int .i64 c5]] w fun e w' => e = .returned (.int .i64 r) ∧ Sep w0 B w' (fs) := by
  unfold clock_check_m at hm
  replace hm := start_b hm
  refine enter (l := [.agg #[.int .i64 c1, .int .i64 c2, .int .i64 c3, .int .i64 c4, .int .i64 c5]]) (n := 36) Try.func125 rfl rfl (by simp) (fun a hF => ?_)
  refine seqR ?_
  refine at_do (d := 1) (s := vS (Instr.box 98 (.agg #[.int .i64 c1, .int .i64 c2, .int .i64 c3, .int .i64 c4, .int .i64 c5]))) (v := .pointer (some ⟨w.heap.size, 0, none⟩)) (w' := w.alloc (.cells #[.int .i64 c1, .int .i64 c2, .int .i64 c3, .int .i64 c4, .int .i64 c5] 98)) hF (by kernel_rfl) (by kernel_rfl) (by kernel_rfl) (fun a hF => ?_)
  have hS : Sep w0 B (w.alloc (.cells #[.int .i64 c1, .int .i64 c2, .int .i64 c3, .int .i64 c4, .int .i64 c5] 98)) (blk w.heap.size 98 #[.int .i64 c1, .int .i64 c2, .int .i64 c3, .int .i64 c4, .int .i64 c5] :: (fs)) := hS.box 98 #[.int .i64 c1, .int .i64 c2, .int .i64 c3, .int .i64 c4, .int .i64 c5]
  generalize w.heap.size = g1 at hF hS
  generalize w.alloc (.cells #[.int .i64 c1, .int .i64 c2, .int .i64 c3, .int .i64 c4, .int .i64 c5] 98) = w at hS ⊢
  refine at_run 1 [] [] [1] [pl 1 (.pointer (some ⟨g1, 0, none⟩))] hF hS (by kernel_rfl) (by kernel_rfl) ?_ (fun a w hF hS => ?_)
  · exact obs_nil
  refine at_end [1] [pl 1 (.pointer (some ⟨g1, 0, none⟩))] hF rfl (by kernel_rfl) (fun hF => ?_)
  refine then_n ?_
  refine seq_cut (fun a w => Fr 36 [] a ∧ Sep w0 B w (fs) ∧ (clock_check_J1).bind some = some r) ?_ ?_
  · rintro a w ⟨hF, hS, hm⟩
    unfold clock_check_J1 at hm
    refine reg [] [] [2] [pl 2 (.int .i64 0)] hF hS Fol (by kernel_rfl) (by kernel_rfl) (by kernel_rfl) ?_ (fun a w hF hS => ?_)
    · exact obs_nil
    refine wp_ret ?_
    have hm : some 0 = some r := hm
    obtain rfl := Option.some.inj hm
    exact retV (rs := [.tmp 2]) (vs := [.int .i64 0]) hF rfl (rv_t (by kernel_rfl) <| rv_nil) rfl ⟨rfl, hS⟩
  · refine wp_block ?_
    obtain ⟨r1, hr1, hm⟩ := call_b hm
    obtain ⟨r2, hr2, hm⟩ := call_b hm
    obtain ⟨r3, hr3, hm⟩ := call_b hm
    refine reg [⟨false, [], vS (Instr.loadAt 3 (.pointer (some ⟨g1, 0, none⟩))), .int .i64 c1⟩, ⟨false, [], callFunc 154 #[.int .i64 c1], .bool r1⟩, ⟨false, [(r1, false)], vS (Instr.loadAt 3 (.pointer (some ⟨g1, 2, none⟩))), .int .i64 c3⟩, ⟨false, [(r1, false)], callFunc 154 #[.int .i64 c3], .bool r2⟩, ⟨false, [(r1 || r2, false)], vS (Instr.loadAt 3 (.pointer (some ⟨g1, 4, none⟩))), .int .i64 c5⟩, ⟨false, [(r1 || r2, false)], callFunc 154 #[.int .i64 c5], .bool r3⟩, ⟨false, [((r1 || r2) || r3, false)], vS (Instr.loadAt 3 (.pointer (some ⟨g1, 3, none⟩))), .int .i64 c4⟩, ⟨false, [(((r1 || r2) || r3) || (decide (c4 < 0)), false)], vS (Instr.loadAt 3 (.pointer (some ⟨g1, 3, none⟩))), .int .i64 c4⟩] [none, some (.int .i64 c1), some (.bool r1), none, none, some (.int .i64 c3), some (.bool r2), none, none, none, some (.int .i64 c5), some (.bool r3), none, none, none, some (.int .i64 c4), none, none, none, none, some (.int .i64 c4), none, none, none] [1, 3] [pl 1 (.pointer (some ⟨g1, 0, none⟩)), pl 3 (.bool ((((r1 || r2) || r3) || (decide (c4 < 0))) || (decide ((1000 : Int) < c4))))] hF hS Fol (by kernel_rfl) (by kernel_rfl) (by kernel_rfl) ?_ (fun a w hF hS => ?_)
    · exact obs_cons (ob_load Agg3 (fun _ _ hS => (hS.at_ 0 rfl).cell rfl)) <| obs_cons (ob_call Try.func154 (by kernel_rfl) rfl (fun _ _ hS => clock_far_w hr1 hS )) <| obs_cons (ob_load Agg3 (fun _ _ hS => (hS.at_ 0 rfl).cell rfl)) <| obs_cons (ob_call Try.func154 (by kernel_rfl) rfl (fun hy _ hS => clock_far_w (ite_some hr2 (by rw [show r1 = false from hy (r1, false) (by simp)]; try rfl)) hS )) <| obs_cons (ob_load Agg3 (fun _ _ hS => (hS.at_ 0 rfl).cell rfl)) <| obs_cons (ob_call Try.func154 (by kernel_rfl) rfl (fun hy _ hS => clock_far_w (ite_some hr3 (by rw [show (r1 || r2) = false from hy (r1 || r2, false) (by simp)]; try rfl)) hS )) <| obs_cons (ob_load Agg3 (fun _ _ hS => (hS.at_ 0 rfl).cell rfl)) <| obs_cons (ob_load Agg3 (fun _ _ hS => (hS.at_ 0 rfl).cell rfl)) <| obs_nil
    refine cond_ev (t := 3) (b := (((r1 || r2) || r3) || (decide (c4 < 0))) || (decide ((1000 : Int) < c4))) hF (by kernel_rfl) (fun hb => ?_) (fun hb => ?_)
    · replace hm := if_t hm hb
      refine reg [] [] [2] [pl 2 (.int .i64 3)] hF hS Fol (by kernel_rfl) (by kernel_rfl) (by kernel_rfl) ?_ (fun a w hF hS => ?_)
      · exact obs_nil
      refine wp_ret ?_
      refine block_r (then_r ?_)
      have hS := hS.pickN 1 [] (by decide)
      have hm : some 3 = some r := hm
      obtain rfl := Option.some.inj hm
      exact retV (rs := [.tmp 2]) (vs := [.int .i64 3]) hF rfl (rv_t (by kernel_rfl) <| rv_nil) rfl ⟨rfl, hS⟩
    · replace hm := if_f hm hb
      refine reg [⟨false, [], vS (Instr.loadAt 3 (.pointer (some ⟨g1, 1, none⟩))), .int .i64 c2⟩, ⟨false, [(decide (c2 < 0), false)], vS (Instr.loadAt 3 (.pointer (some ⟨g1, 1, none⟩))), .int .i64 c2⟩] [none, some (.int .i64 c2), none, none, none, some (.int .i64 c2), none, none, none] [27] [pl 27 (.bool ((decide (c2 < 0)) || (decide ((3 : Int) < c2))))] hF hS Fol (by kernel_rfl) (by kernel_rfl) (by kernel_rfl) ?_ (fun a w hF hS => ?_)
      · exact obs_cons (ob_load Agg3 (fun _ _ hS => (hS.at_ 0 rfl).cell rfl)) <| obs_cons (ob_load Agg3 (fun _ _ hS => (hS.at_ 0 rfl).cell rfl)) <| obs_nil
      refine cond_ev (t := 27) (b := (decide (c2 < 0)) || (decide ((3 : Int) < c2))) hF (by kernel_rfl) (fun hb => ?_) (fun hb => ?_)
      · replace hm := if_t hm hb
        refine reg [] [] [2] [pl 2 (.int .i64 4)] hF hS Fol (by kernel_rfl) (by kernel_rfl) (by kernel_rfl) ?_ (fun a w hF hS => ?_)
        · exact obs_nil
        refine wp_ret ?_
        refine block_r (then_r ?_)
        have hS := hS.pickN 1 [] (by decide)
        have hm : some 4 = some r := hm
        obtain rfl := Option.some.inj hm
        exact retV (rs := [.tmp 2]) (vs := [.int .i64 4]) hF rfl (rv_t (by kernel_rfl) <| rv_nil) rfl ⟨rfl, hS⟩
      · replace hm := if_f hm hb
        refine wp_skip ?_
        refine block_n ?_
        refine then_n ?_
        have hS := hS.pickN 1 [] (by decide)
        exact ⟨hF.weak [] (by kernel_rfl), hS, hm⟩

noncomputable def slices_IndexFunc_J3 (z1 : Int) : Option (St Int (Fl Unit Int)) :=
  some (.next (w64 (z1 + 1)))

noncomputable def slices_IndexFunc_J2 (s1 : List Int) (z1 : Int) : Option (St Int (Fl Unit Int)) :=
  asrt (0 ≤ z1 ∧ z1 < (s1.length : Int)) <| (clock_far_m (geti s1 z1)).bind fun r1 => if r1 then (some (.done (.ret z1))) else ((slices_IndexFunc_J3 z1))

noncomputable def slices_IndexFunc_J1 : Option Int :=
  some (-1)

noncomputable def slices_IndexFunc_K1 : (Fl Unit Int) → Option Int :=
  fun (x : (Fl Unit Int)) => match x with | .go _ => slices_IndexFunc_J1 | .ret x => some x

noncomputable def slices_IndexFunc_L1 (s1 : List Int) : Int → Option (St Int (Fl Unit Int)) :=
  fun (x : Int) => match x with | z1 => if (decide (z1 < (s1.length : Int))) then ((slices_IndexFunc_J2 s1 z1)) else (some (.done (.go ())))

noncomputable def slices_IndexFunc_m (s1 : List Int) : Option Int :=
  (loop (slices_IndexFunc_L1 s1) 0).bind slices_IndexFunc_K1

set_option maxRecDepth 100000 in
set_option maxHeartbeats 4000000 in
theorem slices_IndexFunc_w {A1 : Option Addr} {c1 : Nat} {n1 : Nat} {s1 : List Int} {r : Int} {w0 w : World} {B : Nat} {fs : List HP} (hm : slices_IndexFunc_m s1 = some r) (hS : Sep w0 B w (fs)) (hr_s1 : RdF w0 B fs A1 (vI s1)) (_hc_s1 : s1.length ≤ c1) (_hn_s1 : n1 = s1.length) :
    Calls Try.prog 134 #[.slice A1 n1 c1, .func (.func 154) #[] #[]] w fun e w' => e = .returned (.int .i64 r) ∧ Sep w0 B w' (fs) := by
  obtain ⟨i3, hi3, hz3, hs3, hb3⟩ := info_parts Info3
  obtain rfl := _hn_s1
  unfold slices_IndexFunc_m at hm
  replace hm := start_b hm
  refine enter (l := [.slice A1 s1.length c1, .func (.func 154) #[] #[]]) (n := 19) Try.func134 rfl rfl (by simp) (fun a hF => ?_)
  refine reg [] [] [0, 1] [pl 0 (.slice A1 s1.length c1), pl 1 (.func (.func 154) #[] #[])] hF hS Fol (by kernel_rfl) (by kernel_rfl) (by kernel_rfl) ?_ (fun a w hF hS => ?_)
  · exact obs_nil
  refine seq_cut (fun a w => Fr 19 [] a ∧ Sep w0 B w (fs) ∧ (slices_IndexFunc_J1).bind some = some r) ?_ ?_
  · rintro a w ⟨hF, hS, hm⟩
    unfold slices_IndexFunc_J1 at hm
    refine reg [] [] [4] [pl 4 (.int .i64 (-1))] hF hS Fol (by kernel_rfl) (by kernel_rfl) (by kernel_rfl) ?_ (fun a w hF hS => ?_)
    · exact obs_nil
    refine wp_ret ?_
    have hm : some (-1) = some r := hm
    obtain rfl := Option.some.inj hm
    exact retV (rs := [.tmp 4]) (vs := [.int .i64 (-1)]) hF rfl (rv_t (by kernel_rfl) <| rv_nil) rfl ⟨rfl, hS⟩
  · refine reg [] [] [0, 1, 7, 8] [pl 0 (.slice A1 s1.length c1), pl 1 (.func (.func 154) #[] #[]), pl 7 (.int .i64 (s1.length : Int)), pl 8 (.int .i64 0)] hF hS Fol (by kernel_rfl) (by kernel_rfl) (by kernel_rfl) ?_ (fun a w hF hS => ?_)
    · exact obs_nil
    refine wp_block ?_
    refine wp_loop_model (S := Int) (R := (Fl Unit Int)) (slices_IndexFunc_L1 s1) (fun x => (slices_IndexFunc_K1 x).bind some) r (fun (x : Int) a w => Fr 19 [pl 0 (.slice A1 s1.length c1), pl 1 (.func (.func 154) #[] #[]), pl 7 (.int .i64 (s1.length : Int)), pl 8 (.int .i64 x)] a ∧ Sep w0 B w (fs)) (assoc_b hm) ⟨hF.weak [0, 1, 7, 8] (by kernel_rfl), hS⟩ ?_
    clear hF hS hm
    rintro nn1 z1 a w ⟨hF, hS⟩ hm
    generalize hφ1 : stK (slices_IndexFunc_L1 s1) nn1 (fun x => (slices_IndexFunc_K1 x).bind some) = φ1 at hm
    unfold slices_IndexFunc_L1 at hm
    dsimp only at hm
    refine reg [] [] [0, 1, 7, 8, 9] [pl 0 (.slice A1 s1.length c1), pl 1 (.func (.func 154) #[] #[]), pl 7 (.int .i64 (s1.length : Int)), pl 8 (.int .i64 z1), pl 9 (.bool (decide (z1 < (s1.length : Int))))] hF hS Fol (by kernel_rfl) (by kernel_rfl) (by kernel_rfl) ?_ (fun a w hF hS => ?_)
    · exact obs_nil
    refine seq_cut (fun a w => Fr 19 [pl 0 (.slice A1 s1.length c1), pl 1 (.func (.func 154) #[] #[]), pl 7 (.int .i64 (s1.length : Int)), pl 8 (.int .i64 z1)] a ∧ Sep w0 B w (fs) ∧ ((slices_IndexFunc_J2 s1 z1)).bind φ1 = some r) ?_ ?_
    · rintro a w ⟨hF, hS, hm⟩
      unfold slices_IndexFunc_J2 at hm
      refine seq_cut (fun a w => Fr 19 [pl 0 (.slice A1 s1.length c1), pl 1 (.func (.func 154) #[] #[]), pl 7 (.int .i64 (s1.length : Int)), pl 8 (.int .i64 z1)] a ∧ Sep w0 B w (fs) ∧ ((slices_IndexFunc_J3 z1)).bind φ1 = some r) ?_ ?_
      · rintro a w ⟨hF, hS, hm⟩
        unfold slices_IndexFunc_J3 at hm
        refine reg1 [] [] [0, 1, 7, 8] [pl 0 (.slice A1 s1.length c1), pl 1 (.func (.func 154) #[] #[]), pl 7 (.int .i64 (s1.length : Int)), pl 8 (.int .i64 (w64 (z1 + 1)))] hF hS Fol (by kernel_rfl) (by kernel_rfl) (by kernel_rfl) ?_ (fun a w hF hS => ?_)
        · exact obs_nil
        refine then_n ?_
        rw [← hφ1] at hm
        exact ⟨(w64 (z1 + 1)), ⟨hF.weak [0, 1, 7, 8] (by kernel_rfl), hS⟩, hm⟩
      · refine wp_block ?_
        refine reg [] [] [0, 1, 5, 7, 8] [pl 0 (.slice A1 s1.length c1), pl 1 (.func (.func 154) #[] #[]), pl 5 (.int .i64 z1), pl 7 (.int .i64 (s1.length : Int)), pl 8 (.int .i64 z1)] hF hS Fol (by kernel_rfl) (by kernel_rfl) (by kernel_rfl) ?_ (fun a w hF hS => ?_)
        · exact obs_nil
        obtain ⟨hp1, hm⟩ := asrt_b hm
        obtain ⟨r1, hr1, hm⟩ := call_b hm
        refine reg [⟨true, [], vS (Instr.indexAt 40 (.slice A1 s1.length c1) (.int .i64 z1)), .pointer (some (sAddr A1 z1))⟩, ⟨false, [], vS (Instr.loadAt 3 (.pointer (some (sAddr A1 z1)))), .int .i64 (geti s1 z1)⟩, ⟨false, [], callFunc 154 #[.int .i64 (geti s1 z1)], .bool r1⟩] [none, none, none, some (.pointer (some (sAddr A1 z1))), some (.int .i64 (geti s1 z1)), some (.bool r1)] [0, 1, 5, 7, 8, 16] [pl 0 (.slice A1 s1.length c1), pl 1 (.func (.func 154) #[] #[]), pl 5 (.int .i64 z1), pl 7 (.int .i64 (s1.length : Int)), pl 8 (.int .i64 z1), pl 16 (.bool r1)] hF hS Fol (by kernel_rfl) (by kernel_rfl) (by kernel_rfl) ?_ (fun a w hF hS => ?_)
        · exact obs_cons (ob_ix1 (f := (Value.int .i64)) (m := s1) Und40 hi3 hs3 (hr_s1 _ (hS.dropN 0)) rfl (fun _ => hp1)) <| obs_cons (ob_get1 (n := s1.length) (m := s1) (Value.int .i64) (0 : Int) Agg3 (fun _ hS => ⟨_, (hr_s1 _ (hS.dropN 0))⟩) (fun _ hS => rfl) (fun _ => hp1)) <| obs_cons (ob_call Try.func154 (by kernel_rfl) rfl (fun _ _ hS => clock_far_w hr1 hS )) <| obs_nil
        refine cond_ev (t := 16) (b := r1) hF (by kernel_rfl) (fun hb => ?_) (fun hb => ?_)
        · replace hm := if_t hm hb
          refine reg [] [] [4] [pl 4 (.int .i64 z1)] hF hS Fol (by kernel_rfl) (by kernel_rfl) (by kernel_rfl) ?_ (fun a w hF hS => ?_)
          · exact obs_nil
          refine wp_ret ?_
          refine block_r (then_r (then_r (block_r (then_r ?_))))
          rw [← hφ1] at hm
          replace hm := done_b hm
          unfold slices_IndexFunc_K1 at hm
          try dsimp only at hm
          have hm : some z1 = some r := hm
          obtain rfl := Option.some.inj hm
          exact retV (rs := [.tmp 4]) (vs := [.int .i64 z1]) hF rfl (rv_t (by kernel_rfl) <| rv_nil) rfl ⟨rfl, hS⟩
        · replace hm := if_f hm hb
          refine wp_skip ?_
          refine block_n ?_
          refine then_n ?_
          exact ⟨hF.weak [0, 1, 7, 8] (by kernel_rfl), hS, hm⟩
    · refine cond_ev (t := 9) (b := decide (z1 < (s1.length : Int))) hF (by kernel_rfl) (fun hb => ?_) (fun hb => ?_)
      · replace hm := if_t hm hb
        refine wp_skip ?_
        refine then_n ?_
        exact ⟨hF.weak [0, 1, 7, 8] (by kernel_rfl), hS, hm⟩
      · replace hm := if_f hm hb
        refine wp_exit ?_
        refine then_e (then_e (block_e (then_n ?_)))
        rw [← hφ1] at hm
        replace hm := done_b hm
        unfold slices_IndexFunc_K1 at hm
        try dsimp only at hm
        have hm : (slices_IndexFunc_J1).bind some = some r := hm
        exact ⟨hF.weak [] (by kernel_rfl), hS, hm⟩

noncomputable def slices_ContainsFunc_m (s1 : List Int) : Option Bool :=
  (slices_IndexFunc_m s1).bind fun r1 => some (decide ((0 : Int) ≤ r1))

set_option maxRecDepth 100000 in
set_option maxHeartbeats 4000000 in
theorem slices_ContainsFunc_w {A1 : Option Addr} {c1 : Nat} {n1 : Nat} {s1 : List Int} {r : Bool} {w0 w : World} {B : Nat} {fs : List HP} (hm : slices_ContainsFunc_m s1 = some r) (hS : Sep w0 B w (fs)) (hr_s1 : RdF w0 B fs A1 (vI s1)) (_hc_s1 : s1.length ≤ c1) (_hn_s1 : n1 = s1.length) :
    Calls Try.prog 94 #[.slice A1 n1 c1, .func (.func 154) #[] #[]] w fun e w' => e = .returned (.bool r) ∧ Sep w0 B w' (fs) := by
  obtain ⟨i3, hi3, hz3, hs3, hb3⟩ := info_parts Info3
  obtain rfl := _hn_s1
  unfold slices_ContainsFunc_m at hm
  replace hm := start_b hm
  refine enter (l := [.slice A1 s1.length c1, .func (.func 154) #[] #[]]) (n := 9) Try.func94 rfl rfl (by simp) (fun a hF => ?_)
  refine reg [] [] [0, 1] [pl 0 (.slice A1 s1.length c1), pl 1 (.func (.func 154) #[] #[])] hF hS Fol (by kernel_rfl) (by kernel_rfl) (by kernel_rfl) ?_ (fun a w hF hS => ?_)
  · exact obs_nil
  obtain ⟨r1, hr1, hm⟩ := call_b hm
  refine reg [⟨false, [], callFunc 134 #[.slice A1 s1.length c1, .func (.func 154) #[] #[]], .int .i64 r1⟩] [none, none, some (.int .i64 r1), none, none] [4] [pl 4 (.bool (decide ((0 : Int) ≤ r1)))] hF hS Fol (by kernel_rfl) (by kernel_rfl) (by kernel_rfl) ?_ (fun a w hF hS => ?_)
  · exact obs_cons (ob_call Try.func134 (by kernel_rfl) rfl (fun _ _ hS => slices_IndexFunc_w hr1 hS (fun _ hS => (hr_s1 _ (hS.dropN 0))) _hc_s1 rfl)) <| obs_nil
  refine wp_ret ?_
  have hm : some (decide ((0 : Int) ≤ r1)) = some r := hm
  obtain rfl := Option.some.inj hm
  exact retV (rs := [.tmp 4]) (vs := [.bool (decide ((0 : Int) ≤ r1))]) hF rfl (rv_t (by kernel_rfl) <| rv_nil) rfl ⟨rfl, hS⟩

noncomputable def clock_newDevice_J2 (c1 : Int) (c2 : Int) (c3 : Int) (c4 : Int) (c5 : Int) : Option (Fl Int (Int × Int × Int × Int × Int × List Int × List Int)) :=
  some (.ret (c1, c2, c3, c4, c5, ([c1, c1] : List Int), (List.replicate 2 (0 : Int))))

noncomputable def clock_newDevice_J1 (c1 : Int) (c2 : Int) (c3 : Int) (c4 : Int) (c5 : Int) (used1 : List Int) : Option (Fl Int (Int × Int × Int × Int × Int × List Int × List Int)) :=
  if (decide ((200 : Int) < (used1.length : Int))) then (some (.go 11)) else ((slices_ContainsFunc_m used1).bind fun r2 => if r2 then (some (.go 1)) else ((clock_newDevice_J2 c1 c2 c3 c4 c5)))

noncomputable def clock_newDevice_m (c1 : Int) (c2 : Int) (c3 : Int) (c4 : Int) (c5 : Int) (used1 : List Int) : Option (Fl Int (Int × Int × Int × Int × Int × List Int × List Int)) :=
  (clock_check_m c1 c2 c3 c4 c5).bind fun r1 => if (r1 != 0) then (some (.go r1)) else ((clock_newDevice_J1 c1 c2 c3 c4 c5 used1))

set_option maxRecDepth 100000 in
set_option maxHeartbeats 4000000 in
theorem clock_newDevice_w {c1 : Int} {c2 : Int} {c3 : Int} {c4 : Int} {c5 : Int} {A1 : Option Addr} {c6 : Nat} {n1 : Nat} {used1 : List Int} {r : (Fl Int (Int × Int × Int × Int × Int × List Int × List Int))} {w0 w : World} {B : Nat} {fs : List HP} (hm : clock_newDevice_m c1 c2 c3 c4 c5 used1 = some r) (hS : Sep w0 B w (fs)) (hr_used1 : RdF w0 B fs A1 (vI used1)) (_hc_used1 : used1.length ≤ c6) (_hn_used1 : n1 = used1.length) :
    Calls Try.prog 121 #[.agg #[.int .i64 c1, .int .i64 c2, .int .i64 c3, .int .i64 c4, .int .i64 c5], .slice A1 n1 c6] w fun e w' => ∃ v, e = .returned v ∧ Fl.post r (fun r => v = .tuple #[.pointer none, .int .i64 r] ∧ Sep w0 B w' (fs)) (fun r => ∃ (g3 : Nat), v = .tuple #[.pointer (some ⟨g3, 0, none⟩), .int .i64 0] ∧ Sep w0 B w' (blk g3 172 (List.toArray (([.int .i64 r.1, .int .i64 r.2.1, .int .i64 r.2.2.1, .int .i64 r.2.2.2.1, .int .i64 r.2.2.2.2.1] : List Value) ++ (arr1 (Value.int .i64) (0 : Int) 2 r.2.2.2.2.2.1 ++ (([.int .i64 (-1), .int .i64 0] : List Value) ++ (arr1 (Value.int .i64) (0 : Int) 2 r.2.2.2.2.2.2 ++ ([] : List Value)))))) :: fs)) := by
  obtain ⟨i3, hi3, hz3, hs3, hb3⟩ := info_parts Info3
  obtain rfl := _hn_used1
  unfold clock_newDevice_m at hm
  replace hm := start_b hm
  refine enter (l := [.agg #[.int .i64 c1, .int .i64 c2, .int .i64 c3, .int .i64 c4, .int .i64 c5], .slice A1 used1.length c6]) (n := 28) Try.func121 rfl rfl (by simp) (fun a hF => ?_)
  refine seqR ?_
  refine at_do (d := 2) (s := vS (Instr.box 98 (.agg #[.int .i64 c1, .int .i64 c2, .int .i64 c3, .int .i64 c4, .int .i64 c5]))) (v := .pointer (some ⟨w.heap.size, 0, none⟩)) (w' := w.alloc (.cells #[.int .i64 c1, .int .i64 c2, .int .i64 c3, .int .i64 c4, .int .i64 c5] 98)) hF (by kernel_rfl) (by kernel_rfl) (by kernel_rfl) (fun a hF => ?_)
  have hS : Sep w0 B (w.alloc (.cells #[.int .i64 c1, .int .i64 c2, .int .i64 c3, .int .i64 c4, .int .i64 c5] 98)) (blk w.heap.size 98 #[.int .i64 c1, .int .i64 c2, .int .i64 c3, .int .i64 c4, .int .i64 c5] :: (fs)) := hS.box 98 #[.int .i64 c1, .int .i64 c2, .int .i64 c3, .int .i64 c4, .int .i64 c5]
  generalize w.heap.size = g1 at hF hS
  generalize w.alloc (.cells #[.int .i64 c1, .int .i64 c2, .int .i64 c3, .int .i64 c4, .int .i64 c5] 98) = w at hS ⊢
  refine at_run 2 [] [] [1, 2] [pl 1 (.slice A1 used1.length c6), pl 2 (.pointer (some ⟨g1, 0, none⟩))] hF hS (by kernel_rfl) (by kernel_rfl) ?_ (fun a w hF hS => ?_)
  · exact obs_nil
  refine at_end [1, 2] [pl 1 (.slice A1 used1.length c6), pl 2 (.pointer (some ⟨g1, 0, none⟩))] hF rfl (by kernel_rfl) (fun hF => ?_)
  refine then_n ?_
  refine seq_cut (fun a w => Fr 28 [pl 1 (.slice A1 used1.length c6), pl 2 (.pointer (some ⟨g1, 0, none⟩))] a ∧ Sep w0 B w (blk g1 98 #[.int .i64 c1, .int .i64 c2, .int .i64 c3, .int .i64 c4, .int .i64 c5] :: fs) ∧ ((clock_newDevice_J1 c1 c2 c3 c4 c5 used1)).bind some = some r) ?_ ?_
  · rintro a w ⟨hF, hS, hm⟩
    unfold clock_newDevice_J1 at hm
    refine seq_cut (fun a w => Fr 28 [pl 2 (.pointer (some ⟨g1, 0, none⟩))] a ∧ Sep w0 B w (blk g1 98 #[.int .i64 c1, .int .i64 c2, .int .i64 c3, .int .i64 c4, .int .i64 c5] :: fs) ∧ ((clock_newDevice_J2 c1 c2 c3 c4 c5)).bind some = some r) ?_ ?_
    · rintro a w ⟨hF, hS, hm⟩
      unfold clock_newDevice_J2 at hm
      refine seqR ?_
      refine at_run 8 [⟨false, [], vS (Instr.loadAt 98 (.pointer (some ⟨g1, 0, none⟩))), .agg #[.int .i64 c1, .int .i64 c2, .int .i64 c3, .int .i64 c4, .int .i64 c5]⟩, ⟨false, [], vS (Instr.loadAt 3 (.pointer (some ⟨g1, 0, none⟩))), .int .i64 c1⟩, ⟨false, [], vS (Instr.loadAt 3 (.pointer (some ⟨g1, 0, none⟩))), .int .i64 c1⟩] [some (.agg #[.int .i64 c1, .int .i64 c2, .int .i64 c3, .int .i64 c4, .int .i64 c5]), none, some (.int .i64 c1), none, some (.int .i64 c1), none, none, none] [26] [pl 26 (.agg (List.toArray (([.int .i64 c1, .int .i64 c2, .int .i64 c3, .int .i64 c4, .int .i64 c5] : List Value) ++ (arr1 (Value.int .i64) (0 : Int) 2 ([c1, c1] : List Int) ++ (([.int .i64 (-1), .int .i64 0] : List Value) ++ (arr1 (Value.int .i64) (0 : Int) 2 (List.replicate 2 (0 : Int)) ++ ([] : List Value)))))))] hF hS (by kernel_rfl) (by kernel_rfl) ?_ (fun a w hF hS => ?_)
      · exact obs_cons (ob_loadA (cs := #[.int .i64 c1, .int .i64 c2, .int .i64 c3, .int .i64 c4, .int .i64 c5]) (by kernel_rfl) (by kernel_rfl) (fun _ _ hS => (hS.at_ 0 rfl).cellsAt 0 (by rfl))) <| obs_cons (ob_load Agg3 (fun _ _ hS => (hS.at_ 0 rfl).cell rfl)) <| obs_cons (ob_load Agg3 (fun _ _ hS => (hS.at_ 0 rfl).cell rfl)) <| obs_nil
      refine at_do (d := 27) (s := vS (Instr.box 172 (.agg (List.toArray (([.int .i64 c1, .int .i64 c2, .int .i64 c3, .int .i64 c4, .int .i64 c5] : List Value) ++ (arr1 (Value.int .i64) (0 : Int) 2 ([c1, c1] : List Int) ++ (([.int .i64 (-1), .int .i64 0] : List Value) ++ (arr1 (Value.int .i64) (0 : Int) 2 (List.replicate 2 (0 : Int)) ++ ([] : List Value))))))))) (v := .pointer (some ⟨w.heap.size, 0, none⟩)) (w' := w.alloc (.cells (List.toArray (([.int .i64 c1, .int .i64 c2, .int .i64 c3, .int .i64 c4, .int .i64 c5] : List Value) ++ (arr1 (Value.int .i64) (0 : Int) 2 ([c1, c1] : List Int) ++ (([.int .i64 (-1), .int .i64 0] : List Value) ++ (arr1 (Value.int .i64) (0 : Int) 2 (List.replicate 2 (0 : Int)) ++ ([] : List Value)))))) 172)) hF (by kernel_rfl) (by kernel_rfl) (by kernel_rfl) (fun a hF => ?_)
      have hS : Sep w0 B (w.alloc (.cells (List.toArray (([.int .i64 c1, .int .i64 c2, .int .i64 c3, .int .i64 c4, .int .i64 c5] : List Value) ++ (arr1 (Value.int .i64) (0 : Int) 2 ([c1, c1] : List Int) ++ (([.int .i64 (-1), .int .i64 0] : List Value) ++ (arr1 (Value.int .i64) (0 : Int) 2 (List.replicate 2 (0 : Int)) ++ ([] : List Value)))))) 172)) (blk w.heap.size 172 (List.toArray (([.int .i64 c1, .int .i64 c2, .int .i64 c3, .int .i64 c4, .int .i64 c5] : List Value) ++ (arr1 (Value.int .i64) (0 : Int) 2 ([c1, c1] : List Int) ++ (([.int .i64 (-1), .int .i64 0] : List Value) ++ (arr1 (Value.int .i64) (0 : Int) 2 (List.replicate 2 (0 : Int)) ++ ([] : List Value)))))) :: (blk g1 98 #[.int .i64 c1, .int .i64 c2, .int .i64 c3, .int .i64 c4, .int .i64 c5] :: fs)) := hS.box 172 (List.toArray (([.int .i64 c1, .int .i64 c2, .int .i64 c3, .int .i64 c4, .int .i64 c5] : List Value) ++ (arr1 (Value.int .i64) (0 : Int) 2 ([c1, c1] : List Int) ++ (([.int .i64 (-1), .int .i64 0] : List Value) ++ (arr1 (Value.int .i64) (0 : Int) 2 (List.replicate 2 (0 : Int)) ++ ([] : List Value))))))
      generalize w.heap.size = g2 at hF hS
      generalize w.alloc (.cells (List.toArray (([.int .i64 c1, .int .i64 c2, .int .i64 c3, .int .i64 c4, .int .i64 c5] : List Value) ++ (arr1 (Value.int .i64) (0 : Int) 2 ([c1, c1] : List Int) ++ (([.int .i64 (-1), .int .i64 0] : List Value) ++ (arr1 (Value.int .i64) (0 : Int) 2 (List.replicate 2 (0 : Int)) ++ ([] : List Value)))))) 172) = w at hS ⊢
      refine at_run 2 [] [] [4, 5] [pl 4 (.pointer (some ⟨g2, 0, none⟩)), pl 5 (.int .i64 0)] hF hS (by kernel_rfl) (by kernel_rfl) ?_ (fun a w hF hS => ?_)
      · exact obs_nil
      refine at_end [4, 5] [pl 4 (.pointer (some ⟨g2, 0, none⟩)), pl 5 (.int .i64 0)] hF rfl (by kernel_rfl) (fun hF => ?_)
      refine then_n ?_
      refine wp_ret ?_
      have hS := hS.pickN 2 [0] (by decide)
      have hm : some (.ret (c1, c2, c3, c4, c5, ([c1, c1] : List Int), (List.replicate 2 (0 : Int)))) = some r := hm
      obtain rfl := Option.some.inj hm
      exact retV (rs := [.tmp 4, .tmp 5]) (vs := [.pointer (some ⟨g2, 0, none⟩), .int .i64 0]) hF rfl (rv_t (by kernel_rfl) <| rv_t (by kernel_rfl) <| rv_nil) rfl ⟨_, rfl, g2, rfl, hS⟩
    · refine wp_block ?_
      refine reg [] [] [1, 2, 12] [pl 1 (.slice A1 used1.length c6), pl 2 (.pointer (some ⟨g1, 0, none⟩)), pl 12 (.bool (decide ((200 : Int) < (used1.length : Int))))] hF hS Fol (by kernel_rfl) (by kernel_rfl) (by kernel_rfl) ?_ (fun a w hF hS => ?_)
      · exact obs_nil
      refine cond_ev (t := 12) (b := decide ((200 : Int) < (used1.length : Int))) hF (by kernel_rfl) (fun hb => ?_) (fun hb => ?_)
      · replace hm := if_t hm hb
        refine reg [] [] [4, 5] [pl 4 (.pointer none), pl 5 (.int .i64 11)] hF hS Fol (by kernel_rfl) (by kernel_rfl) (by kernel_rfl) ?_ (fun a w hF hS => ?_)
        · exact obs_nil
        refine wp_ret ?_
        refine block_r (then_r ?_)
        have hS := hS.pickN 1 [] (by decide)
        have hm : some (.go 11) = some r := hm
        obtain rfl := Option.some.inj hm
        exact retV (rs := [.tmp 4, .tmp 5]) (vs := [.pointer none, .int .i64 11]) hF rfl (rv_t (by kernel_rfl) <| rv_t (by kernel_rfl) <| rv_nil) rfl ⟨_, rfl, rfl, hS⟩
      · replace hm := if_f hm hb
        obtain ⟨r2, hr2, hm⟩ := call_b hm
        refine reg [⟨false, [], callFunc 94 #[.slice A1 used1.length c6, .func (.func 154) #[] #[]], .bool r2⟩] [none, some (.bool r2), none] [2, 16] [pl 2 (.pointer (some ⟨g1, 0, none⟩)), pl 16 (.bool r2)] hF hS Fol (by kernel_rfl) (by kernel_rfl) (by kernel_rfl) ?_ (fun a w hF hS => ?_)
        · exact obs_cons (ob_call Try.func94 (by kernel_rfl) rfl (fun _ _ hS => slices_ContainsFunc_w hr2 hS (fun _ hS => (hr_used1 _ (hS.dropN 1))) _hc_used1 rfl)) <| obs_nil
        refine cond_ev (t := 16) (b := r2) hF (by kernel_rfl) (fun hb => ?_) (fun hb => ?_)
        · replace hm := if_t hm hb
          refine reg [] [] [4, 5] [pl 4 (.pointer none), pl 5 (.int .i64 1)] hF hS Fol (by kernel_rfl) (by kernel_rfl) (by kernel_rfl) ?_ (fun a w hF hS => ?_)
          · exact obs_nil
          refine wp_ret ?_
          refine block_r (then_r ?_)
          have hS := hS.pickN 1 [] (by decide)
          have hm : some (.go 1) = some r := hm
          obtain rfl := Option.some.inj hm
          exact retV (rs := [.tmp 4, .tmp 5]) (vs := [.pointer none, .int .i64 1]) hF rfl (rv_t (by kernel_rfl) <| rv_t (by kernel_rfl) <| rv_nil) rfl ⟨_, rfl, rfl, hS⟩
        · replace hm := if_f hm hb
          refine wp_skip ?_
          refine block_n ?_
          refine then_n ?_
          exact ⟨hF.weak [2] (by kernel_rfl), hS, hm⟩
  · obtain ⟨r1, hr1, hm⟩ := call_b hm
    refine reg [⟨false, [], vS (Instr.loadAt 98 (.pointer (some ⟨g1, 0, none⟩))), .agg #[.int .i64 c1, .int .i64 c2, .int .i64 c3, .int .i64 c4, .int .i64 c5]⟩, ⟨false, [], callFunc 125 #[.agg #[.int .i64 c1, .int .i64 c2, .int .i64 c3, .int .i64 c4, .int .i64 c5]], .int .i64 r1⟩] [some (.agg #[.int .i64 c1, .int .i64 c2, .int .i64 c3, .int .i64 c4, .int .i64 c5]), some (.int .i64 r1), none] [1, 2, 6] [pl 1 (.slice A1 used1.length c6), pl 2 (.pointer (some ⟨g1, 0, none⟩)), pl 6 (.int .i64 r1)] hF hS Fol (by kernel_rfl) (by kernel_rfl) (by kernel_rfl) ?_ (fun a w hF hS => ?_)
    · exact obs_cons (ob_loadA (cs := #[.int .i64 c1, .int .i64 c2, .int .i64 c3, .int .i64 c4, .int .i64 c5]) (by kernel_rfl) (by kernel_rfl) (fun _ _ hS => (hS.at_ 0 rfl).cellsAt 0 (by rfl))) <| obs_cons (ob_call Try.func125 (by kernel_rfl) rfl (fun _ _ hS => clock_check_w hr1 hS )) <| obs_nil
    refine reg [] [] [1, 2, 6, 10] [pl 1 (.slice A1 used1.length c6), pl 2 (.pointer (some ⟨g1, 0, none⟩)), pl 6 (.int .i64 r1), pl 10 (.bool (r1 != 0))] hF hS Fol (by kernel_rfl) (by kernel_rfl) (by kernel_rfl) ?_ (fun a w hF hS => ?_)
    · exact obs_nil
    refine cond_ev (t := 10) (b := (r1 != 0)) hF (by kernel_rfl) (fun hb => ?_) (fun hb => ?_)
    · replace hm := if_t hm hb
      refine reg [] [] [4, 5] [pl 4 (.pointer none), pl 5 (.int .i64 r1)] hF hS Fol (by kernel_rfl) (by kernel_rfl) (by kernel_rfl) ?_ (fun a w hF hS => ?_)
      · exact obs_nil
      refine wp_ret ?_
      refine then_r ?_
      have hS := hS.pickN 1 [] (by decide)
      have hm : some (.go r1) = some r := hm
      obtain rfl := Option.some.inj hm
      exact retV (rs := [.tmp 4, .tmp 5]) (vs := [.pointer none, .int .i64 r1]) hF rfl (rv_t (by kernel_rfl) <| rv_t (by kernel_rfl) <| rv_nil) rfl ⟨_, rfl, rfl, hS⟩
    · replace hm := if_f hm hb
      refine wp_skip ?_
      refine then_n ?_
      exact ⟨hF.weak [1, 2] (by kernel_rfl), hS, hm⟩

noncomputable def clock_Run_1_J1 : Option Unit :=
  some ()

noncomputable def clock_Run_1_m : Option Unit :=
  clock_Run_1_J1

set_option maxRecDepth 100000 in
set_option maxHeartbeats 4000000 in
theorem clock_Run_1_w  {r : Unit} {w0 w : World} {B : Nat} {fs : List HP} (hm : clock_Run_1_m = some r) (hS : Sep w0 B w (fs)) :
    Calls Try.prog 123 #[] w fun e w' => e = .returned (.tuple #[]) ∧ Sep w0 B w' (fs) := by
  unfold clock_Run_1_m at hm
  replace hm := start_b hm
  refine enter (l := []) (n := 0) Try.func123 rfl rfl (by simp) (fun a hF => ?_)
  refine end_cut (fun a w => Fr 0 [] a ∧ Sep w0 B w (fs) ∧ (clock_Run_1_J1).bind some = some r) ?_ ?_
  · rintro a w ⟨hF, hS, hm⟩
    unfold clock_Run_1_J1 at hm
    have hm : some () = some r := hm
    obtain rfl := Option.some.inj hm
    exact endV (rs := []) (vs := []) hF rfl (rv_nil) rfl ⟨rfl, hS⟩ rfl
  · refine wp_skip ?_
    refine then_n ?_
    exact ⟨hF.weak [] (by kernel_rfl), hS, hm⟩

noncomputable def clock_device_runs_J2 (used1 : List Int) : Option (St Unit (Fl Unit Int)) :=
  asrt (0 ≤ (0 : Int) ∧ (0 : Int) < (used1.length : Int)) <| none

noncomputable def clock_device_runs_J1 : Option Int :=
  some 0

noncomputable def clock_device_runs_K1 : (Fl Unit Int) → Option Int :=
  fun (x : (Fl Unit Int)) => match x with | .go _ => clock_device_runs_J1 | .ret x => some x

noncomputable def clock_device_runs_L1 (used1 : List Int) : Unit → Option (St Unit (Fl Unit Int)) :=
  fun (x : Unit) => match x with | _ => if (decide ((0 : Int) < (used1.length : Int))) then ((clock_device_runs_J2 used1)) else (some (.done (.go ())))

noncomputable def clock_device_runs_m (used1 : List Int) : Option Int :=
  (clock_Run_1_m).bind fun r1 => (loop (clock_device_runs_L1 used1) ()).bind clock_device_runs_K1

set_option maxRecDepth 100000 in
set_option maxHeartbeats 4000000 in
theorem clock_device_runs_w {A1 : Option Addr} {c1 : Nat} {n1 : Nat} {used1 : List Int} {r : Int} {w0 w : World} {B : Nat} {fs : List HP} (hm : clock_device_runs_m used1 = some r) (hS : Sep w0 B w (fs)) (hr_used1 : RdF w0 B fs A1 (vI used1)) (_hc_used1 : used1.length ≤ c1) (_hn_used1 : n1 = used1.length) :
    Calls Try.prog 122 #[.pointer none, .slice A1 n1 c1, .func (.func 123) #[] #[]] w fun e w' => e = .returned (.int .i64 r) ∧ Sep w0 B w' (fs) := by
  obtain ⟨i3, hi3, hz3, hs3, hb3⟩ := info_parts Info3
  obtain rfl := _hn_used1
  unfold clock_device_runs_m at hm
  replace hm := start_b hm
  refine enter (l := [.pointer none, .slice A1 used1.length c1, .func (.func 123) #[] #[]]) (n := 29) Try.func122 rfl rfl (by simp) (fun a hF => ?_)
  refine reg [] [] [0, 1, 2] [pl 0 (.pointer none), pl 1 (.slice A1 used1.length c1), pl 2 (.func (.func 123) #[] #[])] hF hS Fol (by kernel_rfl) (by kernel_rfl) (by kernel_rfl) ?_ (fun a w hF hS => ?_)
  · exact obs_nil
  obtain ⟨r1, hr1, hm⟩ := call_b hm
  refine reg [⟨false, [], callFunc 123 #[], .tuple #[]⟩] [none, some (.tuple #[])] [0, 1, 2] [pl 0 (.pointer none), pl 1 (.slice A1 used1.length c1), pl 2 (.func (.func 123) #[] #[])] hF hS Fol (by kernel_rfl) (by kernel_rfl) (by kernel_rfl) ?_ (fun a w hF hS => ?_)
  · exact obs_cons (ob_call Try.func123 (by kernel_rfl) rfl (fun _ _ hS => clock_Run_1_w hr1 hS )) <| obs_nil
  refine seq_cut (fun a w => Fr 29 [] a ∧ Sep w0 B w (fs) ∧ (clock_device_runs_J1).bind some = some r) ?_ ?_
  · rintro a w ⟨hF, hS, hm⟩
    unfold clock_device_runs_J1 at hm
    refine reg [] [] [6] [pl 6 (.int .i64 0)] hF hS Fol (by kernel_rfl) (by kernel_rfl) (by kernel_rfl) ?_ (fun a w hF hS => ?_)
    · exact obs_nil
    refine wp_ret ?_
    have hm : some 0 = some r := hm
    obtain rfl := Option.some.inj hm
    exact retV (rs := [.tmp 6]) (vs := [.int .i64 0]) hF rfl (rv_t (by kernel_rfl) <| rv_nil) rfl ⟨rfl, hS⟩
  · refine reg [] [] [0, 2, 11, 12, 13] [pl 0 (.pointer none), pl 2 (.func (.func 123) #[] #[]), pl 11 (.slice A1 used1.length c1), pl 12 (.int .i64 (used1.length : Int)), pl 13 (.int .i64 0)] hF hS Fol (by kernel_rfl) (by kernel_rfl) (by kernel_rfl) ?_ (fun a w hF hS => ?_)
    · exact obs_nil
    refine wp_block ?_
    refine wp_loop_model (S := Unit) (R := (Fl Unit Int)) (clock_device_runs_L1 used1) (fun x => (clock_device_runs_K1 x).bind some) r (fun (x : Unit) a w => Fr 29 [pl 0 (.pointer none), pl 2 (.func (.func 123) #[] #[]), pl 11 (.slice A1 used1.length c1), pl 12 (.int .i64 (used1.length : Int)), pl 13 (.int .i64 0)] a ∧ Sep w0 B w (fs)) (assoc_b hm) ⟨hF.weak [0, 2, 11, 12, 13] (by kernel_rfl), hS⟩ ?_
    clear hF hS hm
    rintro nn1 _ a w ⟨hF, hS⟩ hm
    generalize hφ1 : stK (clock_device_runs_L1 used1) nn1 (fun x => (clock_device_runs_K1 x).bind some) = φ1 at hm
    unfold clock_device_runs_L1 at hm
    dsimp only at hm
    refine reg [] [] [0, 2, 11, 12, 13, 14] [pl 0 (.pointer none), pl 2 (.func (.func 123) #[] #[]), pl 11 (.slice A1 used1.length c1), pl 12 (.int .i64 (used1.length : Int)), pl 13 (.int .i64 0), pl 14 (.bool (decide ((0 : Int) < (used1.length : Int))))] hF hS Fol (by kernel_rfl) (by kernel_rfl) (by kernel_rfl) ?_ (fun a w hF hS => ?_)
    · exact obs_nil
    refine seq_cut (fun a w => Fr 29 [pl 0 (.pointer none), pl 2 (.func (.func 123) #[] #[]), pl 11 (.slice A1 used1.length c1), pl 12 (.int .i64 (used1.length : Int)), pl 13 (.int .i64 0)] a ∧ Sep w0 B w (fs) ∧ ((clock_device_runs_J2 used1)).bind φ1 = some r) ?_ ?_
    · rintro a w ⟨hF, hS, hm⟩
      unfold clock_device_runs_J2 at hm
      refine seq_cut (fun _ _ => False) (fun _ _ h => h.elim) ?_
      refine wp_block ?_
      obtain ⟨hp1, hm⟩ := asrt_b hm
      refine reg [⟨true, [], vS (Instr.indexAt 40 (.slice A1 used1.length c1) (.int .i64 0)), .pointer (some (sAddr A1 0))⟩, ⟨false, [], vS (Instr.loadAt 3 (.pointer (some (sAddr A1 0)))), .int .i64 (geti used1 0)⟩] [some (.pointer (some (sAddr A1 0))), some (.int .i64 (geti used1 0)), none] [0, 2, 8, 11, 12, 13] [pl 0 (.pointer none), pl 2 (.func (.func 123) #[] #[]), pl 8 (.int .i64 (geti used1 0)), pl 11 (.slice A1 used1.length c1), pl 12 (.int .i64 (used1.length : Int)), pl 13 (.int .i64 0)] hF hS Fol (by kernel_rfl) (by kernel_rfl) (by kernel_rfl) ?_ (fun a w hF hS => ?_)
      · exact obs_cons (ob_ix1 (f := (Value.int .i64)) (m := used1) Und40 hi3 hs3 (hr_used1 _ (hS.dropN 0)) rfl (fun _ => hp1)) <| obs_cons (ob_get1 (n := used1.length) (m := used1) (Value.int .i64) (0 : Int) Agg3 (fun _ hS => ⟨_, (hr_used1 _ (hS.dropN 0))⟩) (fun _ hS => rfl) (fun _ => hp1)) <| obs_nil
      refine seq_cut (fun _ _ => False) (fun _ _ h => h.elim) ?_
      simp at hm
    · refine cond_ev (t := 14) (b := decide ((0 : Int) < (used1.length : Int))) hF (by kernel_rfl) (fun hb => ?_) (fun hb => ?_)
      · replace hm := if_t hm hb
        refine wp_skip ?_
        refine then_n ?_
        exact ⟨hF.weak [0, 2, 11, 12, 13] (by kernel_rfl), hS, hm⟩
      · replace hm := if_f hm hb
        refine wp_exit ?_
        refine then_e (then_e (block_e (then_n ?_)))
        rw [← hφ1] at hm
        replace hm := done_b hm
        unfold clock_device_runs_K1 at hm
        try dsimp only at hm
        have hm : (clock_device_runs_J1).bind some = some r := hm
        exact ⟨hF.weak [] (by kernel_rfl), hS, hm⟩

noncomputable def clock_device_press_J4 (d_Clock_Fallen1 : Int) (d_Clock_Moves1 : Int) (d_made1 : List Int) (d6 : List Int) : Option (Bool × List Int × Int × Int × List Int) :=
  some (true, d6, d_Clock_Fallen1, (w64 (d_Clock_Moves1 + 1)), (d_made1.set (Int.toNat (bAnd d_Clock_Moves1 1)) (w64 ((geti d_made1 (bAnd d_Clock_Moves1 1)) + 1))))

noncomputable def clock_device_press_J3 (d_Control_Moves1 : Int) (d_Control_More1 : Int) (d_Clock_Fallen1 : Int) (d_Clock_Moves1 : Int) (d_made1 : List Int) (d5 : List Int) : Option (Bool × List Int × Int × Int × List Int) :=
  asrt (0 ≤ (bAnd d_Clock_Moves1 1) ∧ (bAnd d_Clock_Moves1 1) < 2) <| asrt (0 ≤ (bAnd d_Clock_Moves1 1) ∧ (bAnd d_Clock_Moves1 1) < 2) <| asrt ((bAnd d_Clock_Moves1 1) < (d_made1.length : Int)) <| asrt ((decide ((0 : Int) < d_Control_Moves1)) = true → 0 ≤ (bAnd d_Clock_Moves1 1) ∧ (bAnd d_Clock_Moves1 1) < 2) <| asrt ((decide ((0 : Int) < d_Control_Moves1)) = true → d_Control_Moves1 ≠ (0 : Int)) <| if ((decide ((0 : Int) < d_Control_Moves1)) && ((Int.tmod (geti (d_made1.set (Int.toNat (bAnd d_Clock_Moves1 1)) (w64 ((geti d_made1 (bAnd d_Clock_Moves1 1)) + 1))) (bAnd d_Clock_Moves1 1)) d_Control_Moves1) == 0)) then (asrt ((bAnd d_Clock_Moves1 1) < (d5.length : Int)) <| (clock_device_press_J4 d_Clock_Fallen1 d_Clock_Moves1 d_made1) (d5.set (Int.toNat (bAnd d_Clock_Moves1 1)) (w64 ((geti d5 (bAnd d_Clock_Moves1 1)) + d_Control_More1)))) else ((clock_device_press_J4 d_Clock_Fallen1 d_Clock_Moves1 d_made1) d5)

noncomputable def clock_device_press_J2 (d_Control_Kind1 : Int) (d_Control_Bonus1 : Int) (d_Control_Moves1 : Int) (d_Control_More1 : Int) (d_Clock_Time1 : List Int) (d_Clock_Fallen1 : Int) (d_Clock_Moves1 : Int) (d_made1 : List Int) (used1 : Int) (taken1 : Int) : Option (Bool × List Int × Int × Int × List Int) :=
  asrt ((bAnd d_Clock_Moves1 1) < (d_Clock_Time1.length : Int)) <| if (d_Control_Kind1 == 1) then (asrt ((bAnd d_Clock_Moves1 1) < ((d_Clock_Time1.set (Int.toNat (bAnd d_Clock_Moves1 1)) (w64 ((geti d_Clock_Time1 (bAnd d_Clock_Moves1 1)) - taken1))).length : Int)) <| (clock_device_press_J3 d_Control_Moves1 d_Control_More1 d_Clock_Fallen1 d_Clock_Moves1 d_made1) ((d_Clock_Time1.set (Int.toNat (bAnd d_Clock_Moves1 1)) (w64 ((geti d_Clock_Time1 (bAnd d_Clock_Moves1 1)) - taken1))).set (Int.toNat (bAnd d_Clock_Moves1 1)) (w64 ((geti (d_Clock_Time1.set (Int.toNat (bAnd d_Clock_Moves1 1)) (w64 ((geti d_Clock_Time1 (bAnd d_Clock_Moves1 1)) - taken1))) (bAnd d_Clock_Moves1 1)) + d_Control_Bonus1)))) else (if (d_Control_Kind1 == 2) then (asrt ((bAnd d_Clock_Moves1 1) < ((d_Clock_Time1.set (Int.toNat (bAnd d_Clock_Moves1 1)) (w64 ((geti d_Clock_Time1 (bAnd d_Clock_Moves1 1)) - taken1))).length : Int)) <| (clock_device_press_J3 d_Control_Moves1 d_Control_More1 d_Clock_Fallen1 d_Clock_Moves1 d_made1) ((d_Clock_Time1.set (Int.toNat (bAnd d_Clock_Moves1 1)) (w64 ((geti d_Clock_Time1 (bAnd d_Clock_Moves1 1)) - taken1))).set (Int.toNat (bAnd d_Clock_Moves1 1)) (w64 ((geti (d_Clock_Time1.set (Int.toNat (bAnd d_Clock_Moves1 1)) (w64 ((geti d_Clock_Time1 (bAnd d_Clock_Moves1 1)) - taken1))) (bAnd d_Clock_Moves1 1)) + (minI d_Control_Bonus1 used1))))) else ((clock_device_press_J3 d_Control_Moves1 d_Control_More1 d_Clock_Fallen1 d_Clock_Moves1 d_made1) (d_Clock_Time1.set (Int.toNat (bAnd d_Clock_Moves1 1)) (w64 ((geti d_Clock_Time1 (bAnd d_Clock_Moves1 1)) - taken1)))))

noncomputable def clock_device_press_J1 (d_Control_Kind1 : Int) (d_Control_Bonus1 : Int) (d_Control_Moves1 : Int) (d_Control_More1 : Int) (d_Clock_Time1 : List Int) (d_Clock_Fallen1 : Int) (d_Clock_Moves1 : Int) (d_made1 : List Int) (used1 : Int) (taken1 : Int) : Option (Bool × List Int × Int × Int × List Int) :=
  if (decide ((geti d_Clock_Time1 (bAnd d_Clock_Moves1 1)) < taken1)) then (asrt ((bAnd d_Clock_Moves1 1) < (d_Clock_Time1.length : Int)) <| some (false, (d_Clock_Time1.set (Int.toNat (bAnd d_Clock_Moves1 1)) 0), (bAnd d_Clock_Moves1 1), d_Clock_Moves1, d_made1)) else ((clock_device_press_J2 d_Control_Kind1 d_Control_Bonus1 d_Control_Moves1 d_Control_More1 d_Clock_Time1 d_Clock_Fallen1 d_Clock_Moves1 d_made1 used1 taken1))

noncomputable def clock_device_press_m (d_Control_Base1 : Int) (d_Control_Kind1 : Int) (d_Control_Bonus1 : Int) (d_Control_Moves1 : Int) (d_Control_More1 : Int) (d_Clock_Time1 : List Int) (d_Clock_Fallen1 : Int) (d_Clock_Moves1 : Int) (d_made1 : List Int) (used1 : Int) : Option (Bool × List Int × Int × Int × List Int) :=
  asrt (0 ≤ (bAnd d_Clock_Moves1 1) ∧ (bAnd d_Clock_Moves1 1) < 2) <| if (d_Control_Kind1 == 3) then ((clock_device_press_J1 d_Control_Kind1 d_Control_Bonus1 d_Control_Moves1 d_Control_More1 d_Clock_Time1 d_Clock_Fallen1 d_Clock_Moves1 d_made1 used1) (maxI (w64 (used1 - d_Control_Bonus1)) 0)) else ((clock_device_press_J1 d_Control_Kind1 d_Control_Bonus1 d_Control_Moves1 d_Control_More1 d_Clock_Time1 d_Clock_Fallen1 d_Clock_Moves1 d_made1 used1) used1)

set_option maxRecDepth 100000 in
set_option maxHeartbeats 4000000 in
theorem clock_device_press_w {g1 : Nat} {d_Control_Base1 : Int} {d_Control_Kind1 : Int} {d_Control_Bonus1 : Int} {d_Control_Moves1 : Int} {d_Control_More1 : Int} {d_Clock_Time1 : List Int} {d_Clock_Fallen1 : Int} {d_Clock_Moves1 : Int} {d_made1 : List Int} {used1 : Int} {r : (Bool × List Int × Int × Int × List Int)} {w0 w : World} {B : Nat} {fs : List HP} (hm : clock_device_press_m d_Control_Base1 d_Control_Kind1 d_Control_Bonus1 d_Control_Moves1 d_Control_More1 d_Clock_Time1 d_Clock_Fallen1 d_Clock_Moves1 d_made1 used1 = some r) (hS : Sep w0 B w (blk g1 172 (List.toArray (([.int .i64 d_Control_Base1, .int .i64 d_Control_Kind1, .int .i64 d_Control_Bonus1, .int .i64 d_Control_Moves1, .int .i64 d_Control_More1] : List Value) ++ (arr1 (Value.int .i64) (0 : Int) 2 d_Clock_Time1 ++ (([.int .i64 d_Clock_Fallen1, .int .i64 d_Clock_Moves1] : List Value) ++ (arr1 (Value.int .i64) (0 : Int) 2 d_made1 ++ ([] : List Value)))))) :: fs)) :
    Calls Try.prog 155 #[.pointer (some ⟨g1, 0, none⟩), .int .i64 used1] w fun e w' => ∃ v, e = .returned v ∧ v = .bool r.1 ∧ Sep w0 B w' (blk g1 172 (List.toArray (([.int .i64 d_Control_Base1, .int .i64 d_Control_Kind1, .int .i64 d_Control_Bonus1, .int .i64 d_Control_Moves1, .int .i64 d_Control_More1] : List Value) ++ (arr1 (Value.int .i64) (0 : Int) 2 r.2.1 ++ (([.int .i64 r.2.2.1, .int .i64 r.2.2.2.1] : List Value) ++ (arr1 (Value.int .i64) (0 : Int) 2 r.2.2.2.2 ++ ([] : List Value)))))) :: fs) := by
  obtain ⟨i3, hi3, hz3, hs3, hb3⟩ := info_parts Info3
  unfold clock_device_press_m at hm
  replace hm := start_b hm
  refine enter (l := [.pointer (some ⟨g1, 0, none⟩), .int .i64 used1]) (n := 134) Try.func155 rfl rfl (by simp) (fun a hF => ?_)
  refine reg [] [] [0, 1] [pl 0 (.pointer (some ⟨g1, 0, none⟩)), pl 1 (.int .i64 used1)] hF hS Fol (by kernel_rfl) (by kernel_rfl) (by kernel_rfl) ?_ (fun a w hF hS => ?_)
  · exact obs_nil
  refine reg [⟨false, [], vS (Instr.loadAt 3 (.pointer (some ⟨g1, 8, none⟩))), .int .i64 d_Clock_Moves1⟩] [none, none, none, none, some (.int .i64 d_Clock_Moves1), none, none] [0, 1, 5] [pl 0 (.pointer (some ⟨g1, 0, none⟩)), pl 1 (.int .i64 used1), pl 5 (.int .i64 (bAnd d_Clock_Moves1 1))] hF hS Fol (by kernel_rfl) (by kernel_rfl) (by kernel_rfl) ?_ (fun a w hF hS => ?_)
  · exact obs_cons (ob_load Agg3 (fun _ _ hS => (hS.at_ 0 rfl).cell rfl)) <| obs_nil
  obtain ⟨hp1, hm⟩ := asrt_b hm
  refine reg [⟨true, [], vS (Instr.indexAt 99 (.pointer (some ⟨g1, 5, none⟩)) (.int .i64 (bAnd d_Clock_Moves1 1))), .pointer (some ((⟨g1, 5, none⟩ : Addr).add (Int.toNat (bAnd d_Clock_Moves1 1) * 1)))⟩] [none, none, none, none, none, some (.pointer (some ((⟨g1, 5, none⟩ : Addr).add (Int.toNat (bAnd d_Clock_Moves1 1) * 1)))), none] [0, 1, 5, 6] [pl 0 (.pointer (some ⟨g1, 0, none⟩)), pl 1 (.int .i64 used1), pl 5 (.int .i64 (bAnd d_Clock_Moves1 1)), pl 6 (.pointer (some ((⟨g1, 5, none⟩ : Addr).add (Int.toNat (bAnd d_Clock_Moves1 1) * 1))))] hF hS Fol (by kernel_rfl) (by kernel_rfl) (by kernel_rfl) ?_ (fun a w hF hS => ?_)
  · exact obs_cons (ob_ixA UndA99 hi3 hs3 (fun _ => hp1)) <| obs_nil
  refine reg [] [] [0, 1, 5, 6, 7] [pl 0 (.pointer (some ⟨g1, 0, none⟩)), pl 1 (.int .i64 used1), pl 5 (.int .i64 (bAnd d_Clock_Moves1 1)), pl 6 (.pointer (some ((⟨g1, 5, none⟩ : Addr).add (Int.toNat (bAnd d_Clock_Moves1 1) * 1)))), pl 7 (.int .i64 used1)] hF hS Fol (by kernel_rfl) (by kernel_rfl) (by kernel_rfl) ?_ (fun a w hF hS => ?_)
  · exact obs_nil
  refine seq_cut (fun a w => ∃ (taken1 : Int), Fr 134 [pl 0 (.pointer (some ⟨g1, 0, none⟩)), pl 1 (.int .i64 used1), pl 5 (.int .i64 (bAnd d_Clock_Moves1 1)), pl 6 (.pointer (some ((⟨g1, 5, none⟩ : Addr).add (Int.toNat (bAnd d_Clock_Moves1 1) * 1)))), pl 7 (.int .i64 taken1)] a ∧ Sep w0 B w (blk g1 172 (List.toArray (([.int .i64 d_Control_Base1, .int .i64 d_Control_Kind1, .int .i64 d_Control_Bonus1, .int .i64 d_Control_Moves1, .int .i64 d_Control_More1] : List Value) ++ (arr1 (Value.int .i64) (0 : Int) 2 d_Clock_Time1 ++ (([.int .i64 d_Clock_Fallen1, .int .i64 d_Clock_Moves1] : List Value) ++ (arr1 (Value.int .i64) (0 : Int) 2 d_made1 ++ ([] : List Value)))))) :: fs) ∧ ((clock_device_press_J1 d_Control_Kind1 d_Control_Bonus1 d_Control_Moves1 d_Control_More1 d_Clock_Time1 d_Clock_Fallen1 d_Clock_Moves1 d_made1 used1) taken1).bind some = some r) ?_ ?_
  · rintro a w ⟨taken1, hF, hS, hm⟩
    unfold clock_device_press_J1 at hm
    refine seq_cut (fun a w => Fr 134 [pl 0 (.pointer (some ⟨g1, 0, none⟩)), pl 1 (.int .i64 used1), pl 5 (.int .i64 (bAnd d_Clock_Moves1 1)), pl 6 (.pointer (some ((⟨g1, 5, none⟩ : Addr).add (Int.toNat (bAnd d_Clock_Moves1 1) * 1)))), pl 7 (.int .i64 taken1)] a ∧ Sep w0 B w (blk g1 172 (List.toArray (([.int .i64 d_Control_Base1, .int .i64 d_Control_Kind1, .int .i64 d_Control_Bonus1, .int .i64 d_Control_Moves1, .int .i64 d_Control_More1] : List Value) ++ (arr1 (Value.int .i64) (0 : Int) 2 d_Clock_Time1 ++ (([.int .i64 d_Clock_Fallen1, .int .i64 d_Clock_Moves1] : List Value) ++ (arr1 (Value.int .i64) (0 : Int) 2 d_made1 ++ ([] : List Value)))))) :: fs) ∧ ((clock_device_press_J2 d_Control_Kind1 d_Control_Bonus1 d_Control_Moves1 d_Control_More1 d_Clock_Time1 d_Clock_Fallen1 d_Clock_Moves1 d_made1 used1 taken1)).bind some = some r) ?_ ?_
    · rintro a w ⟨hF, hS, hm⟩
      unfold clock_device_press_J2 at hm
      refine seqR ?_
      obtain ⟨hp3, hm⟩ := asrt_b hm
      refine at_run 6 [⟨false, [], vS (Instr.loadAt 3 (.pointer (some ((⟨g1, 5, none⟩ : Addr).add (Int.toNat (bAnd d_Clock_Moves1 1) * 1))))), .int .i64 (geti d_Clock_Time1 (bAnd d_Clock_Moves1 1))⟩] [none, none, some (.int .i64 (geti d_Clock_Time1 (bAnd d_Clock_Moves1 1))), none, none, none] [0, 1, 5, 6, 51, 52] [pl 0 (.pointer (some ⟨g1, 0, none⟩)), pl 1 (.int .i64 used1), pl 5 (.int .i64 (bAnd d_Clock_Moves1 1)), pl 6 (.pointer (some ((⟨g1, 5, none⟩ : Addr).add (Int.toNat (bAnd d_Clock_Moves1 1) * 1)))), pl 51 (.int .i64 (w64 ((geti d_Clock_Time1 (bAnd d_Clock_Moves1 1)) - taken1))), pl 52 (.pointer (some ((⟨g1, 5, none⟩ : Addr).add (Int.toNat (bAnd d_Clock_Moves1 1) * 1))))] hF hS (by kernel_rfl) (by kernel_rfl) ?_ (fun a w hF hS => ?_)
      · exact obs_cons (ob_getA (m := d_Clock_Time1) (Value.int .i64) (0 : Int) 2 ([.int .i64 d_Control_Base1, .int .i64 d_Control_Kind1, .int .i64 d_Control_Bonus1, .int .i64 d_Control_Moves1, .int .i64 d_Control_More1] : List Value) (([.int .i64 d_Clock_Fallen1, .int .i64 d_Clock_Moves1] : List Value) ++ (arr1 (Value.int .i64) (0 : Int) 2 d_made1 ++ ([] : List Value))) (bAnd d_Clock_Moves1 1) Agg3 rfl (fun _ hS => ⟨_, _, _, _, _, hS.at_ 0 rfl⟩) (fun hy => by have h0 := hp1; omega)) <| obs_nil
      obtain ⟨w, hrun, hS⟩ := run_setA (P := Try.prog) (t := 3) (x := (w64 ((geti d_Clock_Time1 (bAnd d_Clock_Moves1 1)) - taken1))) (i := (bAnd d_Clock_Moves1 1)) (m := d_Clock_Time1) (d := Int.toNat (bAnd d_Clock_Moves1 1) * 1) (Value.int .i64) (0 : Int) 2 ([.int .i64 d_Control_Base1, .int .i64 d_Control_Kind1, .int .i64 d_Control_Bonus1, .int .i64 d_Control_Moves1, .int .i64 d_Control_More1] : List Value) (([.int .i64 d_Clock_Fallen1, .int .i64 d_Clock_Moves1] : List Value) ++ (arr1 (Value.int .i64) (0 : Int) 2 d_made1 ++ ([] : List Value))) (hS.at_ 0 rfl) rfl hi3 hs3 rfl (by have h0 := hp1; omega) (by have h0 := hp1; have h9 := hp3; omega)
      refine at_skip hF (by kernel_rfl) hrun ?_
      have hS : Sep w0 B w (blk g1 172 (List.toArray (([.int .i64 d_Control_Base1, .int .i64 d_Control_Kind1, .int .i64 d_Control_Bonus1, .int .i64 d_Control_Moves1, .int .i64 d_Control_More1] : List Value) ++ (arr1 (Value.int .i64) (0 : Int) 2 (d_Clock_Time1.set (Int.toNat (bAnd d_Clock_Moves1 1)) (w64 ((geti d_Clock_Time1 (bAnd d_Clock_Moves1 1)) - taken1))) ++ (([.int .i64 d_Clock_Fallen1, .int .i64 d_Clock_Moves1] : List Value) ++ (arr1 (Value.int .i64) (0 : Int) 2 d_made1 ++ ([] : List Value)))))) :: fs) := hS
      refine at_end [0, 1, 5, 6] [pl 0 (.pointer (some ⟨g1, 0, none⟩)), pl 1 (.int .i64 used1), pl 5 (.int .i64 (bAnd d_Clock_Moves1 1)), pl 6 (.pointer (some ((⟨g1, 5, none⟩ : Addr).add (Int.toNat (bAnd d_Clock_Moves1 1) * 1))))] hF rfl (by kernel_rfl) (fun hF => ?_)
      refine then_n ?_
      refine seq_cut (fun a w => ∃ (d5 : List Int), Fr 134 [pl 0 (.pointer (some ⟨g1, 0, none⟩)), pl 5 (.int .i64 (bAnd d_Clock_Moves1 1)), pl 6 (.pointer (some ((⟨g1, 5, none⟩ : Addr).add (Int.toNat (bAnd d_Clock_Moves1 1) * 1))))] a ∧ Sep w0 B w (blk g1 172 (List.toArray (([.int .i64 d_Control_Base1, .int .i64 d_Control_Kind1, .int .i64 d_Control_Bonus1, .int .i64 d_Control_Moves1, .int .i64 d_Control_More1] : List Value) ++ (arr1 (Value.int .i64) (0 : Int) 2 d5 ++ (([.int .i64 d_Clock_Fallen1, .int .i64 d_Clock_Moves1] : List Value) ++ (arr1 (Value.int .i64) (0 : Int) 2 d_made1 ++ ([] : List Value)))))) :: fs) ∧ ((clock_device_press_J3 d_Control_Moves1 d_Control_More1 d_Clock_Fallen1 d_Clock_Moves1 d_made1) d5).bind some = some r) ?_ ?_
      · rintro a w ⟨d5, hF, hS, hm⟩
        unfold clock_device_press_J3 at hm
        refine seqR ?_
        refine at_run 9 [⟨false, [], vS (Instr.loadAt 3 (.pointer (some ⟨g1, 8, none⟩))), .int .i64 d_Clock_Moves1⟩] [none, none, none, none, some (.int .i64 d_Clock_Moves1), none, none, none, none] [0, 5, 6, 89, 92] [pl 0 (.pointer (some ⟨g1, 0, none⟩)), pl 5 (.int .i64 (bAnd d_Clock_Moves1 1)), pl 6 (.pointer (some ((⟨g1, 5, none⟩ : Addr).add (Int.toNat (bAnd d_Clock_Moves1 1) * 1)))), pl 89 (.int .i64 (w64 (d_Clock_Moves1 + 1))), pl 92 (.pointer (some ⟨g1, 8, none⟩))] hF hS (by kernel_rfl) (by kernel_rfl) ?_ (fun a w hF hS => ?_)
        · exact obs_cons (ob_load Agg3 (fun _ _ hS => (hS.at_ 0 rfl).cell rfl)) <| obs_nil
        obtain ⟨w, hrun, hS⟩ := run_put (P := Try.prog) (t := 3) (u := .int .i64 (w64 (d_Clock_Moves1 + 1))) (i := 8) (hS.at_ 0 rfl) hi3 hs3 rfl (Nat.lt_of_lt_of_eq (Nat.lt_of_succ_le (Nat.le_of_ble_eq_true (by kernel_rfl))) rfl)
        refine at_skip hF (by kernel_rfl) hrun ?_
        have hS : Sep w0 B w (blk g1 172 (List.toArray (([.int .i64 d_Control_Base1, .int .i64 d_Control_Kind1, .int .i64 d_Control_Bonus1, .int .i64 d_Control_Moves1, .int .i64 d_Control_More1] : List Value) ++ (arr1 (Value.int .i64) (0 : Int) 2 d5 ++ (([.int .i64 d_Clock_Fallen1, .int .i64 (w64 (d_Clock_Moves1 + 1))] : List Value) ++ (arr1 (Value.int .i64) (0 : Int) 2 d_made1 ++ ([] : List Value)))))) :: fs) := hS
        refine at_end [0, 5, 6] [pl 0 (.pointer (some ⟨g1, 0, none⟩)), pl 5 (.int .i64 (bAnd d_Clock_Moves1 1)), pl 6 (.pointer (some ((⟨g1, 5, none⟩ : Addr).add (Int.toNat (bAnd d_Clock_Moves1 1) * 1))))] hF rfl (by kernel_rfl) (fun hF => ?_)
        refine then_n ?_
        refine wp_seq ?_
        obtain ⟨hp6, hm⟩ := asrt_b hm
        obtain ⟨hp7, hm⟩ := asrt_b hm
        obtain ⟨hp8, hm⟩ := asrt_b hm
        refine regMix4 [0, 1, 2, 3, 4, 5, 6, 7, 8, 9] [10] [⟨true, [], vS (Instr.indexAt 99 (.pointer (some ⟨g1, 9, none⟩)) (.int .i64 (bAnd d_Clock_Moves1 1))), .pointer (some ((⟨g1, 9, none⟩ : Addr).add (Int.toNat (bAnd d_Clock_Moves1 1) * 1)))⟩, ⟨false, [], vS (Instr.loadAt 3 (.pointer (some ((⟨g1, 9, none⟩ : Addr).add (Int.toNat (bAnd d_Clock_Moves1 1) * 1))))), .int .i64 (geti d_made1 (bAnd d_Clock_Moves1 1))⟩, ⟨true, [], vS (Instr.indexAt 99 (.pointer (some ⟨g1, 9, none⟩)) (.int .i64 (bAnd d_Clock_Moves1 1))), .pointer (some ((⟨g1, 9, none⟩ : Addr).add (Int.toNat (bAnd d_Clock_Moves1 1) * 1)))⟩] [none, none, none, none, some (.pointer (some ((⟨g1, 9, none⟩ : Addr).add (Int.toNat (bAnd d_Clock_Moves1 1) * 1)))), some (.int .i64 (geti d_made1 (bAnd d_Clock_Moves1 1))), none, none, none, some (.pointer (some ((⟨g1, 9, none⟩ : Addr).add (Int.toNat (bAnd d_Clock_Moves1 1) * 1))))] [0, 5, 6, 99, 102] [pl 0 (.pointer (some ⟨g1, 0, none⟩)), pl 5 (.int .i64 (bAnd d_Clock_Moves1 1)), pl 6 (.pointer (some ((⟨g1, 5, none⟩ : Addr).add (Int.toNat (bAnd d_Clock_Moves1 1) * 1)))), pl 99 (.int .i64 (w64 ((geti d_made1 (bAnd d_Clock_Moves1 1)) + 1))), pl 102 (.pointer (some ((⟨g1, 9, none⟩ : Addr).add (Int.toNat (bAnd d_Clock_Moves1 1) * 1))))] hF hS Fol (by kernel_rfl) (by kernel_rfl) (by kernel_rfl) (by kernel_rfl) (by kernel_rfl) ?_ (fun a w hF hS => ?_)
        · exact obs_cons (ob_ixA UndA99 hi3 hs3 (fun _ => hp6)) <| obs_cons (ob_getA (m := d_made1) (Value.int .i64) (0 : Int) 2 (([.int .i64 d_Control_Base1, .int .i64 d_Control_Kind1, .int .i64 d_Control_Bonus1, .int .i64 d_Control_Moves1, .int .i64 d_Control_More1] : List Value) ++ (arr1 (Value.int .i64) (0 : Int) 2 d5 ++ ([.int .i64 d_Clock_Fallen1, .int .i64 (w64 (d_Clock_Moves1 + 1))] : List Value))) ([] : List Value) (bAnd d_Clock_Moves1 1) Agg3 rfl (fun _ hS => ⟨_, _, _, _, _, hS.at_ 0 rfl⟩) (fun hy => by have h0 := hp6; omega)) <| obs_cons (ob_ixA UndA99 hi3 hs3 (fun _ => hp7)) <| obs_nil
        obtain ⟨w, hrun, hS⟩ := run_setA (P := Try.prog) (t := 3) (x := (w64 ((geti d_made1 (bAnd d_Clock_Moves1 1)) + 1))) (i := (bAnd d_Clock_Moves1 1)) (m := d_made1) (d := Int.toNat (bAnd d_Clock_Moves1 1) * 1) (Value.int .i64) (0 : Int) 2 (([.int .i64 d_Control_Base1, .int .i64 d_Control_Kind1, .int .i64 d_Control_Bonus1, .int .i64 d_Control_Moves1, .int .i64 d_Control_More1] : List Value) ++ (arr1 (Value.int .i64) (0 : Int) 2 d5 ++ ([.int .i64 d_Clock_Fallen1, .int .i64 (w64 (d_Clock_Moves1 + 1))] : List Value))) ([] : List Value) (hS.at_ 0 rfl) rfl hi3 hs3 rfl (by have h0 := hp7; omega) (by have h0 := hp7; have h9 := hp8; omega)
        refine at_skip hF (by kernel_rfl) hrun ?_
        have hS : Sep w0 B w (blk g1 172 (List.toArray (([.int .i64 d_Control_Base1, .int .i64 d_Control_Kind1, .int .i64 d_Control_Bonus1, .int .i64 d_Control_Moves1, .int .i64 d_Control_More1] : List Value) ++ (arr1 (Value.int .i64) (0 : Int) 2 d5 ++ (([.int .i64 d_Clock_Fallen1, .int .i64 (w64 (d_Clock_Moves1 + 1))] : List Value) ++ (arr1 (Value.int .i64) (0 : Int) 2 (d_made1.set (Int.toNat (bAnd d_Clock_Moves1 1)) (w64 ((geti d_made1 (bAnd d_Clock_Moves1 1)) + 1))) ++ ([] : List Value)))))) :: fs) := hS
        refine at_end [0, 5, 6] [pl 0 (.pointer (some ⟨g1, 0, none⟩)), pl 5 (.int .i64 (bAnd d_Clock_Moves1 1)), pl 6 (.pointer (some ((⟨g1, 5, none⟩ : Addr).add (Int.toNat (bAnd d_Clock_Moves1 1) * 1))))] hF rfl (by kernel_rfl) (fun hF => ?_)
        refine np_n ?_
        refine then_n ?_
        refine seq_cut (fun a w => ∃ (d6 : List Int), Fr 134 [] a ∧ Sep w0 B w (blk g1 172 (List.toArray (([.int .i64 d_Control_Base1, .int .i64 d_Control_Kind1, .int .i64 d_Control_Bonus1, .int .i64 d_Control_Moves1, .int .i64 d_Control_More1] : List Value) ++ (arr1 (Value.int .i64) (0 : Int) 2 d6 ++ (([.int .i64 d_Clock_Fallen1, .int .i64 (w64 (d_Clock_Moves1 + 1))] : List Value) ++ (arr1 (Value.int .i64) (0 : Int) 2 (d_made1.set (Int.toNat (bAnd d_Clock_Moves1 1)) (w64 ((geti d_made1 (bAnd d_Clock_Moves1 1)) + 1))) ++ ([] : List Value)))))) :: fs) ∧ ((clock_device_press_J4 d_Clock_Fallen1 d_Clock_Moves1 d_made1) d6).bind some = some r) ?_ ?_
        · rintro a w ⟨d6, hF, hS, hm⟩
          unfold clock_device_press_J4 at hm
          refine reg [] [] [4] [pl 4 (.bool true)] hF hS Fol (by kernel_rfl) (by kernel_rfl) (by kernel_rfl) ?_ (fun a w hF hS => ?_)
          · exact obs_nil
          refine wp_ret ?_
          have hm : some (true, d6, d_Clock_Fallen1, (w64 (d_Clock_Moves1 + 1)), (d_made1.set (Int.toNat (bAnd d_Clock_Moves1 1)) (w64 ((geti d_made1 (bAnd d_Clock_Moves1 1)) + 1)))) = some r := hm
          obtain rfl := Option.some.inj hm
          exact retV (rs := [.tmp 4]) (vs := [.bool true]) hF rfl (rv_t (by kernel_rfl) <| rv_nil) rfl ⟨_, rfl, rfl, hS⟩
        · obtain ⟨hp9, hm⟩ := asrt_b hm
          obtain ⟨hp10, hm⟩ := asrt_b hm
          refine reg [⟨false, [], vS (Instr.loadAt 3 (.pointer (some ⟨g1, 3, none⟩))), .int .i64 d_Control_Moves1⟩, ⟨true, [(decide ((0 : Int) < d_Control_Moves1), true)], vS (Instr.indexAt 99 (.pointer (some ⟨g1, 9, none⟩)) (.int .i64 (bAnd d_Clock_Moves1 1))), .pointer (some ((⟨g1, 9, none⟩ : Addr).add (Int.toNat (bAnd d_Clock_Moves1 1) * 1)))⟩, ⟨false, [(decide ((0 : Int) < d_Control_Moves1), true)], vS (Instr.loadAt 3 (.pointer (some ((⟨g1, 9, none⟩ : Addr).add (Int.toNat (bAnd d_Clock_Moves1 1) * 1))))), .int .i64 (geti (d_made1.set (Int.toNat (bAnd d_Clock_Moves1 1)) (w64 ((geti d_made1 (bAnd d_Clock_Moves1 1)) + 1))) (bAnd d_Clock_Moves1 1))⟩, ⟨false, [(decide ((0 : Int) < d_Control_Moves1), true)], vS (Instr.loadAt 3 (.pointer (some ⟨g1, 3, none⟩))), .int .i64 d_Control_Moves1⟩, ⟨true, [(decide ((0 : Int) < d_Control_Moves1), true)], vS (Op.intDiv .rem .i64 (geti (d_made1.set (Int.toNat (bAnd d_Clock_Moves1 1)) (w64 ((geti d_made1 (bAnd d_Clock_Moves1 1)) + 1))) (bAnd d_Clock_Moves1 1)) d_Control_Moves1), .int .i64 (Int.tmod (geti (d_made1.set (Int.toNat (bAnd d_Clock_Moves1 1)) (w64 ((geti d_made1 (bAnd d_Clock_Moves1 1)) + 1))) (bAnd d_Clock_Moves1 1)) d_Control_Moves1)⟩] [none, none, none, none, some (.int .i64 d_Control_Moves1), none, none, none, none, none, none, some (.pointer (some ((⟨g1, 9, none⟩ : Addr).add (Int.toNat (bAnd d_Clock_Moves1 1) * 1)))), some (.int .i64 (geti (d_made1.set (Int.toNat (bAnd d_Clock_Moves1 1)) (w64 ((geti d_made1 (bAnd d_Clock_Moves1 1)) + 1))) (bAnd d_Clock_Moves1 1))), none, none, none, none, some (.int .i64 d_Control_Moves1), some (.int .i64 (Int.tmod (geti (d_made1.set (Int.toNat (bAnd d_Clock_Moves1 1)) (w64 ((geti d_made1 (bAnd d_Clock_Moves1 1)) + 1))) (bAnd d_Clock_Moves1 1)) d_Control_Moves1)), none, none] [0, 6, 123] [pl 0 (.pointer (some ⟨g1, 0, none⟩)), pl 6 (.pointer (some ((⟨g1, 5, none⟩ : Addr).add (Int.toNat (bAnd d_Clock_Moves1 1) * 1)))), pl 123 (.bool ((decide ((0 : Int) < d_Control_Moves1)) && ((Int.tmod (geti (d_made1.set (Int.toNat (bAnd d_Clock_Moves1 1)) (w64 ((geti d_made1 (bAnd d_Clock_Moves1 1)) + 1))) (bAnd d_Clock_Moves1 1)) d_Control_Moves1) == 0)))] hF hS Fol (by kernel_rfl) (by kernel_rfl) (by kernel_rfl) ?_ (fun a w hF hS => ?_)
          · exact obs_cons (ob_load Agg3 (fun _ _ hS => (hS.at_ 0 rfl).cell rfl)) <| obs_cons (ob_ixA UndA99 hi3 hs3 (fun hy => hp9 (hy (decide ((0 : Int) < d_Control_Moves1), true) (by simp)))) <| obs_cons (ob_getA (m := (d_made1.set (Int.toNat (bAnd d_Clock_Moves1 1)) (w64 ((geti d_made1 (bAnd d_Clock_Moves1 1)) + 1)))) (Value.int .i64) (0 : Int) 2 (([.int .i64 d_Control_Base1, .int .i64 d_Control_Kind1, .int .i64 d_Control_Bonus1, .int .i64 d_Control_Moves1, .int .i64 d_Control_More1] : List Value) ++ (arr1 (Value.int .i64) (0 : Int) 2 d5 ++ ([.int .i64 d_Clock_Fallen1, .int .i64 (w64 (d_Clock_Moves1 + 1))] : List Value))) ([] : List Value) (bAnd d_Clock_Moves1 1) Agg3 rfl (fun _ hS => ⟨_, _, _, _, _, hS.at_ 0 rfl⟩) (fun hy => by have h0 := hp9 (hy (decide ((0 : Int) < d_Control_Moves1), true) (by simp)); omega)) <| obs_cons (ob_load Agg3 (fun _ _ hS => (hS.at_ 0 rfl).cell rfl)) <| obs_cons (ob_rem rfl (fun hy => hp10 (hy (decide ((0 : Int) < d_Control_Moves1), true) (by simp)))) <| obs_nil
          refine cond_ev (t := 123) (b := (decide ((0 : Int) < d_Control_Moves1)) && ((Int.tmod (geti (d_made1.set (Int.toNat (bAnd d_Clock_Moves1 1)) (w64 ((geti d_made1 (bAnd d_Clock_Moves1 1)) + 1))) (bAnd d_Clock_Moves1 1)) d_Control_Moves1) == 0)) hF (by kernel_rfl) (fun hb => ?_) (fun hb => ?_)
          · replace hm := if_t hm hb
            obtain ⟨hp11, hm⟩ := asrt_b hm
            refine regMix4 [0, 1, 2, 3, 4, 5, 6, 7, 8, 9] [10] [⟨false, [], vS (Instr.loadAt 3 (.pointer (some ((⟨g1, 5, none⟩ : Addr).add (Int.toNat (bAnd d_Clock_Moves1 1) * 1))))), .int .i64 (geti d5 (bAnd d_Clock_Moves1 1))⟩, ⟨false, [], vS (Instr.loadAt 3 (.pointer (some ⟨g1, 4, none⟩))), .int .i64 d_Control_More1⟩] [none, none, some (.int .i64 (geti d5 (bAnd d_Clock_Moves1 1))), none, none, none, none, some (.int .i64 d_Control_More1), none, none] [132, 133] [pl 132 (.int .i64 (w64 ((geti d5 (bAnd d_Clock_Moves1 1)) + d_Control_More1))), pl 133 (.pointer (some ((⟨g1, 5, none⟩ : Addr).add (Int.toNat (bAnd d_Clock_Moves1 1) * 1))))] hF hS Fol (by kernel_rfl) (by kernel_rfl) (by kernel_rfl) (by kernel_rfl) (by kernel_rfl) ?_ (fun a w hF hS => ?_)
            · exact obs_cons (ob_getA (m := d5) (Value.int .i64) (0 : Int) 2 ([.int .i64 d_Control_Base1, .int .i64 d_Control_Kind1, .int .i64 d_Control_Bonus1, .int .i64 d_Control_Moves1, .int .i64 d_Control_More1] : List Value) (([.int .i64 d_Clock_Fallen1, .int .i64 (w64 (d_Clock_Moves1 + 1))] : List Value) ++ (arr1 (Value.int .i64) (0 : Int) 2 (d_made1.set (Int.toNat (bAnd d_Clock_Moves1 1)) (w64 ((geti d_made1 (bAnd d_Clock_Moves1 1)) + 1))) ++ ([] : List Value))) (bAnd d_Clock_Moves1 1) Agg3 rfl (fun _ hS => ⟨_, _, _, _, _, hS.at_ 0 rfl⟩) (fun hy => by have h0 := hp1; omega)) <| obs_cons (ob_load Agg3 (fun _ _ hS => (hS.at_ 0 rfl).cell rfl)) <| obs_nil
            obtain ⟨w, hrun, hS⟩ := run_setA (P := Try.prog) (t := 3) (x := (w64 ((geti d5 (bAnd d_Clock_Moves1 1)) + d_Control_More1))) (i := (bAnd d_Clock_Moves1 1)) (m := d5) (d := Int.toNat (bAnd d_Clock_Moves1 1) * 1) (Value.int .i64) (0 : Int) 2 ([.int .i64 d_Control_Base1, .int .i64 d_Control_Kind1, .int .i64 d_Control_Bonus1, .int .i64 d_Control_Moves1, .int .i64 d_Control_More1] : List Value) (([.int .i64 d_Clock_Fallen1, .int .i64 (w64 (d_Clock_Moves1 + 1))] : List Value) ++ (arr1 (Value.int .i64) (0 : Int) 2 (d_made1.set (Int.toNat (bAnd d_Clock_Moves1 1)) (w64 ((geti d_made1 (bAnd d_Clock_Moves1 1)) + 1))) ++ ([] : List Value))) (hS.at_ 0 rfl) rfl hi3 hs3 rfl (by have h0 := hp1; omega) (by have h0 := hp1; have h9 := hp11; omega)
            refine at_skip hF (by kernel_rfl) hrun ?_
            have hS : Sep w0 B w (blk g1 172 (List.toArray (([.int .i64 d_Control_Base1, .int .i64 d_Control_Kind1, .int .i64 d_Control_Bonus1, .int .i64 d_Control_Moves1, .int .i64 d_Control_More1] : List Value) ++ (arr1 (Value.int .i64) (0 : Int) 2 (d5.set (Int.toNat (bAnd d_Clock_Moves1 1)) (w64 ((geti d5 (bAnd d_Clock_Moves1 1)) + d_Control_More1))) ++ (([.int .i64 d_Clock_Fallen1, .int .i64 (w64 (d_Clock_Moves1 + 1))] : List Value) ++ (arr1 (Value.int .i64) (0 : Int) 2 (d_made1.set (Int.toNat (bAnd d_Clock_Moves1 1)) (w64 ((geti d_made1 (bAnd d_Clock_Moves1 1)) + 1))) ++ ([] : List Value)))))) :: fs) := hS
            refine at_end [] [] hF rfl (by kernel_rfl) (fun hF => ?_)
            refine np_n ?_
            refine then_n ?_
            exact ⟨(d5.set (Int.toNat (bAnd d_Clock_Moves1 1)) (w64 ((geti d5 (bAnd d_Clock_Moves1 1)) + d_Control_More1))), hF.weak [] (by kernel_rfl), hS, hm⟩
          · replace hm := if_f hm hb
            refine wp_skip ?_
            refine then_n ?_
            exact ⟨d5, hF.weak [] (by kernel_rfl), hS, hm⟩
      · refine reg [⟨false, [], vS (Instr.loadAt 3 (.pointer (some ⟨g1, 1, none⟩))), .int .i64 d_Control_Kind1⟩] [none, none, none, none, some (.int .i64 d_Control_Kind1)] [0, 1, 5, 6, 57] [pl 0 (.pointer (some ⟨g1, 0, none⟩)), pl 1 (.int .i64 used1), pl 5 (.int .i64 (bAnd d_Clock_Moves1 1)), pl 6 (.pointer (some ((⟨g1, 5, none⟩ : Addr).add (Int.toNat (bAnd d_Clock_Moves1 1) * 1)))), pl 57 (.int .i64 d_Control_Kind1)] hF hS Fol (by kernel_rfl) (by kernel_rfl) (by kernel_rfl) ?_ (fun a w hF hS => ?_)
        · exact obs_cons (ob_load Agg3 (fun _ _ hS => (hS.at_ 0 rfl).cell rfl)) <| obs_nil
        refine wp_block ?_
        refine reg [] [] [0, 1, 5, 6, 57, 58] [pl 0 (.pointer (some ⟨g1, 0, none⟩)), pl 1 (.int .i64 used1), pl 5 (.int .i64 (bAnd d_Clock_Moves1 1)), pl 6 (.pointer (some ((⟨g1, 5, none⟩ : Addr).add (Int.toNat (bAnd d_Clock_Moves1 1) * 1)))), pl 57 (.int .i64 d_Control_Kind1), pl 58 (.bool (d_Control_Kind1 == 1))] hF hS Fol (by kernel_rfl) (by kernel_rfl) (by kernel_rfl) ?_ (fun a w hF hS => ?_)
        · exact obs_nil
        refine cond_ev (t := 58) (b := (d_Control_Kind1 == 1)) hF (by kernel_rfl) (fun hb => ?_) (fun hb => ?_)
        · replace hm := if_t hm hb
          obtain ⟨hp4, hm⟩ := asrt_b hm
          refine regMix4 [0, 1, 2, 3, 4, 5, 6, 7, 8, 9] [10] [⟨false, [], vS (Instr.loadAt 3 (.pointer (some ((⟨g1, 5, none⟩ : Addr).add (Int.toNat (bAnd d_Clock_Moves1 1) * 1))))), .int .i64 (geti (d_Clock_Time1.set (Int.toNat (bAnd d_Clock_Moves1 1)) (w64 ((geti d_Clock_Time1 (bAnd d_Clock_Moves1 1)) - taken1))) (bAnd d_Clock_Moves1 1))⟩, ⟨false, [], vS (Instr.loadAt 3 (.pointer (some ⟨g1, 2, none⟩))), .int .i64 d_Control_Bonus1⟩] [none, none, some (.int .i64 (geti (d_Clock_Time1.set (Int.toNat (bAnd d_Clock_Moves1 1)) (w64 ((geti d_Clock_Time1 (bAnd d_Clock_Moves1 1)) - taken1))) (bAnd d_Clock_Moves1 1))), none, none, none, none, some (.int .i64 d_Control_Bonus1), none, none] [0, 5, 6, 68, 69] [pl 0 (.pointer (some ⟨g1, 0, none⟩)), pl 5 (.int .i64 (bAnd d_Clock_Moves1 1)), pl 6 (.pointer (some ((⟨g1, 5, none⟩ : Addr).add (Int.toNat (bAnd d_Clock_Moves1 1) * 1)))), pl 68 (.int .i64 (w64 ((geti (d_Clock_Time1.set (Int.toNat (bAnd d_Clock_Moves1 1)) (w64 ((geti d_Clock_Time1 (bAnd d_Clock_Moves1 1)) - taken1))) (bAnd d_Clock_Moves1 1)) + d_Control_Bonus1))), pl 69 (.pointer (some ((⟨g1, 5, none⟩ : Addr).add (Int.toNat (bAnd d_Clock_Moves1 1) * 1))))] hF hS Fol (by kernel_rfl) (by kernel_rfl) (by kernel_rfl) (by kernel_rfl) (by kernel_rfl) ?_ (fun a w hF hS => ?_)
          · exact obs_cons (ob_getA (m := (d_Clock_Time1.set (Int.toNat (bAnd d_Clock_Moves1 1)) (w64 ((geti d_Clock_Time1 (bAnd d_Clock_Moves1 1)) - taken1)))) (Value.int .i64) (0 : Int) 2 ([.int .i64 d_Control_Base1, .int .i64 d_Control_Kind1, .int .i64 d_Control_Bonus1, .int .i64 d_Control_Moves1, .int .i64 d_Control_More1] : List Value) (([.int .i64 d_Clock_Fallen1, .int .i64 d_Clock_Moves1] : List Value) ++ (arr1 (Value.int .i64) (0 : Int) 2 d_made1 ++ ([] : List Value))) (bAnd d_Clock_Moves1 1) Agg3 rfl (fun _ hS => ⟨_, _, _, _, _, hS.at_ 0 rfl⟩) (fun hy => by have h0 := hp1; omega)) <| obs_cons (ob_load Agg3 (fun _ _ hS => (hS.at_ 0 rfl).cell rfl)) <| obs_nil
          obtain ⟨w, hrun, hS⟩ := run_setA (P := Try.prog) (t := 3) (x := (w64 ((geti (d_Clock_Time1.set (Int.toNat (bAnd d_Clock_Moves1 1)) (w64 ((geti d_Clock_Time1 (bAnd d_Clock_Moves1 1)) - taken1))) (bAnd d_Clock_Moves1 1)) + d_Control_Bonus1))) (i := (bAnd d_Clock_Moves1 1)) (m := (d_Clock_Time1.set (Int.toNat (bAnd d_Clock_Moves1 1)) (w64 ((geti d_Clock_Time1 (bAnd d_Clock_Moves1 1)) - taken1)))) (d := Int.toNat (bAnd d_Clock_Moves1 1) * 1) (Value.int .i64) (0 : Int) 2 ([.int .i64 d_Control_Base1, .int .i64 d_Control_Kind1, .int .i64 d_Control_Bonus1, .int .i64 d_Control_Moves1, .int .i64 d_Control_More1] : List Value) (([.int .i64 d_Clock_Fallen1, .int .i64 d_Clock_Moves1] : List Value) ++ (arr1 (Value.int .i64) (0 : Int) 2 d_made1 ++ ([] : List Value))) (hS.at_ 0 rfl) rfl hi3 hs3 rfl (by have h0 := hp1; omega) (by have h0 := hp1; have h9 := hp4; omega)
          refine at_skip hF (by kernel_rfl) hrun ?_
          have hS : Sep w0 B w (blk g1 172 (List.toArray (([.int .i64 d_Control_Base1, .int .i64 d_Control_Kind1, .int .i64 d_Control_Bonus1, .int .i64 d_Control_Moves1, .int .i64 d_Control_More1] : List Value) ++ (arr1 (Value.int .i64) (0 : Int) 2 ((d_Clock_Time1.set (Int.toNat (bAnd d_Clock_Moves1 1)) (w64 ((geti d_Clock_Time1 (bAnd d_Clock_Moves1 1)) - taken1))).set (Int.toNat (bAnd d_Clock_Moves1 1)) (w64 ((geti (d_Clock_Time1.set (Int.toNat (bAnd d_Clock_Moves1 1)) (w64 ((geti d_Clock_Time1 (bAnd d_Clock_Moves1 1)) - taken1))) (bAnd d_Clock_Moves1 1)) + d_Control_Bonus1))) ++ (([.int .i64 d_Clock_Fallen1, .int .i64 d_Clock_Moves1] : List Value) ++ (arr1 (Value.int .i64) (0 : Int) 2 d_made1 ++ ([] : List Value)))))) :: fs) := hS
          refine at_end [0, 5, 6] [pl 0 (.pointer (some ⟨g1, 0, none⟩)), pl 5 (.int .i64 (bAnd d_Clock_Moves1 1)), pl 6 (.pointer (some ((⟨g1, 5, none⟩ : Addr).add (Int.toNat (bAnd d_Clock_Moves1 1) * 1))))] hF rfl (by kernel_rfl) (fun hF => ?_)
          refine np_n ?_
          refine block_n ?_
          refine then_n ?_
          exact ⟨((d_Clock_Time1.set (Int.toNat (bAnd d_Clock_Moves1 1)) (w64 ((geti d_Clock_Time1 (bAnd d_Clock_Moves1 1)) - taken1))).set (Int.toNat (bAnd d_Clock_Moves1 1)) (w64 ((geti (d_Clock_Time1.set (Int.toNat (bAnd d_Clock_Moves1 1)) (w64 ((geti d_Clock_Time1 (bAnd d_Clock_Moves1 1)) - taken1))) (bAnd d_Clock_Moves1 1)) + d_Control_Bonus1))), hF.weak [0, 5, 6] (by kernel_rfl), hS, hm⟩
        · replace hm := if_f hm hb
          refine reg [] [] [0, 1, 5, 6, 70] [pl 0 (.pointer (some ⟨g1, 0, none⟩)), pl 1 (.int .i64 used1), pl 5 (.int .i64 (bAnd d_Clock_Moves1 1)), pl 6 (.pointer (some ((⟨g1, 5, none⟩ : Addr).add (Int.toNat (bAnd d_Clock_Moves1 1) * 1)))), pl 70 (.bool (d_Control_Kind1 == 2))] hF hS Fol (by kernel_rfl) (by kernel_rfl) (by kernel_rfl) ?_ (fun a w hF hS => ?_)
          · exact obs_nil
          refine cond_ev (t := 70) (b := (d_Control_Kind1 == 2)) hF (by kernel_rfl) (fun hb => ?_) (fun hb => ?_)
          · replace hm := if_t hm hb
            obtain ⟨hp5, hm⟩ := asrt_b hm
            refine regMix4 [0, 1, 2, 3, 4, 5, 6, 7, 8, 9, 10, 11] [12] [⟨false, [], vS (Instr.loadAt 3 (.pointer (some ((⟨g1, 5, none⟩ : Addr).add (Int.toNat (bAnd d_Clock_Moves1 1) * 1))))), .int .i64 (geti (d_Clock_Time1.set (Int.toNat (bAnd d_Clock_Moves1 1)) (w64 ((geti d_Clock_Time1 (bAnd d_Clock_Moves1 1)) - taken1))) (bAnd d_Clock_Moves1 1))⟩, ⟨false, [], vS (Instr.loadAt 3 (.pointer (some ⟨g1, 2, none⟩))), .int .i64 d_Control_Bonus1⟩, ⟨true, [], vS (Builtin.min_ #[3, 3] 3 #[.int .i64 d_Control_Bonus1, .int .i64 used1]), .int .i64 (minI d_Control_Bonus1 used1)⟩] [none, none, some (.int .i64 (geti (d_Clock_Time1.set (Int.toNat (bAnd d_Clock_Moves1 1)) (w64 ((geti d_Clock_Time1 (bAnd d_Clock_Moves1 1)) - taken1))) (bAnd d_Clock_Moves1 1))), none, none, none, none, some (.int .i64 d_Control_Bonus1), none, some (.int .i64 (minI d_Control_Bonus1 used1)), none, none] [0, 5, 6, 82, 83] [pl 0 (.pointer (some ⟨g1, 0, none⟩)), pl 5 (.int .i64 (bAnd d_Clock_Moves1 1)), pl 6 (.pointer (some ((⟨g1, 5, none⟩ : Addr).add (Int.toNat (bAnd d_Clock_Moves1 1) * 1)))), pl 82 (.int .i64 (w64 ((geti (d_Clock_Time1.set (Int.toNat (bAnd d_Clock_Moves1 1)) (w64 ((geti d_Clock_Time1 (bAnd d_Clock_Moves1 1)) - taken1))) (bAnd d_Clock_Moves1 1)) + (minI d_Control_Bonus1 used1)))), pl 83 (.pointer (some ((⟨g1, 5, none⟩ : Addr).add (Int.toNat (bAnd d_Clock_Moves1 1) * 1))))] hF hS Fol (by kernel_rfl) (by kernel_rfl) (by kernel_rfl) (by kernel_rfl) (by kernel_rfl) ?_ (fun a w hF hS => ?_)
            · exact obs_cons (ob_getA (m := (d_Clock_Time1.set (Int.toNat (bAnd d_Clock_Moves1 1)) (w64 ((geti d_Clock_Time1 (bAnd d_Clock_Moves1 1)) - taken1)))) (Value.int .i64) (0 : Int) 2 ([.int .i64 d_Control_Base1, .int .i64 d_Control_Kind1, .int .i64 d_Control_Bonus1, .int .i64 d_Control_Moves1, .int .i64 d_Control_More1] : List Value) (([.int .i64 d_Clock_Fallen1, .int .i64 d_Clock_Moves1] : List Value) ++ (arr1 (Value.int .i64) (0 : Int) 2 d_made1 ++ ([] : List Value))) (bAnd d_Clock_Moves1 1) Agg3 rfl (fun _ hS => ⟨_, _, _, _, _, hS.at_ 0 rfl⟩) (fun hy => by have h0 := hp1; omega)) <| obs_cons (ob_load Agg3 (fun _ _ hS => (hS.at_ 0 rfl).cell rfl)) <| obs_cons (ob_min rfl) <| obs_nil
            obtain ⟨w, hrun, hS⟩ := run_setA (P := Try.prog) (t := 3) (x := (w64 ((geti (d_Clock_Time1.set (Int.toNat (bAnd d_Clock_Moves1 1)) (w64 ((geti d_Clock_Time1 (bAnd d_Clock_Moves1 1)) - taken1))) (bAnd d_Clock_Moves1 1)) + (minI d_Control_Bonus1 used1)))) (i := (bAnd d_Clock_Moves1 1)) (m := (d_Clock_Time1.set (Int.toNat (bAnd d_Clock_Moves1 1)) (w64 ((geti d_Clock_Time1 (bAnd d_Clock_Moves1 1)) - taken1)))) (d := Int.toNat (bAnd d_Clock_Moves1 1) * 1) (Value.int .i64) (0 : Int) 2 ([.int .i64 d_Control_Base1, .int .i64 d_Control_Kind1, .int .i64 d_Control_Bonus1, .int .i64 d_Control_Moves1, .int .i64 d_Control_More1] : List Value) (([.int .i64 d_Clock_Fallen1, .int .i64 d_Clock_Moves1] : List Value) ++ (arr1 (Value.int .i64) (0 : Int) 2 d_made1 ++ ([] : List Value))) (hS.at_ 0 rfl) rfl hi3 hs3 rfl (by have h0 := hp1; omega) (by have h0 := hp1; have h9 := hp5; omega)
            refine at_skip hF (by kernel_rfl) hrun ?_
            have hS : Sep w0 B w (blk g1 172 (List.toArray (([.int .i64 d_Control_Base1, .int .i64 d_Control_Kind1, .int .i64 d_Control_Bonus1, .int .i64 d_Control_Moves1, .int .i64 d_Control_More1] : List Value) ++ (arr1 (Value.int .i64) (0 : Int) 2 ((d_Clock_Time1.set (Int.toNat (bAnd d_Clock_Moves1 1)) (w64 ((geti d_Clock_Time1 (bAnd d_Clock_Moves1 1)) - taken1))).set (Int.toNat (bAnd d_Clock_Moves1 1)) (w64 ((geti (d_Clock_Time1.set (Int.toNat (bAnd d_Clock_Moves1 1)) (w64 ((geti d_Clock_Time1 (bAnd d_Clock_Moves1 1)) - taken1))) (bAnd d_Clock_Moves1 1)) + (minI d_Control_Bonus1 used1)))) ++ (([.int .i64 d_Clock_Fallen1, .int .i64 d_Clock_Moves1] : List Value) ++ (arr1 (Value.int .i64) (0 : Int) 2 d_made1 ++ ([] : List Value)))))) :: fs) := hS
            refine at_end [0, 5, 6] [pl 0 (.pointer (some ⟨g1, 0, none⟩)), pl 5 (.int .i64 (bAnd d_Clock_Moves1 1)), pl 6 (.pointer (some ((⟨g1, 5, none⟩ : Addr).add (Int.toNat (bAnd d_Clock_Moves1 1) * 1))))] hF rfl (by kernel_rfl) (fun hF => ?_)
            refine np_n ?_
            refine block_n ?_
            refine then_n ?_
            exact ⟨((d_Clock_Time1.set (Int.toNat (bAnd d_Clock_Moves1 1)) (w64 ((geti d_Clock_Time1 (bAnd d_Clock_Moves1 1)) - taken1))).set (Int.toNat (bAnd d_Clock_Moves1 1)) (w64 ((geti (d_Clock_Time1.set (Int.toNat (bAnd d_Clock_Moves1 1)) (w64 ((geti d_Clock_Time1 (bAnd d_Clock_Moves1 1)) - taken1))) (bAnd d_Clock_Moves1 1)) + (minI d_Control_Bonus1 used1)))), hF.weak [0, 5, 6] (by kernel_rfl), hS, hm⟩
          · replace hm := if_f hm hb
            refine wp_skip ?_
            refine block_n ?_
            refine then_n ?_
            exact ⟨(d_Clock_Time1.set (Int.toNat (bAnd d_Clock_Moves1 1)) (w64 ((geti d_Clock_Time1 (bAnd d_Clock_Moves1 1)) - taken1))), hF.weak [0, 5, 6] (by kernel_rfl), hS, hm⟩
    · refine reg [⟨false, [], vS (Instr.loadAt 3 (.pointer (some ((⟨g1, 5, none⟩ : Addr).add (Int.toNat (bAnd d_Clock_Moves1 1) * 1))))), .int .i64 (geti d_Clock_Time1 (bAnd d_Clock_Moves1 1))⟩] [none, none, none, some (.int .i64 (geti d_Clock_Time1 (bAnd d_Clock_Moves1 1))), none] [0, 1, 5, 6, 7, 39] [pl 0 (.pointer (some ⟨g1, 0, none⟩)), pl 1 (.int .i64 used1), pl 5 (.int .i64 (bAnd d_Clock_Moves1 1)), pl 6 (.pointer (some ((⟨g1, 5, none⟩ : Addr).add (Int.toNat (bAnd d_Clock_Moves1 1) * 1)))), pl 7 (.int .i64 taken1), pl 39 (.bool (decide ((geti d_Clock_Time1 (bAnd d_Clock_Moves1 1)) < taken1)))] hF hS Fol (by kernel_rfl) (by kernel_rfl) (by kernel_rfl) ?_ (fun a w hF hS => ?_)
      · exact obs_cons (ob_getA (m := d_Clock_Time1) (Value.int .i64) (0 : Int) 2 ([.int .i64 d_Control_Base1, .int .i64 d_Control_Kind1, .int .i64 d_Control_Bonus1, .int .i64 d_Control_Moves1, .int .i64 d_Control_More1] : List Value) (([.int .i64 d_Clock_Fallen1, .int .i64 d_Clock_Moves1] : List Value) ++ (arr1 (Value.int .i64) (0 : Int) 2 d_made1 ++ ([] : List Value))) (bAnd d_Clock_Moves1 1) Agg3 rfl (fun _ hS => ⟨_, _, _, _, _, hS.at_ 0 rfl⟩) (fun hy => by have h0 := hp1; omega)) <| obs_nil
      refine cond_ev (t := 39) (b := decide ((geti d_Clock_Time1 (bAnd d_Clock_Moves1 1)) < taken1)) hF (by kernel_rfl) (fun hb => ?_) (fun hb => ?_)
      · replace hm := if_t hm hb
        refine seqR ?_
        obtain ⟨hp2, hm⟩ := asrt_b hm
        refine at_run 2 [] [] [0, 5, 41] [pl 0 (.pointer (some ⟨g1, 0, none⟩)), pl 5 (.int .i64 (bAnd d_Clock_Moves1 1)), pl 41 (.pointer (some ((⟨g1, 5, none⟩ : Addr).add (Int.toNat (bAnd d_Clock_Moves1 1) * 1))))] hF hS (by kernel_rfl) (by kernel_rfl) ?_ (fun a w hF hS => ?_)
        · exact obs_nil
        obtain ⟨w, hrun, hS⟩ := run_setA (P := Try.prog) (t := 3) (x := 0) (i := (bAnd d_Clock_Moves1 1)) (m := d_Clock_Time1) (d := Int.toNat (bAnd d_Clock_Moves1 1) * 1) (Value.int .i64) (0 : Int) 2 ([.int .i64 d_Control_Base1, .int .i64 d_Control_Kind1, .int .i64 d_Control_Bonus1, .int .i64 d_Control_Moves1, .int .i64 d_Control_More1] : List Value) (([.int .i64 d_Clock_Fallen1, .int .i64 d_Clock_Moves1] : List Value) ++ (arr1 (Value.int .i64) (0 : Int) 2 d_made1 ++ ([] : List Value))) (hS.at_ 0 rfl) rfl hi3 hs3 rfl (by have h0 := hp1; omega) (by have h0 := hp1; have h9 := hp2; omega)
        refine at_skip hF (by kernel_rfl) hrun ?_
        have hS : Sep w0 B w (blk g1 172 (List.toArray (([.int .i64 d_Control_Base1, .int .i64 d_Control_Kind1, .int .i64 d_Control_Bonus1, .int .i64 d_Control_Moves1, .int .i64 d_Control_More1] : List Value) ++ (arr1 (Value.int .i64) (0 : Int) 2 (d_Clock_Time1.set (Int.toNat (bAnd d_Clock_Moves1 1)) 0) ++ (([.int .i64 d_Clock_Fallen1, .int .i64 d_Clock_Moves1] : List Value) ++ (arr1 (Value.int .i64) (0 : Int) 2 d_made1 ++ ([] : List Value)))))) :: fs) := hS
        refine at_end [0, 5] [pl 0 (.pointer (some ⟨g1, 0, none⟩)), pl 5 (.int .i64 (bAnd d_Clock_Moves1 1))] hF rfl (by kernel_rfl) (fun hF => ?_)
        refine then_n ?_
        refine seqR ?_
        refine at_run 5 [] [] [43, 46] [pl 43 (.int .i64 (bAnd d_Clock_Moves1 1)), pl 46 (.pointer (some ⟨g1, 7, none⟩))] hF hS (by kernel_rfl) (by kernel_rfl) ?_ (fun a w hF hS => ?_)
        · exact obs_nil
        obtain ⟨w, hrun, hS⟩ := run_put (P := Try.prog) (t := 3) (u := .int .i64 (bAnd d_Clock_Moves1 1)) (i := 7) (hS.at_ 0 rfl) hi3 hs3 rfl (Nat.lt_of_lt_of_eq (Nat.lt_of_succ_le (Nat.le_of_ble_eq_true (by kernel_rfl))) rfl)
        refine at_skip hF (by kernel_rfl) hrun ?_
        have hS : Sep w0 B w (blk g1 172 (List.toArray (([.int .i64 d_Control_Base1, .int .i64 d_Control_Kind1, .int .i64 d_Control_Bonus1, .int .i64 d_Control_Moves1, .int .i64 d_Control_More1] : List Value) ++ (arr1 (Value.int .i64) (0 : Int) 2 (d_Clock_Time1.set (Int.toNat (bAnd d_Clock_Moves1 1)) 0) ++ (([.int .i64 (bAnd d_Clock_Moves1 1), .int .i64 d_Clock_Moves1] : List Value) ++ (arr1 (Value.int .i64) (0 : Int) 2 d_made1 ++ ([] : List Value)))))) :: fs) := hS
        refine at_end [] [] hF rfl (by kernel_rfl) (fun hF => ?_)
        refine then_n ?_
        refine reg [] [] [4] [pl 4 (.bool false)] hF hS Fol (by kernel_rfl) (by kernel_rfl) (by kernel_rfl) ?_ (fun a w hF hS => ?_)
        · exact obs_nil
        refine wp_ret ?_
        refine then_r ?_
        have hm : some (false, (d_Clock_Time1.set (Int.toNat (bAnd d_Clock_Moves1 1)) 0), (bAnd d_Clock_Moves1 1), d_Clock_Moves1, d_made1) = some r := hm
        obtain rfl := Option.some.inj hm
        exact retV (rs := [.tmp 4]) (vs := [.bool false]) hF rfl (rv_t (by kernel_rfl) <| rv_nil) rfl ⟨_, rfl, rfl, hS⟩
      · replace hm := if_f hm hb
        refine wp_skip ?_
        refine then_n ?_
        exact ⟨hF.weak [0, 1, 5, 6, 7] (by kernel_rfl), hS, hm⟩
  · refine reg [⟨false, [], vS (Instr.loadAt 3 (.pointer (some ⟨g1, 1, none⟩))), .int .i64 d_Control_Kind1⟩] [none, none, none, none, some (.int .i64 d_Control_Kind1), none] [0, 1, 5, 6, 7, 26] [pl 0 (.pointer (some ⟨g1, 0, none⟩)), pl 1 (.int .i64 used1), pl 5 (.int .i64 (bAnd d_Clock_Moves1 1)), pl 6 (.pointer (some ((⟨g1, 5, none⟩ : Addr).add (Int.toNat (bAnd d_Clock_Moves1 1) * 1)))), pl 7 (.int .i64 used1), pl 26 (.bool (d_Control_Kind1 == 3))] hF hS Fol (by kernel_rfl) (by kernel_rfl) (by kernel_rfl) ?_ (fun a w hF hS => ?_)
    · exact obs_cons (ob_load Agg3 (fun _ _ hS => (hS.at_ 0 rfl).cell rfl)) <| obs_nil
    refine cond_ev (t := 26) (b := (d_Control_Kind1 == 3)) hF (by kernel_rfl) (fun hb => ?_) (fun hb => ?_)
    · replace hm := if_t hm hb
      refine reg1 [⟨false, [], vS (Instr.loadAt 3 (.pointer (some ⟨g1, 2, none⟩))), .int .i64 d_Control_Bonus1⟩, ⟨true, [], vS (Builtin.max_ #[3, 3] 3 #[.int .i64 (w64 (used1 - d_Control_Bonus1)), .int .i64 0]), .int .i64 (maxI (w64 (used1 - d_Control_Bonus1)) 0)⟩] [none, none, none, none, none, some (.int .i64 d_Control_Bonus1), none, some (.int .i64 (maxI (w64 (used1 - d_Control_Bonus1)) 0)), none] [0, 1, 5, 6, 7] [pl 0 (.pointer (some ⟨g1, 0, none⟩)), pl 1 (.int .i64 used1), pl 5 (.int .i64 (bAnd d_Clock_Moves1 1)), pl 6 (.pointer (some ((⟨g1, 5, none⟩ : Addr).add (Int.toNat (bAnd d_Clock_Moves1 1) * 1)))), pl 7 (.int .i64 (maxI (w64 (used1 - d_Control_Bonus1)) 0))] hF hS Fol (by kernel_rfl) (by kernel_rfl) (by kernel_rfl) ?_ (fun a w hF hS => ?_)
      · exact obs_cons (ob_load Agg3 (fun _ _ hS => (hS.at_ 0 rfl).cell rfl)) <| obs_cons (ob_max rfl) <| obs_nil
      refine then_n ?_
      exact ⟨(maxI (w64 (used1 - d_Control_Bonus1)) 0), hF.weak [0, 1, 5, 6, 7] (by kernel_rfl), hS, hm⟩
    · replace hm := if_f hm hb
      refine wp_skip ?_
      refine then_n ?_
      exact ⟨used1, hF.weak [0, 1, 5, 6, 7] (by kernel_rfl), hS, hm⟩

noncomputable def clock_device_runs_2_J3 (z1 : Int) (d13 : List Int) (d14 : Int) (d15 : Int) (d16 : List Int) : Option (St (List Int × Int × Int × List Int × Int) (Fl (List Int × Int × Int × List Int) (Int × List Int × Int × Int × List Int))) :=
  some (.next (d13, d14, d15, d16, (w64 (z1 + 1))))

noncomputable def clock_device_runs_2_J4 (d_Control_Base1 : Int) (d_Control_Kind1 : Int) (d_Control_Bonus1 : Int) (d_Control_Moves1 : Int) (d_Control_More1 : Int) (used1 : List Int) (d5 : List Int) (d6 : Int) (d7 : Int) (d8 : List Int) (z1 : Int) : Option (St (List Int × Int × Int × List Int × Int) (Fl (List Int × Int × Int × List Int) (Int × List Int × Int × Int × List Int))) :=
  (clock_device_press_m d_Control_Base1 d_Control_Kind1 d_Control_Bonus1 d_Control_Moves1 d_Control_More1 d5 d6 d7 d8 (geti used1 z1)).bind fun r2 => if r2.1 then ((clock_Run_1_m).bind fun r3 => (clock_device_runs_2_J3 z1) r2.2.1 r2.2.2.1 r2.2.2.2.1 r2.2.2.2.2) else ((clock_device_runs_2_J3 z1) r2.2.1 r2.2.2.1 r2.2.2.2.1 r2.2.2.2.2)

noncomputable def clock_device_runs_2_J2 (d_Control_Base1 : Int) (d_Control_Kind1 : Int) (d_Control_Bonus1 : Int) (d_Control_Moves1 : Int) (d_Control_More1 : Int) (used1 : List Int) (d5 : List Int) (d6 : Int) (d7 : Int) (d8 : List Int) (z1 : Int) : Option (St (List Int × Int × Int × List Int × Int) (Fl (List Int × Int × Int × List Int) (Int × List Int × Int × Int × List Int))) :=
  asrt (0 ≤ z1 ∧ z1 < (used1.length : Int)) <| if (decide ((0 : Int) ≤ d6)) then (some (.done (.ret (9, d5, d6, d7, d8)))) else ((clock_device_runs_2_J4 d_Control_Base1 d_Control_Kind1 d_Control_Bonus1 d_Control_Moves1 d_Control_More1 used1 d5 d6 d7 d8 z1))

noncomputable def clock_device_runs_2_J1 (d9 : List Int) (d10 : Int) (d11 : Int) (d12 : List Int) : Option (Int × List Int × Int × Int × List Int) :=
  some (0, d9, d10, d11, d12)

noncomputable def clock_device_runs_2_K1 : (Fl (List Int × Int × Int × List Int) (Int × List Int × Int × Int × List Int)) → Option (Int × List Int × Int × Int × List Int) :=
  fun (x : (Fl (List Int × Int × Int × List Int) (Int × List Int × Int × Int × List Int))) => match x with | .go (d9, d10, d11, d12) => clock_device_runs_2_J1 d9 d10 d11 d12 | .ret x => some x

noncomputable def clock_device_runs_2_L1 (d_Control_Base1 : Int) (d_Control_Kind1 : Int) (d_Control_Bonus1 : Int) (d_Control_Moves1 : Int) (d_Control_More1 : Int) (used1 : List Int) : (List Int × Int × Int × List Int × Int) → Option (St (List Int × Int × Int × List Int × Int) (Fl (List Int × Int × Int × List Int) (Int × List Int × Int × Int × List Int))) :=
  fun (x : (List Int × Int × Int × List Int × Int)) => match x with | (d5, d6, d7, d8, z1) => if (decide (z1 < (used1.length : Int))) then ((clock_device_runs_2_J2 d_Control_Base1 d_Control_Kind1 d_Control_Bonus1 d_Control_Moves1 d_Control_More1 used1 d5 d6 d7 d8 z1)) else (some (.done (.go (d5, d6, d7, d8))))

noncomputable def clock_device_runs_2_m (d_Control_Base1 : Int) (d_Control_Kind1 : Int) (d_Control_Bonus1 : Int) (d_Control_Moves1 : Int) (d_Control_More1 : Int) (d_Clock_Time1 : List Int) (d_Clock_Fallen1 : Int) (d_Clock_Moves1 : Int) (d_made1 : List Int) (used1 : List Int) : Option (Int × List Int × Int × Int × List Int) :=
  (clock_Run_1_m).bind fun r1 => (loop (clock_device_runs_2_L1 d_Control_Base1 d_Control_Kind1 d_Control_Bonus1 d_Control_Moves1 d_Control_More1 used1) (d_Clock_Time1, d_Clock_Fallen1, d_Clock_Moves1, d_made1, 0)).bind clock_device_runs_2_K1

set_option maxRecDepth 100000 in
set_option maxHeartbeats 4000000 in
theorem clock_device_runs_2_w {g1 : Nat} {d_Control_Base1 : Int} {d_Control_Kind1 : Int} {d_Control_Bonus1 : Int} {d_Control_Moves1 : Int} {d_Control_More1 : Int} {d_Clock_Time1 : List Int} {d_Clock_Fallen1 : Int} {d_Clock_Moves1 : Int} {d_made1 : List Int} {A1 : Option Addr} {c1 : Nat} {n1 : Nat} {used1 : List Int} {r : (Int × List Int × Int × Int × List Int)} {w0 w : World} {B : Nat} {fs : List HP} (hm : clock_device_runs_2_m d_Control_Base1 d_Control_Kind1 d_Control_Bonus1 d_Control_Moves1 d_Control_More1 d_Clock_Time1 d_Clock_Fallen1 d_Clock_Moves1 d_made1 used1 = some r) (hS : Sep w0 B w (blk g1 172 (List.toArray (([.int .i64 d_Control_Base1, .int .i64 d_Control_Kind1, .int .i64 d_Control_Bonus1, .int .i64 d_Control_Moves1, .int .i64 d_Control_More1] : List Value) ++ (arr1 (Value.int .i64) (0 : Int) 2 d_Clock_Time1 ++ (([.int .i64 d_Clock_Fallen1, .int .i64 d_Clock_Moves1] : List Value) ++ (arr1 (Value.int .i64) (0 : Int) 2 d_made1 ++ ([] : List Value)))))) :: fs)) (hr_used1 : RdF w0 B fs A1 (vI used1)) (_hc_used1 : used1.length ≤ c1) (_hn_used1 : n1 = used1.length) :
    Calls Try.prog 122 #[.pointer (some ⟨g1, 0, none⟩), .slice A1 n1 c1, .func (.func 123) #[] #[]] w fun e w' => ∃ v, e = .returned v ∧ v = .int .i64 r.1 ∧ Sep w0 B w' (blk g1 172 (List.toArray (([.int .i64 d_Control_Base1, .int .i64 d_Control_Kind1, .int .i64 d_Control_Bonus1, .int .i64 d_Control_Moves1, .int .i64 d_Control_More1] : List Value) ++ (arr1 (Value.int .i64) (0 : Int) 2 r.2.1 ++ (([.int .i64 r.2.2.1, .int .i64 r.2.2.2.1] : List Value) ++ (arr1 (Value.int .i64) (0 : Int) 2 r.2.2.2.2 ++ ([] : List Value)))))) :: fs) := by
  obtain ⟨i3, hi3, hz3, hs3, hb3⟩ := info_parts Info3
  obtain rfl := _hn_used1
  unfold clock_device_runs_2_m at hm
  replace hm := start_b hm
  refine enter (l := [.pointer (some ⟨g1, 0, none⟩), .slice A1 used1.length c1, .func (.func 123) #[] #[]]) (n := 29) Try.func122 rfl rfl (by simp) (fun a hF => ?_)
  refine reg [] [] [0, 1, 2] [pl 0 (.pointer (some ⟨g1, 0, none⟩)), pl 1 (.slice A1 used1.length c1), pl 2 (.func (.func 123) #[] #[])] hF hS Fol (by kernel_rfl) (by kernel_rfl) (by kernel_rfl) ?_ (fun a w hF hS => ?_)
  · exact obs_nil
  obtain ⟨r1, hr1, hm⟩ := call_b hm
  refine reg [⟨false, [], callFunc 123 #[], .tuple #[]⟩] [none, some (.tuple #[])] [0, 1, 2] [pl 0 (.pointer (some ⟨g1, 0, none⟩)), pl 1 (.slice A1 used1.length c1), pl 2 (.func (.func 123) #[] #[])] hF hS Fol (by kernel_rfl) (by kernel_rfl) (by kernel_rfl) ?_ (fun a w hF hS => ?_)
  · exact obs_cons (ob_call Try.func123 (by kernel_rfl) rfl (fun _ _ hS => clock_Run_1_w hr1 hS )) <| obs_nil
  refine seq_cut (fun a w => ∃ (d9 : List Int) (d10 : Int) (d11 : Int) (d12 : List Int), Fr 29 [] a ∧ Sep w0 B w (blk g1 172 (List.toArray (([.int .i64 d_Control_Base1, .int .i64 d_Control_Kind1, .int .i64 d_Control_Bonus1, .int .i64 d_Control_Moves1, .int .i64 d_Control_More1] : List Value) ++ (arr1 (Value.int .i64) (0 : Int) 2 d9 ++ (([.int .i64 d10, .int .i64 d11] : List Value) ++ (arr1 (Value.int .i64) (0 : Int) 2 d12 ++ ([] : List Value)))))) :: fs) ∧ (clock_device_runs_2_J1 d9 d10 d11 d12).bind some = some r) ?_ ?_
  · rintro a w ⟨d9, d10, d11, d12, hF, hS, hm⟩
    unfold clock_device_runs_2_J1 at hm
    refine reg [] [] [6] [pl 6 (.int .i64 0)] hF hS Fol (by kernel_rfl) (by kernel_rfl) (by kernel_rfl) ?_ (fun a w hF hS => ?_)
    · exact obs_nil
    refine wp_ret ?_
    have hm : some (0, d9, d10, d11, d12) = some r := hm
    obtain rfl := Option.some.inj hm
    exact retV (rs := [.tmp 6]) (vs := [.int .i64 0]) hF rfl (rv_t (by kernel_rfl) <| rv_nil) rfl ⟨_, rfl, rfl, hS⟩
  · refine reg [] [] [0, 2, 11, 12, 13] [pl 0 (.pointer (some ⟨g1, 0, none⟩)), pl 2 (.func (.func 123) #[] #[]), pl 11 (.slice A1 used1.length c1), pl 12 (.int .i64 (used1.length : Int)), pl 13 (.int .i64 0)] hF hS Fol (by kernel_rfl) (by kernel_rfl) (by kernel_rfl) ?_ (fun a w hF hS => ?_)
    · exact obs_nil
    refine wp_block ?_
    refine wp_loop_model (S := (List Int × Int × Int × List Int × Int)) (R := (Fl (List Int × Int × Int × List Int) (Int × List Int × Int × Int × List Int))) (clock_device_runs_2_L1 d_Control_Base1 d_Control_Kind1 d_Control_Bonus1 d_Control_Moves1 d_Control_More1 used1) (fun x => (clock_device_runs_2_K1 x).bind some) r (fun (x : (List Int × Int × Int × List Int × Int)) a w => Fr 29 [pl 0 (.pointer (some ⟨g1, 0, none⟩)), pl 2 (.func (.func 123) #[] #[]), pl 11 (.slice A1 used1.length c1), pl 12 (.int .i64 (used1.length : Int)), pl 13 (.int .i64 x.2.2.2.2)] a ∧ Sep w0 B w (blk g1 172 (List.toArray (([.int .i64 d_Control_Base1, .int .i64 d_Control_Kind1, .int .i64 d_Control_Bonus1, .int .i64 d_Control_Moves1, .int .i64 d_Control_More1] : List Value) ++ (arr1 (Value.int .i64) (0 : Int) 2 x.1 ++ (([.int .i64 x.2.1, .int .i64 x.2.2.1] : List Value) ++ (arr1 (Value.int .i64) (0 : Int) 2 x.2.2.2.1 ++ ([] : List Value)))))) :: fs)) (assoc_b hm) ⟨hF.weak [0, 2, 11, 12, 13] (by kernel_rfl), hS⟩ ?_
    clear hF hS hm
    rintro nn1 ⟨d5, d6, d7, d8, z1⟩ a w ⟨hF, hS⟩ hm
    generalize hφ1 : stK (clock_device_runs_2_L1 d_Control_Base1 d_Control_Kind1 d_Control_Bonus1 d_Control_Moves1 d_Control_More1 used1) nn1 (fun x => (clock_device_runs_2_K1 x).bind some) = φ1 at hm
    unfold clock_device_runs_2_L1 at hm
    dsimp only at hF hS hm
    refine reg [] [] [0, 2, 11, 12, 13, 14] [pl 0 (.pointer (some ⟨g1, 0, none⟩)), pl 2 (.func (.func 123) #[] #[]), pl 11 (.slice A1 used1.length c1), pl 12 (.int .i64 (used1.length : Int)), pl 13 (.int .i64 z1), pl 14 (.bool (decide (z1 < (used1.length : Int))))] hF hS Fol (by kernel_rfl) (by kernel_rfl) (by kernel_rfl) ?_ (fun a w hF hS => ?_)
    · exact obs_nil
    refine seq_cut (fun a w => Fr 29 [pl 0 (.pointer (some ⟨g1, 0, none⟩)), pl 2 (.func (.func 123) #[] #[]), pl 11 (.slice A1 used1.length c1), pl 12 (.int .i64 (used1.length : Int)), pl 13 (.int .i64 z1)] a ∧ Sep w0 B w (blk g1 172 (List.toArray (([.int .i64 d_Control_Base1, .int .i64 d_Control_Kind1, .int .i64 d_Control_Bonus1, .int .i64 d_Control_Moves1, .int .i64 d_Control_More1] : List Value) ++ (arr1 (Value.int .i64) (0 : Int) 2 d5 ++ (([.int .i64 d6, .int .i64 d7] : List Value) ++ (arr1 (Value.int .i64) (0 : Int) 2 d8 ++ ([] : List Value)))))) :: fs) ∧ ((clock_device_runs_2_J2 d_Control_Base1 d_Control_Kind1 d_Control_Bonus1 d_Control_Moves1 d_Control_More1 used1 d5 d6 d7 d8 z1)).bind φ1 = some r) ?_ ?_
    · rintro a w ⟨hF, hS, hm⟩
      unfold clock_device_runs_2_J2 at hm
      refine seq_cut (fun a w => ∃ (d13 : List Int) (d14 : Int) (d15 : Int) (d16 : List Int), Fr 29 [pl 0 (.pointer (some ⟨g1, 0, none⟩)), pl 2 (.func (.func 123) #[] #[]), pl 11 (.slice A1 used1.length c1), pl 12 (.int .i64 (used1.length : Int)), pl 13 (.int .i64 z1)] a ∧ Sep w0 B w (blk g1 172 (List.toArray (([.int .i64 d_Control_Base1, .int .i64 d_Control_Kind1, .int .i64 d_Control_Bonus1, .int .i64 d_Control_Moves1, .int .i64 d_Control_More1] : List Value) ++ (arr1 (Value.int .i64) (0 : Int) 2 d13 ++ (([.int .i64 d14, .int .i64 d15] : List Value) ++ (arr1 (Value.int .i64) (0 : Int) 2 d16 ++ ([] : List Value)))))) :: fs) ∧ ((clock_device_runs_2_J3 z1) d13 d14 d15 d16).bind φ1 = some r) ?_ ?_
      · rintro a w ⟨d13, d14, d15, d16, hF, hS, hm⟩
        unfold clock_device_runs_2_J3 at hm
        refine reg1 [] [] [0, 2, 11, 12, 13] [pl 0 (.pointer (some ⟨g1, 0, none⟩)), pl 2 (.func (.func 123) #[] #[]), pl 11 (.slice A1 used1.length c1), pl 12 (.int .i64 (used1.length : Int)), pl 13 (.int .i64 (w64 (z1 + 1)))] hF hS Fol (by kernel_rfl) (by kernel_rfl) (by kernel_rfl) ?_ (fun a w hF hS => ?_)
        · exact obs_nil
        refine then_n ?_
        rw [← hφ1] at hm
        exact ⟨(d13, d14, d15, d16, (w64 (z1 + 1))), ⟨hF.weak [0, 2, 11, 12, 13] (by kernel_rfl), hS⟩, hm⟩
      · refine wp_block ?_
        obtain ⟨hp1, hm⟩ := asrt_b hm
        refine reg [⟨true, [], vS (Instr.indexAt 40 (.slice A1 used1.length c1) (.int .i64 z1)), .pointer (some (sAddr A1 z1))⟩, ⟨false, [], vS (Instr.loadAt 3 (.pointer (some (sAddr A1 z1)))), .int .i64 (geti used1 z1)⟩] [some (.pointer (some (sAddr A1 z1))), some (.int .i64 (geti used1 z1)), none] [0, 2, 8, 11, 12, 13] [pl 0 (.pointer (some ⟨g1, 0, none⟩)), pl 2 (.func (.func 123) #[] #[]), pl 8 (.int .i64 (geti used1 z1)), pl 11 (.slice A1 used1.length c1), pl 12 (.int .i64 (used1.length : Int)), pl 13 (.int .i64 z1)] hF hS Fol (by kernel_rfl) (by kernel_rfl) (by kernel_rfl) ?_ (fun a w hF hS => ?_)
        · exact obs_cons (ob_ix1 (f := (Value.int .i64)) (m := used1) Und40 hi3 hs3 (hr_used1 _ (hS.dropN 1)) rfl (fun _ => hp1)) <| obs_cons (ob_get1 (n := used1.length) (m := used1) (Value.int .i64) (0 : Int) Agg3 (fun _ hS => ⟨_, (hr_used1 _ (hS.dropN 1))⟩) (fun _ hS => rfl) (fun _ => hp1)) <| obs_nil
        refine seq_cut (fun a w => Fr 29 [pl 0 (.pointer (some ⟨g1, 0, none⟩)), pl 2 (.func (.func 123) #[] #[]), pl 8 (.int .i64 (geti used1 z1)), pl 11 (.slice A1 used1.length c1), pl 12 (.int .i64 (used1.length : Int)), pl 13 (.int .i64 z1)] a ∧ Sep w0 B w (blk g1 172 (List.toArray (([.int .i64 d_Control_Base1, .int .i64 d_Control_Kind1, .int .i64 d_Control_Bonus1, .int .i64 d_Control_Moves1, .int .i64 d_Control_More1] : List Value) ++ (arr1 (Value.int .i64) (0 : Int) 2 d5 ++ (([.int .i64 d6, .int .i64 d7] : List Value) ++ (arr1 (Value.int .i64) (0 : Int) 2 d8 ++ ([] : List Value)))))) :: fs) ∧ ((clock_device_runs_2_J4 d_Control_Base1 d_Control_Kind1 d_Control_Bonus1 d_Control_Moves1 d_Control_More1 used1 d5 d6 d7 d8 z1)).bind φ1 = some r) ?_ ?_
        · rintro a w ⟨hF, hS, hm⟩
          unfold clock_device_runs_2_J4 at hm
          refine seqR ?_
          obtain ⟨r2, hr2, hm⟩ := call_b hm
          refine at_run 2 [] [] [0, 2, 11, 12, 13, 23, 24] [pl 0 (.pointer (some ⟨g1, 0, none⟩)), pl 2 (.func (.func 123) #[] #[]), pl 11 (.slice A1 used1.length c1), pl 12 (.int .i64 (used1.length : Int)), pl 13 (.int .i64 z1), pl 23 (.pointer (some ⟨g1, 0, none⟩)), pl 24 (.int .i64 (geti used1 z1))] hF hS (by kernel_rfl) (by kernel_rfl) ?_ (fun a w hF hS => ?_)
          · exact obs_nil
          refine at_call (f := 155) (args := #[.pointer (some ⟨g1, 0, none⟩), .int .i64 (geti used1 z1)]) (d := 25) hF (by kernel_rfl) (by kernel_rfl) Try.func155 (by kernel_rfl) rfl (clock_device_press_w hr2 hS ) (fun v a w hR hF => ?_)
          clear hS
          obtain ⟨rfl, hS⟩ := hR
          have hS : Sep w0 B w (blk g1 172 (List.toArray (([.int .i64 d_Control_Base1, .int .i64 d_Control_Kind1, .int .i64 d_Control_Bonus1, .int .i64 d_Control_Moves1, .int .i64 d_Control_More1] : List Value) ++ (arr1 (Value.int .i64) (0 : Int) 2 r2.2.1 ++ (([.int .i64 r2.2.2.1, .int .i64 r2.2.2.2.1] : List Value) ++ (arr1 (Value.int .i64) (0 : Int) 2 r2.2.2.2.2 ++ ([] : List Value)))))) :: fs) := hS
          refine at_end [0, 2, 11, 12, 13, 25] [pl 0 (.pointer (some ⟨g1, 0, none⟩)), pl 2 (.func (.func 123) #[] #[]), pl 11 (.slice A1 used1.length c1), pl 12 (.int .i64 (used1.length : Int)), pl 13 (.int .i64 z1), pl 25 (.bool r2.1)] hF rfl (by kernel_rfl) (fun hF => ?_)
          refine then_n ?_
          refine cond_ev (t := 25) (b := r2.1) hF (by kernel_rfl) (fun hb => ?_) (fun hb => ?_)
          · replace hm := if_t hm hb
            obtain ⟨r3, hr3, hm⟩ := call_b hm
            refine reg1 [⟨false, [], callFunc 123 #[], .tuple #[]⟩] [none, some (.tuple #[])] [0, 2, 11, 12, 13] [pl 0 (.pointer (some ⟨g1, 0, none⟩)), pl 2 (.func (.func 123) #[] #[]), pl 11 (.slice A1 used1.length c1), pl 12 (.int .i64 (used1.length : Int)), pl 13 (.int .i64 z1)] hF hS Fol (by kernel_rfl) (by kernel_rfl) (by kernel_rfl) ?_ (fun a w hF hS => ?_)
            · exact obs_cons (ob_call Try.func123 (by kernel_rfl) rfl (fun _ _ hS => clock_Run_1_w hr3 hS )) <| obs_nil
            refine block_n ?_
            refine then_n ?_
            exact ⟨r2.2.1, r2.2.2.1, r2.2.2.2.1, r2.2.2.2.2, hF.weak [0, 2, 11, 12, 13] (by kernel_rfl), hS, hm⟩
          · replace hm := if_f hm hb
            refine wp_skip ?_
            refine block_n ?_
            refine then_n ?_
            exact ⟨r2.2.1, r2.2.2.1, r2.2.2.2.1, r2.2.2.2.2, hF.weak [0, 2, 11, 12, 13] (by kernel_rfl), hS, hm⟩
        · refine reg [⟨false, [], vS (Instr.loadAt 3 (.pointer (some ⟨g1, 7, none⟩))), .int .i64 d6⟩] [none, none, none, none, some (.int .i64 d6), none] [0, 2, 8, 11, 12, 13, 22] [pl 0 (.pointer (some ⟨g1, 0, none⟩)), pl 2 (.func (.func 123) #[] #[]), pl 8 (.int .i64 (geti used1 z1)), pl 11 (.slice A1 used1.length c1), pl 12 (.int .i64 (used1.length : Int)), pl 13 (.int .i64 z1), pl 22 (.bool (decide ((0 : Int) ≤ d6)))] hF hS Fol (by kernel_rfl) (by kernel_rfl) (by kernel_rfl) ?_ (fun a w hF hS => ?_)
          · exact obs_cons (ob_load Agg3 (fun _ _ hS => (hS.at_ 0 rfl).cell rfl)) <| obs_nil
          refine cond_ev (t := 22) (b := decide ((0 : Int) ≤ d6)) hF (by kernel_rfl) (fun hb => ?_) (fun hb => ?_)
          · replace hm := if_t hm hb
            refine reg [] [] [6] [pl 6 (.int .i64 9)] hF hS Fol (by kernel_rfl) (by kernel_rfl) (by kernel_rfl) ?_ (fun a w hF hS => ?_)
            · exact obs_nil
            refine wp_ret ?_
            refine then_r (block_r (then_r (then_r (block_r (then_r ?_)))))
            rw [← hφ1] at hm
            replace hm := done_b hm
            unfold clock_device_runs_2_K1 at hm
            try dsimp only at hm
            have hm : some (9, d5, d6, d7, d8) = some r := hm
            obtain rfl := Option.some.inj hm
            exact retV (rs := [.tmp 6]) (vs := [.int .i64 9]) hF rfl (rv_t (by kernel_rfl) <| rv_nil) rfl ⟨_, rfl, rfl, hS⟩
          · replace hm := if_f hm hb
            refine wp_skip ?_
            refine then_n ?_
            exact ⟨hF.weak [0, 2, 8, 11, 12, 13] (by kernel_rfl), hS, hm⟩
    · refine cond_ev (t := 14) (b := decide (z1 < (used1.length : Int))) hF (by kernel_rfl) (fun hb => ?_) (fun hb => ?_)
      · replace hm := if_t hm hb
        refine wp_skip ?_
        refine then_n ?_
        exact ⟨hF.weak [0, 2, 11, 12, 13] (by kernel_rfl), hS, hm⟩
      · replace hm := if_f hm hb
        refine wp_exit ?_
        refine then_e (then_e (block_e (then_n ?_)))
        rw [← hφ1] at hm
        replace hm := done_b hm
        unfold clock_device_runs_2_K1 at hm
        try dsimp only at hm
        have hm : (clock_device_runs_2_J1 d5 d6 d7 d8).bind some = some r := hm
        exact ⟨d5, d6, d7, d8, hF.weak [] (by kernel_rfl), hS, hm⟩

noncomputable def clock_Run_J2 : Option (List Int × Int × Int × Int) :=
  none

noncomputable def clock_Run_J1 (used1 : List Int) : Option (List Int × Int × Int × Int) :=
  (clock_device_runs_m used1).bind fun r3 => if (r3 != 0) then (some ((List.replicate 2 (0 : Int)), 0, 0, r3)) else (clock_Run_J2)

noncomputable def clock_Run_J4 (d1 : List Int) (d2 : Int) (d3 : Int) (d4 : List Int) : Option (List Int × Int × Int × Int) :=
  some (d1, d2, d3, 0)

noncomputable def clock_Run_J3 (used1 : List Int) (r4 : (Int × Int × Int × Int × Int × List Int × List Int)) : Option (List Int × Int × Int × Int) :=
  (clock_device_runs_2_m r4.1 r4.2.1 r4.2.2.1 r4.2.2.2.1 r4.2.2.2.2.1 r4.2.2.2.2.2.1 (-1) 0 r4.2.2.2.2.2.2 used1).bind fun r5 => if (r5.1 != 0) then (some ((List.replicate 2 (0 : Int)), 0, 0, r5.1)) else (clock_Run_J4 r5.2.1 r5.2.2.1 r5.2.2.2.1 r5.2.2.2.2)

noncomputable def clock_Run_m (c1 : Int) (c2 : Int) (c3 : Int) (c4 : Int) (c5 : Int) (used1 : List Int) : Option (List Int × Int × Int × Int) :=
  (clock_newDevice_m c1 c2 c3 c4 c5 used1).bind fun r1 => Fl.elim2 r1 (fun (r2 : Int) => if (r2 != 0) then (some ((List.replicate 2 (0 : Int)), 0, 0, r2)) else ((clock_Run_J1 used1))) (fun (r4 : (Int × Int × Int × Int × Int × List Int × List Int)) => (clock_Run_J3 used1 r4))

set_option maxRecDepth 100000 in
set_option maxHeartbeats 4000000 in
theorem clock_Run_w {c1 : Int} {c2 : Int} {c3 : Int} {c4 : Int} {c5 : Int} {A1 : Option Addr} {c6 : Nat} {n1 : Nat} {used1 : List Int} {r : (List Int × Int × Int × Int)} {w0 w : World} {B : Nat} {fs : List HP} (hm : clock_Run_m c1 c2 c3 c4 c5 used1 = some r) (hS : Sep w0 B w (fs)) (hr_used1 : RdF w0 B fs A1 (vI used1)) (_hc_used1 : used1.length ≤ c6) (_hn_used1 : n1 = used1.length) :
    Calls Try.prog 68 #[.agg #[.int .i64 c1, .int .i64 c2, .int .i64 c3, .int .i64 c4, .int .i64 c5], .slice A1 n1 c6] w fun e w' => e = .returned (.tuple #[.agg (List.toArray (([] : List Value) ++ (arr1 (Value.int .i64) (0 : Int) 2 r.1 ++ ([.int .i64 r.2.1, .int .i64 r.2.2.1] : List Value)))), .int .i64 r.2.2.2]) ∧ Sep w0 B w' (fs) := by
  obtain ⟨i3, hi3, hz3, hs3, hb3⟩ := info_parts Info3
  obtain rfl := _hn_used1
  unfold clock_Run_m at hm
  replace hm := start_b hm
  refine enter (l := [.agg #[.int .i64 c1, .int .i64 c2, .int .i64 c3, .int .i64 c4, .int .i64 c5], .slice A1 used1.length c6]) (n := 30) Try.func68 rfl rfl (by simp) (fun a hF => ?_)
  refine seqR ?_
  refine at_do (d := 2) (s := vS (Instr.box 98 (.agg #[.int .i64 c1, .int .i64 c2, .int .i64 c3, .int .i64 c4, .int .i64 c5]))) (v := .pointer (some ⟨w.heap.size, 0, none⟩)) (w' := w.alloc (.cells #[.int .i64 c1, .int .i64 c2, .int .i64 c3, .int .i64 c4, .int .i64 c5] 98)) hF (by kernel_rfl) (by kernel_rfl) (by kernel_rfl) (fun a hF => ?_)
  have hS : Sep w0 B (w.alloc (.cells #[.int .i64 c1, .int .i64 c2, .int .i64 c3, .int .i64 c4, .int .i64 c5] 98)) (blk w.heap.size 98 #[.int .i64 c1, .int .i64 c2, .int .i64 c3, .int .i64 c4, .int .i64 c5] :: (fs)) := hS.box 98 #[.int .i64 c1, .int .i64 c2, .int .i64 c3, .int .i64 c4, .int .i64 c5]
  generalize w.heap.size = g1 at hF hS
  generalize w.alloc (.cells #[.int .i64 c1, .int .i64 c2, .int .i64 c3, .int .i64 c4, .int .i64 c5] 98) = w at hS ⊢
  refine at_do (d := 4) (s := vS (Instr.alloc 101 true (.tuple #[]))) (v := .pointer (some ⟨w.heap.size, 0, none⟩)) (w' := w.alloc (.cells (List.toArray (([] : List Value) ++ (arr1 (Value.int .i64) (0 : Int) 2 (List.replicate 2 (0 : Int)) ++ ([.int .i64 0, .int .i64 0] : List Value)))) 101)) hF (by kernel_rfl) (by kernel_rfl) (by kernel_rfl) (fun a hF => ?_)
  have hS : Sep w0 B (w.alloc (.cells (List.toArray (([] : List Value) ++ (arr1 (Value.int .i64) (0 : Int) 2 (List.replicate 2 (0 : Int)) ++ ([.int .i64 0, .int .i64 0] : List Value)))) 101)) (blk w.heap.size 101 (List.toArray (([] : List Value) ++ (arr1 (Value.int .i64) (0 : Int) 2 (List.replicate 2 (0 : Int)) ++ ([.int .i64 0, .int .i64 0] : List Value)))) :: (blk g1 98 #[.int .i64 c1, .int .i64 c2, .int .i64 c3, .int .i64 c4, .int .i64 c5] :: fs)) := hS.box 101 (List.toArray (([] : List Value) ++ (arr1 (Value.int .i64) (0 : Int) 2 (List.replicate 2 (0 : Int)) ++ ([.int .i64 0, .int .i64 0] : List Value))))
  generalize w.heap.size = g2 at hF hS
  generalize w.alloc (.cells (List.toArray (([] : List Value) ++ (arr1 (Value.int .i64) (0 : Int) 2 (List.replicate 2 (0 : Int)) ++ ([.int .i64 0, .int .i64 0] : List Value)))) 101) = w at hS ⊢
  refine at_run 1 [] [] [1, 2, 4] [pl 1 (.slice A1 used1.length c6), pl 2 (.pointer (some ⟨g1, 0, none⟩)), pl 4 (.pointer (some ⟨g2, 0, none⟩))] hF hS (by kernel_rfl) (by kernel_rfl) ?_ (fun a w hF hS => ?_)
  · exact obs_nil
  refine at_end [1, 2, 4] [pl 1 (.slice A1 used1.length c6), pl 2 (.pointer (some ⟨g1, 0, none⟩)), pl 4 (.pointer (some ⟨g2, 0, none⟩))] hF rfl (by kernel_rfl) (fun hF => ?_)
  refine then_n ?_
  refine seqR ?_
  obtain ⟨r1, hr1, hm⟩ := call_b hm
  refine at_run 2 [⟨false, [], vS (Instr.loadAt 98 (.pointer (some ⟨g1, 0, none⟩))), .agg #[.int .i64 c1, .int .i64 c2, .int .i64 c3, .int .i64 c4, .int .i64 c5]⟩] [some (.agg #[.int .i64 c1, .int .i64 c2, .int .i64 c3, .int .i64 c4, .int .i64 c5]), none] [1, 4, 10, 11] [pl 1 (.slice A1 used1.length c6), pl 4 (.pointer (some ⟨g2, 0, none⟩)), pl 10 (.agg #[.int .i64 c1, .int .i64 c2, .int .i64 c3, .int .i64 c4, .int .i64 c5]), pl 11 (.slice A1 used1.length c6)] hF hS (by kernel_rfl) (by kernel_rfl) ?_ (fun a w hF hS => ?_)
  · exact obs_cons (ob_loadA (cs := #[.int .i64 c1, .int .i64 c2, .int .i64 c3, .int .i64 c4, .int .i64 c5]) (by kernel_rfl) (by kernel_rfl) (fun _ _ hS => (hS.at_ 1 rfl).cellsAt 0 (by rfl))) <| obs_nil
  refine at_call (f := 121) (args := #[.agg #[.int .i64 c1, .int .i64 c2, .int .i64 c3, .int .i64 c4, .int .i64 c5], .slice A1 used1.length c6]) (d := 12) hF (by kernel_rfl) (by kernel_rfl) Try.func121 (by kernel_rfl) rfl (clock_newDevice_w hr1 hS (fun _ hS => (hr_used1 _ (hS.dropN 2))) _hc_used1 rfl) (fun v a w hR hF => ?_)
  clear hS
  rcases r1 with r2 | r4
  · replace hm := fl_go hm
    replace hR := flp_go hR
    obtain ⟨rfl, hS⟩ := hR
    have hS : Sep w0 B w (blk g2 101 (List.toArray (([] : List Value) ++ (arr1 (Value.int .i64) (0 : Int) 2 (List.replicate 2 (0 : Int)) ++ ([.int .i64 0, .int .i64 0] : List Value)))) :: blk g1 98 #[.int .i64 c1, .int .i64 c2, .int .i64 c3, .int .i64 c4, .int .i64 c5] :: fs) := hS
    refine at_run 5 [] [] [1, 4, 6, 7] [pl 1 (.slice A1 used1.length c6), pl 4 (.pointer (some ⟨g2, 0, none⟩)), pl 6 (.pointer none), pl 7 (.int .i64 r2)] hF hS (by kernel_rfl) (by kernel_rfl) ?_ (fun a w hF hS => ?_)
    · exact obs_nil
    refine at_end [1, 4, 6, 7] [pl 1 (.slice A1 used1.length c6), pl 4 (.pointer (some ⟨g2, 0, none⟩)), pl 6 (.pointer none), pl 7 (.int .i64 r2)] hF rfl (by kernel_rfl) (fun hF => ?_)
    refine then_n ?_
    refine seq_cut (fun a w => Fr 30 [pl 1 (.slice A1 used1.length c6), pl 4 (.pointer (some ⟨g2, 0, none⟩)), pl 6 (.pointer none)] a ∧ Sep w0 B w (blk g2 101 (List.toArray (([] : List Value) ++ (arr1 (Value.int .i64) (0 : Int) 2 (List.replicate 2 (0 : Int)) ++ ([.int .i64 0, .int .i64 0] : List Value)))) :: fs) ∧ ((clock_Run_J1 used1)).bind some = some r) ?_ ?_
    · rintro a w ⟨hF, hS, hm⟩
      unfold clock_Run_J1 at hm
      refine seq_cut (fun a w => Fr 30 [pl 4 (.pointer (some ⟨g2, 0, none⟩)), pl 6 (.pointer none)] a ∧ Sep w0 B w (blk g2 101 (List.toArray (([] : List Value) ++ (arr1 (Value.int .i64) (0 : Int) 2 (List.replicate 2 (0 : Int)) ++ ([.int .i64 0, .int .i64 0] : List Value)))) :: fs) ∧ (clock_Run_J2).bind some = some r) ?_ ?_
      · rintro a w ⟨hF, hS, hm⟩
        unfold clock_Run_J2 at hm
        simp at hm
      · refine seqR ?_
        obtain ⟨r3, hr2, hm⟩ := call_b hm
        refine at_run 2 [] [] [4, 6, 19, 20] [pl 4 (.pointer (some ⟨g2, 0, none⟩)), pl 6 (.pointer none), pl 19 (.pointer none), pl 20 (.slice A1 used1.length c6)] hF hS (by kernel_rfl) (by kernel_rfl) ?_ (fun a w hF hS => ?_)
        · exact obs_nil
        refine at_call (f := 122) (args := #[.pointer none, .slice A1 used1.length c6, .func (.func 123) #[] #[]]) (d := 21) hF (by kernel_rfl) (by kernel_rfl) Try.func122 (by kernel_rfl) rfl (show Calls Try.prog 122 #[.pointer none, .slice A1 used1.length c6, .func (.func 123) #[] #[]] w fun e w' => ∃ v, e = .returned v ∧ v = .int .i64 r3 ∧ Sep w0 B w' (blk g2 101 (List.toArray (([] : List Value) ++ (arr1 (Value.int .i64) (0 : Int) 2 (List.replicate 2 (0 : Int)) ++ ([.int .i64 0, .int .i64 0] : List Value)))) :: fs) from Calls.mono (clock_device_runs_w hr2 hS (fun _ hS => (hr_used1 _ (hS.dropN 1))) _hc_used1 rfl) (fun e w' h => ⟨_, h.1, rfl, h.2⟩)) (fun v a w hR hF => ?_)
        clear hS
        obtain ⟨rfl, hS⟩ := hR
        have hS : Sep w0 B w (blk g2 101 (List.toArray (([] : List Value) ++ (arr1 (Value.int .i64) (0 : Int) 2 (List.replicate 2 (0 : Int)) ++ ([.int .i64 0, .int .i64 0] : List Value)))) :: fs) := hS
        refine at_run 1 [] [] [4, 6, 8] [pl 4 (.pointer (some ⟨g2, 0, none⟩)), pl 6 (.pointer none), pl 8 (.int .i64 r3)] hF hS (by kernel_rfl) (by kernel_rfl) ?_ (fun a w hF hS => ?_)
        · exact obs_nil
        refine at_end [4, 6, 8] [pl 4 (.pointer (some ⟨g2, 0, none⟩)), pl 6 (.pointer none), pl 8 (.int .i64 r3)] hF rfl (by kernel_rfl) (fun hF => ?_)
        refine then_n ?_
        refine reg [] [] [4, 6, 8, 23] [pl 4 (.pointer (some ⟨g2, 0, none⟩)), pl 6 (.pointer none), pl 8 (.int .i64 r3), pl 23 (.bool (r3 != 0))] hF hS Fol (by kernel_rfl) (by kernel_rfl) (by kernel_rfl) ?_ (fun a w hF hS => ?_)
        · exact obs_nil
        refine cond_ev (t := 23) (b := (r3 != 0)) hF (by kernel_rfl) (fun hb => ?_) (fun hb => ?_)
        · replace hm := if_t hm hb
          refine seqR ?_
          refine at_run 2 [] [] [4, 24, 25] [pl 4 (.pointer (some ⟨g2, 0, none⟩)), pl 24 (.agg (List.toArray (([] : List Value) ++ (arr1 (Value.int .i64) (0 : Int) 2 (List.replicate 2 (0 : Int)) ++ ([.int .i64 0, .int .i64 0] : List Value))))), pl 25 (.int .i64 r3)] hF hS (by kernel_rfl) (by kernel_rfl) ?_ (fun a w hF hS => ?_)
          · exact obs_nil
          obtain ⟨w, hrun, hS⟩ := run_putA (P := Try.prog) (t := 101) (us := (List.toArray (([] : List Value) ++ (arr1 (Value.int .i64) (0 : Int) 2 (List.replicate 2 (0 : Int)) ++ ([.int .i64 0, .int .i64 0] : List Value))))) (o := 0) (hS.at_ 0 rfl) (by kernel_rfl) (all_one (by kernel_rfl)) (Nat.le_of_ble_eq_true (by kernel_rfl))
          refine at_skip hF (by kernel_rfl) hrun ?_
          have hS : Sep w0 B w (blk g2 101 (List.toArray (([] : List Value) ++ (arr1 (Value.int .i64) (0 : Int) 2 (List.replicate 2 (0 : Int)) ++ ([.int .i64 0, .int .i64 0] : List Value)))) :: fs) := hS
          refine at_run 1 [] [] [4, 5] [pl 4 (.pointer (some ⟨g2, 0, none⟩)), pl 5 (.int .i64 r3)] hF hS (by kernel_rfl) (by kernel_rfl) ?_ (fun a w hF hS => ?_)
          · exact obs_nil
          refine at_end [4, 5] [pl 4 (.pointer (some ⟨g2, 0, none⟩)), pl 5 (.int .i64 r3)] hF rfl (by kernel_rfl) (fun hF => ?_)
          refine then_n ?_
          refine wp_ret ?_
          refine then_r ?_
          have hld0 := run_loadVarA (P := Try.prog) (t := 101) (cs := (List.toArray (([] : List Value) ++ (arr1 (Value.int .i64) (0 : Int) 2 (List.replicate 2 (0 : Int)) ++ ([.int .i64 0, .int .i64 0] : List Value))))) (by kernel_rfl) (by kernel_rfl) ((hS.at_ 0 rfl).cellsAt 0 (by rfl))
          have hS := hS.pickN 1 [] (by decide)
          have hm : some ((List.replicate 2 (0 : Int)), 0, 0, r3) = some r := hm
          obtain rfl := Option.some.inj hm
          exact retV (rs := [.cell 4 101, .tmp 5]) (vs := [.agg (List.toArray (([] : List Value) ++ (arr1 (Value.int .i64) (0 : Int) 2 (List.replicate 2 (0 : Int)) ++ ([.int .i64 0, .int .i64 0] : List Value)))), .int .i64 r3]) hF rfl (rv_c (by kernel_rfl) hld0 <| rv_t (by kernel_rfl) <| rv_nil) rfl ⟨rfl, hS⟩
        · replace hm := if_f hm hb
          refine wp_skip ?_
          refine then_n ?_
          exact ⟨hF.weak [4, 6] (by kernel_rfl), hS, hm⟩
    · refine reg [] [] [1, 4, 6, 7, 16] [pl 1 (.slice A1 used1.length c6), pl 4 (.pointer (some ⟨g2, 0, none⟩)), pl 6 (.pointer none), pl 7 (.int .i64 r2), pl 16 (.bool (r2 != 0))] hF hS Fol (by kernel_rfl) (by kernel_rfl) (by kernel_rfl) ?_ (fun a w hF hS => ?_)
      · exact obs_nil
      refine cond_ev (t := 16) (b := (r2 != 0)) hF (by kernel_rfl) (fun hb => ?_) (fun hb => ?_)
      · replace hm := if_t hm hb
        refine seqR ?_
        refine at_run 2 [] [] [4, 17, 18] [pl 4 (.pointer (some ⟨g2, 0, none⟩)), pl 17 (.agg (List.toArray (([] : List Value) ++ (arr1 (Value.int .i64) (0 : Int) 2 (List.replicate 2 (0 : Int)) ++ ([.int .i64 0, .int .i64 0] : List Value))))), pl 18 (.int .i64 r2)] hF hS (by kernel_rfl) (by kernel_rfl) ?_ (fun a w hF hS => ?_)
        · exact obs_nil
        obtain ⟨w, hrun, hS⟩ := run_putA (P := Try.prog) (t := 101) (us := (List.toArray (([] : List Value) ++ (arr1 (Value.int .i64) (0 : Int) 2 (List.replicate 2 (0 : Int)) ++ ([.int .i64 0, .int .i64 0] : List Value))))) (o := 0) (hS.at_ 0 rfl) (by kernel_rfl) (all_one (by kernel_rfl)) (Nat.le_of_ble_eq_true (by kernel_rfl))
        refine at_skip hF (by kernel_rfl) hrun ?_
        have hS : Sep w0 B w (blk g2 101 (List.toArray (([] : List Value) ++ (arr1 (Value.int .i64) (0 : Int) 2 (List.replicate 2 (0 : Int)) ++ ([.int .i64 0, .int .i64 0] : List Value)))) :: blk g1 98 #[.int .i64 c1, .int .i64 c2, .int .i64 c3, .int .i64 c4, .int .i64 c5] :: fs) := hS
        refine at_run 1 [] [] [4, 5] [pl 4 (.pointer (some ⟨g2, 0, none⟩)), pl 5 (.int .i64 r2)] hF hS (by kernel_rfl) (by kernel_rfl) ?_ (fun a w hF hS => ?_)
        · exact obs_nil
        refine at_end [4, 5] [pl 4 (.pointer (some ⟨g2, 0, none⟩)), pl 5 (.int .i64 r2)] hF rfl (by kernel_rfl) (fun hF => ?_)
        refine then_n ?_
        refine wp_ret ?_
        refine then_r ?_
        have hld0 := run_loadVarA (P := Try.prog) (t := 101) (cs := (List.toArray (([] : List Value) ++ (arr1 (Value.int .i64) (0 : Int) 2 (List.replicate 2 (0 : Int)) ++ ([.int .i64 0, .int .i64 0] : List Value))))) (by kernel_rfl) (by kernel_rfl) ((hS.at_ 0 rfl).cellsAt 0 (by rfl))
        have hS := hS.pickN 2 [] (by decide)
        have hm : some ((List.replicate 2 (0 : Int)), 0, 0, r2) = some r := hm
        obtain rfl := Option.some.inj hm
        exact retV (rs := [.cell 4 101, .tmp 5]) (vs := [.agg (List.toArray (([] : List Value) ++ (arr1 (Value.int .i64) (0 : Int) 2 (List.replicate 2 (0 : Int)) ++ ([.int .i64 0, .int .i64 0] : List Value)))), .int .i64 r2]) hF rfl (rv_c (by kernel_rfl) hld0 <| rv_t (by kernel_rfl) <| rv_nil) rfl ⟨rfl, hS⟩
      · replace hm := if_f hm hb
        refine wp_skip ?_
        refine then_n ?_
        have hS := hS.pickN 2 [0] (by decide)
        exact ⟨hF.weak [1, 4, 6] (by kernel_rfl), hS, hm⟩
  · replace hm := fl_ret hm
    replace hR := flp_ret hR
    obtain ⟨g3, rfl, hS⟩ := hR
    have hS : Sep w0 B w (blk g3 172 (List.toArray (([.int .i64 r4.1, .int .i64 r4.2.1, .int .i64 r4.2.2.1, .int .i64 r4.2.2.2.1, .int .i64 r4.2.2.2.2.1] : List Value) ++ (arr1 (Value.int .i64) (0 : Int) 2 r4.2.2.2.2.2.1 ++ (([.int .i64 (-1), .int .i64 0] : List Value) ++ (arr1 (Value.int .i64) (0 : Int) 2 r4.2.2.2.2.2.2 ++ ([] : List Value)))))) :: blk g2 101 (List.toArray (([] : List Value) ++ (arr1 (Value.int .i64) (0 : Int) 2 (List.replicate 2 (0 : Int)) ++ ([.int .i64 0, .int .i64 0] : List Value)))) :: blk g1 98 #[.int .i64 c1, .int .i64 c2, .int .i64 c3, .int .i64 c4, .int .i64 c5] :: fs) := hS
    refine at_run 5 [] [] [1, 4, 6, 7] [pl 1 (.slice A1 used1.length c6), pl 4 (.pointer (some ⟨g2, 0, none⟩)), pl 6 (.pointer (some ⟨g3, 0, none⟩)), pl 7 (.int .i64 0)] hF hS (by kernel_rfl) (by kernel_rfl) ?_ (fun a w hF hS => ?_)
    · exact obs_nil
    refine at_end [1, 4, 6, 7] [pl 1 (.slice A1 used1.length c6), pl 4 (.pointer (some ⟨g2, 0, none⟩)), pl 6 (.pointer (some ⟨g3, 0, none⟩)), pl 7 (.int .i64 0)] hF rfl (by kernel_rfl) (fun hF => ?_)
    refine then_n ?_
    refine seq_cut (fun a w => Fr 30 [pl 1 (.slice A1 used1.length c6), pl 4 (.pointer (some ⟨g2, 0, none⟩)), pl 6 (.pointer (some ⟨g3, 0, none⟩))] a ∧ Sep w0 B w (blk g2 101 (List.toArray (([] : List Value) ++ (arr1 (Value.int .i64) (0 : Int) 2 (List.replicate 2 (0 : Int)) ++ ([.int .i64 0, .int .i64 0] : List Value)))) :: blk g3 172 (List.toArray (([.int .i64 r4.1, .int .i64 r4.2.1, .int .i64 r4.2.2.1, .int .i64 r4.2.2.2.1, .int .i64 r4.2.2.2.2.1] : List Value) ++ (arr1 (Value.int .i64) (0 : Int) 2 r4.2.2.2.2.2.1 ++ (([.int .i64 (-1), .int .i64 0] : List Value) ++ (arr1 (Value.int .i64) (0 : Int) 2 r4.2.2.2.2.2.2 ++ ([] : List Value)))))) :: fs) ∧ ((clock_Run_J3 used1 r4)).bind some = some r) ?_ ?_
    · rintro a w ⟨hF, hS, hm⟩
      unfold clock_Run_J3 at hm
      refine seq_cut (fun a w => ∃ (d1 : List Int) (d2 : Int) (d3 : Int) (d4 : List Int), Fr 30 [pl 4 (.pointer (some ⟨g2, 0, none⟩)), pl 6 (.pointer (some ⟨g3, 0, none⟩))] a ∧ Sep w0 B w (blk g2 101 (List.toArray (([] : List Value) ++ (arr1 (Value.int .i64) (0 : Int) 2 (List.replicate 2 (0 : Int)) ++ ([.int .i64 0, .int .i64 0] : List Value)))) :: blk g3 172 (List.toArray (([.int .i64 r4.1, .int .i64 r4.2.1, .int .i64 r4.2.2.1, .int .i64 r4.2.2.2.1, .int .i64 r4.2.2.2.2.1] : List Value) ++ (arr1 (Value.int .i64) (0 : Int) 2 d1 ++ (([.int .i64 d2, .int .i64 d3] : List Value) ++ (arr1 (Value.int .i64) (0 : Int) 2 d4 ++ ([] : List Value)))))) :: fs) ∧ (clock_Run_J4 d1 d2 d3 d4).bind some = some r) ?_ ?_
      · rintro a w ⟨d1, d2, d3, d4, hF, hS, hm⟩
        unfold clock_Run_J4 at hm
        refine seqR ?_
        refine at_run 4 [⟨false, [], vS (Instr.loadAt 101 (.pointer (some ⟨g3, 5, none⟩))), .agg (List.toArray (([] : List Value) ++ (arr1 (Value.int .i64) (0 : Int) 2 d1 ++ ([.int .i64 d2, .int .i64 d3] : List Value))))⟩] [none, none, none, some (.agg (List.toArray (([] : List Value) ++ (arr1 (Value.int .i64) (0 : Int) 2 d1 ++ ([.int .i64 d2, .int .i64 d3] : List Value)))))] [4, 29] [pl 4 (.pointer (some ⟨g2, 0, none⟩)), pl 29 (.agg (List.toArray (([] : List Value) ++ (arr1 (Value.int .i64) (0 : Int) 2 d1 ++ ([.int .i64 d2, .int .i64 d3] : List Value)))))] hF hS (by kernel_rfl) (by kernel_rfl) ?_ (fun a w hF hS => ?_)
        · exact obs_cons (ob_loadA (cs := (List.toArray (([] : List Value) ++ (arr1 (Value.int .i64) (0 : Int) 2 d1 ++ ([.int .i64 d2, .int .i64 d3] : List Value))))) (by kernel_rfl) (by kernel_rfl) (fun _ _ hS => (hS.at_ 1 rfl).cellsAt 5 (by rfl))) <| obs_nil
        obtain ⟨w, hrun, hS⟩ := run_putA (P := Try.prog) (t := 101) (us := (List.toArray (([] : List Value) ++ (arr1 (Value.int .i64) (0 : Int) 2 d1 ++ ([.int .i64 d2, .int .i64 d3] : List Value))))) (o := 0) (hS.at_ 0 rfl) (by kernel_rfl) (all_one (by kernel_rfl)) (Nat.le_of_ble_eq_true (by kernel_rfl))
        refine at_skip hF (by kernel_rfl) hrun ?_
        have hS : Sep w0 B w (blk g2 101 (List.toArray (([] : List Value) ++ (arr1 (Value.int .i64) (0 : Int) 2 d1 ++ ([.int .i64 d2, .int .i64 d3] : List Value)))) :: blk g3 172 (List.toArray (([.int .i64 r4.1, .int .i64 r4.2.1, .int .i64 r4.2.2.1, .int .i64 r4.2.2.2.1, .int .i64 r4.2.2.2.2.1] : List Value) ++ (arr1 (Value.int .i64) (0 : Int) 2 d1 ++ (([.int .i64 d2, .int .i64 d3] : List Value) ++ (arr1 (Value.int .i64) (0 : Int) 2 d4 ++ ([] : List Value)))))) :: fs) := hS
        refine at_run 1 [] [] [4, 5] [pl 4 (.pointer (some ⟨g2, 0, none⟩)), pl 5 (.int .i64 0)] hF hS (by kernel_rfl) (by kernel_rfl) ?_ (fun a w hF hS => ?_)
        · exact obs_nil
        refine at_end [4, 5] [pl 4 (.pointer (some ⟨g2, 0, none⟩)), pl 5 (.int .i64 0)] hF rfl (by kernel_rfl) (fun hF => ?_)
        refine then_n ?_
        refine wp_ret ?_
        have hld0 := run_loadVarA (P := Try.prog) (t := 101) (cs := (List.toArray (([] : List Value) ++ (arr1 (Value.int .i64) (0 : Int) 2 d1 ++ ([.int .i64 d2, .int .i64 d3] : List Value))))) (by kernel_rfl) (by kernel_rfl) ((hS.at_ 0 rfl).cellsAt 0 (by rfl))
        have hS := hS.pickN 2 [] (by decide)
        have hm : some (d1, d2, d3, 0) = some r := hm
        obtain rfl := Option.some.inj hm
        exact retV (rs := [.cell 4 101, .tmp 5]) (vs := [.agg (List.toArray (([] : List Value) ++ (arr1 (Value.int .i64) (0 : Int) 2 d1 ++ ([.int .i64 d2, .int .i64 d3] : List Value)))), .int .i64 0]) hF rfl (rv_c (by kernel_rfl) hld0 <| rv_t (by kernel_rfl) <| rv_nil) rfl ⟨rfl, hS⟩
      · refine seqR ?_
        obtain ⟨r5, hr3, hm⟩ := call_b hm
        refine at_run 2 [] [] [4, 6, 19, 20] [pl 4 (.pointer (some ⟨g2, 0, none⟩)), pl 6 (.pointer (some ⟨g3, 0, none⟩)), pl 19 (.pointer (some ⟨g3, 0, none⟩)), pl 20 (.slice A1 used1.length c6)] hF hS (by kernel_rfl) (by kernel_rfl) ?_ (fun a w hF hS => ?_)
        · exact obs_nil
        have hS : Sep w0 B w (blk g3 172 (List.toArray (([.int .i64 r4.1, .int .i64 r4.2.1, .int .i64 r4.2.2.1, .int .i64 r4.2.2.2.1, .int .i64 r4.2.2.2.2.1] : List Value) ++ (arr1 (Value.int .i64) (0 : Int) 2 r4.2.2.2.2.2.1 ++ (([.int .i64 (-1), .int .i64 0] : List Value) ++ (arr1 (Value.int .i64) (0 : Int) 2 r4.2.2.2.2.2.2 ++ ([] : List Value)))))) :: blk g2 101 (List.toArray (([] : List Value) ++ (arr1 (Value.int .i64) (0 : Int) 2 (List.replicate 2 (0 : Int)) ++ ([.int .i64 0, .int .i64 0] : List Value)))) :: fs) := hS.pickN 2 [1, 0] (by decide)
        refine at_call (f := 122) (args := #[.pointer (some ⟨g3, 0, none⟩), .slice A1 used1.length c6, .func (.func 123) #[] #[]]) (d := 21) hF (by kernel_rfl) (by kernel_rfl) Try.func122 (by kernel_rfl) rfl (clock_device_runs_2_w hr3 hS (fun _ hS => (hr_used1 _ (hS.dropN 1))) _hc_used1 rfl) (fun v a w hR hF => ?_)
        clear hS
        obtain ⟨rfl, hS⟩ := hR
        have hS : Sep w0 B w (blk g3 172 (List.toArray (([.int .i64 r4.1, .int .i64 r4.2.1, .int .i64 r4.2.2.1, .int .i64 r4.2.2.2.1, .int .i64 r4.2.2.2.2.1] : List Value) ++ (arr1 (Value.int .i64) (0 : Int) 2 r5.2.1 ++ (([.int .i64 r5.2.2.1, .int .i64 r5.2.2.2.1] : List Value) ++ (arr1 (Value.int .i64) (0 : Int) 2 r5.2.2.2.2 ++ ([] : List Value)))))) :: blk g2 101 (List.toArray (([] : List Value) ++ (arr1 (Value.int .i64) (0 : Int) 2 (List.replicate 2 (0 : Int)) ++ ([.int .i64 0, .int .i64 0] : List Value)))) :: fs) := hS
        refine at_run 1 [] [] [4, 6, 8] [pl 4 (.pointer (some ⟨g2, 0, none⟩)), pl 6 (.pointer (some ⟨g3, 0, none⟩)), pl 8 (.int .i64 r5.1)] hF hS (by kernel_rfl) (by kernel_rfl) ?_ (fun a w hF hS => ?_)
        · exact obs_nil
        refine at_end [4, 6, 8] [pl 4 (.pointer (some ⟨g2, 0, none⟩)), pl 6 (.pointer (some ⟨g3, 0, none⟩)), pl 8 (.int .i64 r5.1)] hF rfl (by kernel_rfl) (fun hF => ?_)
        refine then_n ?_
        refine reg [] [] [4, 6, 8, 23] [pl 4 (.pointer (some ⟨g2, 0, none⟩)), pl 6 (.pointer (some ⟨g3, 0, none⟩)), pl 8 (.int .i64 r5.1), pl 23 (.bool (r5.1 != 0))] hF hS Fol (by kernel_rfl) (by kernel_rfl) (by kernel_rfl) ?_ (fun a w hF hS => ?_)
        · exact obs_nil
        refine cond_ev (t := 23) (b := (r5.1 != 0)) hF (by kernel_rfl) (fun hb => ?_) (fun hb => ?_)
        · replace hm := if_t hm hb
          refine seqR ?_
          refine at_run 2 [] [] [4, 24, 25] [pl 4 (.pointer (some ⟨g2, 0, none⟩)), pl 24 (.agg (List.toArray (([] : List Value) ++ (arr1 (Value.int .i64) (0 : Int) 2 (List.replicate 2 (0 : Int)) ++ ([.int .i64 0, .int .i64 0] : List Value))))), pl 25 (.int .i64 r5.1)] hF hS (by kernel_rfl) (by kernel_rfl) ?_ (fun a w hF hS => ?_)
          · exact obs_nil
          obtain ⟨w, hrun, hS⟩ := run_putA (P := Try.prog) (t := 101) (us := (List.toArray (([] : List Value) ++ (arr1 (Value.int .i64) (0 : Int) 2 (List.replicate 2 (0 : Int)) ++ ([.int .i64 0, .int .i64 0] : List Value))))) (o := 0) (hS.at_ 1 rfl) (by kernel_rfl) (all_one (by kernel_rfl)) (Nat.le_of_ble_eq_true (by kernel_rfl))
          refine at_skip hF (by kernel_rfl) hrun ?_
          have hS : Sep w0 B w (blk g3 172 (List.toArray (([.int .i64 r4.1, .int .i64 r4.2.1, .int .i64 r4.2.2.1, .int .i64 r4.2.2.2.1, .int .i64 r4.2.2.2.2.1] : List Value) ++ (arr1 (Value.int .i64) (0 : Int) 2 r5.2.1 ++ (([.int .i64 r5.2.2.1, .int .i64 r5.2.2.2.1] : List Value) ++ (arr1 (Value.int .i64) (0 : Int) 2 r5.2.2.2.2 ++ ([] : List Value)))))) :: blk g2 101 (List.toArray (([] : List Value) ++ (arr1 (Value.int .i64) (0 : Int) 2 (List.replicate 2 (0 : Int)) ++ ([.int .i64 0, .int .i64 0] : List Value)))) :: fs) := hS
          refine at_run 1 [] [] [4, 5] [pl 4 (.pointer (some ⟨g2, 0, none⟩)), pl 5 (.int .i64 r5.1)] hF hS (by kernel_rfl) (by kernel_rfl) ?_ (fun a w hF hS => ?_)
          · exact obs_nil
          refine at_end [4, 5] [pl 4 (.pointer (some ⟨g2, 0, none⟩)), pl 5 (.int .i64 r5.1)] hF rfl (by kernel_rfl) (fun hF => ?_)
          refine then_n ?_
          refine wp_ret ?_
          refine then_r ?_
          have hld0 := run_loadVarA (P := Try.prog) (t := 101) (cs := (List.toArray (([] : List Value) ++ (arr1 (Value.int .i64) (0 : Int) 2 (List.replicate 2 (0 : Int)) ++ ([.int .i64 0, .int .i64 0] : List Value))))) (by kernel_rfl) (by kernel_rfl) ((hS.at_ 1 rfl).cellsAt 0 (by rfl))
          have hS := hS.pickN 2 [] (by decide)
          have hm : some ((List.replicate 2 (0 : Int)), 0, 0, r5.1) = some r := hm
          obtain rfl := Option.some.inj hm
          exact retV (rs := [.cell 4 101, .tmp 5]) (vs := [.agg (List.toArray (([] : List Value) ++ (arr1 (Value.int .i64) (0 : Int) 2 (List.replicate 2 (0 : Int)) ++ ([.int .i64 0, .int .i64 0] : List Value)))), .int .i64 r5.1]) hF rfl (rv_c (by kernel_rfl) hld0 <| rv_t (by kernel_rfl) <| rv_nil) rfl ⟨rfl, hS⟩
        · replace hm := if_f hm hb
          refine wp_skip ?_
          refine then_n ?_
          have hS := hS.pickN 2 [1, 0] (by decide)
          exact ⟨r5.2.1, r5.2.2.1, r5.2.2.2.1, r5.2.2.2.2, hF.weak [4, 6] (by kernel_rfl), hS, hm⟩
    · refine reg [] [] [1, 4, 6, 7, 16] [pl 1 (.slice A1 used1.length c6), pl 4 (.pointer (some ⟨g2, 0, none⟩)), pl 6 (.pointer (some ⟨g3, 0, none⟩)), pl 7 (.int .i64 0), pl 16 (.bool ((0 : Int) != 0))] hF hS Fol (by kernel_rfl) (by kernel_rfl) (by kernel_rfl) ?_ (fun a w hF hS => ?_)
      · exact obs_nil
      refine cond_ev (t := 16) (b := ((0 : Int) != 0)) hF (by kernel_rfl) (fun hb => ?_) (fun hb => ?_)
      · exact absurd hb (by decide)
      · refine wp_skip ?_
        refine then_n ?_
        have hS := hS.pickN 3 [1, 0] (by decide)
        exact ⟨hF.weak [1, 4, 6] (by kernel_rfl), hS, hm⟩

noncomputable def clock_device_runs_3_m (used1 : List Int) (v1 : List Int) : Option Int :=
  none

set_option maxRecDepth 100000 in
set_option maxHeartbeats 4000000 in
theorem clock_device_runs_3_w {A1 : Option Addr} {c1 : Nat} {n1 : Nat} {used1 : List Int} {g1 : Nat} {A2 : Option Addr} {c2 : Nat} {n2 : Nat} {v1 : List Int} {g2 : Nat} {r : Int} {w0 w : World} {B : Nat} {fs : List HP} (hm : clock_device_runs_3_m used1 v1 = some r) (hS : Sep w0 B w (blk g1 40 #[.slice A2 n2 c2] :: own 3 (.slice A2 n2 c2) (vI v1) :: blk g2 167 #[.pointer none] :: fs)) (hr_used1 : RdF w0 B fs A1 (vI used1)) (_hc_used1 : used1.length ≤ c1) (_hn_used1 : n1 = used1.length) :
    Calls Try.prog 122 #[.pointer none, .slice A1 n1 c1, .func (.func 124) #[] #[.pointer (some ⟨g1, 0, none⟩), .pointer (some ⟨g2, 0, none⟩)]] w fun e w' => e = .returned (.int .i64 r) ∧ Sep w0 B w' (blk g1 40 #[.slice A2 n2 c2] :: own 3 (.slice A2 n2 c2) (vI v1) :: blk g2 167 #[.pointer none] :: fs) := by
  obtain ⟨i3, hi3, hz3, hs3, hb3⟩ := info_parts Info3
  obtain rfl := (hS.at_ 1 rfl).len1
  obtain rfl := _hn_used1
  unfold clock_device_runs_3_m at hm
  replace hm := start_b hm
  refine enter (l := [.pointer none, .slice A1 used1.length c1, .func (.func 124) #[] #[.pointer (some ⟨g1, 0, none⟩), .pointer (some ⟨g2, 0, none⟩)]]) (n := 29) Try.func122 rfl rfl (by simp) (fun a hF => ?_)
  refine reg [] [] [0, 1, 2] [pl 0 (.pointer none), pl 1 (.slice A1 used1.length c1), pl 2 (.func (.func 124) #[] #[.pointer (some ⟨g1, 0, none⟩), .pointer (some ⟨g2, 0, none⟩)])] hF hS Fol (by kernel_rfl) (by kernel_rfl) (by kernel_rfl) ?_ (fun a w hF hS => ?_)
  · exact obs_nil
  simp at hm

noncomputable def clock_Left_1_2_J1 (p03 : List Int) : Option (List Int) :=
  some p03

noncomputable def clock_Left_1_2_m (p01 : List Int) (p1_Control_Base1 : Int) (p1_Control_Kind1 : Int) (p1_Control_Bonus1 : Int) (p1_Control_Moves1 : Int) (p1_Control_More1 : Int) (p1_Clock_Time1 : List Int) (p1_Clock_Fallen1 : Int) (p1_Clock_Moves1 : Int) (p1_made1 : List Int) : Option (List Int) :=
  asrt (0 ≤ (bAnd p1_Clock_Moves1 1) ∧ (bAnd p1_Clock_Moves1 1) < 2) <| asrt ((p01.length : Int) + 1 ≤ bigN) <| clock_Left_1_2_J1 (p01 ++ ([geti p1_Clock_Time1 (bAnd p1_Clock_Moves1 1)] : List Int))

set_option maxRecDepth 100000 in
set_option maxHeartbeats 4000000 in
theorem clock_Left_1_2_w {g1 : Nat} {A1 : Option Addr} {c1 : Nat} {n1 : Nat} {p01 : List Int} {g2 : Nat} {g3 : Nat} {p1_Control_Base1 : Int} {p1_Control_Kind1 : Int} {p1_Control_Bonus1 : Int} {p1_Control_Moves1 : Int} {p1_Control_More1 : Int} {p1_Clock_Time1 : List Int} {p1_Clock_Fallen1 : Int} {p1_Clock_Moves1 : Int} {p1_made1 : List Int} {r : (List Int)} {w0 w : World} {B : Nat} {fs : List HP} (hm : clock_Left_1_2_m p01 p1_Control_Base1 p1_Control_Kind1 p1_Control_Bonus1 p1_Control_Moves1 p1_Control_More1 p1_Clock_Time1 p1_Clock_Fallen1 p1_Clock_Moves1 p1_made1 = some r) (hS : Sep w0 B w (blk g1 40 #[.slice A1 n1 c1] :: own 3 (.slice A1 n1 c1) (vI p01) :: blk g2 167 #[.pointer (some ⟨g3, 0, none⟩)] :: blk g3 172 (List.toArray (([.int .i64 p1_Control_Base1, .int .i64 p1_Control_Kind1, .int .i64 p1_Control_Bonus1, .int .i64 p1_Control_Moves1, .int .i64 p1_Control_More1] : List Value) ++ (arr1 (Value.int .i64) (0 : Int) 2 p1_Clock_Time1 ++ (([.int .i64 p1_Clock_Fallen1, .int .i64 p1_Clock_Moves1] : List Value) ++ (arr1 (Value.int .i64) (0 : Int) 2 p1_made1 ++ ([] : List Value)))))) :: fs)) :
    Calls Try.prog 124 #[.pointer (some ⟨g1, 0, none⟩), .pointer (some ⟨g2, 0, none⟩)] w fun e w' => ∃ v, e = .returned v ∧ ∃ (A2 : Option Addr) (c2 : Nat), v = .tuple #[] ∧ Sep w0 B w' (blk g1 40 #[.slice A2 r.length c2] :: own 3 (.slice A2 r.length c2) (vI r) :: blk g2 167 #[.pointer (some ⟨g3, 0, none⟩)] :: blk g3 172 (List.toArray (([.int .i64 p1_Control_Base1, .int .i64 p1_Control_Kind1, .int .i64 p1_Control_Bonus1, .int .i64 p1_Control_Moves1, .int .i64 p1_Control_More1] : List Value) ++ (arr1 (Value.int .i64) (0 : Int) 2 p1_Clock_Time1 ++ (([.int .i64 p1_Clock_Fallen1, .int .i64 p1_Clock_Moves1] : List Value) ++ (arr1 (Value.int .i64) (0 : Int) 2 p1_made1 ++ ([] : List Value)))))) :: fs) := by
  obtain ⟨i3, hi3, hz3, hs3, hb3⟩ := info_parts Info3
  obtain ⟨i40, hi40, hz40, hs40, hb40⟩ := info_parts Info40
  obtain rfl := (hS.at_ 1 rfl).len1
  unfold clock_Left_1_2_m at hm
  replace hm := start_b hm
  refine enter (l := [.pointer (some ⟨g1, 0, none⟩), .pointer (some ⟨g2, 0, none⟩)]) (n := 17) Try.func124 rfl rfl (by simp) (fun a hF => ?_)
  refine end_cut (fun a w => ∃ (p03 : List Int) (A4 : Option Addr) (c4 : Nat), Fr 17 [] a ∧ Sep w0 B w (blk g1 40 #[.slice A4 p03.length c4] :: own 3 (.slice A4 p03.length c4) (vI p03) :: blk g2 167 #[.pointer (some ⟨g3, 0, none⟩)] :: blk g3 172 (List.toArray (([.int .i64 p1_Control_Base1, .int .i64 p1_Control_Kind1, .int .i64 p1_Control_Bonus1, .int .i64 p1_Control_Moves1, .int .i64 p1_Control_More1] : List Value) ++ (arr1 (Value.int .i64) (0 : Int) 2 p1_Clock_Time1 ++ (([.int .i64 p1_Clock_Fallen1, .int .i64 p1_Clock_Moves1] : List Value) ++ (arr1 (Value.int .i64) (0 : Int) 2 p1_made1 ++ ([] : List Value)))))) :: fs) ∧ (clock_Left_1_2_J1 p03).bind some = some r) ?_ ?_
  · rintro a w ⟨p03, A4, c4, hF, hS, hm⟩
    unfold clock_Left_1_2_J1 at hm
    have hm : some p03 = some r := hm
    obtain rfl := Option.some.inj hm
    exact endV (rs := []) (vs := []) hF rfl (rv_nil) rfl ⟨_, rfl, A4, c4, rfl, hS⟩ rfl
  · obtain ⟨hp1, hm⟩ := asrt_b hm
    obtain ⟨hp2, hm⟩ := asrt_b hm
    refine regMix5 [0, 1, 2, 3, 4, 5, 6, 7, 8, 9, 10, 11, 12] [14, 15] 3 #[true, true, true, true, true, true, true, true, true, true, true, true, true, false, false, false] [⟨false, [], vS (Instr.loadAt 40 (.pointer (some ⟨g1, 0, none⟩))), .slice A1 p01.length c1⟩, ⟨false, [], vS (Instr.loadAt 167 (.pointer (some ⟨g2, 0, none⟩))), .pointer (some ⟨g3, 0, none⟩)⟩, ⟨false, [], vS (Instr.loadAt 167 (.pointer (some ⟨g2, 0, none⟩))), .pointer (some ⟨g3, 0, none⟩)⟩, ⟨false, [], vS (Instr.loadAt 3 (.pointer (some ⟨g3, 8, none⟩))), .int .i64 p1_Clock_Moves1⟩, ⟨true, [], vS (Instr.indexAt 99 (.pointer (some ⟨g3, 5, none⟩)) (.int .i64 (bAnd p1_Clock_Moves1 1))), .pointer (some ((⟨g3, 5, none⟩ : Addr).add (Int.toNat (bAnd p1_Clock_Moves1 1) * 1)))⟩, ⟨false, [], vS (Instr.loadAt 3 (.pointer (some ((⟨g3, 5, none⟩ : Addr).add (Int.toNat (bAnd p1_Clock_Moves1 1) * 1))))), .int .i64 (geti p1_Clock_Time1 (bAnd p1_Clock_Moves1 1))⟩] [some (.slice A1 p01.length c1), some (.pointer (some ⟨g3, 0, none⟩)), some (.pointer (some ⟨g3, 0, none⟩)), none, none, none, some (.int .i64 p1_Clock_Moves1), none, none, none, none, some (.pointer (some ((⟨g3, 5, none⟩ : Addr).add (Int.toNat (bAnd p1_Clock_Moves1 1) * 1)))), some (.int .i64 (geti p1_Clock_Time1 (bAnd p1_Clock_Moves1 1)))] [0, 2, 14] [pl 0 (.pointer (some ⟨g1, 0, none⟩)), pl 2 (.slice A1 p01.length c1), pl 14 (.int .i64 (geti p1_Clock_Time1 (bAnd p1_Clock_Moves1 1)))] hF hS Fol (by kernel_rfl) (by kernel_rfl) (by kernel_rfl) (by kernel_rfl) ?_ (fun a w hF hS => ?_)
    · exact obs_cons (ob_load Agg40 (fun _ _ hS => (hS.at_ 0 rfl).cell rfl)) <| obs_cons (ob_load Agg167 (fun _ _ hS => (hS.at_ 2 rfl).cell rfl)) <| obs_cons (ob_load Agg167 (fun _ _ hS => (hS.at_ 2 rfl).cell rfl)) <| obs_cons (ob_load Agg3 (fun _ _ hS => (hS.at_ 3 rfl).cell rfl)) <| obs_cons (ob_ixA UndA99 hi3 hs3 (fun _ => hp1)) <| obs_cons (ob_getA (m := p1_Clock_Time1) (Value.int .i64) (0 : Int) 2 ([.int .i64 p1_Control_Base1, .int .i64 p1_Control_Kind1, .int .i64 p1_Control_Bonus1, .int .i64 p1_Control_Moves1, .int .i64 p1_Control_More1] : List Value) (([.int .i64 p1_Clock_Fallen1, .int .i64 p1_Clock_Moves1] : List Value) ++ (arr1 (Value.int .i64) (0 : Int) 2 p1_made1 ++ ([] : List Value))) (bAnd p1_Clock_Moves1 1) Agg3 rfl (fun _ hS => ⟨_, _, _, _, _, hS.at_ 3 rfl⟩) (fun hy => by have h0 := hp1; omega)) <| obs_nil
    refine any_step [13] (by kernel_rfl) rfl ?_
    refine (all_cons ?_ all_nil)
    · refine any_op (listed' := #[true, true, true, true, true, true, true, true, true, true, true, true, true, true, false, false]) (by kernel_rfl) (by kernel_rfl) ?_
      refine at_do (d := 15) (s := vS (Instr.buildSlice 40 1 #[(0, .int .i64 (geti p1_Clock_Time1 (bAnd p1_Clock_Moves1 1)))])) (v := .slice (some ⟨w.heap.size, 0, none⟩) 1 1) (w' := w.alloc (.cells #[.int .i64 (geti p1_Clock_Time1 (bAnd p1_Clock_Moves1 1))] 3)) hF (by kernel_rfl) (by kernel_rfl) (by kernel_rfl) (fun a hF => ?_)
      have hS : Sep w0 B (w.alloc (.cells #[.int .i64 (geti p1_Clock_Time1 (bAnd p1_Clock_Moves1 1))] 3)) (own 3 (.slice (some (⟨w.heap.size, 0, none⟩ : Addr)) 1 1) (vI ([geti p1_Clock_Time1 (bAnd p1_Clock_Moves1 1)] : List Int)) :: (blk g1 40 #[.slice A1 p01.length c1] :: own 3 (.slice A1 p01.length c1) (vI p01) :: blk g2 167 #[.pointer (some ⟨g3, 0, none⟩)] :: blk g3 172 (List.toArray (([.int .i64 p1_Control_Base1, .int .i64 p1_Control_Kind1, .int .i64 p1_Control_Bonus1, .int .i64 p1_Control_Moves1, .int .i64 p1_Control_More1] : List Value) ++ (arr1 (Value.int .i64) (0 : Int) 2 p1_Clock_Time1 ++ (([.int .i64 p1_Clock_Fallen1, .int .i64 p1_Clock_Moves1] : List Value) ++ (arr1 (Value.int .i64) (0 : Int) 2 p1_made1 ++ ([] : List Value)))))) :: fs)) := hS.lit 3 #[.int .i64 (geti p1_Clock_Time1 (bAnd p1_Clock_Moves1 1))] 1 rfl (by omega)
      generalize (some (⟨w.heap.size, 0, none⟩ : Addr)) = g4 at hF hS
      generalize w.alloc (.cells #[.int .i64 (geti p1_Clock_Time1 (bAnd p1_Clock_Moves1 1))] 3) = w at hS ⊢
      refine any_fin rfl (hS.pickN 5 [1, 2, 3, 4] (by decide)) ?_
      refine any_step [14] (by kernel_rfl) rfl ?_
      refine (all_cons ?_ all_nil)
      · refine any_op (listed' := #[true, true, true, true, true, true, true, true, true, true, true, true, true, true, true, false]) (by kernel_rfl) (by kernel_rfl) ?_
        obtain ⟨A3, c3, w, hrun, hS⟩ := run_app1 (P := Try.prog) (t := 40) (m := p01) (ys := ([geti p1_Clock_Time1 (bAnd p1_Clock_Moves1 1)] : List Int)) (A2 := g4) (m2 := 1) (c2 := 1) (Value.int .i64) (0 : Int) (hS.at_ 2 rfl) (hS.at_ 0 rfl).rd ((hS.at_ 0 rfl).len1) 40 Und40 hi3 hz3 hs3 (by omega) rfl (fun _ => rfl) hp2
        have hS : Sep w0 B w (own 3 (.slice g4 1 1) (vI ([geti p1_Clock_Time1 (bAnd p1_Clock_Moves1 1)] : List Int)) :: blk g1 40 #[.slice A1 p01.length c1] :: own 3 (.slice A3 ((p01 ++ ([geti p1_Clock_Time1 (bAnd p1_Clock_Moves1 1)] : List Int)).length) c3) (vI (p01 ++ ([geti p1_Clock_Time1 (bAnd p1_Clock_Moves1 1)] : List Int))) :: blk g2 167 #[.pointer (some ⟨g3, 0, none⟩)] :: blk g3 172 (List.toArray (([.int .i64 p1_Control_Base1, .int .i64 p1_Control_Kind1, .int .i64 p1_Control_Bonus1, .int .i64 p1_Control_Moves1, .int .i64 p1_Control_More1] : List Value) ++ (arr1 (Value.int .i64) (0 : Int) 2 p1_Clock_Time1 ++ (([.int .i64 p1_Clock_Fallen1, .int .i64 p1_Clock_Moves1] : List Value) ++ (arr1 (Value.int .i64) (0 : Int) 2 p1_made1 ++ ([] : List Value)))))) :: fs) := hS
        refine at_do (d := 16) hF (by kernel_rfl) (by kernel_rfl) hrun (fun a hF => ?_)
        refine any_finE rfl (by decide) ?_
        refine any_step [15] (by kernel_rfl) rfl ?_
        refine (all_cons ?_ all_nil)
        · refine any_op (listed' := #[true, true, true, true, true, true, true, true, true, true, true, true, true, true, true, true]) (by kernel_rfl) (by kernel_rfl) ?_
          obtain ⟨w, hrun, hS⟩ := run_put (P := Try.prog) (t := 40) (u := .slice A3 ((p01 ++ ([geti p1_Clock_Time1 (bAnd p1_Clock_Moves1 1)] : List Int)).length) c3) (i := 0) (hS.at_ 1 rfl) hi40 hs40 rfl (Nat.lt_of_lt_of_eq (Nat.lt_of_succ_le (Nat.le_of_ble_eq_true (by kernel_rfl))) rfl)
          refine at_skip hF (by kernel_rfl) hrun ?_
          have hS : Sep w0 B w (own 3 (.slice g4 1 1) (vI ([geti p1_Clock_Time1 (bAnd p1_Clock_Moves1 1)] : List Int)) :: blk g1 40 #[.slice A3 ((p01 ++ ([geti p1_Clock_Time1 (bAnd p1_Clock_Moves1 1)] : List Int)).length) c3] :: own 3 (.slice A3 ((p01 ++ ([geti p1_Clock_Time1 (bAnd p1_Clock_Moves1 1)] : List Int)).length) c3) (vI (p01 ++ ([geti p1_Clock_Time1 (bAnd p1_Clock_Moves1 1)] : List Int))) :: blk g2 167 #[.pointer (some ⟨g3, 0, none⟩)] :: blk g3 172 (List.toArray (([.int .i64 p1_Control_Base1, .int .i64 p1_Control_Kind1, .int .i64 p1_Control_Bonus1, .int .i64 p1_Control_Moves1, .int .i64 p1_Control_More1] : List Value) ++ (arr1 (Value.int .i64) (0 : Int) 2 p1_Clock_Time1 ++ (([.int .i64 p1_Clock_Fallen1, .int .i64 p1_Clock_Moves1] : List Value) ++ (arr1 (Value.int .i64) (0 : Int) 2 p1_made1 ++ ([] : List Value)))))) :: fs) := hS
          refine any_finE rfl (by decide) ?_
          refine any_end (by kernel_rfl) ?_
          refine np_n ?_
          refine then_n ?_
          have hS := hS.pickN 5 [1, 2, 3, 4] (by decide)
          exact ⟨(p01 ++ ([geti p1_Clock_Time1 (bAnd p1_Clock_Moves1 1)] : List Int)), A3, c3, hF.weak [] (by kernel_rfl), hS, hm⟩

noncomputable def clock_device_runs_4_J3 (z1 : Int) (d13 : List Int) (d14 : Int) (d15 : Int) (d16 : List Int) (tell2 : List Int) : Option (St (List Int × Int × Int × List Int × List Int × Int) (Fl (List Int × Int × Int × List Int × List Int) (Int × List Int × Int × Int × List Int × List Int))) :=
  some (.next (d13, d14, d15, d16, tell2, (w64 (z1 + 1))))

noncomputable def clock_device_runs_4_J4 (d_Control_Base1 : Int) (d_Control_Kind1 : Int) (d_Control_Bonus1 : Int) (d_Control_Moves1 : Int) (d_Control_More1 : Int) (used1 : List Int) (d5 : List Int) (d6 : Int) (d7 : Int) (d8 : List Int) (tell1 : List Int) (z1 : Int) : Option (St (List Int × Int × Int × List Int × List Int × Int) (Fl (List Int × Int × Int × List Int × List Int) (Int × List Int × Int × Int × List Int × List Int))) :=
  (clock_device_press_m d_Control_Base1 d_Control_Kind1 d_Control_Bonus1 d_Control_Moves1 d_Control_More1 d5 d6 d7 d8 (geti used1 z1)).bind fun r2 => if r2.1 then ((clock_Left_1_2_m tell1 d_Control_Base1 d_Control_Kind1 d_Control_Bonus1 d_Control_Moves1 d_Control_More1 r2.2.1 r2.2.2.1 r2.2.2.2.1 r2.2.2.2.2).bind fun r3 => (clock_device_runs_4_J3 z1) r2.2.1 r2.2.2.1 r2.2.2.2.1 r2.2.2.2.2 r3) else ((clock_device_runs_4_J3 z1) r2.2.1 r2.2.2.1 r2.2.2.2.1 r2.2.2.2.2 tell1)

noncomputable def clock_device_runs_4_J2 (d_Control_Base1 : Int) (d_Control_Kind1 : Int) (d_Control_Bonus1 : Int) (d_Control_Moves1 : Int) (d_Control_More1 : Int) (used1 : List Int) (d5 : List Int) (d6 : Int) (d7 : Int) (d8 : List Int) (tell1 : List Int) (z1 : Int) : Option (St (List Int × Int × Int × List Int × List Int × Int) (Fl (List Int × Int × Int × List Int × List Int) (Int × List Int × Int × Int × List Int × List Int))) :=
  asrt (0 ≤ z1 ∧ z1 < (used1.length : Int)) <| if (decide ((0 : Int) ≤ d6)) then (some (.done (.ret (9, d5, d6, d7, d8, tell1)))) else ((clock_device_runs_4_J4 d_Control_Base1 d_Control_Kind1 d_Control_Bonus1 d_Control_Moves1 d_Control_More1 used1 d5 d6 d7 d8 tell1 z1))

noncomputable def clock_device_runs_4_J1 (d9 : List Int) (d10 : Int) (d11 : Int) (d12 : List Int) (v3 : List Int) : Option (Int × List Int × Int × Int × List Int × List Int) :=
  some (0, d9, d10, d11, d12, v3)

noncomputable def clock_device_runs_4_K1 : (Fl (List Int × Int × Int × List Int × List Int) (Int × List Int × Int × Int × List Int × List Int)) → Option (Int × List Int × Int × Int × List Int × List Int) :=
  fun (x : (Fl (List Int × Int × Int × List Int × List Int) (Int × List Int × Int × Int × List Int × List Int))) => match x with | .go (d9, d10, d11, d12, v3) => clock_device_runs_4_J1 d9 d10 d11 d12 v3 | .ret x => some x

noncomputable def clock_device_runs_4_L1 (d_Control_Base1 : Int) (d_Control_Kind1 : Int) (d_Control_Bonus1 : Int) (d_Control_Moves1 : Int) (d_Control_More1 : Int) (used1 : List Int) : (List Int × Int × Int × List Int × List Int × Int) → Option (St (List Int × Int × Int × List Int × List Int × Int) (Fl (List Int × Int × Int × List Int × List Int) (Int × List Int × Int × Int × List Int × List Int))) :=
  fun (x : (List Int × Int × Int × List Int × List Int × Int)) => match x with | (d5, d6, d7, d8, tell1, z1) => if (decide (z1 < (used1.length : Int))) then ((clock_device_runs_4_J2 d_Control_Base1 d_Control_Kind1 d_Control_Bonus1 d_Control_Moves1 d_Control_More1 used1 d5 d6 d7 d8 tell1 z1)) else (some (.done (.go (d5, d6, d7, d8, tell1))))

noncomputable def clock_device_runs_4_m (d_Control_Base1 : Int) (d_Control_Kind1 : Int) (d_Control_Bonus1 : Int) (d_Control_Moves1 : Int) (d_Control_More1 : Int) (d_Clock_Time1 : List Int) (d_Clock_Fallen1 : Int) (d_Clock_Moves1 : Int) (d_made1 : List Int) (used1 : List Int) (v1 : List Int) : Option (Int × List Int × Int × Int × List Int × List Int) :=
  (clock_Left_1_2_m v1 d_Control_Base1 d_Control_Kind1 d_Control_Bonus1 d_Control_Moves1 d_Control_More1 d_Clock_Time1 d_Clock_Fallen1 d_Clock_Moves1 d_made1).bind fun r1 => (loop (clock_device_runs_4_L1 d_Control_Base1 d_Control_Kind1 d_Control_Bonus1 d_Control_Moves1 d_Control_More1 used1) (d_Clock_Time1, d_Clock_Fallen1, d_Clock_Moves1, d_made1, r1, 0)).bind clock_device_runs_4_K1

set_option maxRecDepth 100000 in
set_option maxHeartbeats 4000000 in
theorem clock_device_runs_4_w {g1 : Nat} {d_Control_Base1 : Int} {d_Control_Kind1 : Int} {d_Control_Bonus1 : Int} {d_Control_Moves1 : Int} {d_Control_More1 : Int} {d_Clock_Time1 : List Int} {d_Clock_Fallen1 : Int} {d_Clock_Moves1 : Int} {d_made1 : List Int} {A1 : Option Addr} {c1 : Nat} {n1 : Nat} {used1 : List Int} {g2 : Nat} {A2 : Option Addr} {c2 : Nat} {n2 : Nat} {v1 : List Int} {g3 : Nat} {r : (Int × List Int × Int × Int × List Int × List Int)} {w0 w : World} {B : Nat} {fs : List HP} (hm : clock_device_runs_4_m d_Control_Base1 d_Control_Kind1 d_Control_Bonus1 d_Control_Moves1 d_Control_More1 d_Clock_Time1 d_Clock_Fallen1 d_Clock_Moves1 d_made1 used1 v1 = some r) (hS : Sep w0 B w (blk g1 172 (List.toArray (([.int .i64 d_Control_Base1, .int .i64 d_Control_Kind1, .int .i64 d_Control_Bonus1, .int .i64 d_Control_Moves1, .int .i64 d_Control_More1] : List Value) ++ (arr1 (Value.int .i64) (0 : Int) 2 d_Clock_Time1 ++ (([.int .i64 d_Clock_Fallen1, .int .i64 d_Clock_Moves1] : List Value) ++ (arr1 (Value.int .i64) (0 : Int) 2 d_made1 ++ ([] : List Value)))))) :: blk g2 40 #[.slice A2 n2 c2] :: own 3 (.slice A2 n2 c2) (vI v1) :: blk g3 167 #[.pointer (some ⟨g1, 0, none⟩)] :: fs)) (hr_used1 : RdF w0 B fs A1 (vI used1)) (_hc_used1 : used1.length ≤ c1) (_hn_used1 : n1 = used1.length) :
    Calls Try.prog 122 #[.pointer (some ⟨g1, 0, none⟩), .slice A1 n1 c1, .func (.func 124) #[] #[.pointer (some ⟨g2, 0, none⟩), .pointer (some ⟨g3, 0, none⟩)]] w fun e w' => ∃ v, e = .returned v ∧ ∃ (A3 : Option Addr) (c3 : Nat), v = .int .i64 r.1 ∧ Sep w0 B w' (blk g1 172 (List.toArray (([.int .i64 d_Control_Base1, .int .i64 d_Control_Kind1, .int .i64 d_Control_Bonus1, .int .i64 d_Control_Moves1, .int .i64 d_Control_More1] : List Value) ++ (arr1 (Value.int .i64) (0 : Int) 2 r.2.1 ++ (([.int .i64 r.2.2.1, .int .i64 r.2.2.2.1] : List Value) ++ (arr1 (Value.int .i64) (0 : Int) 2 r.2.2.2.2.1 ++ ([] : List Value)))))) :: blk g2 40 #[.slice A3 r.2.2.2.2.2.length c3] :: own 3 (.slice A3 r.2.2.2.2.2.length c3) (vI r.2.2.2.2.2) :: blk g3 167 #[.pointer (some ⟨g1, 0, none⟩)] :: fs) := by
  obtain ⟨i3, hi3, hz3, hs3, hb3⟩ := info_parts Info3
  obtain rfl := (hS.at_ 2 rfl).len1
  obtain rfl := _hn_used1
  unfold clock_device_runs_4_m at hm
  replace hm := start_b hm
  refine enter (l := [.pointer (some ⟨g1, 0, none⟩), .slice A1 used1.length c1, .func (.func 124) #[] #[.pointer (some ⟨g2, 0, none⟩), .pointer (some ⟨g3, 0, none⟩)]]) (n := 29) Try.func122 rfl rfl (by simp) (fun a hF => ?_)
  refine reg [] [] [0, 1, 2] [pl 0 (.pointer (some ⟨g1, 0, none⟩)), pl 1 (.slice A1 used1.length c1), pl 2 (.func (.func 124) #[] #[.pointer (some ⟨g2, 0, none⟩), .pointer (some ⟨g3, 0, none⟩)])] hF hS Fol (by kernel_rfl) (by kernel_rfl) (by kernel_rfl) ?_ (fun a w hF hS => ?_)
  · exact obs_nil
  refine seqR ?_
  obtain ⟨r1, hr1, hm⟩ := call_b hm
  refine at_run 1 [] [] [0, 1, 2, 9] [pl 0 (.pointer (some ⟨g1, 0, none⟩)), pl 1 (.slice A1 used1.length c1), pl 2 (.func (.func 124) #[] #[.pointer (some ⟨g2, 0, none⟩), .pointer (some ⟨g3, 0, none⟩)]), pl 9 (.func (.func 124) #[] #[.pointer (some ⟨g2, 0, none⟩), .pointer (some ⟨g3, 0, none⟩)])] hF hS (by kernel_rfl) (by kernel_rfl) ?_ (fun a w hF hS => ?_)
  · exact obs_nil
  have hS : Sep w0 B w (blk g2 40 #[.slice A2 v1.length c2] :: own 3 (.slice A2 v1.length c2) (vI v1) :: blk g3 167 #[.pointer (some ⟨g1, 0, none⟩)] :: blk g1 172 (List.toArray (([.int .i64 d_Control_Base1, .int .i64 d_Control_Kind1, .int .i64 d_Control_Bonus1, .int .i64 d_Control_Moves1, .int .i64 d_Control_More1] : List Value) ++ (arr1 (Value.int .i64) (0 : Int) 2 d_Clock_Time1 ++ (([.int .i64 d_Clock_Fallen1, .int .i64 d_Clock_Moves1] : List Value) ++ (arr1 (Value.int .i64) (0 : Int) 2 d_made1 ++ ([] : List Value)))))) :: fs) := hS.pickN 4 [1, 2, 3, 0] (by decide)
  refine at_call (f := 124) (args := #[.pointer (some ⟨g2, 0, none⟩), .pointer (some ⟨g3, 0, none⟩)]) (d := 10) hF (by kernel_rfl) (by kernel_rfl) Try.func124 (by kernel_rfl) rfl (clock_Left_1_2_w hr1 hS ) (fun v a w hR hF => ?_)
  clear hS
  obtain ⟨A4, c4, rfl, hS⟩ := hR
  have hS : Sep w0 B w (blk g2 40 #[.slice A4 r1.length c4] :: own 3 (.slice A4 r1.length c4) (vI r1) :: blk g3 167 #[.pointer (some ⟨g1, 0, none⟩)] :: blk g1 172 (List.toArray (([.int .i64 d_Control_Base1, .int .i64 d_Control_Kind1, .int .i64 d_Control_Bonus1, .int .i64 d_Control_Moves1, .int .i64 d_Control_More1] : List Value) ++ (arr1 (Value.int .i64) (0 : Int) 2 d_Clock_Time1 ++ (([.int .i64 d_Clock_Fallen1, .int .i64 d_Clock_Moves1] : List Value) ++ (arr1 (Value.int .i64) (0 : Int) 2 d_made1 ++ ([] : List Value)))))) :: fs) := hS
  refine at_end [0, 1, 2] [pl 0 (.pointer (some ⟨g1, 0, none⟩)), pl 1 (.slice A1 used1.length c1), pl 2 (.func (.func 124) #[] #[.pointer (some ⟨g2, 0, none⟩), .pointer (some ⟨g3, 0, none⟩)])] hF rfl (by kernel_rfl) (fun hF => ?_)
  refine then_n ?_
  refine seq_cut (fun a w => ∃ (d9 : List Int) (d10 : Int) (d11 : Int) (d12 : List Int) (v3 : List Int) (A6 : Option Addr) (c6 : Nat), Fr 29 [] a ∧ Sep w0 B w (blk g1 172 (List.toArray (([.int .i64 d_Control_Base1, .int .i64 d_Control_Kind1, .int .i64 d_Control_Bonus1, .int .i64 d_Control_Moves1, .int .i64 d_Control_More1] : List Value) ++ (arr1 (Value.int .i64) (0 : Int) 2 d9 ++ (([.int .i64 d10, .int .i64 d11] : List Value) ++ (arr1 (Value.int .i64) (0 : Int) 2 d12 ++ ([] : List Value)))))) :: blk g2 40 #[.slice A6 v3.length c6] :: own 3 (.slice A6 v3.length c6) (vI v3) :: blk g3 167 #[.pointer (some ⟨g1, 0, none⟩)] :: fs) ∧ (clock_device_runs_4_J1 d9 d10 d11 d12 v3).bind some = some r) ?_ ?_
  · rintro a w ⟨d9, d10, d11, d12, v3, A6, c6, hF, hS, hm⟩
    unfold clock_device_runs_4_J1 at hm
    refine reg [] [] [6] [pl 6 (.int .i64 0)] hF hS Fol (by kernel_rfl) (by kernel_rfl) (by kernel_rfl) ?_ (fun a w hF hS => ?_)
    · exact obs_nil
    refine wp_ret ?_
    have hm : some (0, d9, d10, d11, d12, v3) = some r := hm
    obtain rfl := Option.some.inj hm
    exact retV (rs := [.tmp 6]) (vs := [.int .i64 0]) hF rfl (rv_t (by kernel_rfl) <| rv_nil) rfl ⟨_, rfl, A6, c6, rfl, hS⟩
  · refine reg [] [] [0, 2, 11, 12, 13] [pl 0 (.pointer (some ⟨g1, 0, none⟩)), pl 2 (.func (.func 124) #[] #[.pointer (some ⟨g2, 0, none⟩), .pointer (some ⟨g3, 0, none⟩)]), pl 11 (.slice A1 used1.length c1), pl 12 (.int .i64 (used1.length : Int)), pl 13 (.int .i64 0)] hF hS Fol (by kernel_rfl) (by kernel_rfl) (by kernel_rfl) ?_ (fun a w hF hS => ?_)
    · exact obs_nil
    refine wp_block ?_
    have hS := hS.pickN 4 [3, 0, 1, 2] (by decide)
    refine wp_loop_model (S := (List Int × Int × Int × List Int × List Int × Int)) (R := (Fl (List Int × Int × Int × List Int × List Int) (Int × List Int × Int × Int × List Int × List Int))) (clock_device_runs_4_L1 d_Control_Base1 d_Control_Kind1 d_Control_Bonus1 d_Control_Moves1 d_Control_More1 used1) (fun x => (clock_device_runs_4_K1 x).bind some) r (fun (x : (List Int × Int × Int × List Int × List Int × Int)) a w => ∃ (A5 : Option Addr) (c5 : Nat), Fr 29 [pl 0 (.pointer (some ⟨g1, 0, none⟩)), pl 2 (.func (.func 124) #[] #[.pointer (some ⟨g2, 0, none⟩), .pointer (some ⟨g3, 0, none⟩)]), pl 11 (.slice A1 used1.length c1), pl 12 (.int .i64 (used1.length : Int)), pl 13 (.int .i64 x.2.2.2.2.2)] a ∧ Sep w0 B w (blk g1 172 (List.toArray (([.int .i64 d_Control_Base1, .int .i64 d_Control_Kind1, .int .i64 d_Control_Bonus1, .int .i64 d_Control_Moves1, .int .i64 d_Control_More1] : List Value) ++ (arr1 (Value.int .i64) (0 : Int) 2 x.1 ++ (([.int .i64 x.2.1, .int .i64 x.2.2.1] : List Value) ++ (arr1 (Value.int .i64) (0 : Int) 2 x.2.2.2.1 ++ ([] : List Value)))))) :: blk g2 40 #[.slice A5 x.2.2.2.2.1.length c5] :: own 3 (.slice A5 x.2.2.2.2.1.length c5) (vI x.2.2.2.2.1) :: blk g3 167 #[.pointer (some ⟨g1, 0, none⟩)] :: fs)) (assoc_b hm) ⟨A4, c4, hF.weak [0, 2, 11, 12, 13] (by kernel_rfl), hS⟩ ?_
    clear hF hS hm
    rintro nn1 ⟨d5, d6, d7, d8, tell1, z1⟩ a w ⟨A5, c5, hF, hS⟩ hm
    generalize hφ1 : stK (clock_device_runs_4_L1 d_Control_Base1 d_Control_Kind1 d_Control_Bonus1 d_Control_Moves1 d_Control_More1 used1) nn1 (fun x => (clock_device_runs_4_K1 x).bind some) = φ1 at hm
    unfold clock_device_runs_4_L1 at hm
    dsimp only at hF hS hm
    refine reg [] [] [0, 2, 11, 12, 13, 14] [pl 0 (.pointer (some ⟨g1, 0, none⟩)), pl 2 (.func (.func 124) #[] #[.pointer (some ⟨g2, 0, none⟩), .pointer (some ⟨g3, 0, none⟩)]), pl 11 (.slice A1 used1.length c1), pl 12 (.int .i64 (used1.length : Int)), pl 13 (.int .i64 z1), pl 14 (.bool (decide (z1 < (used1.length : Int))))] hF hS Fol (by kernel_rfl) (by kernel_rfl) (by kernel_rfl) ?_ (fun a w hF hS => ?_)
    · exact obs_nil
    refine seq_cut (fun a w => Fr 29 [pl 0 (.pointer (some ⟨g1, 0, none⟩)), pl 2 (.func (.func 124) #[] #[.pointer (some ⟨g2, 0, none⟩), .pointer (some ⟨g3, 0, none⟩)]), pl 11 (.slice A1 used1.length c1), pl 12 (.int .i64 (used1.length : Int)), pl 13 (.int .i64 z1)] a ∧ Sep w0 B w (blk g1 172 (List.toArray (([.int .i64 d_Control_Base1, .int .i64 d_Control_Kind1, .int .i64 d_Control_Bonus1, .int .i64 d_Control_Moves1, .int .i64 d_Control_More1] : List Value) ++ (arr1 (Value.int .i64) (0 : Int) 2 d5 ++ (([.int .i64 d6, .int .i64 d7] : List Value) ++ (arr1 (Value.int .i64) (0 : Int) 2 d8 ++ ([] : List Value)))))) :: blk g2 40 #[.slice A5 tell1.length c5] :: own 3 (.slice A5 tell1.length c5) (vI tell1) :: blk g3 167 #[.pointer (some ⟨g1, 0, none⟩)] :: fs) ∧ ((clock_device_runs_4_J2 d_Control_Base1 d_Control_Kind1 d_Control_Bonus1 d_Control_Moves1 d_Control_More1 used1 d5 d6 d7 d8 tell1 z1)).bind φ1 = some r) ?_ ?_
    · rintro a w ⟨hF, hS, hm⟩
      unfold clock_device_runs_4_J2 at hm
      refine seq_cut (fun a w => ∃ (d13 : List Int) (d14 : Int) (d15 : Int) (d16 : List Int) (tell2 : List Int) (A8 : Option Addr) (c8 : Nat), Fr 29 [pl 0 (.pointer (some ⟨g1, 0, none⟩)), pl 2 (.func (.func 124) #[] #[.pointer (some ⟨g2, 0, none⟩), .pointer (some ⟨g3, 0, none⟩)]), pl 11 (.slice A1 used1.length c1), pl 12 (.int .i64 (used1.length : Int)), pl 13 (.int .i64 z1)] a ∧ Sep w0 B w (blk g1 172 (List.toArray (([.int .i64 d_Control_Base1, .int .i64 d_Control_Kind1, .int .i64 d_Control_Bonus1, .int .i64 d_Control_Moves1, .int .i64 d_Control_More1] : List Value) ++ (arr1 (Value.int .i64) (0 : Int) 2 d13 ++ (([.int .i64 d14, .int .i64 d15] : List Value) ++ (arr1 (Value.int .i64) (0 : Int) 2 d16 ++ ([] : List Value)))))) :: blk g2 40 #[.slice A8 tell2.length c8] :: own 3 (.slice A8 tell2.length c8) (vI tell2) :: blk g3 167 #[.pointer (some ⟨g1, 0, none⟩)] :: fs) ∧ ((clock_device_runs_4_J3 z1) d13 d14 d15 d16 tell2).bind φ1 = some r) ?_ ?_
      · rintro a w ⟨d13, d14, d15, d16, tell2, A8, c8, hF, hS, hm⟩
        unfold clock_device_runs_4_J3 at hm
        refine reg1 [] [] [0, 2, 11, 12, 13] [pl 0 (.pointer (some ⟨g1, 0, none⟩)), pl 2 (.func (.func 124) #[] #[.pointer (some ⟨g2, 0, none⟩), .pointer (some ⟨g3, 0, none⟩)]), pl 11 (.slice A1 used1.length c1), pl 12 (.int .i64 (used1.length : Int)), pl 13 (.int .i64 (w64 (z1 + 1)))] hF hS Fol (by kernel_rfl) (by kernel_rfl) (by kernel_rfl) ?_ (fun a w hF hS => ?_)
        · exact obs_nil
        refine then_n ?_
        rw [← hφ1] at hm
        exact ⟨(d13, d14, d15, d16, tell2, (w64 (z1 + 1))), ⟨A8, c8, hF.weak [0, 2, 11, 12, 13] (by kernel_rfl), hS⟩, hm⟩
      · refine wp_block ?_
        obtain ⟨hp1, hm⟩ := asrt_b hm
        refine reg [⟨true, [], vS (Instr.indexAt 40 (.slice A1 used1.length c1) (.int .i64 z1)), .pointer (some (sAddr A1 z1))⟩, ⟨false, [], vS (Instr.loadAt 3 (.pointer (some (sAddr A1 z1)))), .int .i64 (geti used1 z1)⟩] [some (.pointer (some (sAddr A1 z1))), some (.int .i64 (geti used1 z1)), none] [0, 2, 8, 11, 12, 13] [pl 0 (.pointer (some ⟨g1, 0, none⟩)), pl 2 (.func (.func 124) #[] #[.pointer (some ⟨g2, 0, none⟩), .pointer (some ⟨g3, 0, none⟩)]), pl 8 (.int .i64 (geti used1 z1)), pl 11 (.slice A1 used1.length c1), pl 12 (.int .i64 (used1.length : Int)), pl 13 (.int .i64 z1)] hF hS Fol (by kernel_rfl) (by kernel_rfl) (by kernel_rfl) ?_ (fun a w hF hS => ?_)
        · exact obs_cons (ob_ix1 (f := (Value.int .i64)) (m := used1) Und40 hi3 hs3 (hr_used1 _ (hS.dropN 4)) rfl (fun _ => hp1)) <| obs_cons (ob_get1 (n := used1.length) (m := used1) (Value.int .i64) (0 : Int) Agg3 (fun _ hS => ⟨_, (hr_used1 _ (hS.dropN 4))⟩) (fun _ hS => rfl) (fun _ => hp1)) <| obs_nil
        refine seq_cut (fun a w => Fr 29 [pl 0 (.pointer (some ⟨g1, 0, none⟩)), pl 2 (.func (.func 124) #[] #[.pointer (some ⟨g2, 0, none⟩), .pointer (some ⟨g3, 0, none⟩)]), pl 8 (.int .i64 (geti used1 z1)), pl 11 (.slice A1 used1.length c1), pl 12 (.int .i64 (used1.length : Int)), pl 13 (.int .i64 z1)] a ∧ Sep w0 B w (blk g1 172 (List.toArray (([.int .i64 d_Control_Base1, .int .i64 d_Control_Kind1, .int .i64 d_Control_Bonus1, .int .i64 d_Control_Moves1, .int .i64 d_Control_More1] : List Value) ++ (arr1 (Value.int .i64) (0 : Int) 2 d5 ++ (([.int .i64 d6, .int .i64 d7] : List Value) ++ (arr1 (Value.int .i64) (0 : Int) 2 d8 ++ ([] : List Value)))))) :: blk g2 40 #[.slice A5 tell1.length c5] :: own 3 (.slice A5 tell1.length c5) (vI tell1) :: blk g3 167 #[.pointer (some ⟨g1, 0, none⟩)] :: fs) ∧ ((clock_device_runs_4_J4 d_Control_Base1 d_Control_Kind1 d_Control_Bonus1 d_Control_Moves1 d_Control_More1 used1 d5 d6 d7 d8 tell1 z1)).bind φ1 = some r) ?_ ?_
        · rintro a w ⟨hF, hS, hm⟩
          unfold clock_device_runs_4_J4 at hm
          refine seqR ?_
          obtain ⟨r2, hr2, hm⟩ := call_b hm
          refine at_run 2 [] [] [0, 2, 11, 12, 13, 23, 24] [pl 0 (.pointer (some ⟨g1, 0, none⟩)), pl 2 (.func (.func 124) #[] #[.pointer (some ⟨g2, 0, none⟩), .pointer (some ⟨g3, 0, none⟩)]), pl 11 (.slice A1 used1.length c1), pl 12 (.int .i64 (used1.length : Int)), pl 13 (.int .i64 z1), pl 23 (.pointer (some ⟨g1, 0, none⟩)), pl 24 (.int .i64 (geti used1 z1))] hF hS (by kernel_rfl) (by kernel_rfl) ?_ (fun a w hF hS => ?_)
          · exact obs_nil
          refine at_call (f := 155) (args := #[.pointer (some ⟨g1, 0, none⟩), .int .i64 (geti used1 z1)]) (d := 25) hF (by kernel_rfl) (by kernel_rfl) Try.func155 (by kernel_rfl) rfl (clock_device_press_w hr2 hS ) (fun v a w hR hF => ?_)
          clear hS
          obtain ⟨rfl, hS⟩ := hR
          have hS : Sep w0 B w (blk g1 172 (List.toArray (([.int .i64 d_Control_Base1, .int .i64 d_Control_Kind1, .int .i64 d_Control_Bonus1, .int .i64 d_Control_Moves1, .int .i64 d_Control_More1] : List Value) ++ (arr1 (Value.int .i64) (0 : Int) 2 r2.2.1 ++ (([.int .i64 r2.2.2.1, .int .i64 r2.2.2.2.1] : List Value) ++ (arr1 (Value.int .i64) (0 : Int) 2 r2.2.2.2.2 ++ ([] : List Value)))))) :: blk g2 40 #[.slice A5 tell1.length c5] :: own 3 (.slice A5 tell1.length c5) (vI tell1) :: blk g3 167 #[.pointer (some ⟨g1, 0, none⟩)] :: fs) := hS
          refine at_end [0, 2, 11, 12, 13, 25] [pl 0 (.pointer (some ⟨g1, 0, none⟩)), pl 2 (.func (.func 124) #[] #[.pointer (some ⟨g2, 0, none⟩), .pointer (some ⟨g3, 0, none⟩)]), pl 11 (.slice A1 used1.length c1), pl 12 (.int .i64 (used1.length : Int)), pl 13 (.int .i64 z1), pl 25 (.bool r2.1)] hF rfl (by kernel_rfl) (fun hF => ?_)
          refine then_n ?_
          refine cond_ev (t := 25) (b := r2.1) hF (by kernel_rfl) (fun hb => ?_) (fun hb => ?_)
          · replace hm := if_t hm hb
            refine oneR ?_
            obtain ⟨r3, hr3, hm⟩ := call_b hm
            refine at_run 1 [] [] [0, 2, 11, 12, 13, 26] [pl 0 (.pointer (some ⟨g1, 0, none⟩)), pl 2 (.func (.func 124) #[] #[.pointer (some ⟨g2, 0, none⟩), .pointer (some ⟨g3, 0, none⟩)]), pl 11 (.slice A1 used1.length c1), pl 12 (.int .i64 (used1.length : Int)), pl 13 (.int .i64 z1), pl 26 (.func (.func 124) #[] #[.pointer (some ⟨g2, 0, none⟩), .pointer (some ⟨g3, 0, none⟩)])] hF hS (by kernel_rfl) (by kernel_rfl) ?_ (fun a w hF hS => ?_)
            · exact obs_nil
            have hS : Sep w0 B w (blk g2 40 #[.slice A5 tell1.length c5] :: own 3 (.slice A5 tell1.length c5) (vI tell1) :: blk g3 167 #[.pointer (some ⟨g1, 0, none⟩)] :: blk g1 172 (List.toArray (([.int .i64 d_Control_Base1, .int .i64 d_Control_Kind1, .int .i64 d_Control_Bonus1, .int .i64 d_Control_Moves1, .int .i64 d_Control_More1] : List Value) ++ (arr1 (Value.int .i64) (0 : Int) 2 r2.2.1 ++ (([.int .i64 r2.2.2.1, .int .i64 r2.2.2.2.1] : List Value) ++ (arr1 (Value.int .i64) (0 : Int) 2 r2.2.2.2.2 ++ ([] : List Value)))))) :: fs) := hS.pickN 4 [1, 2, 3, 0] (by decide)
            refine at_call (f := 124) (args := #[.pointer (some ⟨g2, 0, none⟩), .pointer (some ⟨g3, 0, none⟩)]) (d := 27) hF (by kernel_rfl) (by kernel_rfl) Try.func124 (by kernel_rfl) rfl (clock_Left_1_2_w hr3 hS ) (fun v a w hR hF => ?_)
            clear hS
            obtain ⟨A7, c7, rfl, hS⟩ := hR
            have hS : Sep w0 B w (blk g2 40 #[.slice A7 r3.length c7] :: own 3 (.slice A7 r3.length c7) (vI r3) :: blk g3 167 #[.pointer (some ⟨g1, 0, none⟩)] :: blk g1 172 (List.toArray (([.int .i64 d_Control_Base1, .int .i64 d_Control_Kind1, .int .i64 d_Control_Bonus1, .int .i64 d_Control_Moves1, .int .i64 d_Control_More1] : List Value) ++ (arr1 (Value.int .i64) (0 : Int) 2 r2.2.1 ++ (([.int .i64 r2.2.2.1, .int .i64 r2.2.2.2.1] : List Value) ++ (arr1 (Value.int .i64) (0 : Int) 2 r2.2.2.2.2 ++ ([] : List Value)))))) :: fs) := hS
            refine at_end [0, 2, 11, 12, 13] [pl 0 (.pointer (some ⟨g1, 0, none⟩)), pl 2 (.func (.func 124) #[] #[.pointer (some ⟨g2, 0, none⟩), .pointer (some ⟨g3, 0, none⟩)]), pl 11 (.slice A1 used1.length c1), pl 12 (.int .i64 (used1.length : Int)), pl 13 (.int .i64 z1)] hF rfl (by kernel_rfl) (fun hF => ?_)
            refine block_n ?_
            refine then_n ?_
            have hS := hS.pickN 4 [3, 0, 1, 2] (by decide)
            exact ⟨r2.2.1, r2.2.2.1, r2.2.2.2.1, r2.2.2.2.2, r3, A7, c7, hF.weak [0, 2, 11, 12, 13] (by kernel_rfl), hS, hm⟩
          · replace hm := if_f hm hb
            refine wp_skip ?_
            refine block_n ?_
            refine then_n ?_
            exact ⟨r2.2.1, r2.2.2.1, r2.2.2.2.1, r2.2.2.2.2, tell1, A5, c5, hF.weak [0, 2, 11, 12, 13] (by kernel_rfl), hS, hm⟩
        · refine reg [⟨false, [], vS (Instr.loadAt 3 (.pointer (some ⟨g1, 7, none⟩))), .int .i64 d6⟩] [none, none, none, none, some (.int .i64 d6), none] [0, 2, 8, 11, 12, 13, 22] [pl 0 (.pointer (some ⟨g1, 0, none⟩)), pl 2 (.func (.func 124) #[] #[.pointer (some ⟨g2, 0, none⟩), .pointer (some ⟨g3, 0, none⟩)]), pl 8 (.int .i64 (geti used1 z1)), pl 11 (.slice A1 used1.length c1), pl 12 (.int .i64 (used1.length : Int)), pl 13 (.int .i64 z1), pl 22 (.bool (decide ((0 : Int) ≤ d6)))] hF hS Fol (by kernel_rfl) (by kernel_rfl) (by kernel_rfl) ?_ (fun a w hF hS => ?_)
          · exact obs_cons (ob_load Agg3 (fun _ _ hS => (hS.at_ 0 rfl).cell rfl)) <| obs_nil
          refine cond_ev (t := 22) (b := decide ((0 : Int) ≤ d6)) hF (by kernel_rfl) (fun hb => ?_) (fun hb => ?_)
          · replace hm := if_t hm hb
            refine reg [] [] [6] [pl 6 (.int .i64 9)] hF hS Fol (by kernel_rfl) (by kernel_rfl) (by kernel_rfl) ?_ (fun a w hF hS => ?_)
            · exact obs_nil
            refine wp_ret ?_
            refine then_r (block_r (then_r (then_r (block_r (then_r ?_)))))
            rw [← hφ1] at hm
            replace hm := done_b hm
            unfold clock_device_runs_4_K1 at hm
            try dsimp only at hm
            have hm : some (9, d5, d6, d7, d8, tell1) = some r := hm
            obtain rfl := Option.some.inj hm
            exact retV (rs := [.tmp 6]) (vs := [.int .i64 9]) hF rfl (rv_t (by kernel_rfl) <| rv_nil) rfl ⟨_, rfl, A5, c5, rfl, hS⟩
          · replace hm := if_f hm hb
            refine wp_skip ?_
            refine then_n ?_
            exact ⟨hF.weak [0, 2, 8, 11, 12, 13] (by kernel_rfl), hS, hm⟩
    · refine cond_ev (t := 14) (b := decide (z1 < (used1.length : Int))) hF (by kernel_rfl) (fun hb => ?_) (fun hb => ?_)
      · replace hm := if_t hm hb
        refine wp_skip ?_
        refine then_n ?_
        exact ⟨hF.weak [0, 2, 11, 12, 13] (by kernel_rfl), hS, hm⟩
      · replace hm := if_f hm hb
        refine wp_exit ?_
        refine then_e (then_e (block_e (then_n ?_)))
        rw [← hφ1] at hm
        replace hm := done_b hm
        unfold clock_device_runs_4_K1 at hm
        try dsimp only at hm
        have hm : (clock_device_runs_4_J1 d5 d6 d7 d8 tell1).bind some = some r := hm
        exact ⟨d5, d6, d7, d8, tell1, A5, c5, hF.weak [] (by kernel_rfl), hS, hm⟩

noncomputable def clock_Left_J2 : Option (List Int × Int) :=
  some (([] : List Int), 0)

noncomputable def clock_Left_J1 (used1 : List Int) : Option (List Int × Int) :=
  (clock_device_runs_3_m used1 ([] : List Int)).bind fun r3 => if (r3 != 0) then (some (([] : List Int), r3)) else (clock_Left_J2)

noncomputable def clock_Left_J4 (l1 : List Int) : Option (List Int × Int) :=
  some (l1, 0)

noncomputable def clock_Left_J3 (used1 : List Int) (r4 : (Int × Int × Int × Int × Int × List Int × List Int)) : Option (List Int × Int) :=
  (clock_device_runs_4_m r4.1 r4.2.1 r4.2.2.1 r4.2.2.2.1 r4.2.2.2.2.1 r4.2.2.2.2.2.1 (-1) 0 r4.2.2.2.2.2.2 used1 ([] : List Int)).bind fun r5 => if (r5.1 != 0) then (some (([] : List Int), r5.1)) else (clock_Left_J4 r5.2.2.2.2.2)

noncomputable def clock_Left_m (c1 : Int) (c2 : Int) (c3 : Int) (c4 : Int) (c5 : Int) (used1 : List Int) : Option (List Int × Int) :=
  (clock_newDevice_m c1 c2 c3 c4 c5 used1).bind fun r1 => Fl.elim2 r1 (fun (r2 : Int) => if (r2 != 0) then (some (([] : List Int), r2)) else ((clock_Left_J1 used1))) (fun (r4 : (Int × Int × Int × Int × Int × List Int × List Int)) => (clock_Left_J3 used1 r4))

set_option maxRecDepth 100000 in
set_option maxHeartbeats 4000000 in
theorem clock_Left_w {c1 : Int} {c2 : Int} {c3 : Int} {c4 : Int} {c5 : Int} {A1 : Option Addr} {c6 : Nat} {n1 : Nat} {used1 : List Int} {r : (List Int × Int)} {w0 w : World} {B : Nat} {fs : List HP} (hm : clock_Left_m c1 c2 c3 c4 c5 used1 = some r) (hS : Sep w0 B w (fs)) (hr_used1 : RdF w0 B fs A1 (vI used1)) (_hc_used1 : used1.length ≤ c6) (_hn_used1 : n1 = used1.length) :
    Calls Try.prog 69 #[.agg #[.int .i64 c1, .int .i64 c2, .int .i64 c3, .int .i64 c4, .int .i64 c5], .slice A1 n1 c6] w fun e w' => ∃ v, e = .returned v ∧ ∃ (A4 : Option Addr) (c9 : Nat), v = .tuple #[.slice A4 r.1.length c9, .int .i64 r.2] ∧ Sep w0 B w' (own 3 (.slice A4 r.1.length c9) (vI r.1) :: fs) := by
  obtain ⟨i3, hi3, hz3, hs3, hb3⟩ := info_parts Info3
  obtain ⟨i167, hi167, hz167, hs167, hb167⟩ := info_parts Info167
  obtain rfl := _hn_used1
  unfold clock_Left_m at hm
  replace hm := start_b hm
  refine enter (l := [.agg #[.int .i64 c1, .int .i64 c2, .int .i64 c3, .int .i64 c4, .int .i64 c5], .slice A1 used1.length c6]) (n := 27) Try.func69 rfl rfl (by simp) (fun a hF => ?_)
  refine seqR ?_
  refine at_do (d := 2) (s := vS (Instr.box 98 (.agg #[.int .i64 c1, .int .i64 c2, .int .i64 c3, .int .i64 c4, .int .i64 c5]))) (v := .pointer (some ⟨w.heap.size, 0, none⟩)) (w' := w.alloc (.cells #[.int .i64 c1, .int .i64 c2, .int .i64 c3, .int .i64 c4, .int .i64 c5] 98)) hF (by kernel_rfl) (by kernel_rfl) (by kernel_rfl) (fun a hF => ?_)
  have hS : Sep w0 B (w.alloc (.cells #[.int .i64 c1, .int .i64 c2, .int .i64 c3, .int .i64 c4, .int .i64 c5] 98)) (blk w.heap.size 98 #[.int .i64 c1, .int .i64 c2, .int .i64 c3, .int .i64 c4, .int .i64 c5] :: (fs)) := hS.box 98 #[.int .i64 c1, .int .i64 c2, .int .i64 c3, .int .i64 c4, .int .i64 c5]
  generalize w.heap.size = g1 at hF hS
  generalize w.alloc (.cells #[.int .i64 c1, .int .i64 c2, .int .i64 c3, .int .i64 c4, .int .i64 c5] 98) = w at hS ⊢
  refine at_run 2 [] [] [1, 2] [pl 1 (.slice A1 used1.length c6), pl 2 (.pointer (some ⟨g1, 0, none⟩))] hF hS (by kernel_rfl) (by kernel_rfl) ?_ (fun a w hF hS => ?_)
  · exact obs_nil
  refine at_end [1, 2] [pl 1 (.slice A1 used1.length c6), pl 2 (.pointer (some ⟨g1, 0, none⟩))] hF rfl (by kernel_rfl) (fun hF => ?_)
  refine then_n ?_
  refine seqR ?_
  obtain ⟨r1, hr1, hm⟩ := call_b hm
  refine at_run 2 [⟨false, [], vS (Instr.loadAt 98 (.pointer (some ⟨g1, 0, none⟩))), .agg #[.int .i64 c1, .int .i64 c2, .int .i64 c3, .int .i64 c4, .int .i64 c5]⟩] [some (.agg #[.int .i64 c1, .int .i64 c2, .int .i64 c3, .int .i64 c4, .int .i64 c5]), none] [1, 11, 12] [pl 1 (.slice A1 used1.length c6), pl 11 (.agg #[.int .i64 c1, .int .i64 c2, .int .i64 c3, .int .i64 c4, .int .i64 c5]), pl 12 (.slice A1 used1.length c6)] hF hS (by kernel_rfl) (by kernel_rfl) ?_ (fun a w hF hS => ?_)
  · exact obs_cons (ob_loadA (cs := #[.int .i64 c1, .int .i64 c2, .int .i64 c3, .int .i64 c4, .int .i64 c5]) (by kernel_rfl) (by kernel_rfl) (fun _ _ hS => (hS.at_ 0 rfl).cellsAt 0 (by rfl))) <| obs_nil
  refine at_call (f := 121) (args := #[.agg #[.int .i64 c1, .int .i64 c2, .int .i64 c3, .int .i64 c4, .int .i64 c5], .slice A1 used1.length c6]) (d := 13) hF (by kernel_rfl) (by kernel_rfl) Try.func121 (by kernel_rfl) rfl (clock_newDevice_w hr1 hS (fun _ hS => (hr_used1 _ (hS.dropN 1))) _hc_used1 rfl) (fun v a w hR hF => ?_)
  clear hS
  rcases r1 with r2 | r4
  · replace hm := fl_go hm
    replace hR := flp_go hR
    obtain ⟨rfl, hS⟩ := hR
    have hS : Sep w0 B w (blk g1 98 #[.int .i64 c1, .int .i64 c2, .int .i64 c3, .int .i64 c4, .int .i64 c5] :: fs) := hS
    refine at_run 3 [] [] [1, 14, 15] [pl 1 (.slice A1 used1.length c6), pl 14 (.pointer none), pl 15 (.int .i64 r2)] hF hS (by kernel_rfl) (by kernel_rfl) ?_ (fun a w hF hS => ?_)
    · exact obs_nil
    refine at_do (d := 6) (s := vS (Instr.alloc 167 true (.tuple #[]))) (v := .pointer (some ⟨w.heap.size, 0, none⟩)) (w' := w.alloc (.cells #[.pointer none] 167)) hF (by kernel_rfl) (by kernel_rfl) (by kernel_rfl) (fun a hF => ?_)
    have hS : Sep w0 B (w.alloc (.cells #[.pointer none] 167)) (blk w.heap.size 167 #[.pointer none] :: (blk g1 98 #[.int .i64 c1, .int .i64 c2, .int .i64 c3, .int .i64 c4, .int .i64 c5] :: fs)) := hS.box 167 #[.pointer none]
    generalize w.heap.size = g2 at hF hS
    generalize w.alloc (.cells #[.pointer none] 167) = w at hS ⊢
    obtain ⟨w, hrun, hS⟩ := run_put (P := Try.prog) (t := 167) (u := .pointer none) (i := 0) (hS.at_ 0 rfl) hi167 hs167 rfl (Nat.lt_of_lt_of_eq (Nat.lt_of_succ_le (Nat.le_of_ble_eq_true (by kernel_rfl))) rfl)
    refine at_skip hF (by kernel_rfl) hrun ?_
    have hS : Sep w0 B w (blk g2 167 #[.pointer none] :: blk g1 98 #[.int .i64 c1, .int .i64 c2, .int .i64 c3, .int .i64 c4, .int .i64 c5] :: fs) := hS
    refine at_run 1 [] [] [1, 6, 7] [pl 1 (.slice A1 used1.length c6), pl 6 (.pointer (some ⟨g2, 0, none⟩)), pl 7 (.int .i64 r2)] hF hS (by kernel_rfl) (by kernel_rfl) ?_ (fun a w hF hS => ?_)
    · exact obs_nil
    refine at_end [1, 6, 7] [pl 1 (.slice A1 used1.length c6), pl 6 (.pointer (some ⟨g2, 0, none⟩)), pl 7 (.int .i64 r2)] hF rfl (by kernel_rfl) (fun hF => ?_)
    refine then_n ?_
    refine seq_cut (fun a w => Fr 27 [pl 1 (.slice A1 used1.length c6), pl 6 (.pointer (some ⟨g2, 0, none⟩))] a ∧ Sep w0 B w (blk g2 167 #[.pointer none] :: fs) ∧ ((clock_Left_J1 used1)).bind some = some r) ?_ ?_
    · rintro a w ⟨hF, hS, hm⟩
      unfold clock_Left_J1 at hm
      refine seqR ?_
      refine at_do (d := 8) (s := vS (Instr.alloc 40 true (.tuple #[]))) (v := .pointer (some ⟨w.heap.size, 0, none⟩)) (w' := w.alloc (.cells #[.slice none 0 0] 40)) hF (by kernel_rfl) (by kernel_rfl) (by kernel_rfl) (fun a hF => ?_)
      have hS : Sep w0 B (w.alloc (.cells #[.slice none 0 0] 40)) (blk w.heap.size 40 #[.slice none 0 0] :: (blk g2 167 #[.pointer none] :: fs)) := hS.box 40 #[.slice none 0 0]
      generalize w.heap.size = g3 at hF hS
      generalize w.alloc (.cells #[.slice none 0 0] 40) = w at hS ⊢
      refine at_end [1, 6, 8] [pl 1 (.slice A1 used1.length c6), pl 6 (.pointer (some ⟨g2, 0, none⟩)), pl 8 (.pointer (some ⟨g3, 0, none⟩))] hF rfl (by kernel_rfl) (fun hF => ?_)
      refine then_n ?_
      refine seq_cut (fun a w => Fr 27 [pl 8 (.pointer (some ⟨g3, 0, none⟩))] a ∧ Sep w0 B w (blk g3 40 #[.slice none 0 0] :: own 3 (.slice none 0 0) (vI ([] : List Int)) :: fs) ∧ (clock_Left_J2).bind some = some r) ?_ ?_
      · rintro a w ⟨hF, hS, hm⟩
        unfold clock_Left_J2 at hm
        refine reg [⟨false, [], vS (Instr.loadAt 40 (.pointer (some ⟨g3, 0, none⟩))), .slice none 0 0⟩] [some (.slice none 0 0), none, none] [4, 5] [pl 4 (.slice none 0 0), pl 5 (.int .i64 0)] hF hS Fol (by kernel_rfl) (by kernel_rfl) (by kernel_rfl) ?_ (fun a w hF hS => ?_)
        · exact obs_cons (ob_load Agg40 (fun _ _ hS => (hS.at_ 0 rfl).cell rfl)) <| obs_nil
        refine wp_ret ?_
        have hl3 := (hS.at_ 1 rfl).len1
        have hS := (hS.at_ 1 rfl).reN hl3
        have hS := (hS.at_ 0 rfl).reBlk (congrArg (fun k9 => (#[.slice none k9 0] : Array Value)) hl3)
        have hS : Sep w0 B w (blk g3 40 #[.slice none (([] : List Int).length) 0] :: own 3 (.slice none (([] : List Int).length) 0) (vI ([] : List Int)) :: fs) := hS
        have hF := hF.cast (t := 4) (v := .slice none 0 0) (v' := .slice none (([] : List Int).length) 0) rfl rfl (congrArg (fun k => Value.slice none k 0) hl3)
        have hS := hS.pickN 2 [1] (by decide)
        have hm : some (([] : List Int), 0) = some r := hm
        obtain rfl := Option.some.inj hm
        exact retV (rs := [.tmp 4, .tmp 5]) (vs := [.slice none (([] : List Int).length) 0, .int .i64 0]) hF rfl (rv_t (by kernel_rfl) <| rv_t (by kernel_rfl) <| rv_nil) rfl ⟨_, rfl, none, 0, rfl, hS⟩
      · refine seqR ?_
        obtain ⟨r3, hr2, hm⟩ := call_b hm
        refine at_run 3 [⟨false, [], vS (Instr.loadAt 167 (.pointer (some ⟨g2, 0, none⟩))), .pointer none⟩] [some (.pointer none), none, none] [8, 19, 20, 21] [pl 8 (.pointer (some ⟨g3, 0, none⟩)), pl 19 (.pointer none), pl 20 (.slice A1 used1.length c6), pl 21 (.func (.func 124) #[] #[.pointer (some ⟨g3, 0, none⟩), .pointer (some ⟨g2, 0, none⟩)])] hF hS (by kernel_rfl) (by kernel_rfl) ?_ (fun a w hF hS => ?_)
        · exact obs_cons (ob_load Agg167 (fun _ _ hS => (hS.at_ 1 rfl).cell rfl)) <| obs_nil
        have hS : Sep w0 B w (own 3 (.slice none 0 0) (vI ([] : List Int)) :: blk g3 40 #[.slice none 0 0] :: blk g2 167 #[.pointer none] :: fs) := hS.nil 3
        have hS : Sep w0 B w (own 3 (.slice none 0 0) (vI ([] : List Int)) :: blk g3 40 #[.slice none 0 0] :: blk g2 167 #[.pointer none] :: fs) := hS
        have hS : Sep w0 B w (blk g3 40 #[.slice none 0 0] :: own 3 (.slice none 0 0) (vI ([] : List Int)) :: blk g2 167 #[.pointer none] :: fs) := hS.pickN 3 [1, 0, 2] (by decide)
        refine at_call (f := 122) (args := #[.pointer none, .slice A1 used1.length c6, .func (.func 124) #[] #[.pointer (some ⟨g3, 0, none⟩), .pointer (some ⟨g2, 0, none⟩)]]) (d := 22) hF (by kernel_rfl) (by kernel_rfl) Try.func122 (by kernel_rfl) rfl (show Calls Try.prog 122 #[.pointer none, .slice A1 used1.length c6, .func (.func 124) #[] #[.pointer (some ⟨g3, 0, none⟩), .pointer (some ⟨g2, 0, none⟩)]] w fun e w' => ∃ v, e = .returned v ∧ v = .int .i64 r3 ∧ Sep w0 B w' (blk g3 40 #[.slice none 0 0] :: own 3 (.slice none 0 0) (vI ([] : List Int)) :: blk g2 167 #[.pointer none] :: fs) from Calls.mono (clock_device_runs_3_w hr2 hS (fun _ hS => (hr_used1 _ (hS.dropN 0))) _hc_used1 rfl) (fun e w' h => ⟨_, h.1, rfl, h.2⟩)) (fun v a w hR hF => ?_)
        clear hS
        obtain ⟨rfl, hS⟩ := hR
        have hS : Sep w0 B w (blk g3 40 #[.slice none 0 0] :: own 3 (.slice none 0 0) (vI ([] : List Int)) :: blk g2 167 #[.pointer none] :: fs) := hS
        refine at_run 1 [] [] [8, 9] [pl 8 (.pointer (some ⟨g3, 0, none⟩)), pl 9 (.int .i64 r3)] hF hS (by kernel_rfl) (by kernel_rfl) ?_ (fun a w hF hS => ?_)
        · exact obs_nil
        refine at_end [8, 9] [pl 8 (.pointer (some ⟨g3, 0, none⟩)), pl 9 (.int .i64 r3)] hF rfl (by kernel_rfl) (fun hF => ?_)
        refine then_n ?_
        refine reg [] [] [8, 9, 24] [pl 8 (.pointer (some ⟨g3, 0, none⟩)), pl 9 (.int .i64 r3), pl 24 (.bool (r3 != 0))] hF hS Fol (by kernel_rfl) (by kernel_rfl) (by kernel_rfl) ?_ (fun a w hF hS => ?_)
        · exact obs_nil
        refine cond_ev (t := 24) (b := (r3 != 0)) hF (by kernel_rfl) (fun hb => ?_) (fun hb => ?_)
        · replace hm := if_t hm hb
          refine reg [] [] [4, 5] [pl 4 (.slice none 0 0), pl 5 (.int .i64 r3)] hF hS Fol (by kernel_rfl) (by kernel_rfl) (by kernel_rfl) ?_ (fun a w hF hS => ?_)
          · exact obs_nil
          refine wp_ret ?_
          refine then_r ?_
          have hS : Sep w0 B w (own 3 (.slice none 0 0) (vI ([] : List Int)) :: blk g3 40 #[.slice none 0 0] :: own 3 (.slice none 0 0) (vI ([] : List Int)) :: blk g2 167 #[.pointer none] :: fs) := hS.nil 3
          have hl2 := (hS.at_ 0 rfl).len1
          have hS := (hS.at_ 0 rfl).reN hl2
          have hS : Sep w0 B w (own 3 (.slice none (([] : List Int).length) 0) (vI ([] : List Int)) :: blk g3 40 #[.slice none 0 0] :: own 3 (.slice none 0 0) (vI ([] : List Int)) :: blk g2 167 #[.pointer none] :: fs) := hS
          have hS := hS.pickN 4 [0] (by decide)
          have hm : some (([] : List Int), r3) = some r := hm
          obtain rfl := Option.some.inj hm
          exact retV (rs := [.tmp 4, .tmp 5]) (vs := [.slice none (([] : List Int).length) 0, .int .i64 r3]) hF rfl (rv_t (by kernel_rfl) <| rv_t (by kernel_rfl) <| rv_nil) rfl ⟨_, rfl, none, 0, rfl, hS⟩
        · replace hm := if_f hm hb
          refine wp_skip ?_
          refine then_n ?_
          have hS := hS.pickN 3 [0, 1] (by decide)
          exact ⟨hF.weak [8] (by kernel_rfl), hS, hm⟩
    · refine reg [] [] [1, 6, 7, 17] [pl 1 (.slice A1 used1.length c6), pl 6 (.pointer (some ⟨g2, 0, none⟩)), pl 7 (.int .i64 r2), pl 17 (.bool (r2 != 0))] hF hS Fol (by kernel_rfl) (by kernel_rfl) (by kernel_rfl) ?_ (fun a w hF hS => ?_)
      · exact obs_nil
      refine cond_ev (t := 17) (b := (r2 != 0)) hF (by kernel_rfl) (fun hb => ?_) (fun hb => ?_)
      · replace hm := if_t hm hb
        refine reg [] [] [4, 5] [pl 4 (.slice none 0 0), pl 5 (.int .i64 r2)] hF hS Fol (by kernel_rfl) (by kernel_rfl) (by kernel_rfl) ?_ (fun a w hF hS => ?_)
        · exact obs_nil
        refine wp_ret ?_
        refine then_r ?_
        have hS : Sep w0 B w (own 3 (.slice none 0 0) (vI ([] : List Int)) :: blk g2 167 #[.pointer none] :: blk g1 98 #[.int .i64 c1, .int .i64 c2, .int .i64 c3, .int .i64 c4, .int .i64 c5] :: fs) := hS.nil 3
        have hl1 := (hS.at_ 0 rfl).len1
        have hS := (hS.at_ 0 rfl).reN hl1
        have hS : Sep w0 B w (own 3 (.slice none (([] : List Int).length) 0) (vI ([] : List Int)) :: blk g2 167 #[.pointer none] :: blk g1 98 #[.int .i64 c1, .int .i64 c2, .int .i64 c3, .int .i64 c4, .int .i64 c5] :: fs) := hS
        have hS := hS.pickN 3 [0] (by decide)
        have hm : some (([] : List Int), r2) = some r := hm
        obtain rfl := Option.some.inj hm
        exact retV (rs := [.tmp 4, .tmp 5]) (vs := [.slice none (([] : List Int).length) 0, .int .i64 r2]) hF rfl (rv_t (by kernel_rfl) <| rv_t (by kernel_rfl) <| rv_nil) rfl ⟨_, rfl, none, 0, rfl, hS⟩
      · replace hm := if_f hm hb
        refine wp_skip ?_
        refine then_n ?_
        have hS := hS.pickN 2 [0] (by decide)
        exact ⟨hF.weak [1, 6] (by kernel_rfl), hS, hm⟩
  · replace hm := fl_ret hm
    replace hR := flp_ret hR
    obtain ⟨g4, rfl, hS⟩ := hR
    have hS : Sep w0 B w (blk g4 172 (List.toArray (([.int .i64 r4.1, .int .i64 r4.2.1, .int .i64 r4.2.2.1, .int .i64 r4.2.2.2.1, .int .i64 r4.2.2.2.2.1] : List Value) ++ (arr1 (Value.int .i64) (0 : Int) 2 r4.2.2.2.2.2.1 ++ (([.int .i64 (-1), .int .i64 0] : List Value) ++ (arr1 (Value.int .i64) (0 : Int) 2 r4.2.2.2.2.2.2 ++ ([] : List Value)))))) :: blk g1 98 #[.int .i64 c1, .int .i64 c2, .int .i64 c3, .int .i64 c4, .int .i64 c5] :: fs) := hS
    refine at_run 3 [] [] [1, 14, 15] [pl 1 (.slice A1 used1.length c6), pl 14 (.pointer (some ⟨g4, 0, none⟩)), pl 15 (.int .i64 0)] hF hS (by kernel_rfl) (by kernel_rfl) ?_ (fun a w hF hS => ?_)
    · exact obs_nil
    refine at_do (d := 6) (s := vS (Instr.alloc 167 true (.tuple #[]))) (v := .pointer (some ⟨w.heap.size, 0, none⟩)) (w' := w.alloc (.cells #[.pointer none] 167)) hF (by kernel_rfl) (by kernel_rfl) (by kernel_rfl) (fun a hF => ?_)
    have hS : Sep w0 B (w.alloc (.cells #[.pointer none] 167)) (blk w.heap.size 167 #[.pointer none] :: (blk g4 172 (List.toArray (([.int .i64 r4.1, .int .i64 r4.2.1, .int .i64 r4.2.2.1, .int .i64 r4.2.2.2.1, .int .i64 r4.2.2.2.2.1] : List Value) ++ (arr1 (Value.int .i64) (0 : Int) 2 r4.2.2.2.2.2.1 ++ (([.int .i64 (-1), .int .i64 0] : List Value) ++ (arr1 (Value.int .i64) (0 : Int) 2 r4.2.2.2.2.2.2 ++ ([] : List Value)))))) :: blk g1 98 #[.int .i64 c1, .int .i64 c2, .int .i64 c3, .int .i64 c4, .int .i64 c5] :: fs)) := hS.box 167 #[.pointer none]
    generalize w.heap.size = g5 at hF hS
    generalize w.alloc (.cells #[.pointer none] 167) = w at hS ⊢
    obtain ⟨w, hrun, hS⟩ := run_put (P := Try.prog) (t := 167) (u := .pointer (some ⟨g4, 0, none⟩)) (i := 0) (hS.at_ 0 rfl) hi167 hs167 rfl (Nat.lt_of_lt_of_eq (Nat.lt_of_succ_le (Nat.le_of_ble_eq_true (by kernel_rfl))) rfl)
    refine at_skip hF (by kernel_rfl) hrun ?_
    have hS : Sep w0 B w (blk g5 167 #[.pointer (some ⟨g4, 0, none⟩)] :: blk g4 172 (List.toArray (([.int .i64 r4.1, .int .i64 r4.2.1, .int .i64 r4.2.2.1, .int .i64 r4.2.2.2.1, .int .i64 r4.2.2.2.2.1] : List Value) ++ (arr1 (Value.int .i64) (0 : Int) 2 r4.2.2.2.2.2.1 ++ (([.int .i64 (-1), .int .i64 0] : List Value) ++ (arr1 (Value.int .i64) (0 : Int) 2 r4.2.2.2.2.2.2 ++ ([] : List Value)))))) :: blk g1 98 #[.int .i64 c1, .int .i64 c2, .int .i64 c3, .int .i64 c4, .int .i64 c5] :: fs) := hS
    refine at_run 1 [] [] [1, 6, 7] [pl 1 (.slice A1 used1.length c6), pl 6 (.pointer (some ⟨g5, 0, none⟩)), pl 7 (.int .i64 0)] hF hS (by kernel_rfl) (by kernel_rfl) ?_ (fun a w hF hS => ?_)
    · exact obs_nil
    refine at_end [1, 6, 7] [pl 1 (.slice A1 used1.length c6), pl 6 (.pointer (some ⟨g5, 0, none⟩)), pl 7 (.int .i64 0)] hF rfl (by kernel_rfl) (fun hF => ?_)
    refine then_n ?_
    refine seq_cut (fun a w => Fr 27 [pl 1 (.slice A1 used1.length c6), pl 6 (.pointer (some ⟨g5, 0, none⟩))] a ∧ Sep w0 B w (blk g5 167 #[.pointer (some ⟨g4, 0, none⟩)] :: blk g4 172 (List.toArray (([.int .i64 r4.1, .int .i64 r4.2.1, .int .i64 r4.2.2.1, .int .i64 r4.2.2.2.1, .int .i64 r4.2.2.2.2.1] : List Value) ++ (arr1 (Value.int .i64) (0 : Int) 2 r4.2.2.2.2.2.1 ++ (([.int .i64 (-1), .int .i64 0] : List Value) ++ (arr1 (Value.int .i64) (0 : Int) 2 r4.2.2.2.2.2.2 ++ ([] : List Value)))))) :: fs) ∧ ((clock_Left_J3 used1 r4)).bind some = some r) ?_ ?_
    · rintro a w ⟨hF, hS, hm⟩
      unfold clock_Left_J3 at hm
      refine seqR ?_
      refine at_do (d := 8) (s := vS (Instr.alloc 40 true (.tuple #[]))) (v := .pointer (some ⟨w.heap.size, 0, none⟩)) (w' := w.alloc (.cells #[.slice none 0 0] 40)) hF (by kernel_rfl) (by kernel_rfl) (by kernel_rfl) (fun a hF => ?_)
      have hS : Sep w0 B (w.alloc (.cells #[.slice none 0 0] 40)) (blk w.heap.size 40 #[.slice none 0 0] :: (blk g5 167 #[.pointer (some ⟨g4, 0, none⟩)] :: blk g4 172 (List.toArray (([.int .i64 r4.1, .int .i64 r4.2.1, .int .i64 r4.2.2.1, .int .i64 r4.2.2.2.1, .int .i64 r4.2.2.2.2.1] : List Value) ++ (arr1 (Value.int .i64) (0 : Int) 2 r4.2.2.2.2.2.1 ++ (([.int .i64 (-1), .int .i64 0] : List Value) ++ (arr1 (Value.int .i64) (0 : Int) 2 r4.2.2.2.2.2.2 ++ ([] : List Value)))))) :: fs)) := hS.box 40 #[.slice none 0 0]
      generalize w.heap.size = g6 at hF hS
      generalize w.alloc (.cells #[.slice none 0 0] 40) = w at hS ⊢
      refine at_end [1, 6, 8] [pl 1 (.slice A1 used1.length c6), pl 6 (.pointer (some ⟨g5, 0, none⟩)), pl 8 (.pointer (some ⟨g6, 0, none⟩))] hF rfl (by kernel_rfl) (fun hF => ?_)
      refine then_n ?_
      refine seq_cut (fun a w => ∃ (l1 : List Int) (A3 : Option Addr) (c8 : Nat), Fr 27 [pl 8 (.pointer (some ⟨g6, 0, none⟩))] a ∧ Sep w0 B w (blk g6 40 #[.slice A3 l1.length c8] :: own 3 (.slice A3 l1.length c8) (vI l1) :: fs) ∧ (clock_Left_J4 l1).bind some = some r) ?_ ?_
      · rintro a w ⟨l1, A3, c8, hF, hS, hm⟩
        unfold clock_Left_J4 at hm
        refine reg [⟨false, [], vS (Instr.loadAt 40 (.pointer (some ⟨g6, 0, none⟩))), .slice A3 l1.length c8⟩] [some (.slice A3 l1.length c8), none, none] [4, 5] [pl 4 (.slice A3 l1.length c8), pl 5 (.int .i64 0)] hF hS Fol (by kernel_rfl) (by kernel_rfl) (by kernel_rfl) ?_ (fun a w hF hS => ?_)
        · exact obs_cons (ob_load Agg40 (fun _ _ hS => (hS.at_ 0 rfl).cell rfl)) <| obs_nil
        refine wp_ret ?_
        have hS := hS.pickN 2 [1] (by decide)
        have hm : some (l1, 0) = some r := hm
        obtain rfl := Option.some.inj hm
        exact retV (rs := [.tmp 4, .tmp 5]) (vs := [.slice A3 l1.length c8, .int .i64 0]) hF rfl (rv_t (by kernel_rfl) <| rv_t (by kernel_rfl) <| rv_nil) rfl ⟨_, rfl, A3, c8, rfl, hS⟩
      · refine seqR ?_
        obtain ⟨r5, hr3, hm⟩ := call_b hm
        refine at_run 3 [⟨false, [], vS (Instr.loadAt 167 (.pointer (some ⟨g5, 0, none⟩))), .pointer (some ⟨g4, 0, none⟩)⟩] [some (.pointer (some ⟨g4, 0, none⟩)), none, none] [8, 19, 20, 21] [pl 8 (.pointer (some ⟨g6, 0, none⟩)), pl 19 (.pointer (some ⟨g4, 0, none⟩)), pl 20 (.slice A1 used1.length c6), pl 21 (.func (.func 124) #[] #[.pointer (some ⟨g6, 0, none⟩), .pointer (some ⟨g5, 0, none⟩)])] hF hS (by kernel_rfl) (by kernel_rfl) ?_ (fun a w hF hS => ?_)
        · exact obs_cons (ob_load Agg167 (fun _ _ hS => (hS.at_ 1 rfl).cell rfl)) <| obs_nil
        have hS : Sep w0 B w (own 3 (.slice none 0 0) (vI ([] : List Int)) :: blk g6 40 #[.slice none 0 0] :: blk g5 167 #[.pointer (some ⟨g4, 0, none⟩)] :: blk g4 172 (List.toArray (([.int .i64 r4.1, .int .i64 r4.2.1, .int .i64 r4.2.2.1, .int .i64 r4.2.2.2.1, .int .i64 r4.2.2.2.2.1] : List Value) ++ (arr1 (Value.int .i64) (0 : Int) 2 r4.2.2.2.2.2.1 ++ (([.int .i64 (-1), .int .i64 0] : List Value) ++ (arr1 (Value.int .i64) (0 : Int) 2 r4.2.2.2.2.2.2 ++ ([] : List Value)))))) :: fs) := hS.nil 3
        have hS : Sep w0 B w (own 3 (.slice none 0 0) (vI ([] : List Int)) :: blk g6 40 #[.slice none 0 0] :: blk g5 167 #[.pointer (some ⟨g4, 0, none⟩)] :: blk g4 172 (List.toArray (([.int .i64 r4.1, .int .i64 r4.2.1, .int .i64 r4.2.2.1, .int .i64 r4.2.2.2.1, .int .i64 r4.2.2.2.2.1] : List Value) ++ (arr1 (Value.int .i64) (0 : Int) 2 r4.2.2.2.2.2.1 ++ (([.int .i64 (-1), .int .i64 0] : List Value) ++ (arr1 (Value.int .i64) (0 : Int) 2 r4.2.2.2.2.2.2 ++ ([] : List Value)))))) :: fs) := hS
        have hS : Sep w0 B w (blk g4 172 (List.toArray (([.int .i64 r4.1, .int .i64 r4.2.1, .int .i64 r4.2.2.1, .int .i64 r4.2.2.2.1, .int .i64 r4.2.2.2.2.1] : List Value) ++ (arr1 (Value.int .i64) (0 : Int) 2 r4.2.2.2.2.2.1 ++ (([.int .i64 (-1), .int .i64 0] : List Value) ++ (arr1 (Value.int .i64) (0 : Int) 2 r4.2.2.2.2.2.2 ++ ([] : List Value)))))) :: blk g6 40 #[.slice none 0 0] :: own 3 (.slice none 0 0) (vI ([] : List Int)) :: blk g5 167 #[.pointer (some ⟨g4, 0, none⟩)] :: fs) := hS.pickN 4 [3, 1, 0, 2] (by decide)
        refine at_call (f := 122) (args := #[.pointer (some ⟨g4, 0, none⟩), .slice A1 used1.length c6, .func (.func 124) #[] #[.pointer (some ⟨g6, 0, none⟩), .pointer (some ⟨g5, 0, none⟩)]]) (d := 22) hF (by kernel_rfl) (by kernel_rfl) Try.func122 (by kernel_rfl) rfl (clock_device_runs_4_w hr3 hS (fun _ hS => (hr_used1 _ (hS.dropN 0))) _hc_used1 rfl) (fun v a w hR hF => ?_)
        clear hS
        obtain ⟨A2, c7, rfl, hS⟩ := hR
        have hS : Sep w0 B w (blk g4 172 (List.toArray (([.int .i64 r4.1, .int .i64 r4.2.1, .int .i64 r4.2.2.1, .int .i64 r4.2.2.2.1, .int .i64 r4.2.2.2.2.1] : List Value) ++ (arr1 (Value.int .i64) (0 : Int) 2 r5.2.1 ++ (([.int .i64 r5.2.2.1, .int .i64 r5.2.2.2.1] : List Value) ++ (arr1 (Value.int .i64) (0 : Int) 2 r5.2.2.2.2.1 ++ ([] : List Value)))))) :: blk g6 40 #[.slice A2 r5.2.2.2.2.2.length c7] :: own 3 (.slice A2 r5.2.2.2.2.2.length c7) (vI r5.2.2.2.2.2) :: blk g5 167 #[.pointer (some ⟨g4, 0, none⟩)] :: fs) := hS
        refine at_run 1 [] [] [8, 9] [pl 8 (.pointer (some ⟨g6, 0, none⟩)), pl 9 (.int .i64 r5.1)] hF hS (by kernel_rfl) (by kernel_rfl) ?_ (fun a w hF hS => ?_)
        · exact obs_nil
        refine at_end [8, 9] [pl 8 (.pointer (some ⟨g6, 0, none⟩)), pl 9 (.int .i64 r5.1)] hF rfl (by kernel_rfl) (fun hF => ?_)
        refine then_n ?_
        refine reg [] [] [8, 9, 24] [pl 8 (.pointer (some ⟨g6, 0, none⟩)), pl 9 (.int .i64 r5.1), pl 24 (.bool (r5.1 != 0))] hF hS Fol (by kernel_rfl) (by kernel_rfl) (by kernel_rfl) ?_ (fun a w hF hS => ?_)
        · exact obs_nil
        refine cond_ev (t := 24) (b := (r5.1 != 0)) hF (by kernel_rfl) (fun hb => ?_) (fun hb => ?_)
        · replace hm := if_t hm hb
          refine reg [] [] [4, 5] [pl 4 (.slice none 0 0), pl 5 (.int .i64 r5.1)] hF hS Fol (by kernel_rfl) (by kernel_rfl) (by kernel_rfl) ?_ (fun a w hF hS => ?_)
          · exact obs_nil
          refine wp_ret ?_
          refine then_r ?_
          have hS : Sep w0 B w (own 3 (.slice none 0 0) (vI ([] : List Int)) :: blk g4 172 (List.toArray (([.int .i64 r4.1, .int .i64 r4.2.1, .int .i64 r4.2.2.1, .int .i64 r4.2.2.2.1, .int .i64 r4.2.2.2.2.1] : List Value) ++ (arr1 (Value.int .i64) (0 : Int) 2 r5.2.1 ++ (([.int .i64 r5.2.2.1, .int .i64 r5.2.2.2.1] : List Value) ++ (arr1 (Value.int .i64) (0 : Int) 2 r5.2.2.2.2.1 ++ ([] : List Value)))))) :: blk g6 40 #[.slice A2 r5.2.2.2.2.2.length c7] :: own 3 (.slice A2 r5.2.2.2.2.2.length c7) (vI r5.2.2.2.2.2) :: blk g5 167 #[.pointer (some ⟨g4, 0, none⟩)] :: fs) := hS.nil 3
          have hl4 := (hS.at_ 0 rfl).len1
          have hS := (hS.at_ 0 rfl).reN hl4
          have hS : Sep w0 B w (own 3 (.slice none (([] : List Int).length) 0) (vI ([] : List Int)) :: blk g4 172 (List.toArray (([.int .i64 r4.1, .int .i64 r4.2.1, .int .i64 r4.2.2.1, .int .i64 r4.2.2.2.1, .int .i64 r4.2.2.2.2.1] : List Value) ++ (arr1 (Value.int .i64) (0 : Int) 2 r5.2.1 ++ (([.int .i64 r5.2.2.1, .int .i64 r5.2.2.2.1] : List Value) ++ (arr1 (Value.int .i64) (0 : Int) 2 r5.2.2.2.2.1 ++ ([] : List Value)))))) :: blk g6 40 #[.slice A2 r5.2.2.2.2.2.length c7] :: own 3 (.slice A2 r5.2.2.2.2.2.length c7) (vI r5.2.2.2.2.2) :: blk g5 167 #[.pointer (some ⟨g4, 0, none⟩)] :: fs) := hS
          have hS := hS.pickN 5 [0] (by decide)
          have hm : some (([] : List Int), r5.1) = some r := hm
          obtain rfl := Option.some.inj hm
          exact retV (rs := [.tmp 4, .tmp 5]) (vs := [.slice none (([] : List Int).length) 0, .int .i64 r5.1]) hF rfl (rv_t (by kernel_rfl) <| rv_t (by kernel_rfl) <| rv_nil) rfl ⟨_, rfl, none, 0, rfl, hS⟩
        · replace hm := if_f hm hb
          refine wp_skip ?_
          refine then_n ?_
          have hS := hS.pickN 4 [1, 2] (by decide)
          exact ⟨r5.2.2.2.2.2, A2, c7, hF.weak [8] (by kernel_rfl), hS, hm⟩
    · refine reg [] [] [1, 6, 7, 17] [pl 1 (.slice A1 used1.length c6), pl 6 (.pointer (some ⟨g5, 0, none⟩)), pl 7 (.int .i64 0), pl 17 (.bool ((0 : Int) != 0))] hF hS Fol (by kernel_rfl) (by kernel_rfl) (by kernel_rfl) ?_ (fun a w hF hS => ?_)
      · exact obs_nil
      refine cond_ev (t := 17) (b := ((0 : Int) != 0)) hF (by kernel_rfl) (fun hb => ?_) (fun hb => ?_)
      · exact absurd hb (by decide)
      · refine wp_skip ?_
        refine then_n ?_
        have hS := hS.pickN 3 [0, 1] (by decide)
        exact ⟨hF.weak [1, 6] (by kernel_rfl), hS, hm⟩

noncomputable def clock_Pace_J4 (n2 : Int) : Option (Int × Int) :=
  some (n2, 0)

noncomputable def clock_Pace_J3 (c4 : Int) (c5 : Int) (moves1 : Int) (n1 : Int) : Option (Int × Int) :=
  if (decide ((0 : Int) < c4)) then (asrt (c4 ≠ (0 : Int)) <| clock_Pace_J4 (w64 (n1 + (w64 ((w64 (Int.tdiv moves1 c4)) * c5))))) else (clock_Pace_J4 n1)

noncomputable def clock_Pace_J2 (c1 : Int) (c2 : Int) (c3 : Int) (c4 : Int) (c5 : Int) (moves1 : Int) : Option (Int × Int) :=
  if (c2 != 0) then ((clock_Pace_J3 c4 c5 moves1) (w64 (c1 + (w64 (moves1 * c3))))) else ((clock_Pace_J3 c4 c5 moves1) c1)

noncomputable def clock_Pace_J1 (c1 : Int) (c2 : Int) (c3 : Int) (c4 : Int) (c5 : Int) (moves1 : Int) : Option (Int × Int) :=
  if ((decide (moves1 < 0)) || (decide ((200 : Int) < moves1))) then (some (0, 11)) else ((clock_Pace_J2 c1 c2 c3 c4 c5 moves1))

noncomputable def clock_Pace_m (c1 : Int) (c2 : Int) (c3 : Int) (c4 : Int) (c5 : Int) (moves1 : Int) : Option (Int × Int) :=
  (clock_check_m c1 c2 c3 c4 c5).bind fun r1 => if (r1 != 0) then (some (0, r1)) else ((clock_Pace_J1 c1 c2 c3 c4 c5 moves1))

set_option maxRecDepth 100000 in
set_option maxHeartbeats 4000000 in
theorem clock_Pace_w {c1 : Int} {c2 : Int} {c3 : Int} {c4 : Int} {c5 : Int} {moves1 : Int} {r : (Int × Int)} {w0 w : World} {B : Nat} {fs : List HP} (hm : clock_Pace_m c1 c2 c3 c4 c5 moves1 = some r) (hS : Sep w0 B w (fs)) :
    Calls Try.prog 70 #[.agg #[.int .i64 c1, .int .i64 c2, .int .i64 c3, .int .i64 c4, .int .i64 c5], .int .i64 moves1] w fun e w' => e = .returned (.tuple #[.int .i64 r.1, .int .i64 r.2]) ∧ Sep w0 B w' (fs) := by
  unfold clock_Pace_m at hm
  replace hm := start_b hm
  refine enter (l := [.agg #[.int .i64 c1, .int .i64 c2, .int .i64 c3, .int .i64 c4, .int .i64 c5], .int .i64 moves1]) (n := 43) Try.func70 rfl rfl (by simp) (fun a hF => ?_)
  refine seqR ?_
  refine at_do (d := 2) (s := vS (Instr.box 98 (.agg #[.int .i64 c1, .int .i64 c2, .int .i64 c3, .int .i64 c4, .int .i64 c5]))) (v := .pointer (some ⟨w.heap.size, 0, none⟩)) (w' := w.alloc (.cells #[.int .i64 c1, .int .i64 c2, .int .i64 c3, .int .i64 c4, .int .i64 c5] 98)) hF (by kernel_rfl) (by kernel_rfl) (by kernel_rfl) (fun a hF => ?_)
  have hS : Sep w0 B (w.alloc (.cells #[.int .i64 c1, .int .i64 c2, .int .i64 c3, .int .i64 c4, .int .i64 c5] 98)) (blk w.heap.size 98 #[.int .i64 c1, .int .i64 c2, .int .i64 c3, .int .i64 c4, .int .i64 c5] :: (fs)) := hS.box 98 #[.int .i64 c1, .int .i64 c2, .int .i64 c3, .int .i64 c4, .int .i64 c5]
  generalize w.heap.size = g1 at hF hS
  generalize w.alloc (.cells #[.int .i64 c1, .int .i64 c2, .int .i64 c3, .int .i64 c4, .int .i64 c5] 98) = w at hS ⊢
  refine at_run 2 [] [] [1, 2] [pl 1 (.int .i64 moves1), pl 2 (.pointer (some ⟨g1, 0, none⟩))] hF hS (by kernel_rfl) (by kernel_rfl) ?_ (fun a w hF hS => ?_)
  · exact obs_nil
  refine at_end [1, 2] [pl 1 (.int .i64 moves1), pl 2 (.pointer (some ⟨g1, 0, none⟩))] hF rfl (by kernel_rfl) (fun hF => ?_)
  refine then_n ?_
  refine seq_cut (fun a w => Fr 43 [pl 1 (.int .i64 moves1), pl 2 (.pointer (some ⟨g1, 0, none⟩))] a ∧ Sep w0 B w (blk g1 98 #[.int .i64 c1, .int .i64 c2, .int .i64 c3, .int .i64 c4, .int .i64 c5] :: fs) ∧ ((clock_Pace_J1 c1 c2 c3 c4 c5 moves1)).bind some = some r) ?_ ?_
  · rintro a w ⟨hF, hS, hm⟩
    unfold clock_Pace_J1 at hm
    refine seq_cut (fun a w => Fr 43 [pl 1 (.int .i64 moves1), pl 2 (.pointer (some ⟨g1, 0, none⟩))] a ∧ Sep w0 B w (blk g1 98 #[.int .i64 c1, .int .i64 c2, .int .i64 c3, .int .i64 c4, .int .i64 c5] :: fs) ∧ ((clock_Pace_J2 c1 c2 c3 c4 c5 moves1)).bind some = some r) ?_ ?_
    · rintro a w ⟨hF, hS, hm⟩
      unfold clock_Pace_J2 at hm
      refine reg [⟨false, [], vS (Instr.loadAt 3 (.pointer (some ⟨g1, 0, none⟩))), .int .i64 c1⟩] [none, some (.int .i64 c1), none] [1, 2, 7] [pl 1 (.int .i64 moves1), pl 2 (.pointer (some ⟨g1, 0, none⟩)), pl 7 (.int .i64 c1)] hF hS Fol (by kernel_rfl) (by kernel_rfl) (by kernel_rfl) ?_ (fun a w hF hS => ?_)
      · exact obs_cons (ob_load Agg3 (fun _ _ hS => (hS.at_ 0 rfl).cell rfl)) <| obs_nil
      refine seq_cut (fun a w => ∃ (n1 : Int), Fr 43 [pl 1 (.int .i64 moves1), pl 2 (.pointer (some ⟨g1, 0, none⟩)), pl 7 (.int .i64 n1)] a ∧ Sep w0 B w (blk g1 98 #[.int .i64 c1, .int .i64 c2, .int .i64 c3, .int .i64 c4, .int .i64 c5] :: fs) ∧ ((clock_Pace_J3 c4 c5 moves1) n1).bind some = some r) ?_ ?_
      · rintro a w ⟨n1, hF, hS, hm⟩
        unfold clock_Pace_J3 at hm
        refine seq_cut (fun a w => ∃ (n2 : Int), Fr 43 [pl 7 (.int .i64 n2)] a ∧ Sep w0 B w (fs) ∧ (clock_Pace_J4 n2).bind some = some r) ?_ ?_
        · rintro a w ⟨n2, hF, hS, hm⟩
          unfold clock_Pace_J4 at hm
          refine reg [] [] [4, 5] [pl 4 (.int .i64 n2), pl 5 (.int .i64 0)] hF hS Fol (by kernel_rfl) (by kernel_rfl) (by kernel_rfl) ?_ (fun a w hF hS => ?_)
          · exact obs_nil
          refine wp_ret ?_
          have hm : some (n2, 0) = some r := hm
          obtain rfl := Option.some.inj hm
          exact retV (rs := [.tmp 4, .tmp 5]) (vs := [.int .i64 n2, .int .i64 0]) hF rfl (rv_t (by kernel_rfl) <| rv_t (by kernel_rfl) <| rv_nil) rfl ⟨rfl, hS⟩
        · refine reg [⟨false, [], vS (Instr.loadAt 3 (.pointer (some ⟨g1, 3, none⟩))), .int .i64 c4⟩] [none, some (.int .i64 c4), none] [1, 2, 7, 32] [pl 1 (.int .i64 moves1), pl 2 (.pointer (some ⟨g1, 0, none⟩)), pl 7 (.int .i64 n1), pl 32 (.bool (decide ((0 : Int) < c4)))] hF hS Fol (by kernel_rfl) (by kernel_rfl) (by kernel_rfl) ?_ (fun a w hF hS => ?_)
          · exact obs_cons (ob_load Agg3 (fun _ _ hS => (hS.at_ 0 rfl).cell rfl)) <| obs_nil
          refine cond_ev (t := 32) (b := decide ((0 : Int) < c4)) hF (by kernel_rfl) (fun hb => ?_) (fun hb => ?_)
          · replace hm := if_t hm hb
            obtain ⟨hp1, hm⟩ := asrt_b hm
            refine reg1 [⟨false, [], vS (Instr.loadAt 3 (.pointer (some ⟨g1, 3, none⟩))), .int .i64 c4⟩, ⟨true, [], vS (Op.intDiv .quo .i64 moves1 c4), .int .i64 (w64 (Int.tdiv moves1 c4))⟩, ⟨false, [], vS (Instr.loadAt 3 (.pointer (some ⟨g1, 4, none⟩))), .int .i64 c5⟩] [none, none, none, some (.int .i64 c4), some (.int .i64 (w64 (Int.tdiv moves1 c4))), none, some (.int .i64 c5), none, none, none] [7] [pl 7 (.int .i64 (w64 (n1 + (w64 ((w64 (Int.tdiv moves1 c4)) * c5)))))] hF hS Fol (by kernel_rfl) (by kernel_rfl) (by kernel_rfl) ?_ (fun a w hF hS => ?_)
            · exact obs_cons (ob_load Agg3 (fun _ _ hS => (hS.at_ 0 rfl).cell rfl)) <| obs_cons (ob_quo rfl (fun _ => hp1)) <| obs_cons (ob_load Agg3 (fun _ _ hS => (hS.at_ 0 rfl).cell rfl)) <| obs_nil
            refine then_n ?_
            have hS := hS.pickN 1 [] (by decide)
            exact ⟨(w64 (n1 + (w64 ((w64 (Int.tdiv moves1 c4)) * c5)))), hF.weak [7] (by kernel_rfl), hS, hm⟩
          · replace hm := if_f hm hb
            refine wp_skip ?_
            refine then_n ?_
            have hS := hS.pickN 1 [] (by decide)
            exact ⟨n1, hF.weak [7] (by kernel_rfl), hS, hm⟩
      · refine reg [⟨false, [], vS (Instr.loadAt 3 (.pointer (some ⟨g1, 1, none⟩))), .int .i64 c2⟩] [none, some (.int .i64 c2), none] [1, 2, 7, 23] [pl 1 (.int .i64 moves1), pl 2 (.pointer (some ⟨g1, 0, none⟩)), pl 7 (.int .i64 c1), pl 23 (.bool (c2 != 0))] hF hS Fol (by kernel_rfl) (by kernel_rfl) (by kernel_rfl) ?_ (fun a w hF hS => ?_)
        · exact obs_cons (ob_load Agg3 (fun _ _ hS => (hS.at_ 0 rfl).cell rfl)) <| obs_nil
        refine cond_ev (t := 23) (b := (c2 != 0)) hF (by kernel_rfl) (fun hb => ?_) (fun hb => ?_)
        · replace hm := if_t hm hb
          refine reg1 [⟨false, [], vS (Instr.loadAt 3 (.pointer (some ⟨g1, 2, none⟩))), .int .i64 c3⟩] [none, none, none, some (.int .i64 c3), none, none, none] [1, 2, 7] [pl 1 (.int .i64 moves1), pl 2 (.pointer (some ⟨g1, 0, none⟩)), pl 7 (.int .i64 (w64 (c1 + (w64 (moves1 * c3)))))] hF hS Fol (by kernel_rfl) (by kernel_rfl) (by kernel_rfl) ?_ (fun a w hF hS => ?_)
          · exact obs_cons (ob_load Agg3 (fun _ _ hS => (hS.at_ 0 rfl).cell rfl)) <| obs_nil
          refine then_n ?_
          exact ⟨(w64 (c1 + (w64 (moves1 * c3)))), hF.weak [1, 2, 7] (by kernel_rfl), hS, hm⟩
        · replace hm := if_f hm hb
          refine wp_skip ?_
          refine then_n ?_
          exact ⟨c1, hF.weak [1, 2, 7] (by kernel_rfl), hS, hm⟩
    · refine reg [] [] [1, 2, 18] [pl 1 (.int .i64 moves1), pl 2 (.pointer (some ⟨g1, 0, none⟩)), pl 18 (.bool ((decide (moves1 < 0)) || (decide ((200 : Int) < moves1))))] hF hS Fol (by kernel_rfl) (by kernel_rfl) (by kernel_rfl) ?_ (fun a w hF hS => ?_)
      · exact obs_nil
      refine cond_ev (t := 18) (b := (decide (moves1 < 0)) || (decide ((200 : Int) < moves1))) hF (by kernel_rfl) (fun hb => ?_) (fun hb => ?_)
      · replace hm := if_t hm hb
        refine reg [] [] [4, 5] [pl 4 (.int .i64 0), pl 5 (.int .i64 11)] hF hS Fol (by kernel_rfl) (by kernel_rfl) (by kernel_rfl) ?_ (fun a w hF hS => ?_)
        · exact obs_nil
        refine wp_ret ?_
        refine then_r ?_
        have hS := hS.pickN 1 [] (by decide)
        have hm : some (0, 11) = some r := hm
        obtain rfl := Option.some.inj hm
        exact retV (rs := [.tmp 4, .tmp 5]) (vs := [.int .i64 0, .int .i64 11]) hF rfl (rv_t (by kernel_rfl) <| rv_t (by kernel_rfl) <| rv_nil) rfl ⟨rfl, hS⟩
      · replace hm := if_f hm hb
        refine wp_skip ?_
        refine then_n ?_
        exact ⟨hF.weak [1, 2] (by kernel_rfl), hS, hm⟩
  · obtain ⟨r1, hr1, hm⟩ := call_b hm
    refine reg [⟨false, [], vS (Instr.loadAt 98 (.pointer (some ⟨g1, 0, none⟩))), .agg #[.int .i64 c1, .int .i64 c2, .int .i64 c3, .int .i64 c4, .int .i64 c5]⟩, ⟨false, [], callFunc 125 #[.agg #[.int .i64 c1, .int .i64 c2, .int .i64 c3, .int .i64 c4, .int .i64 c5]], .int .i64 r1⟩] [some (.agg #[.int .i64 c1, .int .i64 c2, .int .i64 c3, .int .i64 c4, .int .i64 c5]), some (.int .i64 r1), none] [1, 2, 6] [pl 1 (.int .i64 moves1), pl 2 (.pointer (some ⟨g1, 0, none⟩)), pl 6 (.int .i64 r1)] hF hS Fol (by kernel_rfl) (by kernel_rfl) (by kernel_rfl) ?_ (fun a w hF hS => ?_)
    · exact obs_cons (ob_loadA (cs := #[.int .i64 c1, .int .i64 c2, .int .i64 c3, .int .i64 c4, .int .i64 c5]) (by kernel_rfl) (by kernel_rfl) (fun _ _ hS => (hS.at_ 0 rfl).cellsAt 0 (by rfl))) <| obs_cons (ob_call Try.func125 (by kernel_rfl) rfl (fun _ _ hS => clock_check_w hr1 hS )) <| obs_nil
    refine reg [] [] [1, 2, 6, 11] [pl 1 (.int .i64 moves1), pl 2 (.pointer (some ⟨g1, 0, none⟩)), pl 6 (.int .i64 r1), pl 11 (.bool (r1 != 0))] hF hS Fol (by kernel_rfl) (by kernel_rfl) (by kernel_rfl) ?_ (fun a w hF hS => ?_)
    · exact obs_nil
    refine cond_ev (t := 11) (b := (r1 != 0)) hF (by kernel_rfl) (fun hb => ?_) (fun hb => ?_)
    · replace hm := if_t hm hb
      refine reg [] [] [4, 5] [pl 4 (.int .i64 0), pl 5 (.int .i64 r1)] hF hS Fol (by kernel_rfl) (by kernel_rfl) (by kernel_rfl) ?_ (fun a w hF hS => ?_)
      · exact obs_nil
      refine wp_ret ?_
      refine then_r ?_
      have hS := hS.pickN 1 [] (by decide)
      have hm : some (0, r1) = some r := hm
      obtain rfl := Option.some.inj hm
      exact retV (rs := [.tmp 4, .tmp 5]) (vs := [.int .i64 0, .int .i64 r1]) hF rfl (rv_t (by kernel_rfl) <| rv_t (by kernel_rfl) <| rv_nil) rfl ⟨rfl, hS⟩
    · replace hm := if_f hm hb
      refine wp_skip ?_
      refine then_n ?_
      exact ⟨hF.weak [1, 2] (by kernel_rfl), hS, hm⟩

noncomputable def gameroomref_within_m (n1 : Int) (low1 : Int) (high1 : Int) : Option Bool :=
  some ((decide (low1 ≤ n1)) && (decide (n1 ≤ high1)))

set_option maxRecDepth 100000 in
set_option maxHeartbeats 4000000 in
theorem gameroomref_within_w {n1 : Int} {low1 : Int} {high1 : Int} {r : Bool} {w0 w : World} {B : Nat} {fs : List HP} (hm : gameroomref_within_m n1 low1 high1 = some r) (hS : Sep w0 B w (fs)) :
    Calls Try.prog 90 #[.int .i64 n1, .int .i64 low1, .int .i64 high1] w fun e w' => e = .returned (.bool r) ∧ Sep w0 B w' (fs) := by
  unfold gameroomref_within_m at hm
  replace hm := start_b hm
  refine enter (l := [.int .i64 n1, .int .i64 low1, .int .i64 high1]) (n := 15) Try.func90 rfl rfl (by simp) (fun a hF => ?_)
  refine reg [] [] [0, 1, 2] [pl 0 (.int .i64 n1), pl 1 (.int .i64 low1), pl 2 (.int .i64 high1)] hF hS Fol (by kernel_rfl) (by kernel_rfl) (by kernel_rfl) ?_ (fun a w hF hS => ?_)
  · exact obs_nil
  refine reg [] [] [6] [pl 6 (.bool ((decide (low1 ≤ n1)) && (decide (n1 ≤ high1))))] hF hS Fol (by kernel_rfl) (by kernel_rfl) (by kernel_rfl) ?_ (fun a w hF hS => ?_)
  · exact obs_nil
  refine wp_ret ?_
  have hm : some ((decide (low1 ≤ n1)) && (decide (n1 ≤ high1))) = some r := hm
  obtain rfl := Option.some.inj hm
  exact retV (rs := [.tmp 6]) (vs := [.bool ((decide (low1 ≤ n1)) && (decide (n1 ≤ high1)))]) hF rfl (rv_t (by kernel_rfl) <| rv_nil) rfl ⟨rfl, hS⟩

noncomputable def gameroomref_ControlMay_J2 : Option Int :=
  some 0

noncomputable def gameroomref_ControlMay_J1 (c2 : Int) : Option Int :=
  (gameroomref_within_m c2 0 3).bind fun r5 => if (!r5) then (some 4) else (gameroomref_ControlMay_J2)

noncomputable def gameroomref_ControlMay_m (c1 : Int) (c2 : Int) (c3 : Int) (c4 : Int) (c5 : Int) : Option Int :=
  (gameroomref_within_m c1 0 36000000).bind fun r1 => ((if (!(!r1)) then gameroomref_within_m c3 0 36000000 else some false)).bind fun r2 => ((if (!((!r1) || (!r2))) then gameroomref_within_m c5 0 36000000 else some false)).bind fun r3 => ((if (!(((!r1) || (!r2)) || (!r3))) then gameroomref_within_m c4 0 1000 else some false)).bind fun r4 => if ((((!r1) || (!r2)) || (!r3)) || (!r4)) then (some 3) else ((gameroomref_ControlMay_J1 c2))

set_option maxRecDepth 100000 in
set_option maxHeartbeats 4000000 in
theorem gameroomref_ControlMay_w {c1 : Int} {c2 : Int} {c3 : Int} {c4 : Int} {c5 : Int} {r : Int} {w0 w : World} {B : Nat} {fs : List HP} (hm : gameroomref_ControlMay_m c1 c2 c3 c4 c5 = some r) (hS : Sep w0 B w (fs)) :
    Calls Try.prog 71 #[.agg #[.int .i64 c1, .int .i64 c2, .int .i64 c3, .int .i64 c4, .int .i64 c5]] w fun e w' => e = .returned (.int .i64 r) ∧ Sep w0 B w' (fs) := by
  unfold gameroomref_ControlMay_m at hm
  replace hm := start_b hm
  refine enter (l := [.agg #[.int .i64 c1, .int .i64 c2, .int .i64 c3, .int .i64 c4, .int .i64 c5]]) (n := 29) Try.func71 rfl rfl (by simp) (fun a hF => ?_)
  refine seqR ?_
  refine at_do (d := 1) (s := vS (Instr.box 98 (.agg #[.int .i64 c1, .int .i64 c2, .int .i64 c3, .int .i64 c4, .int .i64 c5]))) (v := .pointer (some ⟨w.heap.size, 0, none⟩)) (w' := w.alloc (.cells #[.int .i64 c1, .int .i64 c2, .int .i64 c3, .int .i64 c4, .int .i64 c5] 98)) hF (by kernel_rfl) (by kernel_rfl) (by kernel_rfl) (fun a hF => ?_)
  have hS : Sep w0 B (w.alloc (.cells #[.int .i64 c1, .int .i64 c2, .int .i64 c3, .int .i64 c4, .int .i64 c5] 98)) (blk w.heap.size 98 #[.int .i64 c1, .int .i64 c2, .int .i64 c3, .int .i64 c4, .int .i64 c5] :: (fs)) := hS.box 98 #[.int .i64 c1, .int .i64 c2, .int .i64 c3, .int .i64 c4, .int .i64 c5]
  generalize w.heap.size = g1 at hF hS
  generalize w.alloc (.cells #[.int .i64 c1, .int .i64 c2, .int .i64 c3, .int .i64 c4, .int .i64 c5] 98) = w at hS ⊢
  refine at_run 1 [] [] [1] [pl 1 (.pointer (some ⟨g1, 0, none⟩))] hF hS (by kernel_rfl) (by kernel_rfl) ?_ (fun a w hF hS => ?_)
  · exact obs_nil
  refine at_end [1] [pl 1 (.pointer (some ⟨g1, 0, none⟩))] hF rfl (by kernel_rfl) (fun hF => ?_)
  refine then_n ?_
  refine seq_cut (fun a w => Fr 29 [pl 1 (.pointer (some ⟨g1, 0, none⟩))] a ∧ Sep w0 B w (blk g1 98 #[.int .i64 c1, .int .i64 c2, .int .i64 c3, .int .i64 c4, .int .i64 c5] :: fs) ∧ ((gameroomref_ControlMay_J1 c2)).bind some = some r) ?_ ?_
  · rintro a w ⟨hF, hS, hm⟩
    unfold gameroomref_ControlMay_J1 at hm
    refine seq_cut (fun a w => Fr 29 [] a ∧ Sep w0 B w (fs) ∧ (gameroomref_ControlMay_J2).bind some = some r) ?_ ?_
    · rintro a w ⟨hF, hS, hm⟩
      unfold gameroomref_ControlMay_J2 at hm
      refine reg [] [] [2] [pl 2 (.int .i64 0)] hF hS Fol (by kernel_rfl) (by kernel_rfl) (by kernel_rfl) ?_ (fun a w hF hS => ?_)
      · exact obs_nil
      refine wp_ret ?_
      have hm : some 0 = some r := hm
      obtain rfl := Option.some.inj hm
      exact retV (rs := [.tmp 2]) (vs := [.int .i64 0]) hF rfl (rv_t (by kernel_rfl) <| rv_nil) rfl ⟨rfl, hS⟩
    · obtain ⟨r5, hr5, hm⟩ := call_b hm
      refine reg [⟨false, [], vS (Instr.loadAt 3 (.pointer (some ⟨g1, 1, none⟩))), .int .i64 c2⟩, ⟨false, [], callFunc 90 #[.int .i64 c2, .int .i64 0, .int .i64 3], .bool r5⟩] [none, some (.int .i64 c2), some (.bool r5), none] [28] [pl 28 (.bool (!r5))] hF hS Fol (by kernel_rfl) (by kernel_rfl) (by kernel_rfl) ?_ (fun a w hF hS => ?_)
      · exact obs_cons (ob_load Agg3 (fun _ _ hS => (hS.at_ 0 rfl).cell rfl)) <| obs_cons (ob_call Try.func90 (by kernel_rfl) rfl (fun _ _ hS => gameroomref_within_w hr5 hS )) <| obs_nil
      refine cond_ev (t := 28) (b := !r5) hF (by kernel_rfl) (fun hb => ?_) (fun hb => ?_)
      · replace hm := if_t hm hb
        refine reg [] [] [2] [pl 2 (.int .i64 4)] hF hS Fol (by kernel_rfl) (by kernel_rfl) (by kernel_rfl) ?_ (fun a w hF hS => ?_)
        · exact obs_nil
        refine wp_ret ?_
        refine then_r ?_
        have hS := hS.pickN 1 [] (by decide)
        have hm : some 4 = some r := hm
        obtain rfl := Option.some.inj hm
        exact retV (rs := [.tmp 2]) (vs := [.int .i64 4]) hF rfl (rv_t (by kernel_rfl) <| rv_nil) rfl ⟨rfl, hS⟩
      · replace hm := if_f hm hb
        refine wp_skip ?_
        refine then_n ?_
        have hS := hS.pickN 1 [] (by decide)
        exact ⟨hF.weak [] (by kernel_rfl), hS, hm⟩
  · obtain ⟨r1, hr1, hm⟩ := call_b hm
    obtain ⟨r2, hr2, hm⟩ := call_b hm
    obtain ⟨r3, hr3, hm⟩ := call_b hm
    obtain ⟨r4, hr4, hm⟩ := call_b hm
    refine reg [⟨false, [], vS (Instr.loadAt 3 (.pointer (some ⟨g1, 0, none⟩))), .int .i64 c1⟩, ⟨false, [], callFunc 90 #[.int .i64 c1, .int .i64 0, .int .i64 36000000], .bool r1⟩, ⟨false, [(!r1, false)], vS (Instr.loadAt 3 (.pointer (some ⟨g1, 2, none⟩))), .int .i64 c3⟩, ⟨false, [(!r1, false)], callFunc 90 #[.int .i64 c3, .int .i64 0, .int .i64 36000000], .bool r2⟩, ⟨false, [((!r1) || (!r2), false)], vS (Instr.loadAt 3 (.pointer (some ⟨g1, 4, none⟩))), .int .i64 c5⟩, ⟨false, [((!r1) || (!r2), false)], callFunc 90 #[.int .i64 c5, .int .i64 0, .int .i64 36000000], .bool r3⟩, ⟨false, [(((!r1) || (!r2)) || (!r3), false)], vS (Instr.loadAt 3 (.pointer (some ⟨g1, 3, none⟩))), .int .i64 c4⟩, ⟨false, [(((!r1) || (!r2)) || (!r3), false)], callFunc 90 #[.int .i64 c4, .int .i64 0, .int .i64 1000], .bool r4⟩] [none, some (.int .i64 c1), some (.bool r1), none, none, none, some (.int .i64 c3), some (.bool r2), none, none, none, none, some (.int .i64 c5), some (.bool r3), none, none, none, none, some (.int .i64 c4), some (.bool r4), none, none] [1, 24] [pl 1 (.pointer (some ⟨g1, 0, none⟩)), pl 24 (.bool ((((!r1) || (!r2)) || (!r3)) || (!r4)))] hF hS Fol (by kernel_rfl) (by kernel_rfl) (by kernel_rfl) ?_ (fun a w hF hS => ?_)
    · exact obs_cons (ob_load Agg3 (fun _ _ hS => (hS.at_ 0 rfl).cell rfl)) <| obs_cons (ob_call Try.func90 (by kernel_rfl) rfl (fun _ _ hS => gameroomref_within_w hr1 hS )) <| obs_cons (ob_load Agg3 (fun _ _ hS => (hS.at_ 0 rfl).cell rfl)) <| obs_cons (ob_call Try.func90 (by kernel_rfl) rfl (fun hy _ hS => gameroomref_within_w (ite_some hr2 (by rw [show (!r1) = false from hy (!r1, false) (by simp)]; try rfl)) hS )) <| obs_cons (ob_load Agg3 (fun _ _ hS => (hS.at_ 0 rfl).cell rfl)) <| obs_cons (ob_call Try.func90 (by kernel_rfl) rfl (fun hy _ hS => gameroomref_within_w (ite_some hr3 (by rw [show ((!r1) || (!r2)) = false from hy ((!r1) || (!r2), false) (by simp)]; try rfl)) hS )) <| obs_cons (ob_load Agg3 (fun _ _ hS => (hS.at_ 0 rfl).cell rfl)) <| obs_cons (ob_call Try.func90 (by kernel_rfl) rfl (fun hy _ hS => gameroomref_within_w (ite_some hr4 (by rw [show (((!r1) || (!r2)) || (!r3)) = false from hy (((!r1) || (!r2)) || (!r3), false) (by simp)]; try rfl)) hS )) <| obs_nil
    refine cond_ev (t := 24) (b := (((!r1) || (!r2)) || (!r3)) || (!r4)) hF (by kernel_rfl) (fun hb => ?_) (fun hb => ?_)
    · replace hm := if_t hm hb
      refine reg [] [] [2] [pl 2 (.int .i64 3)] hF hS Fol (by kernel_rfl) (by kernel_rfl) (by kernel_rfl) ?_ (fun a w hF hS => ?_)
      · exact obs_nil
      refine wp_ret ?_
      refine then_r ?_
      have hS := hS.pickN 1 [] (by decide)
      have hm : some 3 = some r := hm
      obtain rfl := Option.some.inj hm
      exact retV (rs := [.tmp 2]) (vs := [.int .i64 3]) hF rfl (rv_t (by kernel_rfl) <| rv_nil) rfl ⟨rfl, hS⟩
    · replace hm := if_f hm hb
      refine wp_skip ?_
      refine then_n ?_
      exact ⟨hF.weak [1] (by kernel_rfl), hS, hm⟩

noncomputable def gameroomref_UsedMay_J5 (i1 : Int) : Option (St Int (Fl Unit Int)) :=
  some (.next (w64 (i1 + 1)))

noncomputable def gameroomref_UsedMay_J4 (used1 : List Int) (i1 : Int) : Option (St Int (Fl Unit Int)) :=
  asrt (0 ≤ i1 ∧ i1 < (used1.length : Int)) <| (gameroomref_within_m (geti used1 i1) 0 36000000).bind fun r2 => if (!r2) then (some (.done (.ret 1))) else ((gameroomref_UsedMay_J5 i1))

noncomputable def gameroomref_UsedMay_J3 : Option Int :=
  some 0

noncomputable def gameroomref_UsedMay_K1 : (Fl Unit Int) → Option Int :=
  fun (x : (Fl Unit Int)) => match x with | .go _ => gameroomref_UsedMay_J3 | .ret x => some x

noncomputable def gameroomref_UsedMay_L1 (used1 : List Int) : Int → Option (St Int (Fl Unit Int)) :=
  fun (x : Int) => match x with | i1 => if (decide (i1 < (used1.length : Int))) then ((gameroomref_UsedMay_J4 used1 i1)) else (some (.done (.go ())))

noncomputable def gameroomref_UsedMay_J2 (used1 : List Int) : Option Int :=
  (loop (gameroomref_UsedMay_L1 used1) 0).bind gameroomref_UsedMay_K1

noncomputable def gameroomref_UsedMay_J1 (used1 : List Int) : Option Int :=
  if (decide ((200 : Int) < (used1.length : Int))) then (some 11) else ((gameroomref_UsedMay_J2 used1))

noncomputable def gameroomref_UsedMay_m (c1 : Int) (c2 : Int) (c3 : Int) (c4 : Int) (c5 : Int) (used1 : List Int) : Option Int :=
  (gameroomref_ControlMay_m c1 c2 c3 c4 c5).bind fun r1 => if (r1 != 0) then (some r1) else ((gameroomref_UsedMay_J1 used1))

set_option maxRecDepth 100000 in
set_option maxHeartbeats 4000000 in
theorem gameroomref_UsedMay_w {c1 : Int} {c2 : Int} {c3 : Int} {c4 : Int} {c5 : Int} {A1 : Option Addr} {c6 : Nat} {n1 : Nat} {used1 : List Int} {r : Int} {w0 w : World} {B : Nat} {fs : List HP} (hm : gameroomref_UsedMay_m c1 c2 c3 c4 c5 used1 = some r) (hS : Sep w0 B w (fs)) (hr_used1 : RdF w0 B fs A1 (vI used1)) (_hc_used1 : used1.length ≤ c6) (_hn_used1 : n1 = used1.length) :
    Calls Try.prog 73 #[.agg #[.int .i64 c1, .int .i64 c2, .int .i64 c3, .int .i64 c4, .int .i64 c5], .slice A1 n1 c6] w fun e w' => e = .returned (.int .i64 r) ∧ Sep w0 B w' (fs) := by
  obtain ⟨i3, hi3, hz3, hs3, hb3⟩ := info_parts Info3
  obtain rfl := _hn_used1
  unfold gameroomref_UsedMay_m at hm
  replace hm := start_b hm
  refine enter (l := [.agg #[.int .i64 c1, .int .i64 c2, .int .i64 c3, .int .i64 c4, .int .i64 c5], .slice A1 used1.length c6]) (n := 27) Try.func73 rfl rfl (by simp) (fun a hF => ?_)
  refine seqR ?_
  refine at_do (d := 2) (s := vS (Instr.box 98 (.agg #[.int .i64 c1, .int .i64 c2, .int .i64 c3, .int .i64 c4, .int .i64 c5]))) (v := .pointer (some ⟨w.heap.size, 0, none⟩)) (w' := w.alloc (.cells #[.int .i64 c1, .int .i64 c2, .int .i64 c3, .int .i64 c4, .int .i64 c5] 98)) hF (by kernel_rfl) (by kernel_rfl) (by kernel_rfl) (fun a hF => ?_)
  have hS : Sep w0 B (w.alloc (.cells #[.int .i64 c1, .int .i64 c2, .int .i64 c3, .int .i64 c4, .int .i64 c5] 98)) (blk w.heap.size 98 #[.int .i64 c1, .int .i64 c2, .int .i64 c3, .int .i64 c4, .int .i64 c5] :: (fs)) := hS.box 98 #[.int .i64 c1, .int .i64 c2, .int .i64 c3, .int .i64 c4, .int .i64 c5]
  generalize w.heap.size = g1 at hF hS
  generalize w.alloc (.cells #[.int .i64 c1, .int .i64 c2, .int .i64 c3, .int .i64 c4, .int .i64 c5] 98) = w at hS ⊢
  refine at_run 1 [] [] [1, 2] [pl 1 (.slice A1 used1.length c6), pl 2 (.pointer (some ⟨g1, 0, none⟩))] hF hS (by kernel_rfl) (by kernel_rfl) ?_ (fun a w hF hS => ?_)
  · exact obs_nil
  refine at_end [1, 2] [pl 1 (.slice A1 used1.length c6), pl 2 (.pointer (some ⟨g1, 0, none⟩))] hF rfl (by kernel_rfl) (fun hF => ?_)
  refine then_n ?_
  obtain ⟨r1, hr1, hm⟩ := call_b hm
  refine reg [⟨false, [], vS (Instr.loadAt 98 (.pointer (some ⟨g1, 0, none⟩))), .agg #[.int .i64 c1, .int .i64 c2, .int .i64 c3, .int .i64 c4, .int .i64 c5]⟩, ⟨false, [], callFunc 71 #[.agg #[.int .i64 c1, .int .i64 c2, .int .i64 c3, .int .i64 c4, .int .i64 c5]], .int .i64 r1⟩] [some (.agg #[.int .i64 c1, .int .i64 c2, .int .i64 c3, .int .i64 c4, .int .i64 c5]), some (.int .i64 r1), none] [1, 5] [pl 1 (.slice A1 used1.length c6), pl 5 (.int .i64 r1)] hF hS Fol (by kernel_rfl) (by kernel_rfl) (by kernel_rfl) ?_ (fun a w hF hS => ?_)
  · exact obs_cons (ob_loadA (cs := #[.int .i64 c1, .int .i64 c2, .int .i64 c3, .int .i64 c4, .int .i64 c5]) (by kernel_rfl) (by kernel_rfl) (fun _ _ hS => (hS.at_ 0 rfl).cellsAt 0 (by rfl))) <| obs_cons (ob_call Try.func71 (by kernel_rfl) rfl (fun _ _ hS => gameroomref_ControlMay_w hr1 hS )) <| obs_nil
  refine seq_cut (fun a w => Fr 27 [pl 1 (.slice A1 used1.length c6)] a ∧ Sep w0 B w (fs) ∧ ((gameroomref_UsedMay_J1 used1)).bind some = some r) ?_ ?_
  · rintro a w ⟨hF, hS, hm⟩
    unfold gameroomref_UsedMay_J1 at hm
    refine seq_cut (fun a w => Fr 27 [pl 1 (.slice A1 used1.length c6)] a ∧ Sep w0 B w (fs) ∧ ((gameroomref_UsedMay_J2 used1)).bind some = some r) ?_ ?_
    · rintro a w ⟨hF, hS, hm⟩
      unfold gameroomref_UsedMay_J2 at hm
      refine seq_cut (fun a w => Fr 27 [] a ∧ Sep w0 B w (fs) ∧ (gameroomref_UsedMay_J3).bind some = some r) ?_ ?_
      · rintro a w ⟨hF, hS, hm⟩
        unfold gameroomref_UsedMay_J3 at hm
        refine reg [] [] [4] [pl 4 (.int .i64 0)] hF hS Fol (by kernel_rfl) (by kernel_rfl) (by kernel_rfl) ?_ (fun a w hF hS => ?_)
        · exact obs_nil
        refine wp_ret ?_
        have hm : some 0 = some r := hm
        obtain rfl := Option.some.inj hm
        exact retV (rs := [.tmp 4]) (vs := [.int .i64 0]) hF rfl (rv_t (by kernel_rfl) <| rv_nil) rfl ⟨rfl, hS⟩
      · refine reg [] [] [1, 6] [pl 1 (.slice A1 used1.length c6), pl 6 (.int .i64 0)] hF hS Fol (by kernel_rfl) (by kernel_rfl) (by kernel_rfl) ?_ (fun a w hF hS => ?_)
        · exact obs_nil
        refine wp_block ?_
        refine wp_loop_model (S := Int) (R := (Fl Unit Int)) (gameroomref_UsedMay_L1 used1) (fun x => (gameroomref_UsedMay_K1 x).bind some) r (fun (x : Int) a w => Fr 27 [pl 1 (.slice A1 used1.length c6), pl 6 (.int .i64 x)] a ∧ Sep w0 B w (fs)) (assoc_b hm) ⟨hF.weak [1, 6] (by kernel_rfl), hS⟩ ?_
        clear hF hS hm
        rintro nn1 i1 a w ⟨hF, hS⟩ hm
        generalize hφ1 : stK (gameroomref_UsedMay_L1 used1) nn1 (fun x => (gameroomref_UsedMay_K1 x).bind some) = φ1 at hm
        unfold gameroomref_UsedMay_L1 at hm
        dsimp only at hm
        refine seq_cut (fun a w => Fr 27 [pl 1 (.slice A1 used1.length c6), pl 6 (.int .i64 i1)] a ∧ Sep w0 B w (fs) ∧ ((gameroomref_UsedMay_J4 used1 i1)).bind φ1 = some r) ?_ ?_
        · rintro a w ⟨hF, hS, hm⟩
          unfold gameroomref_UsedMay_J4 at hm
          refine seq_cut (fun a w => Fr 27 [pl 1 (.slice A1 used1.length c6), pl 6 (.int .i64 i1)] a ∧ Sep w0 B w (fs) ∧ ((gameroomref_UsedMay_J5 i1)).bind φ1 = some r) ?_ ?_
          · rintro a w ⟨hF, hS, hm⟩
            unfold gameroomref_UsedMay_J5 at hm
            refine reg1 [] [] [1, 6] [pl 1 (.slice A1 used1.length c6), pl 6 (.int .i64 (w64 (i1 + 1)))] hF hS Fol (by kernel_rfl) (by kernel_rfl) (by kernel_rfl) ?_ (fun a w hF hS => ?_)
            · exact obs_nil
            refine then_n ?_
            rw [← hφ1] at hm
            exact ⟨(w64 (i1 + 1)), ⟨hF.weak [1, 6] (by kernel_rfl), hS⟩, hm⟩
          · refine wp_block ?_
            obtain ⟨hp1, hm⟩ := asrt_b hm
            obtain ⟨r2, hr2, hm⟩ := call_b hm
            refine reg [⟨true, [], vS (Instr.indexAt 40 (.slice A1 used1.length c6) (.int .i64 i1)), .pointer (some (sAddr A1 i1))⟩, ⟨false, [], vS (Instr.loadAt 3 (.pointer (some (sAddr A1 i1)))), .int .i64 (geti used1 i1)⟩, ⟨false, [], callFunc 90 #[.int .i64 (geti used1 i1), .int .i64 0, .int .i64 36000000], .bool r2⟩] [none, none, some (.pointer (some (sAddr A1 i1))), some (.int .i64 (geti used1 i1)), some (.bool r2), none] [1, 6, 26] [pl 1 (.slice A1 used1.length c6), pl 6 (.int .i64 i1), pl 26 (.bool (!r2))] hF hS Fol (by kernel_rfl) (by kernel_rfl) (by kernel_rfl) ?_ (fun a w hF hS => ?_)
            · exact obs_cons (ob_ix1 (f := (Value.int .i64)) (m := used1) Und40 hi3 hs3 (hr_used1 _ (hS.dropN 0)) rfl (fun _ => hp1)) <| obs_cons (ob_get1 (n := used1.length) (m := used1) (Value.int .i64) (0 : Int) Agg3 (fun _ hS => ⟨_, (hr_used1 _ (hS.dropN 0))⟩) (fun _ hS => rfl) (fun _ => hp1)) <| obs_cons (ob_call Try.func90 (by kernel_rfl) rfl (fun _ _ hS => gameroomref_within_w hr2 hS )) <| obs_nil
            refine cond_ev (t := 26) (b := !r2) hF (by kernel_rfl) (fun hb => ?_) (fun hb => ?_)
            · replace hm := if_t hm hb
              refine reg [] [] [4] [pl 4 (.int .i64 1)] hF hS Fol (by kernel_rfl) (by kernel_rfl) (by kernel_rfl) ?_ (fun a w hF hS => ?_)
              · exact obs_nil
              refine wp_ret ?_
              refine block_r (then_r (then_r (block_r (then_r ?_))))
              rw [← hφ1] at hm
              replace hm := done_b hm
              unfold gameroomref_UsedMay_K1 at hm
              try dsimp only at hm
              have hm : some 1 = some r := hm
              obtain rfl := Option.some.inj hm
              exact retV (rs := [.tmp 4]) (vs := [.int .i64 1]) hF rfl (rv_t (by kernel_rfl) <| rv_nil) rfl ⟨rfl, hS⟩
            · replace hm := if_f hm hb
              refine wp_skip ?_
              refine block_n ?_
              refine then_n ?_
              exact ⟨hF.weak [1, 6] (by kernel_rfl), hS, hm⟩
        · refine reg [] [] [1, 6, 18] [pl 1 (.slice A1 used1.length c6), pl 6 (.int .i64 i1), pl 18 (.bool (decide (i1 < (used1.length : Int))))] hF hS Fol (by kernel_rfl) (by kernel_rfl) (by kernel_rfl) ?_ (fun a w hF hS => ?_)
          · exact obs_nil
          refine cond_ev (t := 18) (b := decide (i1 < (used1.length : Int))) hF (by kernel_rfl) (fun hb => ?_) (fun hb => ?_)
          · replace hm := if_t hm hb
            refine wp_skip ?_
            refine then_n ?_
            exact ⟨hF.weak [1, 6] (by kernel_rfl), hS, hm⟩
          · replace hm := if_f hm hb
            refine wp_exit ?_
            refine then_e (then_e (block_e (then_n ?_)))
            rw [← hφ1] at hm
            replace hm := done_b hm
            unfold gameroomref_UsedMay_K1 at hm
            try dsimp only at hm
            have hm : (gameroomref_UsedMay_J3).bind some = some r := hm
            exact ⟨hF.weak [] (by kernel_rfl), hS, hm⟩
    · refine reg [] [] [1, 14] [pl 1 (.slice A1 used1.length c6), pl 14 (.bool (decide ((200 : Int) < (used1.length : Int))))] hF hS Fol (by kernel_rfl) (by kernel_rfl) (by kernel_rfl) ?_ (fun a w hF hS => ?_)
      · exact obs_nil
      refine cond_ev (t := 14) (b := decide ((200 : Int) < (used1.length : Int))) hF (by kernel_rfl) (fun hb => ?_) (fun hb => ?_)
      · replace hm := if_t hm hb
        refine reg [] [] [4] [pl 4 (.int .i64 11)] hF hS Fol (by kernel_rfl) (by kernel_rfl) (by kernel_rfl) ?_ (fun a w hF hS => ?_)
        · exact obs_nil
        refine wp_ret ?_
        refine then_r ?_
        have hm : some 11 = some r := hm
        obtain rfl := Option.some.inj hm
        exact retV (rs := [.tmp 4]) (vs := [.int .i64 11]) hF rfl (rv_t (by kernel_rfl) <| rv_nil) rfl ⟨rfl, hS⟩
      · replace hm := if_f hm hb
        refine wp_skip ?_
        refine then_n ?_
        exact ⟨hF.weak [1] (by kernel_rfl), hS, hm⟩
  · refine reg [] [] [1, 5, 10] [pl 1 (.slice A1 used1.length c6), pl 5 (.int .i64 r1), pl 10 (.bool (r1 != 0))] hF hS Fol (by kernel_rfl) (by kernel_rfl) (by kernel_rfl) ?_ (fun a w hF hS => ?_)
    · exact obs_nil
    refine cond_ev (t := 10) (b := (r1 != 0)) hF (by kernel_rfl) (fun hb => ?_) (fun hb => ?_)
    · replace hm := if_t hm hb
      refine reg [] [] [4] [pl 4 (.int .i64 r1)] hF hS Fol (by kernel_rfl) (by kernel_rfl) (by kernel_rfl) ?_ (fun a w hF hS => ?_)
      · exact obs_nil
      refine wp_ret ?_
      refine then_r ?_
      have hS := hS.pickN 1 [] (by decide)
      have hm : some r1 = some r := hm
      obtain rfl := Option.some.inj hm
      exact retV (rs := [.tmp 4]) (vs := [.int .i64 r1]) hF rfl (rv_t (by kernel_rfl) <| rv_nil) rfl ⟨rfl, hS⟩
    · replace hm := if_f hm hb
      refine wp_skip ?_
      refine then_n ?_
      have hS := hS.pickN 1 [] (by decide)
      exact ⟨hF.weak [1] (by kernel_rfl), hS, hm⟩

noncomputable def gameroomref_RunOf_J3 (i1 : Int) (x7 : List Int) (x8 : Int) (x9 : Int) (left3 : List Int) : Option (St (List Int × Int × Int × List Int × Int) (Fl (List Int × Int × Int × List Int) (List Int × Int × Int × List Int × Int))) :=
  some (.next (x7, x8, x9, left3, (w64 (i1 + 1))))

noncomputable def gameroomref_RunOf_J8 (x2 : Int) (x3 : Int) (left1 : List Int) (i1 : Int) (x11 : List Int) : Option (St (List Int × Int × Int × List Int × Int) (Fl (List Int × Int × Int × List Int) (List Int × Int × Int × List Int × Int))) :=
  asrt (0 ≤ (w64 (1 - (Int.tmod i1 2))) ∧ (w64 (1 - (Int.tmod i1 2))) < 2) <| asrt ((left1.length : Int) + 1 ≤ bigN) <| (gameroomref_RunOf_J3 i1) x11 x2 (w64 (x3 + 1)) (left1 ++ ([geti x11 (w64 (1 - (Int.tmod i1 2)))] : List Int))

noncomputable def gameroomref_RunOf_J7 (c4 : Int) (c5 : Int) (x2 : Int) (x3 : Int) (left1 : List Int) (i1 : Int) (x10 : List Int) : Option (St (List Int × Int × Int × List Int × Int) (Fl (List Int × Int × Int × List Int) (List Int × Int × Int × List Int × Int))) :=
  asrt ((decide ((0 : Int) < c4)) = true → c4 ≠ (0 : Int)) <| if ((decide ((0 : Int) < c4)) && ((Int.tmod (w64 ((w64 (Int.tdiv i1 2)) + 1)) c4) == 0)) then (asrt (0 ≤ (Int.tmod i1 2) ∧ (Int.tmod i1 2) < 2) <| asrt (0 ≤ (Int.tmod i1 2) ∧ (Int.tmod i1 2) < 2) <| asrt ((Int.tmod i1 2) < (x10.length : Int)) <| (gameroomref_RunOf_J8 x2 x3 left1 i1) (x10.set (Int.toNat (Int.tmod i1 2)) (w64 ((geti x10 (Int.tmod i1 2)) + c5)))) else ((gameroomref_RunOf_J8 x2 x3 left1 i1) x10)

noncomputable def gameroomref_RunOf_J6 (c2 : Int) (c3 : Int) (c4 : Int) (c5 : Int) (used1 : List Int) (x1 : List Int) (x2 : Int) (x3 : Int) (left1 : List Int) (i1 : Int) (taken1 : Int) : Option (St (List Int × Int × Int × List Int × Int) (Fl (List Int × Int × Int × List Int) (List Int × Int × Int × List Int × Int))) :=
  asrt (0 ≤ (Int.tmod i1 2) ∧ (Int.tmod i1 2) < 2) <| asrt (0 ≤ (Int.tmod i1 2) ∧ (Int.tmod i1 2) < 2) <| asrt ((Int.tmod i1 2) < (x1.length : Int)) <| asrt ((c2 == 2) = true → (c2 == 1) = false → 0 ≤ i1 ∧ i1 < (used1.length : Int)) <| if ((c2 == 1) || ((c2 == 2) && (decide (c3 ≤ (geti used1 i1))))) then (asrt (0 ≤ (Int.tmod i1 2) ∧ (Int.tmod i1 2) < 2) <| asrt (0 ≤ (Int.tmod i1 2) ∧ (Int.tmod i1 2) < 2) <| asrt ((Int.tmod i1 2) < ((x1.set (Int.toNat (Int.tmod i1 2)) (w64 ((geti x1 (Int.tmod i1 2)) - taken1))).length : Int)) <| (gameroomref_RunOf_J7 c4 c5 x2 x3 left1 i1) ((x1.set (Int.toNat (Int.tmod i1 2)) (w64 ((geti x1 (Int.tmod i1 2)) - taken1))).set (Int.toNat (Int.tmod i1 2)) (w64 ((geti (x1.set (Int.toNat (Int.tmod i1 2)) (w64 ((geti x1 (Int.tmod i1 2)) - taken1))) (Int.tmod i1 2)) + c3)))) else (if (c2 == 2) then (asrt (0 ≤ (Int.tmod i1 2) ∧ (Int.tmod i1 2) < 2) <| asrt (0 ≤ i1 ∧ i1 < (used1.length : Int)) <| asrt (0 ≤ (Int.tmod i1 2) ∧ (Int.tmod i1 2) < 2) <| asrt ((Int.tmod i1 2) < ((x1.set (Int.toNat (Int.tmod i1 2)) (w64 ((geti x1 (Int.tmod i1 2)) - taken1))).length : Int)) <| (gameroomref_RunOf_J7 c4 c5 x2 x3 left1 i1) ((x1.set (Int.toNat (Int.tmod i1 2)) (w64 ((geti x1 (Int.tmod i1 2)) - taken1))).set (Int.toNat (Int.tmod i1 2)) (w64 ((geti (x1.set (Int.toNat (Int.tmod i1 2)) (w64 ((geti x1 (Int.tmod i1 2)) - taken1))) (Int.tmod i1 2)) + (geti used1 i1))))) else ((gameroomref_RunOf_J7 c4 c5 x2 x3 left1 i1) (x1.set (Int.toNat (Int.tmod i1 2)) (w64 ((geti x1 (Int.tmod i1 2)) - taken1)))))

noncomputable def gameroomref_RunOf_J5 (c2 : Int) (c3 : Int) (c4 : Int) (c5 : Int) (used1 : List Int) (x1 : List Int) (x2 : Int) (x3 : Int) (left1 : List Int) (i1 : Int) (taken1 : Int) : Option (St (List Int × Int × Int × List Int × Int) (Fl (List Int × Int × Int × List Int) (List Int × Int × Int × List Int × Int))) :=
  asrt (0 ≤ (Int.tmod i1 2) ∧ (Int.tmod i1 2) < 2) <| if (decide ((geti x1 (Int.tmod i1 2)) < taken1)) then (asrt (0 ≤ (Int.tmod i1 2) ∧ (Int.tmod i1 2) < 2) <| asrt ((Int.tmod i1 2) < (x1.length : Int)) <| (gameroomref_RunOf_J3 i1) (x1.set (Int.toNat (Int.tmod i1 2)) 0) (Int.tmod i1 2) x3 left1) else ((gameroomref_RunOf_J6 c2 c3 c4 c5 used1 x1 x2 x3 left1 i1 taken1))

noncomputable def gameroomref_RunOf_J4 (c2 : Int) (c3 : Int) (c4 : Int) (c5 : Int) (used1 : List Int) (x1 : List Int) (x2 : Int) (x3 : Int) (left1 : List Int) (i1 : Int) : Option (St (List Int × Int × Int × List Int × Int) (Fl (List Int × Int × Int × List Int) (List Int × Int × Int × List Int × Int))) :=
  asrt (0 ≤ i1 ∧ i1 < (used1.length : Int)) <| if (c2 == 3) then (if (decide ((w64 ((geti used1 i1) - c3)) < 0)) then ((gameroomref_RunOf_J5 c2 c3 c4 c5 used1 x1 x2 x3 left1 i1) 0) else ((gameroomref_RunOf_J5 c2 c3 c4 c5 used1 x1 x2 x3 left1 i1) (w64 ((geti used1 i1) - c3)))) else ((gameroomref_RunOf_J5 c2 c3 c4 c5 used1 x1 x2 x3 left1 i1) (geti used1 i1))

noncomputable def gameroomref_RunOf_J2 (c2 : Int) (c3 : Int) (c4 : Int) (c5 : Int) (used1 : List Int) (x1 : List Int) (x2 : Int) (x3 : Int) (left1 : List Int) (i1 : Int) : Option (St (List Int × Int × Int × List Int × Int) (Fl (List Int × Int × Int × List Int) (List Int × Int × Int × List Int × Int))) :=
  if (decide ((0 : Int) ≤ x2)) then (some (.done (.ret ((List.replicate 2 (0 : Int)), 0, 0, ([] : List Int), 9)))) else ((gameroomref_RunOf_J4 c2 c3 c4 c5 used1 x1 x2 x3 left1 i1))

noncomputable def gameroomref_RunOf_J1 (x4 : List Int) (x5 : Int) (x6 : Int) (left2 : List Int) : Option (List Int × Int × Int × List Int × Int) :=
  some (x4, x5, x6, left2, 0)

noncomputable def gameroomref_RunOf_K1 : (Fl (List Int × Int × Int × List Int) (List Int × Int × Int × List Int × Int)) → Option (List Int × Int × Int × List Int × Int) :=
  fun (x : (Fl (List Int × Int × Int × List Int) (List Int × Int × Int × List Int × Int))) => match x with | .go (x4, x5, x6, left2) => gameroomref_RunOf_J1 x4 x5 x6 left2 | .ret x => some x

noncomputable def gameroomref_RunOf_L1 (c2 : Int) (c3 : Int) (c4 : Int) (c5 : Int) (used1 : List Int) : (List Int × Int × Int × List Int × Int) → Option (St (List Int × Int × Int × List Int × Int) (Fl (List Int × Int × Int × List Int) (List Int × Int × Int × List Int × Int))) :=
  fun (x : (List Int × Int × Int × List Int × Int)) => match x with | (x1, x2, x3, left1, i1) => if (decide (i1 < (used1.length : Int))) then ((gameroomref_RunOf_J2 c2 c3 c4 c5 used1 x1 x2 x3 left1 i1)) else (some (.done (.go (x1, x2, x3, left1))))
end Go.Proofs.Ytbmhcapeikebgaa
