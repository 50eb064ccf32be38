/-
  Models and walks, printed by our own program (wip/gen).
-/
import Derived.Test.YtbmhcapeikebgaaFB
namespace Go.Proofs.Ytbmhcapeikebgaa
open Go Go.GL Go.RowKit


noncomputable def gameroomlaw_ints_m (l1 : List Int) : Option (List Int) :=
  asrt ((0 : Int) + (l1.length : Int) ≤ bigN) <| some ([] ++ l1)

set_option maxRecDepth 100000 in
set_option maxHeartbeats 4000000 in
theorem gameroomlaw_ints_w {A1 : Option Addr} {c1 : Nat} {n1 : Nat} {l1 : List Int} {r : (List Int)} {w0 w : World} {B : Nat} {fs : List HP} (hm : gameroomlaw_ints_m l1 = some r) (hS : Sep w0 B w (fs)) (hr_l1 : RdF w0 B fs A1 (vI l1)) (_hc_l1 : l1.length ≤ c1) (_hn_l1 : n1 = l1.length) :
    Calls Try.prog 30 #[.slice A1 n1 c1] w fun e w' => ∃ v, e = .returned v ∧ ∃ (A3 : Option Addr) (c3 : Nat), v = .slice A3 r.length c3 ∧ Sep w0 B w' (own 3 (.slice A3 r.length c3) (vI r) :: fs) := by
  obtain ⟨i3, hi3, hz3, hs3, hb3⟩ := info_parts Info3
  obtain rfl := _hn_l1
  unfold gameroomlaw_ints_m at hm
  replace hm := start_b hm
  refine enter (l := [.slice A1 l1.length c1]) (n := 5) Try.func30 rfl rfl (by simp) (fun a hF => ?_)
  refine reg [] [] [0] [pl 0 (.slice A1 l1.length c1)] hF hS Fol (by kernel_rfl) (by kernel_rfl) (by kernel_rfl) ?_ (fun a w hF hS => ?_)
  · exact obs_nil
  refine seqR ?_
  obtain ⟨hp1, hm⟩ := asrt_b hm
  refine at_run 1 [] [] [3] [pl 3 (.slice A1 l1.length c1)] hF hS (by kernel_rfl) (by kernel_rfl) ?_ (fun a w hF hS => ?_)
  · exact obs_nil
  have hS : Sep w0 B w (own 3 (.slice none 0 0) (vI ([] : List Int)) :: fs) := hS.nil 3
  obtain ⟨A2, c2, w, hrun, hS⟩ := run_app1 (P := Try.prog) (t := 40) (m := ([] : List Int)) (ys := l1) (A2 := A1) (m2 := l1.length) (c2 := c1) (Value.int .i64) (0 : Int) (hS.at_ 0 rfl) (hr_l1 _ (hS.dropN 1)) rfl 40 Und40 hi3 hz3 hs3 (by omega) rfl (fun _ => rfl) hp1
  have hS : Sep w0 B w (own 3 (.slice A2 (([] ++ l1).length) c2) (vI ([] ++ l1)) :: fs) := hS
  refine at_do (d := 4) hF (by kernel_rfl) (by kernel_rfl) hrun (fun a hF => ?_)
  refine at_run 1 [] [] [2] [pl 2 (.slice A2 (([] ++ l1).length) c2)] hF hS (by kernel_rfl) (by kernel_rfl) ?_ (fun a w hF hS => ?_)
  · exact obs_nil
  refine at_end [2] [pl 2 (.slice A2 (([] ++ l1).length) c2)] hF rfl (by kernel_rfl) (fun hF => ?_)
  refine then_n ?_
  refine wp_ret ?_
  have hm : some ([] ++ l1) = some r := hm
  obtain rfl := Option.some.inj hm
  exact retV (rs := [.tmp 2]) (vs := [.slice A2 (([] ++ l1).length) c2]) hF rfl (rv_t (by kernel_rfl) <| rv_nil) rfl ⟨_, rfl, A2, c2, rfl, hS⟩

noncomputable def hanoi_off_m (peg1 : Int) : Option Bool :=
  some ((decide (peg1 < 0)) || (decide ((2 : Int) < peg1)))

set_option maxRecDepth 100000 in
set_option maxHeartbeats 4000000 in
theorem hanoi_off_w {peg1 : Int} {r : Bool} {w0 w : World} {B : Nat} {fs : List HP} (hm : hanoi_off_m peg1 = some r) (hS : Sep w0 B w (fs)) :
    Calls Try.prog 87 #[.int .i64 peg1] w fun e w' => e = .returned (.bool r) ∧ Sep w0 B w' (fs) := by
  unfold hanoi_off_m at hm
  replace hm := start_b hm
  refine enter (l := [.int .i64 peg1]) (n := 9) Try.func87 rfl rfl (by simp) (fun a hF => ?_)
  refine reg [] [] [0] [pl 0 (.int .i64 peg1)] hF hS Fol (by kernel_rfl) (by kernel_rfl) (by kernel_rfl) ?_ (fun a w hF hS => ?_)
  · exact obs_nil
  refine reg [] [] [2] [pl 2 (.bool ((decide (peg1 < 0)) || (decide ((2 : Int) < peg1))))] hF hS Fol (by kernel_rfl) (by kernel_rfl) (by kernel_rfl) ?_ (fun a w hF hS => ?_)
  · exact obs_nil
  refine wp_ret ?_
  have hm : some ((decide (peg1 < 0)) || (decide ((2 : Int) < peg1))) = some r := hm
  obtain rfl := Option.some.inj hm
  exact retV (rs := [.tmp 2]) (vs := [.bool ((decide (peg1 < 0)) || (decide ((2 : Int) < peg1)))]) hF rfl (rv_t (by kernel_rfl) <| rv_nil) rfl ⟨rfl, hS⟩

noncomputable def slices_IndexFunc_J3 (z1 : Int) : Option (St Int (Fl Unit Int)) :=
  some (.next (w64 (z1 + 1)))

noncomputable def slices_IndexFunc_J2 (s1 : List Int) (z1 : Int) : Option (St Int (Fl Unit Int)) :=
  asrt (0 ≤ z1 ∧ z1 < (s1.length : Int)) <| (hanoi_off_m (geti s1 z1)).bind fun r1 => if r1 then (some (.done (.ret z1))) else ((slices_IndexFunc_J3 z1))

noncomputable def slices_IndexFunc_J1 : Option Int :=
  some (-1)

noncomputable def slices_IndexFunc_K1 : (Fl Unit Int) → Option Int :=
  fun (x : (Fl Unit Int)) => match x with | .go _ => slices_IndexFunc_J1 | .ret x => some x

noncomputable def slices_IndexFunc_L1 (s1 : List Int) : Int → Option (St Int (Fl Unit Int)) :=
  fun (x : Int) => match x with | z1 => if (decide (z1 < (s1.length : Int))) then ((slices_IndexFunc_J2 s1 z1)) else (some (.done (.go ())))

noncomputable def slices_IndexFunc_m (s1 : List Int) : Option Int :=
  (loop (slices_IndexFunc_L1 s1) 0).bind slices_IndexFunc_K1

set_option maxRecDepth 100000 in
set_option maxHeartbeats 4000000 in
theorem slices_IndexFunc_w {A1 : Option Addr} {c1 : Nat} {n1 : Nat} {s1 : List Int} {r : Int} {w0 w : World} {B : Nat} {fs : List HP} (hm : slices_IndexFunc_m s1 = some r) (hS : Sep w0 B w (fs)) (hr_s1 : RdF w0 B fs A1 (vI s1)) (_hc_s1 : s1.length ≤ c1) (_hn_s1 : n1 = s1.length) :
    Calls Try.prog 134 #[.slice A1 n1 c1, .func (.func 87) #[] #[]] w fun e w' => e = .returned (.int .i64 r) ∧ Sep w0 B w' (fs) := by
  obtain ⟨i3, hi3, hz3, hs3, hb3⟩ := info_parts Info3
  obtain rfl := _hn_s1
  unfold slices_IndexFunc_m at hm
  replace hm := start_b hm
  refine enter (l := [.slice A1 s1.length c1, .func (.func 87) #[] #[]]) (n := 19) Try.func134 rfl rfl (by simp) (fun a hF => ?_)
  refine reg [] [] [0, 1] [pl 0 (.slice A1 s1.length c1), pl 1 (.func (.func 87) #[] #[])] hF hS Fol (by kernel_rfl) (by kernel_rfl) (by kernel_rfl) ?_ (fun a w hF hS => ?_)
  · exact obs_nil
  refine seq_cut (fun a w => Fr 19 [] a ∧ Sep w0 B w (fs) ∧ (slices_IndexFunc_J1).bind some = some r) ?_ ?_
  · rintro a w ⟨hF, hS, hm⟩
    unfold slices_IndexFunc_J1 at hm
    refine reg [] [] [4] [pl 4 (.int .i64 (-1))] hF hS Fol (by kernel_rfl) (by kernel_rfl) (by kernel_rfl) ?_ (fun a w hF hS => ?_)
    · exact obs_nil
    refine wp_ret ?_
    have hm : some (-1) = some r := hm
    obtain rfl := Option.some.inj hm
    exact retV (rs := [.tmp 4]) (vs := [.int .i64 (-1)]) hF rfl (rv_t (by kernel_rfl) <| rv_nil) rfl ⟨rfl, hS⟩
  · refine reg [] [] [0, 1, 7, 8] [pl 0 (.slice A1 s1.length c1), pl 1 (.func (.func 87) #[] #[]), pl 7 (.int .i64 (s1.length : Int)), pl 8 (.int .i64 0)] hF hS Fol (by kernel_rfl) (by kernel_rfl) (by kernel_rfl) ?_ (fun a w hF hS => ?_)
    · exact obs_nil
    refine wp_block ?_
    refine wp_loop_model (S := Int) (R := (Fl Unit Int)) (slices_IndexFunc_L1 s1) (fun x => (slices_IndexFunc_K1 x).bind some) r (fun (x : Int) a w => Fr 19 [pl 0 (.slice A1 s1.length c1), pl 1 (.func (.func 87) #[] #[]), pl 7 (.int .i64 (s1.length : Int)), pl 8 (.int .i64 x)] a ∧ Sep w0 B w (fs)) (assoc_b hm) ⟨hF.weak [0, 1, 7, 8] (by kernel_rfl), hS⟩ ?_
    clear hF hS hm
    rintro nn1 z1 a w ⟨hF, hS⟩ hm
    generalize hφ1 : stK (slices_IndexFunc_L1 s1) nn1 (fun x => (slices_IndexFunc_K1 x).bind some) = φ1 at hm
    unfold slices_IndexFunc_L1 at hm
    dsimp only at hm
    refine reg [] [] [0, 1, 7, 8, 9] [pl 0 (.slice A1 s1.length c1), pl 1 (.func (.func 87) #[] #[]), pl 7 (.int .i64 (s1.length : Int)), pl 8 (.int .i64 z1), pl 9 (.bool (decide (z1 < (s1.length : Int))))] hF hS Fol (by kernel_rfl) (by kernel_rfl) (by kernel_rfl) ?_ (fun a w hF hS => ?_)
    · exact obs_nil
    refine seq_cut (fun a w => Fr 19 [pl 0 (.slice A1 s1.length c1), pl 1 (.func (.func 87) #[] #[]), pl 7 (.int .i64 (s1.length : Int)), pl 8 (.int .i64 z1)] a ∧ Sep w0 B w (fs) ∧ ((slices_IndexFunc_J2 s1 z1)).bind φ1 = some r) ?_ ?_
    · rintro a w ⟨hF, hS, hm⟩
      unfold slices_IndexFunc_J2 at hm
      refine seq_cut (fun a w => Fr 19 [pl 0 (.slice A1 s1.length c1), pl 1 (.func (.func 87) #[] #[]), pl 7 (.int .i64 (s1.length : Int)), pl 8 (.int .i64 z1)] a ∧ Sep w0 B w (fs) ∧ ((slices_IndexFunc_J3 z1)).bind φ1 = some r) ?_ ?_
      · rintro a w ⟨hF, hS, hm⟩
        unfold slices_IndexFunc_J3 at hm
        refine reg1 [] [] [0, 1, 7, 8] [pl 0 (.slice A1 s1.length c1), pl 1 (.func (.func 87) #[] #[]), pl 7 (.int .i64 (s1.length : Int)), pl 8 (.int .i64 (w64 (z1 + 1)))] hF hS Fol (by kernel_rfl) (by kernel_rfl) (by kernel_rfl) ?_ (fun a w hF hS => ?_)
        · exact obs_nil
        refine then_n ?_
        rw [← hφ1] at hm
        exact ⟨(w64 (z1 + 1)), ⟨hF.weak [0, 1, 7, 8] (by kernel_rfl), hS⟩, hm⟩
      · refine wp_block ?_
        refine reg [] [] [0, 1, 5, 7, 8] [pl 0 (.slice A1 s1.length c1), pl 1 (.func (.func 87) #[] #[]), pl 5 (.int .i64 z1), pl 7 (.int .i64 (s1.length : Int)), pl 8 (.int .i64 z1)] hF hS Fol (by kernel_rfl) (by kernel_rfl) (by kernel_rfl) ?_ (fun a w hF hS => ?_)
        · exact obs_nil
        obtain ⟨hp1, hm⟩ := asrt_b hm
        obtain ⟨r1, hr1, hm⟩ := call_b hm
        refine reg [⟨true, [], vS (Instr.indexAt 40 (.slice A1 s1.length c1) (.int .i64 z1)), .pointer (some (sAddr A1 z1))⟩, ⟨false, [], vS (Instr.loadAt 3 (.pointer (some (sAddr A1 z1)))), .int .i64 (geti s1 z1)⟩, ⟨false, [], callFunc 87 #[.int .i64 (geti s1 z1)], .bool r1⟩] [none, none, none, some (.pointer (some (sAddr A1 z1))), some (.int .i64 (geti s1 z1)), some (.bool r1)] [0, 1, 5, 7, 8, 16] [pl 0 (.slice A1 s1.length c1), pl 1 (.func (.func 87) #[] #[]), pl 5 (.int .i64 z1), pl 7 (.int .i64 (s1.length : Int)), pl 8 (.int .i64 z1), pl 16 (.bool r1)] hF hS Fol (by kernel_rfl) (by kernel_rfl) (by kernel_rfl) ?_ (fun a w hF hS => ?_)
        · exact obs_cons (ob_ix1 (f := (Value.int .i64)) (m := s1) Und40 hi3 hs3 (hr_s1 _ (hS.dropN 0)) rfl (fun _ => hp1)) <| obs_cons (ob_get1 (n := s1.length) (m := s1) (Value.int .i64) (0 : Int) Agg3 (fun _ hS => ⟨_, (hr_s1 _ (hS.dropN 0))⟩) (fun _ hS => rfl) (fun _ => hp1)) <| obs_cons (ob_call Try.func87 (by kernel_rfl) rfl (fun _ _ hS => hanoi_off_w hr1 hS )) <| obs_nil
        refine cond_ev (t := 16) (b := r1) hF (by kernel_rfl) (fun hb => ?_) (fun hb => ?_)
        · replace hm := if_t hm hb
          refine reg [] [] [4] [pl 4 (.int .i64 z1)] hF hS Fol (by kernel_rfl) (by kernel_rfl) (by kernel_rfl) ?_ (fun a w hF hS => ?_)
          · exact obs_nil
          refine wp_ret ?_
          refine block_r (then_r (then_r (block_r (then_r ?_))))
          rw [← hφ1] at hm
          replace hm := done_b hm
          unfold slices_IndexFunc_K1 at hm
          try dsimp only at hm
          have hm : some z1 = some r := hm
          obtain rfl := Option.some.inj hm
          exact retV (rs := [.tmp 4]) (vs := [.int .i64 z1]) hF rfl (rv_t (by kernel_rfl) <| rv_nil) rfl ⟨rfl, hS⟩
        · replace hm := if_f hm hb
          refine wp_skip ?_
          refine block_n ?_
          refine then_n ?_
          exact ⟨hF.weak [0, 1, 7, 8] (by kernel_rfl), hS, hm⟩
    · refine cond_ev (t := 9) (b := decide (z1 < (s1.length : Int))) hF (by kernel_rfl) (fun hb => ?_) (fun hb => ?_)
      · replace hm := if_t hm hb
        refine wp_skip ?_
        refine then_n ?_
        exact ⟨hF.weak [0, 1, 7, 8] (by kernel_rfl), hS, hm⟩
      · replace hm := if_f hm hb
        refine wp_exit ?_
        refine then_e (then_e (block_e (then_n ?_)))
        rw [← hφ1] at hm
        replace hm := done_b hm
        unfold slices_IndexFunc_K1 at hm
        try dsimp only at hm
        have hm : (slices_IndexFunc_J1).bind some = some r := hm
        exact ⟨hF.weak [] (by kernel_rfl), hS, hm⟩

noncomputable def slices_ContainsFunc_m (s1 : List Int) : Option Bool :=
  (slices_IndexFunc_m s1).bind fun r1 => some (decide ((0 : Int) ≤ r1))

set_option maxRecDepth 100000 in
set_option maxHeartbeats 4000000 in
theorem slices_ContainsFunc_w {A1 : Option Addr} {c1 : Nat} {n1 : Nat} {s1 : List Int} {r : Bool} {w0 w : World} {B : Nat} {fs : List HP} (hm : slices_ContainsFunc_m s1 = some r) (hS : Sep w0 B w (fs)) (hr_s1 : RdF w0 B fs A1 (vI s1)) (_hc_s1 : s1.length ≤ c1) (_hn_s1 : n1 = s1.length) :
    Calls Try.prog 94 #[.slice A1 n1 c1, .func (.func 87) #[] #[]] w fun e w' => e = .returned (.bool r) ∧ Sep w0 B w' (fs) := by
  obtain ⟨i3, hi3, hz3, hs3, hb3⟩ := info_parts Info3
  obtain rfl := _hn_s1
  unfold slices_ContainsFunc_m at hm
  replace hm := start_b hm
  refine enter (l := [.slice A1 s1.length c1, .func (.func 87) #[] #[]]) (n := 9) Try.func94 rfl rfl (by simp) (fun a hF => ?_)
  refine reg [] [] [0, 1] [pl 0 (.slice A1 s1.length c1), pl 1 (.func (.func 87) #[] #[])] hF hS Fol (by kernel_rfl) (by kernel_rfl) (by kernel_rfl) ?_ (fun a w hF hS => ?_)
  · exact obs_nil
  obtain ⟨r1, hr1, hm⟩ := call_b hm
  refine reg [⟨false, [], callFunc 134 #[.slice A1 s1.length c1, .func (.func 87) #[] #[]], .int .i64 r1⟩] [none, none, some (.int .i64 r1), none, none] [4] [pl 4 (.bool (decide ((0 : Int) ≤ r1)))] hF hS Fol (by kernel_rfl) (by kernel_rfl) (by kernel_rfl) ?_ (fun a w hF hS => ?_)
  · exact obs_cons (ob_call Try.func134 (by kernel_rfl) rfl (fun _ _ hS => slices_IndexFunc_w hr1 hS (fun _ hS => (hr_s1 _ (hS.dropN 0))) _hc_s1 rfl)) <| obs_nil
  refine wp_ret ?_
  have hm : some (decide ((0 : Int) ≤ r1)) = some r := hm
  obtain rfl := Option.some.inj hm
  exact retV (rs := [.tmp 4]) (vs := [.bool (decide ((0 : Int) ≤ r1))]) hF rfl (rv_t (by kernel_rfl) <| rv_nil) rfl ⟨rfl, hS⟩

noncomputable def hanoi_check_J1 : Option Int :=
  some 0

noncomputable def hanoi_check_m (s1 : List Int) : Option Int :=
  if (decide ((40 : Int) < (s1.length : Int))) then (some 2) else ((slices_ContainsFunc_m s1).bind fun r1 => if r1 then (some 3) else (hanoi_check_J1))

set_option maxRecDepth 100000 in
set_option maxHeartbeats 4000000 in
theorem hanoi_check_w {A1 : Option Addr} {c1 : Nat} {n1 : Nat} {s1 : List Int} {r : Int} {w0 w : World} {B : Nat} {fs : List HP} (hm : hanoi_check_m s1 = some r) (hS : Sep w0 B w (fs)) (hr_s1 : RdF w0 B fs A1 (vI s1)) (_hc_s1 : s1.length ≤ c1) (_hn_s1 : n1 = s1.length) :
    Calls Try.prog 85 #[.slice A1 n1 c1] w fun e w' => e = .returned (.int .i64 r) ∧ Sep w0 B w' (fs) := by
  obtain ⟨i3, hi3, hz3, hs3, hb3⟩ := info_parts Info3
  obtain rfl := _hn_s1
  unfold hanoi_check_m at hm
  replace hm := start_b hm
  refine enter (l := [.slice A1 s1.length c1]) (n := 10) Try.func85 rfl rfl (by simp) (fun a hF => ?_)
  refine reg [] [] [0] [pl 0 (.slice A1 s1.length c1)] hF hS Fol (by kernel_rfl) (by kernel_rfl) (by kernel_rfl) ?_ (fun a w hF hS => ?_)
  · exact obs_nil
  refine seq_cut (fun a w => Fr 10 [] a ∧ Sep w0 B w (fs) ∧ (hanoi_check_J1).bind some = some r) ?_ ?_
  · rintro a w ⟨hF, hS, hm⟩
    unfold hanoi_check_J1 at hm
    refine reg [] [] [2] [pl 2 (.int .i64 0)] hF hS Fol (by kernel_rfl) (by kernel_rfl) (by kernel_rfl) ?_ (fun a w hF hS => ?_)
    · exact obs_nil
    refine wp_ret ?_
    have hm : some 0 = some r := hm
    obtain rfl := Option.some.inj hm
    exact retV (rs := [.tmp 2]) (vs := [.int .i64 0]) hF rfl (rv_t (by kernel_rfl) <| rv_nil) rfl ⟨rfl, hS⟩
  · refine wp_block ?_
    refine reg [] [] [0, 3] [pl 0 (.slice A1 s1.length c1), pl 3 (.bool (decide ((40 : Int) < (s1.length : Int))))] hF hS Fol (by kernel_rfl) (by kernel_rfl) (by kernel_rfl) ?_ (fun a w hF hS => ?_)
    · exact obs_nil
    refine cond_ev (t := 3) (b := decide ((40 : Int) < (s1.length : Int))) hF (by kernel_rfl) (fun hb => ?_) (fun hb => ?_)
    · replace hm := if_t hm hb
      refine reg [] [] [2] [pl 2 (.int .i64 2)] hF hS Fol (by kernel_rfl) (by kernel_rfl) (by kernel_rfl) ?_ (fun a w hF hS => ?_)
      · exact obs_nil
      refine wp_ret ?_
      refine block_r (then_r ?_)
      have hm : some 2 = some r := hm
      obtain rfl := Option.some.inj hm
      exact retV (rs := [.tmp 2]) (vs := [.int .i64 2]) hF rfl (rv_t (by kernel_rfl) <| rv_nil) rfl ⟨rfl, hS⟩
    · replace hm := if_f hm hb
      obtain ⟨r1, hr1, hm⟩ := call_b hm
      refine reg [⟨false, [], callFunc 94 #[.slice A1 s1.length c1, .func (.func 87) #[] #[]], .bool r1⟩] [none, some (.bool r1), none] [7] [pl 7 (.bool r1)] hF hS Fol (by kernel_rfl) (by kernel_rfl) (by kernel_rfl) ?_ (fun a w hF hS => ?_)
      · exact obs_cons (ob_call Try.func94 (by kernel_rfl) rfl (fun _ _ hS => slices_ContainsFunc_w hr1 hS (fun _ hS => (hr_s1 _ (hS.dropN 0))) _hc_s1 rfl)) <| obs_nil
      refine cond_ev (t := 7) (b := r1) hF (by kernel_rfl) (fun hb => ?_) (fun hb => ?_)
      · replace hm := if_t hm hb
        refine reg [] [] [2] [pl 2 (.int .i64 3)] hF hS Fol (by kernel_rfl) (by kernel_rfl) (by kernel_rfl) ?_ (fun a w hF hS => ?_)
        · exact obs_nil
        refine wp_ret ?_
        refine block_r (then_r ?_)
        have hm : some 3 = some r := hm
        obtain rfl := Option.some.inj hm
        exact retV (rs := [.tmp 2]) (vs := [.int .i64 3]) hF rfl (rv_t (by kernel_rfl) <| rv_nil) rfl ⟨rfl, hS⟩
      · replace hm := if_f hm hb
        refine wp_skip ?_
        refine block_n ?_
        refine then_n ?_
        exact ⟨hF.weak [] (by kernel_rfl), hS, hm⟩

noncomputable def slices_Index_J3 (z1 : Int) : Option (St Int (Fl Unit Int)) :=
  some (.next (w64 (z1 + 1)))

noncomputable def slices_Index_J2 (s1 : List Int) (v1 : Int) (z1 : Int) : Option (St Int (Fl Unit Int)) :=
  asrt (0 ≤ z1 ∧ z1 < (s1.length : Int)) <| if (v1 == (geti s1 z1)) then (some (.done (.ret z1))) else ((slices_Index_J3 z1))

noncomputable def slices_Index_J1 : Option Int :=
  some (-1)

noncomputable def slices_Index_K1 : (Fl Unit Int) → Option Int :=
  fun (x : (Fl Unit Int)) => match x with | .go _ => slices_Index_J1 | .ret x => some x

noncomputable def slices_Index_L1 (s1 : List Int) (v1 : Int) : Int → Option (St Int (Fl Unit Int)) :=
  fun (x : Int) => match x with | z1 => if (decide (z1 < (s1.length : Int))) then ((slices_Index_J2 s1 v1 z1)) else (some (.done (.go ())))

noncomputable def slices_Index_m (s1 : List Int) (v1 : Int) : Option Int :=
  (loop (slices_Index_L1 s1 v1) 0).bind slices_Index_K1

set_option maxRecDepth 100000 in
set_option maxHeartbeats 4000000 in
theorem slices_Index_w {A1 : Option Addr} {c1 : Nat} {n1 : Nat} {s1 : List Int} {v1 : Int} {r : Int} {w0 w : World} {B : Nat} {fs : List HP} (hm : slices_Index_m s1 v1 = some r) (hS : Sep w0 B w (fs)) (hr_s1 : RdF w0 B fs A1 (vI s1)) (_hc_s1 : s1.length ≤ c1) (_hn_s1 : n1 = s1.length) :
    Calls Try.prog 105 #[.slice A1 n1 c1, .int .i64 v1] w fun e w' => e = .returned (.int .i64 r) ∧ Sep w0 B w' (fs) := by
  obtain ⟨i3, hi3, hz3, hs3, hb3⟩ := info_parts Info3
  obtain rfl := _hn_s1
  unfold slices_Index_m at hm
  replace hm := start_b hm
  refine enter (l := [.slice A1 s1.length c1, .int .i64 v1]) (n := 19) Try.func105 rfl rfl (by simp) (fun a hF => ?_)
  refine reg [] [] [0, 1] [pl 0 (.slice A1 s1.length c1), pl 1 (.int .i64 v1)] hF hS Fol (by kernel_rfl) (by kernel_rfl) (by kernel_rfl) ?_ (fun a w hF hS => ?_)
  · exact obs_nil
  refine seq_cut (fun a w => Fr 19 [] a ∧ Sep w0 B w (fs) ∧ (slices_Index_J1).bind some = some r) ?_ ?_
  · rintro a w ⟨hF, hS, hm⟩
    unfold slices_Index_J1 at hm
    refine reg [] [] [4] [pl 4 (.int .i64 (-1))] hF hS Fol (by kernel_rfl) (by kernel_rfl) (by kernel_rfl) ?_ (fun a w hF hS => ?_)
    · exact obs_nil
    refine wp_ret ?_
    have hm : some (-1) = some r := hm
    obtain rfl := Option.some.inj hm
    exact retV (rs := [.tmp 4]) (vs := [.int .i64 (-1)]) hF rfl (rv_t (by kernel_rfl) <| rv_nil) rfl ⟨rfl, hS⟩
  · refine reg [] [] [0, 1, 7, 8] [pl 0 (.slice A1 s1.length c1), pl 1 (.int .i64 v1), pl 7 (.int .i64 (s1.length : Int)), pl 8 (.int .i64 0)] hF hS Fol (by kernel_rfl) (by kernel_rfl) (by kernel_rfl) ?_ (fun a w hF hS => ?_)
    · exact obs_nil
    refine wp_block ?_
    refine wp_loop_model (S := Int) (R := (Fl Unit Int)) (slices_Index_L1 s1 v1) (fun x => (slices_Index_K1 x).bind some) r (fun (x : Int) a w => Fr 19 [pl 0 (.slice A1 s1.length c1), pl 1 (.int .i64 v1), pl 7 (.int .i64 (s1.length : Int)), pl 8 (.int .i64 x)] a ∧ Sep w0 B w (fs)) (assoc_b hm) ⟨hF.weak [0, 1, 7, 8] (by kernel_rfl), hS⟩ ?_
    clear hF hS hm
    rintro nn1 z1 a w ⟨hF, hS⟩ hm
    generalize hφ1 : stK (slices_Index_L1 s1 v1) nn1 (fun x => (slices_Index_K1 x).bind some) = φ1 at hm
    unfold slices_Index_L1 at hm
    dsimp only at hm
    refine reg [] [] [0, 1, 7, 8, 9] [pl 0 (.slice A1 s1.length c1), pl 1 (.int .i64 v1), pl 7 (.int .i64 (s1.length : Int)), pl 8 (.int .i64 z1), pl 9 (.bool (decide (z1 < (s1.length : Int))))] hF hS Fol (by kernel_rfl) (by kernel_rfl) (by kernel_rfl) ?_ (fun a w hF hS => ?_)
    · exact obs_nil
    refine seq_cut (fun a w => Fr 19 [pl 0 (.slice A1 s1.length c1), pl 1 (.int .i64 v1), pl 7 (.int .i64 (s1.length : Int)), pl 8 (.int .i64 z1)] a ∧ Sep w0 B w (fs) ∧ ((slices_Index_J2 s1 v1 z1)).bind φ1 = some r) ?_ ?_
    · rintro a w ⟨hF, hS, hm⟩
      unfold slices_Index_J2 at hm
      refine seq_cut (fun a w => Fr 19 [pl 0 (.slice A1 s1.length c1), pl 1 (.int .i64 v1), pl 7 (.int .i64 (s1.length : Int)), pl 8 (.int .i64 z1)] a ∧ Sep w0 B w (fs) ∧ ((slices_Index_J3 z1)).bind φ1 = some r) ?_ ?_
      · rintro a w ⟨hF, hS, hm⟩
        unfold slices_Index_J3 at hm
        refine reg1 [] [] [0, 1, 7, 8] [pl 0 (.slice A1 s1.length c1), pl 1 (.int .i64 v1), pl 7 (.int .i64 (s1.length : Int)), pl 8 (.int .i64 (w64 (z1 + 1)))] hF hS Fol (by kernel_rfl) (by kernel_rfl) (by kernel_rfl) ?_ (fun a w hF hS => ?_)
        · exact obs_nil
        refine then_n ?_
        rw [← hφ1] at hm
        exact ⟨(w64 (z1 + 1)), ⟨hF.weak [0, 1, 7, 8] (by kernel_rfl), hS⟩, hm⟩
      · refine wp_block ?_
        refine reg [] [] [0, 1, 5, 7, 8] [pl 0 (.slice A1 s1.length c1), pl 1 (.int .i64 v1), pl 5 (.int .i64 z1), pl 7 (.int .i64 (s1.length : Int)), pl 8 (.int .i64 z1)] hF hS Fol (by kernel_rfl) (by kernel_rfl) (by kernel_rfl) ?_ (fun a w hF hS => ?_)
        · exact obs_nil
        obtain ⟨hp1, hm⟩ := asrt_b hm
        refine reg [⟨true, [], vS (Instr.indexAt 40 (.slice A1 s1.length c1) (.int .i64 z1)), .pointer (some (sAddr A1 z1))⟩, ⟨false, [], vS (Instr.loadAt 3 (.pointer (some (sAddr A1 z1)))), .int .i64 (geti s1 z1)⟩] [none, none, none, some (.pointer (some (sAddr A1 z1))), some (.int .i64 (geti s1 z1)), none] [0, 1, 5, 7, 8, 16] [pl 0 (.slice A1 s1.length c1), pl 1 (.int .i64 v1), pl 5 (.int .i64 z1), pl 7 (.int .i64 (s1.length : Int)), pl 8 (.int .i64 z1), pl 16 (.bool (v1 == (geti s1 z1)))] hF hS Fol (by kernel_rfl) (by kernel_rfl) (by kernel_rfl) ?_ (fun a w hF hS => ?_)
        · exact obs_cons (ob_ix1 (f := (Value.int .i64)) (m := s1) Und40 hi3 hs3 (hr_s1 _ (hS.dropN 0)) rfl (fun _ => hp1)) <| obs_cons (ob_get1 (n := s1.length) (m := s1) (Value.int .i64) (0 : Int) Agg3 (fun _ hS => ⟨_, (hr_s1 _ (hS.dropN 0))⟩) (fun _ hS => rfl) (fun _ => hp1)) <| obs_nil
        refine cond_ev (t := 16) (b := (v1 == (geti s1 z1))) hF (by kernel_rfl) (fun hb => ?_) (fun hb => ?_)
        · replace hm := if_t hm hb
          refine reg [] [] [4] [pl 4 (.int .i64 z1)] hF hS Fol (by kernel_rfl) (by kernel_rfl) (by kernel_rfl) ?_ (fun a w hF hS => ?_)
          · exact obs_nil
          refine wp_ret ?_
          refine block_r (then_r (then_r (block_r (then_r ?_))))
          rw [← hφ1] at hm
          replace hm := done_b hm
          unfold slices_Index_K1 at hm
          try dsimp only at hm
          have hm : some z1 = some r := hm
          obtain rfl := Option.some.inj hm
          exact retV (rs := [.tmp 4]) (vs := [.int .i64 z1]) hF rfl (rv_t (by kernel_rfl) <| rv_nil) rfl ⟨rfl, hS⟩
        · replace hm := if_f hm hb
          refine wp_skip ?_
          refine block_n ?_
          refine then_n ?_
          exact ⟨hF.weak [0, 1, 7, 8] (by kernel_rfl), hS, hm⟩
    · refine cond_ev (t := 9) (b := decide (z1 < (s1.length : Int))) hF (by kernel_rfl) (fun hb => ?_) (fun hb => ?_)
      · replace hm := if_t hm hb
        refine wp_skip ?_
        refine then_n ?_
        exact ⟨hF.weak [0, 1, 7, 8] (by kernel_rfl), hS, hm⟩
      · replace hm := if_f hm hb
        refine wp_exit ?_
        refine then_e (then_e (block_e (then_n ?_)))
        rw [← hφ1] at hm
        replace hm := done_b hm
        unfold slices_Index_K1 at hm
        try dsimp only at hm
        have hm : (slices_Index_J1).bind some = some r := hm
        exact ⟨hF.weak [] (by kernel_rfl), hS, hm⟩

noncomputable def slices_Clone_J1 (s1 : List Int) : Option (List Int) :=
  asrt ((0 : Int) + (s1.length : Int) ≤ bigN) <| some (([] : List Int) ++ s1)

noncomputable def slices_Clone_m (s1 : List Int) : Option (List Int) :=
  (slices_Clone_J1 s1)

set_option maxRecDepth 100000 in
set_option maxHeartbeats 4000000 in
theorem slices_Clone_w {A1 : Option Addr} {c1 : Nat} {n1 : Nat} {s1 : List Int} {r : (List Int)} {w0 w : World} {B : Nat} {fs : List HP} (hm : slices_Clone_m s1 = some r) (hS : Sep w0 B w (fs)) (hr_s1 : RdF w0 B fs A1 (vI s1)) (_hc_s1 : s1.length ≤ c1) (_hn_s1 : n1 = s1.length) :
    Calls Try.prog 88 #[.slice A1 n1 c1] w fun e w' => ∃ v, e = .returned v ∧ ∃ (A3 : Option Addr) (c3 : Nat), v = .slice A3 r.length c3 ∧ Sep w0 B w' (own 3 (.slice A3 r.length c3) (vI r) :: fs) := by
  obtain ⟨i3, hi3, hz3, hs3, hb3⟩ := info_parts Info3
  obtain rfl := _hn_s1
  unfold slices_Clone_m at hm
  replace hm := start_b hm
  refine enter (l := [.slice A1 s1.length c1]) (n := 8) Try.func88 rfl rfl (by simp) (fun a hF => ?_)
  refine reg [] [] [0] [pl 0 (.slice A1 s1.length c1)] hF hS Fol (by kernel_rfl) (by kernel_rfl) (by kernel_rfl) ?_ (fun a w hF hS => ?_)
  · exact obs_nil
  refine seq_cut (fun a w => Fr 8 [pl 0 (.slice A1 s1.length c1)] a ∧ Sep w0 B w (fs) ∧ ((slices_Clone_J1 s1)).bind some = some r) ?_ ?_
  · rintro a w ⟨hF, hS, hm⟩
    unfold slices_Clone_J1 at hm
    refine seqR ?_
    obtain ⟨hp1, hm⟩ := asrt_b hm
    refine at_do (d := 5) (s := vS (Instr.buildSlice 40 0 #[])) (v := .slice (some ⟨w.heap.size, 0, none⟩) 0 0) (w' := w.alloc (.cells #[] 3)) hF (by kernel_rfl) (by kernel_rfl) (by kernel_rfl) (fun a hF => ?_)
    have hS : Sep w0 B (w.alloc (.cells #[] 3)) (own 3 (.slice (some (⟨w.heap.size, 0, none⟩ : Addr)) 0 0) (vI ([] : List Int)) :: (fs)) := hS.lit 3 #[] 0 rfl (by omega)
    generalize (some (⟨w.heap.size, 0, none⟩ : Addr)) = g1 at hF hS
    generalize w.alloc (.cells #[] 3) = w at hS ⊢
    refine at_run 1 [] [] [5, 6] [pl 5 (.slice g1 0 0), pl 6 (.slice A1 s1.length c1)] hF hS (by kernel_rfl) (by kernel_rfl) ?_ (fun a w hF hS => ?_)
    · exact obs_nil
    obtain ⟨A2, c2, w, hrun, hS⟩ := run_app1 (P := Try.prog) (t := 40) (m := ([] : List Int)) (ys := s1) (A2 := A1) (m2 := s1.length) (c2 := c1) (Value.int .i64) (0 : Int) (hS.at_ 0 rfl) (hr_s1 _ (hS.dropN 1)) rfl 40 Und40 hi3 hz3 hs3 (by omega) rfl (fun _ => rfl) hp1
    have hS : Sep w0 B w (own 3 (.slice A2 ((([] : List Int) ++ s1).length) c2) (vI (([] : List Int) ++ s1)) :: fs) := hS
    refine at_do (d := 7) hF (by kernel_rfl) (by kernel_rfl) hrun (fun a hF => ?_)
    refine at_run 1 [] [] [2] [pl 2 (.slice A2 ((([] : List Int) ++ s1).length) c2)] hF hS (by kernel_rfl) (by kernel_rfl) ?_ (fun a w hF hS => ?_)
    · exact obs_nil
    refine at_end [2] [pl 2 (.slice A2 ((([] : List Int) ++ s1).length) c2)] hF rfl (by kernel_rfl) (fun hF => ?_)
    refine then_n ?_
    refine wp_ret ?_
    have hm : some (([] : List Int) ++ s1) = some r := hm
    obtain rfl := Option.some.inj hm
    exact retV (rs := [.tmp 2]) (vs := [.slice A2 ((([] : List Int) ++ s1).length) c2]) hF rfl (rv_t (by kernel_rfl) <| rv_nil) rfl ⟨_, rfl, A2, c2, rfl, hS⟩
  · refine reg [⟨true, [], vS (binOp .eql 40 (.slice A1 s1.length c1) (.slice none 0 0)), .bool A1.isNone⟩] [none, some (.bool A1.isNone)] [0, 4] [pl 0 (.slice A1 s1.length c1), pl 4 (.bool A1.isNone)] hF hS Fol (by kernel_rfl) (by kernel_rfl) (by kernel_rfl) ?_ (fun a w hF hS => ?_)
    · exact obs_cons (ob_isnil Und40 rfl) <| obs_nil
    refine cond_ev (t := 4) (b := A1.isNone) hF (by kernel_rfl) (fun hb => ?_) (fun hb => ?_)
    · have hA9 := Option.isNone_iff_eq_none.1 hb
      have hnil9 : s1 = [] := by have h9 := (hr_s1 _ (hS.dropN 0)); rw [hA9] at h9; exact h9.none_nil
      have hm : (some ([] : List Int)).bind some = some r := by rw [hnil9] at hm; simpa [asrt, bigN, slices_Clone_J1] using hm
      refine reg [] [] [2] [pl 2 (.slice none 0 0)] hF hS Fol (by kernel_rfl) (by kernel_rfl) (by kernel_rfl) ?_ (fun a w hF hS => ?_)
      · exact obs_nil
      refine wp_ret ?_
      refine then_r ?_
      have hS : Sep w0 B w (own 3 (.slice none 0 0) (vI ([] : List Int)) :: fs) := hS.nil 3
      have hl1 := (hS.at_ 0 rfl).len1
      have hS := (hS.at_ 0 rfl).reN hl1
      have hS : Sep w0 B w (own 3 (.slice none (([] : List Int).length) 0) (vI ([] : List Int)) :: fs) := hS
      have hm : some ([] : List Int) = some r := hm
      obtain rfl := Option.some.inj hm
      exact retV (rs := [.tmp 2]) (vs := [.slice none (([] : List Int).length) 0]) hF rfl (rv_t (by kernel_rfl) <| rv_nil) rfl ⟨_, rfl, none, 0, rfl, hS⟩
    · refine wp_skip ?_
      refine then_n ?_
      exact ⟨hF.weak [0] (by kernel_rfl), hS, hm⟩

noncomputable def hanoi_Do_J3 (s1 : List Int) (m2 : Int) (r4 : Int) : Option (List Int × Int) :=
  (slices_Clone_m s1).bind fun r6 => asrt (0 ≤ r4 ∧ r4 < (r6.length : Int)) <| some ((r6.set (Int.toNat r4) m2), 0)

noncomputable def hanoi_Do_J2 (s1 : List Int) (m1 : Int) (m2 : Int) : Option (List Int × Int) :=
  (slices_Index_m s1 m1).bind fun r4 => (slices_Index_m s1 m2).bind fun r5 => if (decide (r4 < 0)) then (some (([] : List Int), 10)) else (if ((decide ((0 : Int) ≤ r5)) && (decide (r5 < r4))) then (some (([] : List Int), 8)) else ((hanoi_Do_J3 s1 m2 r4)))

noncomputable def hanoi_Do_J1 (s1 : List Int) (m1 : Int) (m2 : Int) : Option (List Int × Int) :=
  (hanoi_off_m m1).bind fun r2 => ((if (!r2) then hanoi_off_m m2 else some false)).bind fun r3 => if ((r2 || r3) || (m1 == m2)) then (some (([] : List Int), 5)) else ((hanoi_Do_J2 s1 m1 m2))

noncomputable def hanoi_Do_m (s1 : List Int) (m1 : Int) (m2 : Int) (m3 : Int) : Option (List Int × Int) :=
  (hanoi_check_m s1).bind fun r1 => if (r1 != 0) then (some (([] : List Int), r1)) else ((hanoi_Do_J1 s1 m1 m2))

set_option maxRecDepth 100000 in
set_option maxHeartbeats 4000000 in
theorem hanoi_Do_w {A1 : Option Addr} {c1 : Nat} {n1 : Nat} {s1 : List Int} {m1 : Int} {m2 : Int} {m3 : Int} {r : (List Int × Int)} {w0 w : World} {B : Nat} {fs : List HP} (hm : hanoi_Do_m s1 m1 m2 m3 = some r) (hS : Sep w0 B w (fs)) (hr_s1 : RdF w0 B fs A1 (vI s1)) (_hc_s1 : s1.length ≤ c1) (_hn_s1 : n1 = s1.length) :
    Calls Try.prog 51 #[.slice A1 n1 c1, .agg #[.int .i64 m1, .int .i64 m2, .int .i64 m3]] w fun e w' => ∃ v, e = .returned v ∧ ∃ (A3 : Option Addr) (c3 : Nat), v = .tuple #[.slice A3 r.1.length c3, .int .i64 r.2] ∧ Sep w0 B w' (own 3 (.slice A3 r.1.length c3) (vI r.1) :: fs) := by
  obtain ⟨i3, hi3, hz3, hs3, hb3⟩ := info_parts Info3
  obtain rfl := _hn_s1
  unfold hanoi_Do_m at hm
  replace hm := start_b hm
  refine enter (l := [.slice A1 s1.length c1, .agg #[.int .i64 m1, .int .i64 m2, .int .i64 m3]]) (n := 56) Try.func51 rfl rfl (by simp) (fun a hF => ?_)
  refine seqR ?_
  refine at_do (d := 3) (s := vS (Instr.box 52 (.agg #[.int .i64 m1, .int .i64 m2, .int .i64 m3]))) (v := .pointer (some ⟨w.heap.size, 0, none⟩)) (w' := w.alloc (.cells #[.int .i64 m1, .int .i64 m2, .int .i64 m3] 52)) hF (by kernel_rfl) (by kernel_rfl) (by kernel_rfl) (fun a hF => ?_)
  have hS : Sep w0 B (w.alloc (.cells #[.int .i64 m1, .int .i64 m2, .int .i64 m3] 52)) (blk w.heap.size 52 #[.int .i64 m1, .int .i64 m2, .int .i64 m3] :: (fs)) := hS.box 52 #[.int .i64 m1, .int .i64 m2, .int .i64 m3]
  generalize w.heap.size = g1 at hF hS
  generalize w.alloc (.cells #[.int .i64 m1, .int .i64 m2, .int .i64 m3] 52) = w at hS ⊢
  refine at_run 2 [] [] [0, 3] [pl 0 (.slice A1 s1.length c1), pl 3 (.pointer (some ⟨g1, 0, none⟩))] hF hS (by kernel_rfl) (by kernel_rfl) ?_ (fun a w hF hS => ?_)
  · exact obs_nil
  refine at_end [0, 3] [pl 0 (.slice A1 s1.length c1), pl 3 (.pointer (some ⟨g1, 0, none⟩))] hF rfl (by kernel_rfl) (fun hF => ?_)
  refine then_n ?_
  refine seq_cut (fun a w => Fr 56 [pl 0 (.slice A1 s1.length c1), pl 3 (.pointer (some ⟨g1, 0, none⟩))] a ∧ Sep w0 B w (blk g1 52 #[.int .i64 m1, .int .i64 m2, .int .i64 m3] :: fs) ∧ ((hanoi_Do_J1 s1 m1 m2)).bind some = some r) ?_ ?_
  · rintro a w ⟨hF, hS, hm⟩
    unfold hanoi_Do_J1 at hm
    refine seq_cut (fun a w => Fr 56 [pl 0 (.slice A1 s1.length c1), pl 3 (.pointer (some ⟨g1, 0, none⟩))] a ∧ Sep w0 B w (blk g1 52 #[.int .i64 m1, .int .i64 m2, .int .i64 m3] :: fs) ∧ ((hanoi_Do_J2 s1 m1 m2)).bind some = some r) ?_ ?_
    · rintro a w ⟨hF, hS, hm⟩
      unfold hanoi_Do_J2 at hm
      obtain ⟨r4, hr4, hm⟩ := call_b hm
      obtain ⟨r5, hr5, hm⟩ := call_b hm
      refine reg [⟨false, [], vS (Instr.loadAt 3 (.pointer (some ⟨g1, 0, none⟩))), .int .i64 m1⟩, ⟨false, [], callFunc 105 #[.slice A1 s1.length c1, .int .i64 m1], .int .i64 r4⟩, ⟨false, [], vS (Instr.loadAt 3 (.pointer (some ⟨g1, 1, none⟩))), .int .i64 m2⟩, ⟨false, [], callFunc 105 #[.slice A1 s1.length c1, .int .i64 m2], .int .i64 r5⟩] [none, none, some (.int .i64 m1), some (.int .i64 r4), none, none, some (.int .i64 m2), some (.int .i64 r5), none, none] [0, 3, 7, 8] [pl 0 (.slice A1 s1.length c1), pl 3 (.pointer (some ⟨g1, 0, none⟩)), pl 7 (.int .i64 r4), pl 8 (.int .i64 r5)] hF hS Fol (by kernel_rfl) (by kernel_rfl) (by kernel_rfl) ?_ (fun a w hF hS => ?_)
      · exact obs_cons (ob_load Agg3 (fun _ _ hS => (hS.at_ 0 rfl).cell rfl)) <| obs_cons (ob_call Try.func105 (by kernel_rfl) rfl (fun _ _ hS => slices_Index_w hr4 hS (fun _ hS => (hr_s1 _ (hS.dropN 1))) _hc_s1 rfl)) <| obs_cons (ob_load Agg3 (fun _ _ hS => (hS.at_ 0 rfl).cell rfl)) <| obs_cons (ob_call Try.func105 (by kernel_rfl) rfl (fun _ _ hS => slices_Index_w hr5 hS (fun _ hS => (hr_s1 _ (hS.dropN 1))) _hc_s1 rfl)) <| obs_nil
      refine seq_cut (fun a w => Fr 56 [pl 0 (.slice A1 s1.length c1), pl 3 (.pointer (some ⟨g1, 0, none⟩)), pl 7 (.int .i64 r4)] a ∧ Sep w0 B w (blk g1 52 #[.int .i64 m1, .int .i64 m2, .int .i64 m3] :: fs) ∧ ((hanoi_Do_J3 s1 m2 r4)).bind some = some r) ?_ ?_
      · rintro a w ⟨hF, hS, hm⟩
        unfold hanoi_Do_J3 at hm
        refine seqR ?_
        obtain ⟨r6, hr6, hm⟩ := call_b hm
        refine at_run 1 [] [] [3, 7, 48] [pl 3 (.pointer (some ⟨g1, 0, none⟩)), pl 7 (.int .i64 r4), pl 48 (.slice A1 s1.length c1)] hF hS (by kernel_rfl) (by kernel_rfl) ?_ (fun a w hF hS => ?_)
        · exact obs_nil
        refine at_call (f := 88) (args := #[.slice A1 s1.length c1]) (d := 49) hF (by kernel_rfl) (by kernel_rfl) Try.func88 (by kernel_rfl) rfl (slices_Clone_w hr6 hS (fun _ hS => (hr_s1 _ (hS.dropN 1))) _hc_s1 rfl) (fun v a w hR hF => ?_)
        clear hS
        obtain ⟨A2, c2, rfl, hS⟩ := hR
        have hS : Sep w0 B w (own 3 (.slice A2 r6.length c2) (vI r6) :: blk g1 52 #[.int .i64 m1, .int .i64 m2, .int .i64 m3] :: fs) := hS
        refine at_run 1 [] [] [0, 3, 7] [pl 0 (.slice A2 r6.length c2), pl 3 (.pointer (some ⟨g1, 0, none⟩)), pl 7 (.int .i64 r4)] hF hS (by kernel_rfl) (by kernel_rfl) ?_ (fun a w hF hS => ?_)
        · exact obs_nil
        refine at_end [0, 3, 7] [pl 0 (.slice A2 r6.length c2), pl 3 (.pointer (some ⟨g1, 0, none⟩)), pl 7 (.int .i64 r4)] hF rfl (by kernel_rfl) (fun hF => ?_)
        refine then_n ?_
        refine seqR ?_
        obtain ⟨hp1, hm⟩ := asrt_b hm
        refine at_run 5 [⟨false, [], vS (Instr.loadAt 3 (.pointer (some ⟨g1, 1, none⟩))), .int .i64 m2⟩, ⟨true, [], vS (Instr.indexAt 40 (.slice A2 r6.length c2) (.int .i64 r4)), .pointer (some (sAddr A2 r4))⟩] [none, none, none, some (.int .i64 m2), some (.pointer (some (sAddr A2 r4)))] [0, 53, 54] [pl 0 (.slice A2 r6.length c2), pl 53 (.int .i64 m2), pl 54 (.pointer (some (sAddr A2 r4)))] hF hS (by kernel_rfl) (by kernel_rfl) ?_ (fun a w hF hS => ?_)
        · exact obs_cons (ob_load Agg3 (fun _ _ hS => (hS.at_ 1 rfl).cell rfl)) <| obs_cons (ob_ix1 (f := (Value.int .i64)) (m := r6) Und40 hi3 hs3 (hS.at_ 0 rfl).rd rfl (fun _ => hp1)) <| obs_nil
        obtain ⟨w, hrun, hS⟩ := run_set1 (P := Try.prog) (t := 3) (x := m2) (Value.int .i64) (hS.at_ 0 rfl) hi3 hs3 rfl rfl hp1
        refine at_skip hF (by kernel_rfl) hrun ?_
        have hS : Sep w0 B w (own 3 (.slice A2 r6.length c2) (vI (r6.set (Int.toNat r4) m2)) :: blk g1 52 #[.int .i64 m1, .int .i64 m2, .int .i64 m3] :: fs) := hS
        refine at_end [0] [pl 0 (.slice A2 r6.length c2)] hF rfl (by kernel_rfl) (fun hF => ?_)
        refine then_n ?_
        refine reg [] [] [4, 5] [pl 4 (.slice A2 r6.length c2), pl 5 (.int .i64 0)] hF hS Fol (by kernel_rfl) (by kernel_rfl) (by kernel_rfl) ?_ (fun a w hF hS => ?_)
        · exact obs_nil
        refine wp_ret ?_
        have hl5 := (hS.at_ 0 rfl).len1
        have hS := (hS.at_ 0 rfl).reN hl5
        have hS : Sep w0 B w (own 3 (.slice A2 ((r6.set (Int.toNat r4) m2).length) c2) (vI (r6.set (Int.toNat r4) m2)) :: blk g1 52 #[.int .i64 m1, .int .i64 m2, .int .i64 m3] :: fs) := hS
        have hF := hF.cast (t := 4) (v := .slice A2 r6.length c2) (v' := .slice A2 ((r6.set (Int.toNat r4) m2).length) c2) rfl rfl (congrArg (fun k => Value.slice A2 k c2) hl5)
        have hS := hS.pickN 2 [0] (by decide)
        have hm : some ((r6.set (Int.toNat r4) m2), 0) = some r := hm
        obtain rfl := Option.some.inj hm
        exact retV (rs := [.tmp 4, .tmp 5]) (vs := [.slice A2 ((r6.set (Int.toNat r4) m2).length) c2, .int .i64 0]) hF rfl (rv_t (by kernel_rfl) <| rv_t (by kernel_rfl) <| rv_nil) rfl ⟨_, rfl, A2, c2, rfl, hS⟩
      · refine wp_block ?_
        refine reg [] [] [0, 3, 7, 8, 37] [pl 0 (.slice A1 s1.length c1), pl 3 (.pointer (some ⟨g1, 0, none⟩)), pl 7 (.int .i64 r4), pl 8 (.int .i64 r5), pl 37 (.bool (decide (r4 < 0)))] hF hS Fol (by kernel_rfl) (by kernel_rfl) (by kernel_rfl) ?_ (fun a w hF hS => ?_)
        · exact obs_nil
        refine cond_ev (t := 37) (b := decide (r4 < 0)) hF (by kernel_rfl) (fun hb => ?_) (fun hb => ?_)
        · replace hm := if_t hm hb
          refine reg [] [] [4, 5] [pl 4 (.slice none 0 0), pl 5 (.int .i64 10)] hF hS Fol (by kernel_rfl) (by kernel_rfl) (by kernel_rfl) ?_ (fun a w hF hS => ?_)
          · exact obs_nil
          refine wp_ret ?_
          refine block_r (then_r ?_)
          have hS : Sep w0 B w (own 3 (.slice none 0 0) (vI ([] : List Int)) :: blk g1 52 #[.int .i64 m1, .int .i64 m2, .int .i64 m3] :: fs) := hS.nil 3
          have hl3 := (hS.at_ 0 rfl).len1
          have hS := (hS.at_ 0 rfl).reN hl3
          have hS : Sep w0 B w (own 3 (.slice none (([] : List Int).length) 0) (vI ([] : List Int)) :: blk g1 52 #[.int .i64 m1, .int .i64 m2, .int .i64 m3] :: fs) := hS
          have hS := hS.pickN 2 [0] (by decide)
          have hm : some (([] : List Int), 10) = some r := hm
          obtain rfl := Option.some.inj hm
          exact retV (rs := [.tmp 4, .tmp 5]) (vs := [.slice none (([] : List Int).length) 0, .int .i64 10]) hF rfl (rv_t (by kernel_rfl) <| rv_t (by kernel_rfl) <| rv_nil) rfl ⟨_, rfl, none, 0, rfl, hS⟩
        · replace hm := if_f hm hb
          refine reg [] [] [0, 3, 7, 40] [pl 0 (.slice A1 s1.length c1), pl 3 (.pointer (some ⟨g1, 0, none⟩)), pl 7 (.int .i64 r4), pl 40 (.bool ((decide ((0 : Int) ≤ r5)) && (decide (r5 < r4))))] hF hS Fol (by kernel_rfl) (by kernel_rfl) (by kernel_rfl) ?_ (fun a w hF hS => ?_)
          · exact obs_nil
          refine cond_ev (t := 40) (b := (decide ((0 : Int) ≤ r5)) && (decide (r5 < r4))) hF (by kernel_rfl) (fun hb => ?_) (fun hb => ?_)
          · replace hm := if_t hm hb
            refine reg [] [] [4, 5] [pl 4 (.slice none 0 0), pl 5 (.int .i64 8)] hF hS Fol (by kernel_rfl) (by kernel_rfl) (by kernel_rfl) ?_ (fun a w hF hS => ?_)
            · exact obs_nil
            refine wp_ret ?_
            refine block_r (then_r ?_)
            have hS : Sep w0 B w (own 3 (.slice none 0 0) (vI ([] : List Int)) :: blk g1 52 #[.int .i64 m1, .int .i64 m2, .int .i64 m3] :: fs) := hS.nil 3
            have hl4 := (hS.at_ 0 rfl).len1
            have hS := (hS.at_ 0 rfl).reN hl4
            have hS : Sep w0 B w (own 3 (.slice none (([] : List Int).length) 0) (vI ([] : List Int)) :: blk g1 52 #[.int .i64 m1, .int .i64 m2, .int .i64 m3] :: fs) := hS
            have hS := hS.pickN 2 [0] (by decide)
            have hm : some (([] : List Int), 8) = some r := hm
            obtain rfl := Option.some.inj hm
            exact retV (rs := [.tmp 4, .tmp 5]) (vs := [.slice none (([] : List Int).length) 0, .int .i64 8]) hF rfl (rv_t (by kernel_rfl) <| rv_t (by kernel_rfl) <| rv_nil) rfl ⟨_, rfl, none, 0, rfl, hS⟩
          · replace hm := if_f hm hb
            refine wp_skip ?_
            refine block_n ?_
            refine then_n ?_
            exact ⟨hF.weak [0, 3, 7] (by kernel_rfl), hS, hm⟩
    · obtain ⟨r2, hr2, hm⟩ := call_b hm
      obtain ⟨r3, hr3, hm⟩ := call_b hm
      refine reg [⟨false, [], vS (Instr.loadAt 3 (.pointer (some ⟨g1, 0, none⟩))), .int .i64 m1⟩, ⟨false, [], callFunc 87 #[.int .i64 m1], .bool r2⟩, ⟨false, [(r2, false)], vS (Instr.loadAt 3 (.pointer (some ⟨g1, 1, none⟩))), .int .i64 m2⟩, ⟨false, [(r2, false)], callFunc 87 #[.int .i64 m2], .bool r3⟩, ⟨false, [(r2 || r3, false)], vS (Instr.loadAt 3 (.pointer (some ⟨g1, 0, none⟩))), .int .i64 m1⟩, ⟨false, [(r2 || r3, false)], vS (Instr.loadAt 3 (.pointer (some ⟨g1, 1, none⟩))), .int .i64 m2⟩] [none, some (.int .i64 m1), some (.bool r2), none, none, some (.int .i64 m2), some (.bool r3), none, none, none, some (.int .i64 m1), none, some (.int .i64 m2), none, none] [0, 3, 28] [pl 0 (.slice A1 s1.length c1), pl 3 (.pointer (some ⟨g1, 0, none⟩)), pl 28 (.bool ((r2 || r3) || (m1 == m2)))] hF hS Fol (by kernel_rfl) (by kernel_rfl) (by kernel_rfl) ?_ (fun a w hF hS => ?_)
      · exact obs_cons (ob_load Agg3 (fun _ _ hS => (hS.at_ 0 rfl).cell rfl)) <| obs_cons (ob_call Try.func87 (by kernel_rfl) rfl (fun _ _ hS => hanoi_off_w hr2 hS )) <| obs_cons (ob_load Agg3 (fun _ _ hS => (hS.at_ 0 rfl).cell rfl)) <| obs_cons (ob_call Try.func87 (by kernel_rfl) rfl (fun hy _ hS => hanoi_off_w (ite_some hr3 (by rw [show r2 = false from hy (r2, false) (by simp)]; try rfl)) hS )) <| obs_cons (ob_load Agg3 (fun _ _ hS => (hS.at_ 0 rfl).cell rfl)) <| obs_cons (ob_load Agg3 (fun _ _ hS => (hS.at_ 0 rfl).cell rfl)) <| obs_nil
      refine cond_ev (t := 28) (b := (r2 || r3) || (m1 == m2)) hF (by kernel_rfl) (fun hb => ?_) (fun hb => ?_)
      · replace hm := if_t hm hb
        refine reg [] [] [4, 5] [pl 4 (.slice none 0 0), pl 5 (.int .i64 5)] hF hS Fol (by kernel_rfl) (by kernel_rfl) (by kernel_rfl) ?_ (fun a w hF hS => ?_)
        · exact obs_nil
        refine wp_ret ?_
        refine then_r ?_
        have hS : Sep w0 B w (own 3 (.slice none 0 0) (vI ([] : List Int)) :: blk g1 52 #[.int .i64 m1, .int .i64 m2, .int .i64 m3] :: fs) := hS.nil 3
        have hl2 := (hS.at_ 0 rfl).len1
        have hS := (hS.at_ 0 rfl).reN hl2
        have hS : Sep w0 B w (own 3 (.slice none (([] : List Int).length) 0) (vI ([] : List Int)) :: blk g1 52 #[.int .i64 m1, .int .i64 m2, .int .i64 m3] :: fs) := hS
        have hS := hS.pickN 2 [0] (by decide)
        have hm : some (([] : List Int), 5) = some r := hm
        obtain rfl := Option.some.inj hm
        exact retV (rs := [.tmp 4, .tmp 5]) (vs := [.slice none (([] : List Int).length) 0, .int .i64 5]) hF rfl (rv_t (by kernel_rfl) <| rv_t (by kernel_rfl) <| rv_nil) rfl ⟨_, rfl, none, 0, rfl, hS⟩
      · replace hm := if_f hm hb
        refine wp_skip ?_
        refine then_n ?_
        exact ⟨hF.weak [0, 3] (by kernel_rfl), hS, hm⟩
  · obtain ⟨r1, hr1, hm⟩ := call_b hm
    refine reg [⟨false, [], callFunc 85 #[.slice A1 s1.length c1], .int .i64 r1⟩] [none, some (.int .i64 r1), none] [0, 3, 6] [pl 0 (.slice A1 s1.length c1), pl 3 (.pointer (some ⟨g1, 0, none⟩)), pl 6 (.int .i64 r1)] hF hS Fol (by kernel_rfl) (by kernel_rfl) (by kernel_rfl) ?_ (fun a w hF hS => ?_)
    · exact obs_cons (ob_call Try.func85 (by kernel_rfl) rfl (fun _ _ hS => hanoi_check_w hr1 hS (fun _ hS => (hr_s1 _ (hS.dropN 1))) _hc_s1 rfl)) <| obs_nil
    refine reg [] [] [0, 3, 6, 12] [pl 0 (.slice A1 s1.length c1), pl 3 (.pointer (some ⟨g1, 0, none⟩)), pl 6 (.int .i64 r1), pl 12 (.bool (r1 != 0))] hF hS Fol (by kernel_rfl) (by kernel_rfl) (by kernel_rfl) ?_ (fun a w hF hS => ?_)
    · exact obs_nil
    refine cond_ev (t := 12) (b := (r1 != 0)) hF (by kernel_rfl) (fun hb => ?_) (fun hb => ?_)
    · replace hm := if_t hm hb
      refine reg [] [] [4, 5] [pl 4 (.slice none 0 0), pl 5 (.int .i64 r1)] hF hS Fol (by kernel_rfl) (by kernel_rfl) (by kernel_rfl) ?_ (fun a w hF hS => ?_)
      · exact obs_nil
      refine wp_ret ?_
      refine then_r ?_
      have hS : Sep w0 B w (own 3 (.slice none 0 0) (vI ([] : List Int)) :: blk g1 52 #[.int .i64 m1, .int .i64 m2, .int .i64 m3] :: fs) := hS.nil 3
      have hl1 := (hS.at_ 0 rfl).len1
      have hS := (hS.at_ 0 rfl).reN hl1
      have hS : Sep w0 B w (own 3 (.slice none (([] : List Int).length) 0) (vI ([] : List Int)) :: blk g1 52 #[.int .i64 m1, .int .i64 m2, .int .i64 m3] :: fs) := hS
      have hS := hS.pickN 2 [0] (by decide)
      have hm : some (([] : List Int), r1) = some r := hm
      obtain rfl := Option.some.inj hm
      exact retV (rs := [.tmp 4, .tmp 5]) (vs := [.slice none (([] : List Int).length) 0, .int .i64 r1]) hF rfl (rv_t (by kernel_rfl) <| rv_t (by kernel_rfl) <| rv_nil) rfl ⟨_, rfl, none, 0, rfl, hS⟩
    · replace hm := if_f hm hb
      refine wp_skip ?_
      refine then_n ?_
      exact ⟨hF.weak [0, 3] (by kernel_rfl), hS, hm⟩

noncomputable def hanoi_Nth_J4 (i1 : Int) (from3 : Int) (to3 : Int) (s3 : List Int) : Option (St (Int × Int × List Int × Int) (List Int)) :=
  some (.next (from3, to3, s3, (w64 (i1 - 1))))

noncomputable def hanoi_Nth_J3 (n1 : Int) (k1 : Int) (from2 : Int) (to2 : Int) (s1 : List Int) (i1 : Int) : Option (St (Int × Int × List Int × Int) (List Int)) :=
  asrt ((0 : Int) ≤ i1) <| if ((bAnd (shrK .i64 k1 i1) 1) == 0) then (asrt (0 ≤ i1 ∧ i1 < (((Int.toNat n1) : Nat) : Int)) <| (hanoi_Nth_J4 i1) from2 (w64 ((w64 (3 - from2)) - to2)) (s1.set (Int.toNat i1) from2)) else (asrt (0 ≤ i1 ∧ i1 < (((Int.toNat n1) : Nat) : Int)) <| (hanoi_Nth_J4 i1) (w64 ((w64 (3 - from2)) - to2)) to2 (s1.set (Int.toNat i1) to2))

noncomputable def hanoi_Nth_J2 (s2 : List Int) : Option (List Int × Int) :=
  some (s2, 0)

noncomputable def hanoi_Nth_K1 : (List Int) → Option (List Int × Int) :=
  fun (x : (List Int)) => match x with | s2 => hanoi_Nth_J2 s2

noncomputable def hanoi_Nth_L1 (n1 : Int) (k1 : Int) : (Int × Int × List Int × Int) → Option (St (Int × Int × List Int × Int) (List Int)) :=
  fun (x : (Int × Int × List Int × Int)) => match x with | (from2, to2, s1, i1) => if (decide ((0 : Int) ≤ i1)) then ((hanoi_Nth_J3 n1 k1 from2 to2 s1 i1)) else (some (.done s1))

noncomputable def hanoi_Nth_J1 (n1 : Int) (from1 : Int) (to1 : Int) (k1 : Int) : Option (List Int × Int) :=
  asrt ((0 : Int) ≤ n1 ∧ n1 ≤ bigN) <| (loop (hanoi_Nth_L1 n1 k1) (from1, to1, (List.replicate (Int.toNat n1) (0 : Int)), (w64 (n1 - 1)))).bind hanoi_Nth_K1

noncomputable def hanoi_Nth_m (n1 : Int) (from1 : Int) (to1 : Int) (k1 : Int) : Option (List Int × Int) :=
  if ((decide (n1 < 0)) || (decide ((40 : Int) < n1))) then (some (([] : List Int), 2)) else ((hanoi_off_m from1).bind fun r1 => ((if (!r1) then hanoi_off_m to1 else some false)).bind fun r2 => if ((r1 || r2) || (from1 == to1)) then (some (([] : List Int), 5)) else (asrt ((decide (k1 < 0)) = false → (0 : Int) ≤ n1) <| if ((decide (k1 < 0)) || (decide ((shlK .i64 1 n1) ≤ k1))) then (some (([] : List Int), 3)) else ((hanoi_Nth_J1 n1 from1 to1 k1))))

set_option maxRecDepth 100000 in
set_option maxHeartbeats 4000000 in
theorem hanoi_Nth_w {n1 : Int} {from1 : Int} {to1 : Int} {k1 : Int} {r : (List Int × Int)} {w0 w : World} {B : Nat} {fs : List HP} (hm : hanoi_Nth_m n1 from1 to1 k1 = some r) (hS : Sep w0 B w (fs)) :
    Calls Try.prog 52 #[.int .i64 n1, .int .i64 from1, .int .i64 to1, .int .i64 k1] w fun e w' => ∃ v, e = .returned v ∧ ∃ (A2 : Option Addr) (c2 : Nat), v = .tuple #[.slice A2 r.1.length c2, .int .i64 r.2] ∧ Sep w0 B w' (own 3 (.slice A2 r.1.length c2) (vI r.1) :: fs) := by
  obtain ⟨i3, hi3, hz3, hs3, hb3⟩ := info_parts Info3
  unfold hanoi_Nth_m at hm
  replace hm := start_b hm
  refine enter (l := [.int .i64 n1, .int .i64 from1, .int .i64 to1, .int .i64 k1]) (n := 69) Try.func52 rfl rfl (by simp) (fun a hF => ?_)
  refine reg [] [] [0, 1, 2, 3] [pl 0 (.int .i64 n1), pl 1 (.int .i64 from1), pl 2 (.int .i64 to1), pl 3 (.int .i64 k1)] hF hS Fol (by kernel_rfl) (by kernel_rfl) (by kernel_rfl) ?_ (fun a w hF hS => ?_)
  · exact obs_nil
  refine seq_cut (fun a w => Fr 69 [pl 0 (.int .i64 n1), pl 1 (.int .i64 from1), pl 2 (.int .i64 to1), pl 3 (.int .i64 k1)] a ∧ Sep w0 B w (fs) ∧ ((hanoi_Nth_J1 n1 from1 to1 k1)).bind some = some r) ?_ ?_
  · rintro a w ⟨hF, hS, hm⟩
    unfold hanoi_Nth_J1 at hm
    refine seqR ?_
    obtain ⟨hp2, hm⟩ := asrt_b hm
    refine at_run 1 [] [] [0, 1, 2, 3, 41] [pl 0 (.int .i64 n1), pl 1 (.int .i64 from1), pl 2 (.int .i64 to1), pl 3 (.int .i64 k1), pl 41 (.int .i64 n1)] hF hS (by kernel_rfl) (by kernel_rfl) ?_ (fun a w hF hS => ?_)
    · exact obs_nil
    obtain ⟨A1, c1, w, hrun, hS⟩ := run_mk1 (P := Try.prog) (t := 40) (Value.int .i64) (0 : Int) hS .i64 .i64 Und40 hi3 hz3 hs3 (by omega) rfl hp2
    have hS : Sep w0 B w (own 3 (.slice A1 (Int.toNat n1) c1) (vI (List.replicate (Int.toNat n1) (0 : Int))) :: fs) := hS
    refine at_do (d := 42) hF (by kernel_rfl) (by kernel_rfl) hrun (fun a hF => ?_)
    refine at_run 1 [] [] [0, 1, 2, 3, 10] [pl 0 (.int .i64 n1), pl 1 (.int .i64 from1), pl 2 (.int .i64 to1), pl 3 (.int .i64 k1), pl 10 (.slice A1 (Int.toNat n1) c1)] hF hS (by kernel_rfl) (by kernel_rfl) ?_ (fun a w hF hS => ?_)
    · exact obs_nil
    refine at_end [0, 1, 2, 3, 10] [pl 0 (.int .i64 n1), pl 1 (.int .i64 from1), pl 2 (.int .i64 to1), pl 3 (.int .i64 k1), pl 10 (.slice A1 (Int.toNat n1) c1)] hF rfl (by kernel_rfl) (fun hF => ?_)
    refine then_n ?_
    refine seq_cut (fun a w => ∃ (s2 : List Int), Fr 69 [pl 10 (.slice A1 (Int.toNat n1) c1)] a ∧ Sep w0 B w (own 3 (.slice A1 (Int.toNat n1) c1) (vI s2) :: fs) ∧ (hanoi_Nth_J2 s2).bind some = some r) ?_ ?_
    · rintro a w ⟨s2, hF, hS, hm⟩
      unfold hanoi_Nth_J2 at hm
      refine reg [] [] [8, 9] [pl 8 (.slice A1 (Int.toNat n1) c1), pl 9 (.int .i64 0)] hF hS Fol (by kernel_rfl) (by kernel_rfl) (by kernel_rfl) ?_ (fun a w hF hS => ?_)
      · exact obs_nil
      refine wp_ret ?_
      have hl4 := (hS.at_ 0 rfl).len1
      have hS := (hS.at_ 0 rfl).reN hl4
      have hS : Sep w0 B w (own 3 (.slice A1 s2.length c1) (vI s2) :: fs) := hS
      have hF := hF.cast (t := 8) (v := .slice A1 (Int.toNat n1) c1) (v' := .slice A1 s2.length c1) rfl rfl (congrArg (fun k => Value.slice A1 k c1) hl4)
      have hm : some (s2, 0) = some r := hm
      obtain rfl := Option.some.inj hm
      exact retV (rs := [.tmp 8, .tmp 9]) (vs := [.slice A1 s2.length c1, .int .i64 0]) hF rfl (rv_t (by kernel_rfl) <| rv_t (by kernel_rfl) <| rv_nil) rfl ⟨_, rfl, A1, c1, rfl, hS⟩
    · refine reg [] [] [1, 2, 3, 10, 11] [pl 1 (.int .i64 from1), pl 2 (.int .i64 to1), pl 3 (.int .i64 k1), pl 10 (.slice A1 (Int.toNat n1) c1), pl 11 (.int .i64 (w64 (n1 - 1)))] hF hS Fol (by kernel_rfl) (by kernel_rfl) (by kernel_rfl) ?_ (fun a w hF hS => ?_)
      · exact obs_nil
      refine wp_block ?_
      refine wp_loop_model (S := (Int × Int × List Int × Int)) (R := (List Int)) (hanoi_Nth_L1 n1 k1) (fun x => (hanoi_Nth_K1 x).bind some) r (fun (x : (Int × Int × List Int × Int)) a w => Fr 69 [pl 1 (.int .i64 x.1), pl 2 (.int .i64 x.2.1), pl 3 (.int .i64 k1), pl 10 (.slice A1 (Int.toNat n1) c1), pl 11 (.int .i64 x.2.2.2)] a ∧ Sep w0 B w (own 3 (.slice A1 (Int.toNat n1) c1) (vI x.2.2.1) :: fs)) (assoc_b hm) ⟨hF.weak [1, 2, 3, 10, 11] (by kernel_rfl), hS⟩ ?_
      clear hF hS hm
      rintro nn1 ⟨from2, to2, s1, i1⟩ a w ⟨hF, hS⟩ hm
      generalize hφ1 : stK (hanoi_Nth_L1 n1 k1) nn1 (fun x => (hanoi_Nth_K1 x).bind some) = φ1 at hm
      unfold hanoi_Nth_L1 at hm
      dsimp only at hF hS hm
      refine seq_cut (fun a w => Fr 69 [pl 1 (.int .i64 from2), pl 2 (.int .i64 to2), pl 3 (.int .i64 k1), pl 10 (.slice A1 (Int.toNat n1) c1), pl 11 (.int .i64 i1)] a ∧ Sep w0 B w (own 3 (.slice A1 (Int.toNat n1) c1) (vI s1) :: fs) ∧ ((hanoi_Nth_J3 n1 k1 from2 to2 s1 i1)).bind φ1 = some r) ?_ ?_
      · rintro a w ⟨hF, hS, hm⟩
        unfold hanoi_Nth_J3 at hm
        refine seq_cut (fun a w => ∃ (from3 : Int) (to3 : Int) (s3 : List Int), Fr 69 [pl 1 (.int .i64 from3), pl 2 (.int .i64 to3), pl 3 (.int .i64 k1), pl 10 (.slice A1 (Int.toNat n1) c1), pl 11 (.int .i64 i1)] a ∧ Sep w0 B w (own 3 (.slice A1 (Int.toNat n1) c1) (vI s3) :: fs) ∧ ((hanoi_Nth_J4 i1) from3 to3 s3).bind φ1 = some r) ?_ ?_
        · rintro a w ⟨from3, to3, s3, hF, hS, hm⟩
          unfold hanoi_Nth_J4 at hm
          refine reg1 [] [] [1, 2, 3, 10, 11] [pl 1 (.int .i64 from3), pl 2 (.int .i64 to3), pl 3 (.int .i64 k1), pl 10 (.slice A1 (Int.toNat n1) c1), pl 11 (.int .i64 (w64 (i1 - 1)))] hF hS Fol (by kernel_rfl) (by kernel_rfl) (by kernel_rfl) ?_ (fun a w hF hS => ?_)
          · exact obs_nil
          refine then_n ?_
          rw [← hφ1] at hm
          exact ⟨(from3, to3, s3, (w64 (i1 - 1))), ⟨hF.weak [1, 2, 3, 10, 11] (by kernel_rfl), hS⟩, hm⟩
        · refine wp_block ?_
          refine reg [] [] [1, 2, 3, 10, 11, 12] [pl 1 (.int .i64 from2), pl 2 (.int .i64 to2), pl 3 (.int .i64 k1), pl 10 (.slice A1 (Int.toNat n1) c1), pl 11 (.int .i64 i1), pl 12 (.int .i64 (w64 ((w64 (3 - from2)) - to2)))] hF hS Fol (by kernel_rfl) (by kernel_rfl) (by kernel_rfl) ?_ (fun a w hF hS => ?_)
          · exact obs_nil
          obtain ⟨hp3, hm⟩ := asrt_b hm
          refine reg [⟨true, [], vS (Op.shift .shr .i64 k1 .i64 i1), .int .i64 (shrK .i64 k1 i1)⟩] [none, none, some (.int .i64 (shrK .i64 k1 i1)), none, none] [1, 2, 3, 10, 11, 12, 57] [pl 1 (.int .i64 from2), pl 2 (.int .i64 to2), pl 3 (.int .i64 k1), pl 10 (.slice A1 (Int.toNat n1) c1), pl 11 (.int .i64 i1), pl 12 (.int .i64 (w64 ((w64 (3 - from2)) - to2))), pl 57 (.bool ((bAnd (shrK .i64 k1 i1) 1) == 0))] hF hS Fol (by kernel_rfl) (by kernel_rfl) (by kernel_rfl) ?_ (fun a w hF hS => ?_)
          · exact obs_cons (ob_shr (fun _ => hp3)) <| obs_nil
          refine cond_ev (t := 57) (b := ((bAnd (shrK .i64 k1 i1) 1) == 0)) hF (by kernel_rfl) (fun hb => ?_) (fun hb => ?_)
          · replace hm := if_t hm hb
            refine seqR ?_
            obtain ⟨hp4, hm⟩ := asrt_b hm
            refine at_run 4 [⟨true, [], vS (Instr.indexAt 40 (.slice A1 (Int.toNat n1) c1) (.int .i64 i1)), .pointer (some (sAddr A1 i1))⟩] [none, none, none, some (.pointer (some (sAddr A1 i1)))] [1, 3, 10, 11, 12, 60, 61] [pl 1 (.int .i64 from2), pl 3 (.int .i64 k1), pl 10 (.slice A1 (Int.toNat n1) c1), pl 11 (.int .i64 i1), pl 12 (.int .i64 (w64 ((w64 (3 - from2)) - to2))), pl 60 (.int .i64 from2), pl 61 (.pointer (some (sAddr A1 i1)))] hF hS (by kernel_rfl) (by kernel_rfl) ?_ (fun a w hF hS => ?_)
            · exact obs_cons (ob_ix1 (f := (Value.int .i64)) (m := s1) Und40 hi3 hs3 (hS.at_ 0 rfl).rd ((hS.at_ 0 rfl).len1) (fun _ => hp4)) <| obs_nil
            obtain ⟨w, hrun, hS⟩ := run_set1 (P := Try.prog) (t := 3) (x := from2) (Value.int .i64) (hS.at_ 0 rfl) hi3 hs3 rfl rfl hp4
            refine at_skip hF (by kernel_rfl) hrun ?_
            have hS : Sep w0 B w (own 3 (.slice A1 (Int.toNat n1) c1) (vI (s1.set (Int.toNat i1) from2)) :: fs) := hS
            refine at_end [1, 3, 10, 11, 12] [pl 1 (.int .i64 from2), pl 3 (.int .i64 k1), pl 10 (.slice A1 (Int.toNat n1) c1), pl 11 (.int .i64 i1), pl 12 (.int .i64 (w64 ((w64 (3 - from2)) - to2)))] hF rfl (by kernel_rfl) (fun hF => ?_)
            refine then_n ?_
            refine reg1 [] [] [1, 2, 3, 10, 11] [pl 1 (.int .i64 from2), pl 2 (.int .i64 (w64 ((w64 (3 - from2)) - to2))), pl 3 (.int .i64 k1), pl 10 (.slice A1 (Int.toNat n1) c1), pl 11 (.int .i64 i1)] hF hS Fol (by kernel_rfl) (by kernel_rfl) (by kernel_rfl) ?_ (fun a w hF hS => ?_)
            · exact obs_nil
            refine block_n ?_
            refine then_n ?_
            exact ⟨from2, (w64 ((w64 (3 - from2)) - to2)), (s1.set (Int.toNat i1) from2), hF.weak [1, 2, 3, 10, 11] (by kernel_rfl), hS, hm⟩
          · replace hm := if_f hm hb
            refine seqR ?_
            obtain ⟨hp5, hm⟩ := asrt_b hm
            refine at_run 4 [⟨true, [], vS (Instr.indexAt 40 (.slice A1 (Int.toNat n1) c1) (.int .i64 i1)), .pointer (some (sAddr A1 i1))⟩] [none, none, none, some (.pointer (some (sAddr A1 i1)))] [2, 3, 10, 11, 12, 65, 66] [pl 2 (.int .i64 to2), pl 3 (.int .i64 k1), pl 10 (.slice A1 (Int.toNat n1) c1), pl 11 (.int .i64 i1), pl 12 (.int .i64 (w64 ((w64 (3 - from2)) - to2))), pl 65 (.int .i64 to2), pl 66 (.pointer (some (sAddr A1 i1)))] hF hS (by kernel_rfl) (by kernel_rfl) ?_ (fun a w hF hS => ?_)
            · exact obs_cons (ob_ix1 (f := (Value.int .i64)) (m := s1) Und40 hi3 hs3 (hS.at_ 0 rfl).rd ((hS.at_ 0 rfl).len1) (fun _ => hp5)) <| obs_nil
            obtain ⟨w, hrun, hS⟩ := run_set1 (P := Try.prog) (t := 3) (x := to2) (Value.int .i64) (hS.at_ 0 rfl) hi3 hs3 rfl rfl hp5
            refine at_skip hF (by kernel_rfl) hrun ?_
            have hS : Sep w0 B w (own 3 (.slice A1 (Int.toNat n1) c1) (vI (s1.set (Int.toNat i1) to2)) :: fs) := hS
            refine at_end [2, 3, 10, 11, 12] [pl 2 (.int .i64 to2), pl 3 (.int .i64 k1), pl 10 (.slice A1 (Int.toNat n1) c1), pl 11 (.int .i64 i1), pl 12 (.int .i64 (w64 ((w64 (3 - from2)) - to2)))] hF rfl (by kernel_rfl) (fun hF => ?_)
            refine then_n ?_
            refine reg1 [] [] [1, 2, 3, 10, 11] [pl 1 (.int .i64 (w64 ((w64 (3 - from2)) - to2))), pl 2 (.int .i64 to2), pl 3 (.int .i64 k1), pl 10 (.slice A1 (Int.toNat n1) c1), pl 11 (.int .i64 i1)] hF hS Fol (by kernel_rfl) (by kernel_rfl) (by kernel_rfl) ?_ (fun a w hF hS => ?_)
            · exact obs_nil
            refine block_n ?_
            refine then_n ?_
            exact ⟨(w64 ((w64 (3 - from2)) - to2)), to2, (s1.set (Int.toNat i1) to2), hF.weak [1, 2, 3, 10, 11] (by kernel_rfl), hS, hm⟩
      · refine reg [] [] [1, 2, 3, 10, 11, 46] [pl 1 (.int .i64 from2), pl 2 (.int .i64 to2), pl 3 (.int .i64 k1), pl 10 (.slice A1 (Int.toNat n1) c1), pl 11 (.int .i64 i1), pl 46 (.bool (decide ((0 : Int) ≤ i1)))] hF hS Fol (by kernel_rfl) (by kernel_rfl) (by kernel_rfl) ?_ (fun a w hF hS => ?_)
        · exact obs_nil
        refine cond_ev (t := 46) (b := decide ((0 : Int) ≤ i1)) hF (by kernel_rfl) (fun hb => ?_) (fun hb => ?_)
        · replace hm := if_t hm hb
          refine wp_skip ?_
          refine then_n ?_
          exact ⟨hF.weak [1, 2, 3, 10, 11] (by kernel_rfl), hS, hm⟩
        · replace hm := if_f hm hb
          refine wp_exit ?_
          refine then_e (then_e (block_e (then_n ?_)))
          rw [← hφ1] at hm
          replace hm := done_b hm
          unfold hanoi_Nth_K1 at hm
          try dsimp only at hm
          have hm : (hanoi_Nth_J2 s1).bind some = some r := hm
          exact ⟨s1, hF.weak [10] (by kernel_rfl), hS, hm⟩
  · refine wp_block ?_
    refine reg [] [] [0, 1, 2, 3, 13] [pl 0 (.int .i64 n1), pl 1 (.int .i64 from1), pl 2 (.int .i64 to1), pl 3 (.int .i64 k1), pl 13 (.bool ((decide (n1 < 0)) || (decide ((40 : Int) < n1))))] hF hS Fol (by kernel_rfl) (by kernel_rfl) (by kernel_rfl) ?_ (fun a w hF hS => ?_)
    · exact obs_nil
    refine cond_ev (t := 13) (b := (decide (n1 < 0)) || (decide ((40 : Int) < n1))) hF (by kernel_rfl) (fun hb => ?_) (fun hb => ?_)
    · replace hm := if_t hm hb
      refine reg [] [] [8, 9] [pl 8 (.slice none 0 0), pl 9 (.int .i64 2)] hF hS Fol (by kernel_rfl) (by kernel_rfl) (by kernel_rfl) ?_ (fun a w hF hS => ?_)
      · exact obs_nil
      refine wp_ret ?_
      refine block_r (then_r ?_)
      have hS : Sep w0 B w (own 3 (.slice none 0 0) (vI ([] : List Int)) :: fs) := hS.nil 3
      have hl1 := (hS.at_ 0 rfl).len1
      have hS := (hS.at_ 0 rfl).reN hl1
      have hS : Sep w0 B w (own 3 (.slice none (([] : List Int).length) 0) (vI ([] : List Int)) :: fs) := hS
      have hm : some (([] : List Int), 2) = some r := hm
      obtain rfl := Option.some.inj hm
      exact retV (rs := [.tmp 8, .tmp 9]) (vs := [.slice none (([] : List Int).length) 0, .int .i64 2]) hF rfl (rv_t (by kernel_rfl) <| rv_t (by kernel_rfl) <| rv_nil) rfl ⟨_, rfl, none, 0, rfl, hS⟩
    · replace hm := if_f hm hb
      obtain ⟨r1, hr1, hm⟩ := call_b hm
      obtain ⟨r2, hr2, hm⟩ := call_b hm
      refine reg [⟨false, [], callFunc 87 #[.int .i64 from1], .bool r1⟩, ⟨false, [(r1, false)], callFunc 87 #[.int .i64 to1], .bool r2⟩] [none, some (.bool r1), none, none, some (.bool r2), none, none, none, none, none, none, none] [0, 1, 2, 3, 20] [pl 0 (.int .i64 n1), pl 1 (.int .i64 from1), pl 2 (.int .i64 to1), pl 3 (.int .i64 k1), pl 20 (.bool ((r1 || r2) || (from1 == to1)))] hF hS Fol (by kernel_rfl) (by kernel_rfl) (by kernel_rfl) ?_ (fun a w hF hS => ?_)
      · exact obs_cons (ob_call Try.func87 (by kernel_rfl) rfl (fun _ _ hS => hanoi_off_w hr1 hS )) <| obs_cons (ob_call Try.func87 (by kernel_rfl) rfl (fun hy _ hS => hanoi_off_w (ite_some hr2 (by rw [show r1 = false from hy (r1, false) (by simp)]; try rfl)) hS )) <| obs_nil
      refine cond_ev (t := 20) (b := (r1 || r2) || (from1 == to1)) hF (by kernel_rfl) (fun hb => ?_) (fun hb => ?_)
      · replace hm := if_t hm hb
        refine reg [] [] [8, 9] [pl 8 (.slice none 0 0), pl 9 (.int .i64 5)] hF hS Fol (by kernel_rfl) (by kernel_rfl) (by kernel_rfl) ?_ (fun a w hF hS => ?_)
        · exact obs_nil
        refine wp_ret ?_
        refine block_r (then_r ?_)
        have hS : Sep w0 B w (own 3 (.slice none 0 0) (vI ([] : List Int)) :: fs) := hS.nil 3
        have hl2 := (hS.at_ 0 rfl).len1
        have hS := (hS.at_ 0 rfl).reN hl2
        have hS : Sep w0 B w (own 3 (.slice none (([] : List Int).length) 0) (vI ([] : List Int)) :: fs) := hS
        have hm : some (([] : List Int), 5) = some r := hm
        obtain rfl := Option.some.inj hm
        exact retV (rs := [.tmp 8, .tmp 9]) (vs := [.slice none (([] : List Int).length) 0, .int .i64 5]) hF rfl (rv_t (by kernel_rfl) <| rv_t (by kernel_rfl) <| rv_nil) rfl ⟨_, rfl, none, 0, rfl, hS⟩
      · replace hm := if_f hm hb
        obtain ⟨hp1, hm⟩ := asrt_b hm
        refine reg [⟨true, [(decide (k1 < 0), false)], vS (Op.shift .shl .i64 1 .i64 n1), .int .i64 (shlK .i64 1 n1)⟩] [none, none, none, none, none, some (.int .i64 (shlK .i64 1 n1)), none, none, none] [0, 1, 2, 3, 32] [pl 0 (.int .i64 n1), pl 1 (.int .i64 from1), pl 2 (.int .i64 to1), pl 3 (.int .i64 k1), pl 32 (.bool ((decide (k1 < 0)) || (decide ((shlK .i64 1 n1) ≤ k1))))] hF hS Fol (by kernel_rfl) (by kernel_rfl) (by kernel_rfl) ?_ (fun a w hF hS => ?_)
        · exact obs_cons (ob_shl (fun hy => hp1 (hy (decide (k1 < 0), false) (by simp)))) <| obs_nil
        refine cond_ev (t := 32) (b := (decide (k1 < 0)) || (decide ((shlK .i64 1 n1) ≤ k1))) hF (by kernel_rfl) (fun hb => ?_) (fun hb => ?_)
        · replace hm := if_t hm hb
          refine reg [] [] [8, 9] [pl 8 (.slice none 0 0), pl 9 (.int .i64 3)] hF hS Fol (by kernel_rfl) (by kernel_rfl) (by kernel_rfl) ?_ (fun a w hF hS => ?_)
          · exact obs_nil
          refine wp_ret ?_
          refine block_r (then_r ?_)
          have hS : Sep w0 B w (own 3 (.slice none 0 0) (vI ([] : List Int)) :: fs) := hS.nil 3
          have hl3 := (hS.at_ 0 rfl).len1
          have hS := (hS.at_ 0 rfl).reN hl3
          have hS : Sep w0 B w (own 3 (.slice none (([] : List Int).length) 0) (vI ([] : List Int)) :: fs) := hS
          have hm : some (([] : List Int), 3) = some r := hm
          obtain rfl := Option.some.inj hm
          exact retV (rs := [.tmp 8, .tmp 9]) (vs := [.slice none (([] : List Int).length) 0, .int .i64 3]) hF rfl (rv_t (by kernel_rfl) <| rv_t (by kernel_rfl) <| rv_nil) rfl ⟨_, rfl, none, 0, rfl, hS⟩
        · replace hm := if_f hm hb
          refine wp_skip ?_
          refine block_n ?_
          refine then_n ?_
          exact ⟨hF.weak [0, 1, 2, 3] (by kernel_rfl), hS, hm⟩

noncomputable def hanoi_Regular_J4 (i1 : Int) (from2 : Int) (to2 : Int) (k3 : Int) : Option (St (Int × Int × Int × Int) (Fl Int (Int × Int × Int))) :=
  some (.next (from2, to2, k3, (w64 (i1 - 1))))

noncomputable def hanoi_Regular_J3 (s1 : List Int) (from1 : Int) (to1 : Int) (k1 : Int) (i1 : Int) : Option (St (Int × Int × Int × Int) (Fl Int (Int × Int × Int))) :=
  asrt (0 ≤ i1 ∧ i1 < (s1.length : Int)) <| if ((geti s1 i1) == from1) then ((hanoi_Regular_J4 i1) from1 (w64 ((w64 (3 - from1)) - to1)) k1) else (if ((geti s1 i1) == to1) then (asrt ((0 : Int) ≤ i1) <| (hanoi_Regular_J4 i1) (w64 ((w64 (3 - from1)) - to1)) to1 (bOr k1 (shlK .i64 1 i1))) else (some (.done (.ret (0, 0, 0)))))

noncomputable def hanoi_Regular_J2 (k2 : Int) : Option (Int × Int × Int) :=
  some (1, k2, 0)

noncomputable def hanoi_Regular_K1 : (Fl Int (Int × Int × Int)) → Option (Int × Int × Int) :=
  fun (x : (Fl Int (Int × Int × Int))) => match x with | .go k2 => hanoi_Regular_J2 k2 | .ret x => some x

noncomputable def hanoi_Regular_L1 (s1 : List Int) : (Int × Int × Int × Int) → Option (St (Int × Int × Int × Int) (Fl Int (Int × Int × Int))) :=
  fun (x : (Int × Int × Int × Int)) => match x with | (from1, to1, k1, i1) => if (decide ((0 : Int) ≤ i1)) then ((hanoi_Regular_J3 s1 from1 to1 k1 i1)) else (some (.done (.go k1)))

noncomputable def hanoi_Regular_J1 (s1 : List Int) : Option (Int × Int × Int) :=
  (loop (hanoi_Regular_L1 s1) (0, 2, 0, (w64 ((s1.length : Int) - 1)))).bind hanoi_Regular_K1

noncomputable def hanoi_Regular_m (s1 : List Int) : Option (Int × Int × Int) :=
  (hanoi_check_m s1).bind fun r1 => if (r1 != 0) then (some (0, 0, r1)) else ((hanoi_Regular_J1 s1))

set_option maxRecDepth 100000 in
set_option maxHeartbeats 4000000 in
theorem hanoi_Regular_w {A1 : Option Addr} {c1 : Nat} {n1 : Nat} {s1 : List Int} {r : (Int × Int × Int)} {w0 w : World} {B : Nat} {fs : List HP} (hm : hanoi_Regular_m s1 = some r) (hS : Sep w0 B w (fs)) (hr_s1 : RdF w0 B fs A1 (vI s1)) (_hc_s1 : s1.length ≤ c1) (_hn_s1 : n1 = s1.length) :
    Calls Try.prog 53 #[.slice A1 n1 c1] w fun e w' => e = .returned (.tuple #[.int .i64 r.1, .int .i64 r.2.1, .int .i64 r.2.2]) ∧ Sep w0 B w' (fs) := by
  obtain ⟨i3, hi3, hz3, hs3, hb3⟩ := info_parts Info3
  obtain rfl := _hn_s1
  unfold hanoi_Regular_m at hm
  replace hm := start_b hm
  refine enter (l := [.slice A1 s1.length c1]) (n := 44) Try.func53 rfl rfl (by simp) (fun a hF => ?_)
  refine reg [] [] [0] [pl 0 (.slice A1 s1.length c1)] hF hS Fol (by kernel_rfl) (by kernel_rfl) (by kernel_rfl) ?_ (fun a w hF hS => ?_)
  · exact obs_nil
  refine seq_cut (fun a w => Fr 44 [pl 0 (.slice A1 s1.length c1)] a ∧ Sep w0 B w (fs) ∧ ((hanoi_Regular_J1 s1)).bind some = some r) ?_ ?_
  · rintro a w ⟨hF, hS, hm⟩
    unfold hanoi_Regular_J1 at hm
    refine reg [] [] [0, 6, 7, 8] [pl 0 (.slice A1 s1.length c1), pl 6 (.int .i64 0), pl 7 (.int .i64 2), pl 8 (.int .i64 0)] hF hS Fol (by kernel_rfl) (by kernel_rfl) (by kernel_rfl) ?_ (fun a w hF hS => ?_)
    · exact obs_nil
    refine seq_cut (fun a w => ∃ (k2 : Int), Fr 44 [pl 8 (.int .i64 k2)] a ∧ Sep w0 B w (fs) ∧ (hanoi_Regular_J2 k2).bind some = some r) ?_ ?_
    · rintro a w ⟨k2, hF, hS, hm⟩
      unfold hanoi_Regular_J2 at hm
      refine reg [] [] [2, 3, 4] [pl 2 (.int .i64 1), pl 3 (.int .i64 k2), pl 4 (.int .i64 0)] hF hS Fol (by kernel_rfl) (by kernel_rfl) (by kernel_rfl) ?_ (fun a w hF hS => ?_)
      · exact obs_nil
      refine wp_ret ?_
      have hm : some (1, k2, 0) = some r := hm
      obtain rfl := Option.some.inj hm
      exact retV (rs := [.tmp 2, .tmp 3, .tmp 4]) (vs := [.int .i64 1, .int .i64 k2, .int .i64 0]) hF rfl (rv_t (by kernel_rfl) <| rv_t (by kernel_rfl) <| rv_t (by kernel_rfl) <| rv_nil) rfl ⟨rfl, hS⟩
    · refine reg [] [] [0, 6, 7, 8, 9] [pl 0 (.slice A1 s1.length c1), pl 6 (.int .i64 0), pl 7 (.int .i64 2), pl 8 (.int .i64 0), pl 9 (.int .i64 (w64 ((s1.length : Int) - 1)))] hF hS Fol (by kernel_rfl) (by kernel_rfl) (by kernel_rfl) ?_ (fun a w hF hS => ?_)
      · exact obs_nil
      refine wp_block ?_
      refine wp_loop_model (S := (Int × Int × Int × Int)) (R := (Fl Int (Int × Int × Int))) (hanoi_Regular_L1 s1) (fun x => (hanoi_Regular_K1 x).bind some) r (fun (x : (Int × Int × Int × Int)) a w => Fr 44 [pl 0 (.slice A1 s1.length c1), pl 6 (.int .i64 x.1), pl 7 (.int .i64 x.2.1), pl 8 (.int .i64 x.2.2.1), pl 9 (.int .i64 x.2.2.2)] a ∧ Sep w0 B w (fs)) (assoc_b hm) ⟨hF.weak [0, 6, 7, 8, 9] (by kernel_rfl), hS⟩ ?_
      clear hF hS hm
      rintro nn1 ⟨from1, to1, k1, i1⟩ a w ⟨hF, hS⟩ hm
      generalize hφ1 : stK (hanoi_Regular_L1 s1) nn1 (fun x => (hanoi_Regular_K1 x).bind some) = φ1 at hm
      unfold hanoi_Regular_L1 at hm
      dsimp only at hF hS hm
      refine seq_cut (fun a w => Fr 44 [pl 0 (.slice A1 s1.length c1), pl 6 (.int .i64 from1), pl 7 (.int .i64 to1), pl 8 (.int .i64 k1), pl 9 (.int .i64 i1)] a ∧ Sep w0 B w (fs) ∧ ((hanoi_Regular_J3 s1 from1 to1 k1 i1)).bind φ1 = some r) ?_ ?_
      · rintro a w ⟨hF, hS, hm⟩
        unfold hanoi_Regular_J3 at hm
        refine seq_cut (fun a w => ∃ (from2 : Int) (to2 : Int) (k3 : Int), Fr 44 [pl 0 (.slice A1 s1.length c1), pl 6 (.int .i64 from2), pl 7 (.int .i64 to2), pl 8 (.int .i64 k3), pl 9 (.int .i64 i1)] a ∧ Sep w0 B w (fs) ∧ ((hanoi_Regular_J4 i1) from2 to2 k3).bind φ1 = some r) ?_ ?_
        · rintro a w ⟨from2, to2, k3, hF, hS, hm⟩
          unfold hanoi_Regular_J4 at hm
          refine reg1 [] [] [0, 6, 7, 8, 9] [pl 0 (.slice A1 s1.length c1), pl 6 (.int .i64 from2), pl 7 (.int .i64 to2), pl 8 (.int .i64 k3), pl 9 (.int .i64 (w64 (i1 - 1)))] hF hS Fol (by kernel_rfl) (by kernel_rfl) (by kernel_rfl) ?_ (fun a w hF hS => ?_)
          · exact obs_nil
          refine then_n ?_
          rw [← hφ1] at hm
          exact ⟨(from2, to2, k3, (w64 (i1 - 1))), ⟨hF.weak [0, 6, 7, 8, 9] (by kernel_rfl), hS⟩, hm⟩
        · refine wp_block ?_
          refine reg [] [] [0, 6, 7, 8, 9, 10] [pl 0 (.slice A1 s1.length c1), pl 6 (.int .i64 from1), pl 7 (.int .i64 to1), pl 8 (.int .i64 k1), pl 9 (.int .i64 i1), pl 10 (.int .i64 (w64 ((w64 (3 - from1)) - to1)))] hF hS Fol (by kernel_rfl) (by kernel_rfl) (by kernel_rfl) ?_ (fun a w hF hS => ?_)
          · exact obs_nil
          obtain ⟨hp1, hm⟩ := asrt_b hm
          refine reg [⟨true, [], vS (Instr.indexAt 40 (.slice A1 s1.length c1) (.int .i64 i1)), .pointer (some (sAddr A1 i1))⟩, ⟨false, [], vS (Instr.loadAt 3 (.pointer (some (sAddr A1 i1)))), .int .i64 (geti s1 i1)⟩] [none, none, some (.pointer (some (sAddr A1 i1))), some (.int .i64 (geti s1 i1))] [0, 6, 7, 8, 9, 10, 30] [pl 0 (.slice A1 s1.length c1), pl 6 (.int .i64 from1), pl 7 (.int .i64 to1), pl 8 (.int .i64 k1), pl 9 (.int .i64 i1), pl 10 (.int .i64 (w64 ((w64 (3 - from1)) - to1))), pl 30 (.int .i64 (geti s1 i1))] hF hS Fol (by kernel_rfl) (by kernel_rfl) (by kernel_rfl) ?_ (fun a w hF hS => ?_)
          · exact obs_cons (ob_ix1 (f := (Value.int .i64)) (m := s1) Und40 hi3 hs3 (hr_s1 _ (hS.dropN 0)) rfl (fun _ => hp1)) <| obs_cons (ob_get1 (n := s1.length) (m := s1) (Value.int .i64) (0 : Int) Agg3 (fun _ hS => ⟨_, (hr_s1 _ (hS.dropN 0))⟩) (fun _ hS => rfl) (fun _ => hp1)) <| obs_nil
          refine wp_block ?_
          refine reg [] [] [0, 6, 7, 8, 9, 10, 30, 31] [pl 0 (.slice A1 s1.length c1), pl 6 (.int .i64 from1), pl 7 (.int .i64 to1), pl 8 (.int .i64 k1), pl 9 (.int .i64 i1), pl 10 (.int .i64 (w64 ((w64 (3 - from1)) - to1))), pl 30 (.int .i64 (geti s1 i1)), pl 31 (.bool ((geti s1 i1) == from1))] hF hS Fol (by kernel_rfl) (by kernel_rfl) (by kernel_rfl) ?_ (fun a w hF hS => ?_)
          · exact obs_nil
          refine cond_ev (t := 31) (b := ((geti s1 i1) == from1)) hF (by kernel_rfl) (fun hb => ?_) (fun hb => ?_)
          · replace hm := if_t hm hb
            refine reg1 [] [] [0, 6, 7, 8, 9] [pl 0 (.slice A1 s1.length c1), pl 6 (.int .i64 from1), pl 7 (.int .i64 (w64 ((w64 (3 - from1)) - to1))), pl 8 (.int .i64 k1), pl 9 (.int .i64 i1)] hF hS Fol (by kernel_rfl) (by kernel_rfl) (by kernel_rfl) ?_ (fun a w hF hS => ?_)
            · exact obs_nil
            refine block_n ?_
            refine block_n ?_
            refine then_n ?_
            exact ⟨from1, (w64 ((w64 (3 - from1)) - to1)), k1, hF.weak [0, 6, 7, 8, 9] (by kernel_rfl), hS, hm⟩
          · replace hm := if_f hm hb
            refine reg [] [] [0, 7, 8, 9, 10, 35] [pl 0 (.slice A1 s1.length c1), pl 7 (.int .i64 to1), pl 8 (.int .i64 k1), pl 9 (.int .i64 i1), pl 10 (.int .i64 (w64 ((w64 (3 - from1)) - to1))), pl 35 (.bool ((geti s1 i1) == to1))] hF hS Fol (by kernel_rfl) (by kernel_rfl) (by kernel_rfl) ?_ (fun a w hF hS => ?_)
            · exact obs_nil
            refine cond_ev (t := 35) (b := ((geti s1 i1) == to1)) hF (by kernel_rfl) (fun hb => ?_) (fun hb => ?_)
            · replace hm := if_t hm hb
              refine reg [] [] [0, 6, 7, 8, 9] [pl 0 (.slice A1 s1.length c1), pl 6 (.int .i64 (w64 ((w64 (3 - from1)) - to1))), pl 7 (.int .i64 to1), pl 8 (.int .i64 k1), pl 9 (.int .i64 i1)] hF hS Fol (by kernel_rfl) (by kernel_rfl) (by kernel_rfl) ?_ (fun a w hF hS => ?_)
              · exact obs_nil
              obtain ⟨hp2, hm⟩ := asrt_b hm
              refine reg1 [⟨true, [], vS (Op.shift .shl .i64 1 .i64 i1), .int .i64 (shlK .i64 1 i1)⟩] [none, none, some (.int .i64 (shlK .i64 1 i1)), none, none] [0, 6, 7, 8, 9] [pl 0 (.slice A1 s1.length c1), pl 6 (.int .i64 (w64 ((w64 (3 - from1)) - to1))), pl 7 (.int .i64 to1), pl 8 (.int .i64 (bOr k1 (shlK .i64 1 i1))), pl 9 (.int .i64 i1)] hF hS Fol (by kernel_rfl) (by kernel_rfl) (by kernel_rfl) ?_ (fun a w hF hS => ?_)
              · exact obs_cons (ob_shl (fun _ => hp2)) <| obs_nil
              refine block_n ?_
              refine block_n ?_
              refine then_n ?_
              exact ⟨(w64 ((w64 (3 - from1)) - to1)), to1, (bOr k1 (shlK .i64 1 i1)), hF.weak [0, 6, 7, 8, 9] (by kernel_rfl), hS, hm⟩
            · replace hm := if_f hm hb
              refine reg [] [] [2, 3, 4] [pl 2 (.int .i64 0), pl 3 (.int .i64 0), pl 4 (.int .i64 0)] hF hS Fol (by kernel_rfl) (by kernel_rfl) (by kernel_rfl) ?_ (fun a w hF hS => ?_)
              · exact obs_nil
              refine wp_ret ?_
              refine block_r (block_r (then_r (then_r (block_r (then_r ?_)))))
              rw [← hφ1] at hm
              replace hm := done_b hm
              unfold hanoi_Regular_K1 at hm
              try dsimp only at hm
              have hm : some (0, 0, 0) = some r := hm
              obtain rfl := Option.some.inj hm
              exact retV (rs := [.tmp 2, .tmp 3, .tmp 4]) (vs := [.int .i64 0, .int .i64 0, .int .i64 0]) hF rfl (rv_t (by kernel_rfl) <| rv_t (by kernel_rfl) <| rv_t (by kernel_rfl) <| rv_nil) rfl ⟨rfl, hS⟩
      · refine reg [] [] [0, 6, 7, 8, 9, 20] [pl 0 (.slice A1 s1.length c1), pl 6 (.int .i64 from1), pl 7 (.int .i64 to1), pl 8 (.int .i64 k1), pl 9 (.int .i64 i1), pl 20 (.bool (decide ((0 : Int) ≤ i1)))] hF hS Fol (by kernel_rfl) (by kernel_rfl) (by kernel_rfl) ?_ (fun a w hF hS => ?_)
        · exact obs_nil
        refine cond_ev (t := 20) (b := decide ((0 : Int) ≤ i1)) hF (by kernel_rfl) (fun hb => ?_) (fun hb => ?_)
        · replace hm := if_t hm hb
          refine wp_skip ?_
          refine then_n ?_
          exact ⟨hF.weak [0, 6, 7, 8, 9] (by kernel_rfl), hS, hm⟩
        · replace hm := if_f hm hb
          refine wp_exit ?_
          refine then_e (then_e (block_e (then_n ?_)))
          rw [← hφ1] at hm
          replace hm := done_b hm
          unfold hanoi_Regular_K1 at hm
          try dsimp only at hm
          have hm : (hanoi_Regular_J2 k1).bind some = some r := hm
          exact ⟨k1, hF.weak [8] (by kernel_rfl), hS, hm⟩
  · obtain ⟨r1, hr1, hm⟩ := call_b hm
    refine reg [⟨false, [], callFunc 85 #[.slice A1 s1.length c1], .int .i64 r1⟩] [none, some (.int .i64 r1), none] [0, 5] [pl 0 (.slice A1 s1.length c1), pl 5 (.int .i64 r1)] hF hS Fol (by kernel_rfl) (by kernel_rfl) (by kernel_rfl) ?_ (fun a w hF hS => ?_)
    · exact obs_cons (ob_call Try.func85 (by kernel_rfl) rfl (fun _ _ hS => hanoi_check_w hr1 hS (fun _ hS => (hr_s1 _ (hS.dropN 0))) _hc_s1 rfl)) <| obs_nil
    refine reg [] [] [0, 5, 14] [pl 0 (.slice A1 s1.length c1), pl 5 (.int .i64 r1), pl 14 (.bool (r1 != 0))] hF hS Fol (by kernel_rfl) (by kernel_rfl) (by kernel_rfl) ?_ (fun a w hF hS => ?_)
    · exact obs_nil
    refine cond_ev (t := 14) (b := (r1 != 0)) hF (by kernel_rfl) (fun hb => ?_) (fun hb => ?_)
    · replace hm := if_t hm hb
      refine reg [] [] [2, 3, 4] [pl 2 (.int .i64 0), pl 3 (.int .i64 0), pl 4 (.int .i64 r1)] hF hS Fol (by kernel_rfl) (by kernel_rfl) (by kernel_rfl) ?_ (fun a w hF hS => ?_)
      · exact obs_nil
      refine wp_ret ?_
      refine then_r ?_
      have hm : some (0, 0, r1) = some r := hm
      obtain rfl := Option.some.inj hm
      exact retV (rs := [.tmp 2, .tmp 3, .tmp 4]) (vs := [.int .i64 0, .int .i64 0, .int .i64 r1]) hF rfl (rv_t (by kernel_rfl) <| rv_t (by kernel_rfl) <| rv_t (by kernel_rfl) <| rv_nil) rfl ⟨rfl, hS⟩
    · replace hm := if_f hm hb
      refine wp_skip ?_
      refine then_n ?_
      exact ⟨hF.weak [0] (by kernel_rfl), hS, hm⟩

noncomputable def gameroomref_within_m (n1 : Int) (low1 : Int) (high1 : Int) : Option Bool :=
  some ((decide (low1 ≤ n1)) && (decide (n1 ≤ high1)))

set_option maxRecDepth 100000 in
set_option maxHeartbeats 4000000 in
theorem gameroomref_within_w {n1 : Int} {low1 : Int} {high1 : Int} {r : Bool} {w0 w : World} {B : Nat} {fs : List HP} (hm : gameroomref_within_m n1 low1 high1 = some r) (hS : Sep w0 B w (fs)) :
    Calls Try.prog 90 #[.int .i64 n1, .int .i64 low1, .int .i64 high1] w fun e w' => e = .returned (.bool r) ∧ Sep w0 B w' (fs) := by
  unfold gameroomref_within_m at hm
  replace hm := start_b hm
  refine enter (l := [.int .i64 n1, .int .i64 low1, .int .i64 high1]) (n := 15) Try.func90 rfl rfl (by simp) (fun a hF => ?_)
  refine reg [] [] [0, 1, 2] [pl 0 (.int .i64 n1), pl 1 (.int .i64 low1), pl 2 (.int .i64 high1)] hF hS Fol (by kernel_rfl) (by kernel_rfl) (by kernel_rfl) ?_ (fun a w hF hS => ?_)
  · exact obs_nil
  refine reg [] [] [6] [pl 6 (.bool ((decide (low1 ≤ n1)) && (decide (n1 ≤ high1))))] hF hS Fol (by kernel_rfl) (by kernel_rfl) (by kernel_rfl) ?_ (fun a w hF hS => ?_)
  · exact obs_nil
  refine wp_ret ?_
  have hm : some ((decide (low1 ≤ n1)) && (decide (n1 ≤ high1))) = some r := hm
  obtain rfl := Option.some.inj hm
  exact retV (rs := [.tmp 6]) (vs := [.bool ((decide (low1 ≤ n1)) && (decide (n1 ≤ high1)))]) hF rfl (rv_t (by kernel_rfl) <| rv_nil) rfl ⟨rfl, hS⟩

noncomputable def gameroomref_DiscsMay_J4 (i1 : Int) : Option (St Int (Fl Unit Int)) :=
  some (.next (w64 (i1 + 1)))

noncomputable def gameroomref_DiscsMay_J3 (s1 : List Int) (i1 : Int) : Option (St Int (Fl Unit Int)) :=
  asrt (0 ≤ i1 ∧ i1 < (s1.length : Int)) <| (gameroomref_within_m (geti s1 i1) 0 2).bind fun r1 => if (!r1) then (some (.done (.ret 3))) else ((gameroomref_DiscsMay_J4 i1))

noncomputable def gameroomref_DiscsMay_J2 : Option Int :=
  some 0

noncomputable def gameroomref_DiscsMay_K1 : (Fl Unit Int) → Option Int :=
  fun (x : (Fl Unit Int)) => match x with | .go _ => gameroomref_DiscsMay_J2 | .ret x => some x

noncomputable def gameroomref_DiscsMay_L1 (s1 : List Int) : Int → Option (St Int (Fl Unit Int)) :=
  fun (x : Int) => match x with | i1 => if (decide (i1 < (s1.length : Int))) then ((gameroomref_DiscsMay_J3 s1 i1)) else (some (.done (.go ())))

noncomputable def gameroomref_DiscsMay_J1 (s1 : List Int) : Option Int :=
  (loop (gameroomref_DiscsMay_L1 s1) 0).bind gameroomref_DiscsMay_K1

noncomputable def gameroomref_DiscsMay_m (s1 : List Int) : Option Int :=
  if (decide ((40 : Int) < (s1.length : Int))) then (some 2) else ((gameroomref_DiscsMay_J1 s1))

set_option maxRecDepth 100000 in
set_option maxHeartbeats 4000000 in
theorem gameroomref_DiscsMay_w {A1 : Option Addr} {c1 : Nat} {n1 : Nat} {s1 : List Int} {r : Int} {w0 w : World} {B : Nat} {fs : List HP} (hm : gameroomref_DiscsMay_m s1 = some r) (hS : Sep w0 B w (fs)) (hr_s1 : RdF w0 B fs A1 (vI s1)) (_hc_s1 : s1.length ≤ c1) (_hn_s1 : n1 = s1.length) :
    Calls Try.prog 32 #[.slice A1 n1 c1] w fun e w' => e = .returned (.int .i64 r) ∧ Sep w0 B w' (fs) := by
  obtain ⟨i3, hi3, hz3, hs3, hb3⟩ := info_parts Info3
  obtain rfl := _hn_s1
  unfold gameroomref_DiscsMay_m at hm
  replace hm := start_b hm
  refine enter (l := [.slice A1 s1.length c1]) (n := 19) Try.func32 rfl rfl (by simp) (fun a hF => ?_)
  refine reg [] [] [0] [pl 0 (.slice A1 s1.length c1)] hF hS Fol (by kernel_rfl) (by kernel_rfl) (by kernel_rfl) ?_ (fun a w hF hS => ?_)
  · exact obs_nil
  refine seq_cut (fun a w => Fr 19 [pl 0 (.slice A1 s1.length c1)] a ∧ Sep w0 B w (fs) ∧ ((gameroomref_DiscsMay_J1 s1)).bind some = some r) ?_ ?_
  · rintro a w ⟨hF, hS, hm⟩
    unfold gameroomref_DiscsMay_J1 at hm
    refine seq_cut (fun a w => Fr 19 [] a ∧ Sep w0 B w (fs) ∧ (gameroomref_DiscsMay_J2).bind some = some r) ?_ ?_
    · rintro a w ⟨hF, hS, hm⟩
      unfold gameroomref_DiscsMay_J2 at hm
      refine reg [] [] [2] [pl 2 (.int .i64 0)] hF hS Fol (by kernel_rfl) (by kernel_rfl) (by kernel_rfl) ?_ (fun a w hF hS => ?_)
      · exact obs_nil
      refine wp_ret ?_
      have hm : some 0 = some r := hm
      obtain rfl := Option.some.inj hm
      exact retV (rs := [.tmp 2]) (vs := [.int .i64 0]) hF rfl (rv_t (by kernel_rfl) <| rv_nil) rfl ⟨rfl, hS⟩
    · refine reg [] [] [0, 3] [pl 0 (.slice A1 s1.length c1), pl 3 (.int .i64 0)] hF hS Fol (by kernel_rfl) (by kernel_rfl) (by kernel_rfl) ?_ (fun a w hF hS => ?_)
      · exact obs_nil
      refine wp_block ?_
      refine wp_loop_model (S := Int) (R := (Fl Unit Int)) (gameroomref_DiscsMay_L1 s1) (fun x => (gameroomref_DiscsMay_K1 x).bind some) r (fun (x : Int) a w => Fr 19 [pl 0 (.slice A1 s1.length c1), pl 3 (.int .i64 x)] a ∧ Sep w0 B w (fs)) (assoc_b hm) ⟨hF.weak [0, 3] (by kernel_rfl), hS⟩ ?_
      clear hF hS hm
      rintro nn1 i1 a w ⟨hF, hS⟩ hm
      generalize hφ1 : stK (gameroomref_DiscsMay_L1 s1) nn1 (fun x => (gameroomref_DiscsMay_K1 x).bind some) = φ1 at hm
      unfold gameroomref_DiscsMay_L1 at hm
      dsimp only at hm
      refine seq_cut (fun a w => Fr 19 [pl 0 (.slice A1 s1.length c1), pl 3 (.int .i64 i1)] a ∧ Sep w0 B w (fs) ∧ ((gameroomref_DiscsMay_J3 s1 i1)).bind φ1 = some r) ?_ ?_
      · rintro a w ⟨hF, hS, hm⟩
        unfold gameroomref_DiscsMay_J3 at hm
        refine seq_cut (fun a w => Fr 19 [pl 0 (.slice A1 s1.length c1), pl 3 (.int .i64 i1)] a ∧ Sep w0 B w (fs) ∧ ((gameroomref_DiscsMay_J4 i1)).bind φ1 = some r) ?_ ?_
        · rintro a w ⟨hF, hS, hm⟩
          unfold gameroomref_DiscsMay_J4 at hm
          refine reg1 [] [] [0, 3] [pl 0 (.slice A1 s1.length c1), pl 3 (.int .i64 (w64 (i1 + 1)))] hF hS Fol (by kernel_rfl) (by kernel_rfl) (by kernel_rfl) ?_ (fun a w hF hS => ?_)
          · exact obs_nil
          refine then_n ?_
          rw [← hφ1] at hm
          exact ⟨(w64 (i1 + 1)), ⟨hF.weak [0, 3] (by kernel_rfl), hS⟩, hm⟩
        · refine wp_block ?_
          obtain ⟨hp1, hm⟩ := asrt_b hm
          obtain ⟨r1, hr1, hm⟩ := call_b hm
          refine reg [⟨true, [], vS (Instr.indexAt 40 (.slice A1 s1.length c1) (.int .i64 i1)), .pointer (some (sAddr A1 i1))⟩, ⟨false, [], vS (Instr.loadAt 3 (.pointer (some (sAddr A1 i1)))), .int .i64 (geti s1 i1)⟩, ⟨false, [], callFunc 90 #[.int .i64 (geti s1 i1), .int .i64 0, .int .i64 2], .bool r1⟩] [none, none, some (.pointer (some (sAddr A1 i1))), some (.int .i64 (geti s1 i1)), some (.bool r1), none] [0, 3, 18] [pl 0 (.slice A1 s1.length c1), pl 3 (.int .i64 i1), pl 18 (.bool (!r1))] hF hS Fol (by kernel_rfl) (by kernel_rfl) (by kernel_rfl) ?_ (fun a w hF hS => ?_)
          · exact obs_cons (ob_ix1 (f := (Value.int .i64)) (m := s1) Und40 hi3 hs3 (hr_s1 _ (hS.dropN 0)) rfl (fun _ => hp1)) <| obs_cons (ob_get1 (n := s1.length) (m := s1) (Value.int .i64) (0 : Int) Agg3 (fun _ hS => ⟨_, (hr_s1 _ (hS.dropN 0))⟩) (fun _ hS => rfl) (fun _ => hp1)) <| obs_cons (ob_call Try.func90 (by kernel_rfl) rfl (fun _ _ hS => gameroomref_within_w hr1 hS )) <| obs_nil
          refine cond_ev (t := 18) (b := !r1) hF (by kernel_rfl) (fun hb => ?_) (fun hb => ?_)
          · replace hm := if_t hm hb
            refine reg [] [] [2] [pl 2 (.int .i64 3)] hF hS Fol (by kernel_rfl) (by kernel_rfl) (by kernel_rfl) ?_ (fun a w hF hS => ?_)
            · exact obs_nil
            refine wp_ret ?_
            refine block_r (then_r (then_r (block_r (then_r ?_))))
            rw [← hφ1] at hm
            replace hm := done_b hm
            unfold gameroomref_DiscsMay_K1 at hm
            try dsimp only at hm
            have hm : some 3 = some r := hm
            obtain rfl := Option.some.inj hm
            exact retV (rs := [.tmp 2]) (vs := [.int .i64 3]) hF rfl (rv_t (by kernel_rfl) <| rv_nil) rfl ⟨rfl, hS⟩
          · replace hm := if_f hm hb
            refine wp_skip ?_
            refine block_n ?_
            refine then_n ?_
            exact ⟨hF.weak [0, 3] (by kernel_rfl), hS, hm⟩
      · refine reg [] [] [0, 3, 10] [pl 0 (.slice A1 s1.length c1), pl 3 (.int .i64 i1), pl 10 (.bool (decide (i1 < (s1.length : Int))))] hF hS Fol (by kernel_rfl) (by kernel_rfl) (by kernel_rfl) ?_ (fun a w hF hS => ?_)
        · exact obs_nil
        refine cond_ev (t := 10) (b := decide (i1 < (s1.length : Int))) hF (by kernel_rfl) (fun hb => ?_) (fun hb => ?_)
        · replace hm := if_t hm hb
          refine wp_skip ?_
          refine then_n ?_
          exact ⟨hF.weak [0, 3] (by kernel_rfl), hS, hm⟩
        · replace hm := if_f hm hb
          refine wp_exit ?_
          refine then_e (then_e (block_e (then_n ?_)))
          rw [← hφ1] at hm
          replace hm := done_b hm
          unfold gameroomref_DiscsMay_K1 at hm
          try dsimp only at hm
          have hm : (gameroomref_DiscsMay_J2).bind some = some r := hm
          exact ⟨hF.weak [] (by kernel_rfl), hS, hm⟩
  · refine reg [] [] [0, 6] [pl 0 (.slice A1 s1.length c1), pl 6 (.bool (decide ((40 : Int) < (s1.length : Int))))] hF hS Fol (by kernel_rfl) (by kernel_rfl) (by kernel_rfl) ?_ (fun a w hF hS => ?_)
    · exact obs_nil
    refine cond_ev (t := 6) (b := decide ((40 : Int) < (s1.length : Int))) hF (by kernel_rfl) (fun hb => ?_) (fun hb => ?_)
    · replace hm := if_t hm hb
      refine reg [] [] [2] [pl 2 (.int .i64 2)] hF hS Fol (by kernel_rfl) (by kernel_rfl) (by kernel_rfl) ?_ (fun a w hF hS => ?_)
      · exact obs_nil
      refine wp_ret ?_
      refine then_r ?_
      have hm : some 2 = some r := hm
      obtain rfl := Option.some.inj hm
      exact retV (rs := [.tmp 2]) (vs := [.int .i64 2]) hF rfl (rv_t (by kernel_rfl) <| rv_nil) rfl ⟨rfl, hS⟩
    · replace hm := if_f hm hb
      refine wp_skip ?_
      refine then_n ?_
      exact ⟨hF.weak [0] (by kernel_rfl), hS, hm⟩

noncomputable def gameroomref_Ints_m (l1 : List Int) : Option (List Int) :=
  asrt ((0 : Int) + (l1.length : Int) ≤ bigN) <| some ([] ++ l1)

set_option maxRecDepth 100000 in
set_option maxHeartbeats 4000000 in
theorem gameroomref_Ints_w {A1 : Option Addr} {c1 : Nat} {n1 : Nat} {l1 : List Int} {r : (List Int)} {w0 w : World} {B : Nat} {fs : List HP} (hm : gameroomref_Ints_m l1 = some r) (hS : Sep w0 B w (fs)) (hr_l1 : RdF w0 B fs A1 (vI l1)) (_hc_l1 : l1.length ≤ c1) (_hn_l1 : n1 = l1.length) :
    Calls Try.prog 93 #[.slice A1 n1 c1] w fun e w' => ∃ v, e = .returned v ∧ ∃ (A3 : Option Addr) (c3 : Nat), v = .slice A3 r.length c3 ∧ Sep w0 B w' (own 3 (.slice A3 r.length c3) (vI r) :: fs) := by
  obtain ⟨i3, hi3, hz3, hs3, hb3⟩ := info_parts Info3
  obtain rfl := _hn_l1
  unfold gameroomref_Ints_m at hm
  replace hm := start_b hm
  refine enter (l := [.slice A1 l1.length c1]) (n := 5) Try.func93 rfl rfl (by simp) (fun a hF => ?_)
  refine reg [] [] [0] [pl 0 (.slice A1 l1.length c1)] hF hS Fol (by kernel_rfl) (by kernel_rfl) (by kernel_rfl) ?_ (fun a w hF hS => ?_)
  · exact obs_nil
  refine seqR ?_
  obtain ⟨hp1, hm⟩ := asrt_b hm
  refine at_run 1 [] [] [3] [pl 3 (.slice A1 l1.length c1)] hF hS (by kernel_rfl) (by kernel_rfl) ?_ (fun a w hF hS => ?_)
  · exact obs_nil
  have hS : Sep w0 B w (own 3 (.slice none 0 0) (vI ([] : List Int)) :: fs) := hS.nil 3
  obtain ⟨A2, c2, w, hrun, hS⟩ := run_app1 (P := Try.prog) (t := 40) (m := ([] : List Int)) (ys := l1) (A2 := A1) (m2 := l1.length) (c2 := c1) (Value.int .i64) (0 : Int) (hS.at_ 0 rfl) (hr_l1 _ (hS.dropN 1)) rfl 40 Und40 hi3 hz3 hs3 (by omega) rfl (fun _ => rfl) hp1
  have hS : Sep w0 B w (own 3 (.slice A2 (([] ++ l1).length) c2) (vI ([] ++ l1)) :: fs) := hS
  refine at_do (d := 4) hF (by kernel_rfl) (by kernel_rfl) hrun (fun a hF => ?_)
  refine at_run 1 [] [] [2] [pl 2 (.slice A2 (([] ++ l1).length) c2)] hF hS (by kernel_rfl) (by kernel_rfl) ?_ (fun a w hF hS => ?_)
  · exact obs_nil
  refine at_end [2] [pl 2 (.slice A2 (([] ++ l1).length) c2)] hF rfl (by kernel_rfl) (fun hF => ?_)
  refine then_n ?_
  refine wp_ret ?_
  have hm : some ([] ++ l1) = some r := hm
  obtain rfl := Option.some.inj hm
  exact retV (rs := [.tmp 2]) (vs := [.slice A2 (([] ++ l1).length) c2]) hF rfl (rv_t (by kernel_rfl) <| rv_nil) rfl ⟨_, rfl, A2, c2, rfl, hS⟩

noncomputable def gameroomref_DiscMove_J4 (i1 : Int) : Option (St Int Int) :=
  some (.next (w64 (i1 + 1)))

noncomputable def gameroomref_DiscMove_J3 (s1 : List Int) (m1 : Int) (i1 : Int) : Option (St Int Int) :=
  asrt (0 ≤ i1 ∧ i1 < (s1.length : Int)) <| if ((geti s1 i1) == m1) then (some (.done i1)) else ((gameroomref_DiscMove_J4 i1))

noncomputable def gameroomref_DiscMove_J8 (i2 : Int) : Option (St Int (Fl Unit (List Int × Int))) :=
  some (.next (w64 (i2 + 1)))

noncomputable def gameroomref_DiscMove_J7 (s1 : List Int) (m2 : Int) (i2 : Int) : Option (St Int (Fl Unit (List Int × Int))) :=
  asrt (0 ≤ i2 ∧ i2 < (s1.length : Int)) <| if ((geti s1 i2) == m2) then (some (.done (.ret (([] : List Int), 8)))) else ((gameroomref_DiscMove_J8 i2))

noncomputable def gameroomref_DiscMove_L2 (s1 : List Int) (m2 : Int) (disc1 : Int) : Int → Option (St Int (Fl Unit (List Int × Int))) :=
  fun (x : Int) => match x with | i2 => if (decide (i2 < disc1)) then ((gameroomref_DiscMove_J7 s1 m2 i2)) else (some (.done (.go ())))

noncomputable def gameroomref_DiscMove_J6 (s1 : List Int) (m2 : Int) (disc1 : Int) : Option (List Int × Int) :=
  (gameroomref_Ints_m s1).bind fun r3 => asrt (0 ≤ disc1 ∧ disc1 < (r3.length : Int)) <| some ((r3.set (Int.toNat disc1) m2), 0)

noncomputable def gameroomref_DiscMove_K2 (s1 : List Int) (m2 : Int) (disc1 : Int) : (Fl Unit (List Int × Int)) → Option (List Int × Int) :=
  fun (x : (Fl Unit (List Int × Int))) => match x with | .go _ => (gameroomref_DiscMove_J6 s1 m2 disc1) | .ret x => some x

noncomputable def gameroomref_DiscMove_J5 (s1 : List Int) (m2 : Int) (disc1 : Int) : Option (List Int × Int) :=
  (loop (gameroomref_DiscMove_L2 s1 m2 disc1) 0).bind (gameroomref_DiscMove_K2 s1 m2 disc1)

noncomputable def gameroomref_DiscMove_J2 (s1 : List Int) (m2 : Int) (disc1 : Int) : Option (List Int × Int) :=
  if (decide (disc1 < 0)) then (some (([] : List Int), 10)) else ((gameroomref_DiscMove_J5 s1 m2 disc1))

noncomputable def gameroomref_DiscMove_K1 (s1 : List Int) (m2 : Int) : Int → Option (List Int × Int) :=
  fun (x : Int) => match x with | disc1 => (gameroomref_DiscMove_J2 s1 m2) disc1

noncomputable def gameroomref_DiscMove_L1 (s1 : List Int) (m1 : Int) : Int → Option (St Int Int) :=
  fun (x : Int) => match x with | i1 => if (decide (i1 < (s1.length : Int))) then ((gameroomref_DiscMove_J3 s1 m1 i1)) else (some (.done (-1)))

noncomputable def gameroomref_DiscMove_J1 (s1 : List Int) (m1 : Int) (m2 : Int) : Option (List Int × Int) :=
  (loop (gameroomref_DiscMove_L1 s1 m1) 0).bind (gameroomref_DiscMove_K1 s1 m2)

noncomputable def gameroomref_DiscMove_m (s1 : List Int) (m1 : Int) (m2 : Int) (m3 : Int) : Option (List Int × Int) :=
  (gameroomref_within_m m1 0 2).bind fun r1 => ((if (!(!r1)) then gameroomref_within_m m2 0 2 else some false)).bind fun r2 => if (((!r1) || (!r2)) || (m1 == m2)) then (some (([] : List Int), 5)) else ((gameroomref_DiscMove_J1 s1 m1 m2))

set_option maxRecDepth 100000 in
set_option maxHeartbeats 4000000 in
theorem gameroomref_DiscMove_w {A1 : Option Addr} {c1 : Nat} {n1 : Nat} {s1 : List Int} {m1 : Int} {m2 : Int} {m3 : Int} {r : (List Int × Int)} {w0 w : World} {B : Nat} {fs : List HP} (hm : gameroomref_DiscMove_m s1 m1 m2 m3 = some r) (hS : Sep w0 B w (fs)) (hr_s1 : RdF w0 B fs A1 (vI s1)) (_hc_s1 : s1.length ≤ c1) (_hn_s1 : n1 = s1.length) :
    Calls Try.prog 35 #[.slice A1 n1 c1, .agg #[.int .i64 m1, .int .i64 m2, .int .i64 m3]] w fun e w' => ∃ v, e = .returned v ∧ ∃ (A3 : Option Addr) (c3 : Nat), v = .tuple #[.slice A3 r.1.length c3, .int .i64 r.2] ∧ Sep w0 B w' (own 3 (.slice A3 r.1.length c3) (vI r.1) :: fs) := by
  obtain ⟨i3, hi3, hz3, hs3, hb3⟩ := info_parts Info3
  obtain rfl := _hn_s1
  unfold gameroomref_DiscMove_m at hm
  replace hm := start_b hm
  refine enter (l := [.slice A1 s1.length c1, .agg #[.int .i64 m1, .int .i64 m2, .int .i64 m3]]) (n := 63) Try.func35 rfl rfl (by simp) (fun a hF => ?_)
  refine seqR ?_
  refine at_do (d := 3) (s := vS (Instr.box 52 (.agg #[.int .i64 m1, .int .i64 m2, .int .i64 m3]))) (v := .pointer (some ⟨w.heap.size, 0, none⟩)) (w' := w.alloc (.cells #[.int .i64 m1, .int .i64 m2, .int .i64 m3] 52)) hF (by kernel_rfl) (by kernel_rfl) (by kernel_rfl) (fun a hF => ?_)
  have hS : Sep w0 B (w.alloc (.cells #[.int .i64 m1, .int .i64 m2, .int .i64 m3] 52)) (blk w.heap.size 52 #[.int .i64 m1, .int .i64 m2, .int .i64 m3] :: (fs)) := hS.box 52 #[.int .i64 m1, .int .i64 m2, .int .i64 m3]
  generalize w.heap.size = g1 at hF hS
  generalize w.alloc (.cells #[.int .i64 m1, .int .i64 m2, .int .i64 m3] 52) = w at hS ⊢
  refine at_run 2 [] [] [0, 3] [pl 0 (.slice A1 s1.length c1), pl 3 (.pointer (some ⟨g1, 0, none⟩))] hF hS (by kernel_rfl) (by kernel_rfl) ?_ (fun a w hF hS => ?_)
  · exact obs_nil
  refine at_end [0, 3] [pl 0 (.slice A1 s1.length c1), pl 3 (.pointer (some ⟨g1, 0, none⟩))] hF rfl (by kernel_rfl) (fun hF => ?_)
  refine then_n ?_
  refine seq_cut (fun a w => Fr 63 [pl 0 (.slice A1 s1.length c1), pl 3 (.pointer (some ⟨g1, 0, none⟩))] a ∧ Sep w0 B w (blk g1 52 #[.int .i64 m1, .int .i64 m2, .int .i64 m3] :: fs) ∧ ((gameroomref_DiscMove_J1 s1 m1 m2)).bind some = some r) ?_ ?_
  · rintro a w ⟨hF, hS, hm⟩
    unfold gameroomref_DiscMove_J1 at hm
    refine reg [] [] [0, 3, 6] [pl 0 (.slice A1 s1.length c1), pl 3 (.pointer (some ⟨g1, 0, none⟩)), pl 6 (.int .i64 (-1))] hF hS Fol (by kernel_rfl) (by kernel_rfl) (by kernel_rfl) ?_ (fun a w hF hS => ?_)
    · exact obs_nil
    refine seq_cut (fun a w => ∃ (disc1 : Int), Fr 63 [pl 0 (.slice A1 s1.length c1), pl 3 (.pointer (some ⟨g1, 0, none⟩)), pl 6 (.int .i64 disc1)] a ∧ Sep w0 B w (blk g1 52 #[.int .i64 m1, .int .i64 m2, .int .i64 m3] :: fs) ∧ ((gameroomref_DiscMove_J2 s1 m2) disc1).bind some = some r) ?_ ?_
    · rintro a w ⟨disc1, hF, hS, hm⟩
      unfold gameroomref_DiscMove_J2 at hm
      refine seq_cut (fun a w => Fr 63 [pl 0 (.slice A1 s1.length c1), pl 3 (.pointer (some ⟨g1, 0, none⟩)), pl 6 (.int .i64 disc1)] a ∧ Sep w0 B w (blk g1 52 #[.int .i64 m1, .int .i64 m2, .int .i64 m3] :: fs) ∧ ((gameroomref_DiscMove_J5 s1 m2 disc1)).bind some = some r) ?_ ?_
      · rintro a w ⟨hF, hS, hm⟩
        unfold gameroomref_DiscMove_J5 at hm
        refine seq_cut (fun a w => Fr 63 [pl 0 (.slice A1 s1.length c1), pl 3 (.pointer (some ⟨g1, 0, none⟩)), pl 6 (.int .i64 disc1)] a ∧ Sep w0 B w (blk g1 52 #[.int .i64 m1, .int .i64 m2, .int .i64 m3] :: fs) ∧ ((gameroomref_DiscMove_J6 s1 m2 disc1)).bind some = some r) ?_ ?_
        · rintro a w ⟨hF, hS, hm⟩
          unfold gameroomref_DiscMove_J6 at hm
          refine seqR ?_
          obtain ⟨r3, hr3, hm⟩ := call_b hm
          refine at_run 1 [] [] [3, 6, 55] [pl 3 (.pointer (some ⟨g1, 0, none⟩)), pl 6 (.int .i64 disc1), pl 55 (.slice A1 s1.length c1)] hF hS (by kernel_rfl) (by kernel_rfl) ?_ (fun a w hF hS => ?_)
          · exact obs_nil
          refine at_call (f := 93) (args := #[.slice A1 s1.length c1]) (d := 56) hF (by kernel_rfl) (by kernel_rfl) Try.func93 (by kernel_rfl) rfl (gameroomref_Ints_w hr3 hS (fun _ hS => (hr_s1 _ (hS.dropN 1))) _hc_s1 rfl) (fun v a w hR hF => ?_)
          clear hS
          obtain ⟨A2, c2, rfl, hS⟩ := hR
          have hS : Sep w0 B w (own 3 (.slice A2 r3.length c2) (vI r3) :: blk g1 52 #[.int .i64 m1, .int .i64 m2, .int .i64 m3] :: fs) := hS
          refine at_run 1 [] [] [3, 6, 9] [pl 3 (.pointer (some ⟨g1, 0, none⟩)), pl 6 (.int .i64 disc1), pl 9 (.slice A2 r3.length c2)] hF hS (by kernel_rfl) (by kernel_rfl) ?_ (fun a w hF hS => ?_)
          · exact obs_nil
          refine at_end [3, 6, 9] [pl 3 (.pointer (some ⟨g1, 0, none⟩)), pl 6 (.int .i64 disc1), pl 9 (.slice A2 r3.length c2)] hF rfl (by kernel_rfl) (fun hF => ?_)
          refine then_n ?_
          refine seqR ?_
          obtain ⟨hp3, hm⟩ := asrt_b hm
          refine at_run 5 [⟨false, [], vS (Instr.loadAt 3 (.pointer (some ⟨g1, 1, none⟩))), .int .i64 m2⟩, ⟨true, [], vS (Instr.indexAt 40 (.slice A2 r3.length c2) (.int .i64 disc1)), .pointer (some (sAddr A2 disc1))⟩] [none, none, none, some (.int .i64 m2), some (.pointer (some (sAddr A2 disc1)))] [9, 60, 61] [pl 9 (.slice A2 r3.length c2), pl 60 (.int .i64 m2), pl 61 (.pointer (some (sAddr A2 disc1)))] hF hS (by kernel_rfl) (by kernel_rfl) ?_ (fun a w hF hS => ?_)
          · exact obs_cons (ob_load Agg3 (fun _ _ hS => (hS.at_ 1 rfl).cell rfl)) <| obs_cons (ob_ix1 (f := (Value.int .i64)) (m := r3) Und40 hi3 hs3 (hS.at_ 0 rfl).rd rfl (fun _ => hp3)) <| obs_nil
          obtain ⟨w, hrun, hS⟩ := run_set1 (P := Try.prog) (t := 3) (x := m2) (Value.int .i64) (hS.at_ 0 rfl) hi3 hs3 rfl rfl hp3
          refine at_skip hF (by kernel_rfl) hrun ?_
          have hS : Sep w0 B w (own 3 (.slice A2 r3.length c2) (vI (r3.set (Int.toNat disc1) m2)) :: blk g1 52 #[.int .i64 m1, .int .i64 m2, .int .i64 m3] :: fs) := hS
          refine at_end [9] [pl 9 (.slice A2 r3.length c2)] hF rfl (by kernel_rfl) (fun hF => ?_)
          refine then_n ?_
          refine reg [] [] [4, 5] [pl 4 (.slice A2 r3.length c2), pl 5 (.int .i64 0)] hF hS Fol (by kernel_rfl) (by kernel_rfl) (by kernel_rfl) ?_ (fun a w hF hS => ?_)
          · exact obs_nil
          refine wp_ret ?_
          have hl4 := (hS.at_ 0 rfl).len1
          have hS := (hS.at_ 0 rfl).reN hl4
          have hS : Sep w0 B w (own 3 (.slice A2 ((r3.set (Int.toNat disc1) m2).length) c2) (vI (r3.set (Int.toNat disc1) m2)) :: blk g1 52 #[.int .i64 m1, .int .i64 m2, .int .i64 m3] :: fs) := hS
          have hF := hF.cast (t := 4) (v := .slice A2 r3.length c2) (v' := .slice A2 ((r3.set (Int.toNat disc1) m2).length) c2) rfl rfl (congrArg (fun k => Value.slice A2 k c2) hl4)
          have hS := hS.pickN 2 [0] (by decide)
          have hm : some ((r3.set (Int.toNat disc1) m2), 0) = some r := hm
          obtain rfl := Option.some.inj hm
          exact retV (rs := [.tmp 4, .tmp 5]) (vs := [.slice A2 ((r3.set (Int.toNat disc1) m2).length) c2, .int .i64 0]) hF rfl (rv_t (by kernel_rfl) <| rv_t (by kernel_rfl) <| rv_nil) rfl ⟨_, rfl, A2, c2, rfl, hS⟩
        · refine reg [] [] [0, 3, 6, 8] [pl 0 (.slice A1 s1.length c1), pl 3 (.pointer (some ⟨g1, 0, none⟩)), pl 6 (.int .i64 disc1), pl 8 (.int .i64 0)] hF hS Fol (by kernel_rfl) (by kernel_rfl) (by kernel_rfl) ?_ (fun a w hF hS => ?_)
          · exact obs_nil
          refine wp_block ?_
          refine wp_loop_model (S := Int) (R := (Fl Unit (List Int × Int))) (gameroomref_DiscMove_L2 s1 m2 disc1) (fun x => ((gameroomref_DiscMove_K2 s1 m2 disc1) x).bind some) r (fun (x : Int) a w => Fr 63 [pl 0 (.slice A1 s1.length c1), pl 3 (.pointer (some ⟨g1, 0, none⟩)), pl 6 (.int .i64 disc1), pl 8 (.int .i64 x)] a ∧ Sep w0 B w (blk g1 52 #[.int .i64 m1, .int .i64 m2, .int .i64 m3] :: fs)) (assoc_b hm) ⟨hF.weak [0, 3, 6, 8] (by kernel_rfl), hS⟩ ?_
          clear hF hS hm
          rintro nn2 i2 a w ⟨hF, hS⟩ hm
          generalize hφ2 : stK (gameroomref_DiscMove_L2 s1 m2 disc1) nn2 (fun x => ((gameroomref_DiscMove_K2 s1 m2 disc1) x).bind some) = φ2 at hm
          unfold gameroomref_DiscMove_L2 at hm
          dsimp only at hm
          refine seq_cut (fun a w => Fr 63 [pl 0 (.slice A1 s1.length c1), pl 3 (.pointer (some ⟨g1, 0, none⟩)), pl 6 (.int .i64 disc1), pl 8 (.int .i64 i2)] a ∧ Sep w0 B w (blk g1 52 #[.int .i64 m1, .int .i64 m2, .int .i64 m3] :: fs) ∧ ((gameroomref_DiscMove_J7 s1 m2 i2)).bind φ2 = some r) ?_ ?_
          · rintro a w ⟨hF, hS, hm⟩
            unfold gameroomref_DiscMove_J7 at hm
            refine seq_cut (fun a w => Fr 63 [pl 0 (.slice A1 s1.length c1), pl 3 (.pointer (some ⟨g1, 0, none⟩)), pl 6 (.int .i64 disc1), pl 8 (.int .i64 i2)] a ∧ Sep w0 B w (blk g1 52 #[.int .i64 m1, .int .i64 m2, .int .i64 m3] :: fs) ∧ ((gameroomref_DiscMove_J8 i2)).bind φ2 = some r) ?_ ?_
            · rintro a w ⟨hF, hS, hm⟩
              unfold gameroomref_DiscMove_J8 at hm
              refine reg1 [] [] [0, 3, 6, 8] [pl 0 (.slice A1 s1.length c1), pl 3 (.pointer (some ⟨g1, 0, none⟩)), pl 6 (.int .i64 disc1), pl 8 (.int .i64 (w64 (i2 + 1)))] hF hS Fol (by kernel_rfl) (by kernel_rfl) (by kernel_rfl) ?_ (fun a w hF hS => ?_)
              · exact obs_nil
              refine then_n ?_
              rw [← hφ2] at hm
              exact ⟨(w64 (i2 + 1)), ⟨hF.weak [0, 3, 6, 8] (by kernel_rfl), hS⟩, hm⟩
            · refine wp_block ?_
              obtain ⟨hp2, hm⟩ := asrt_b hm
              refine reg [⟨true, [], vS (Instr.indexAt 40 (.slice A1 s1.length c1) (.int .i64 i2)), .pointer (some (sAddr A1 i2))⟩, ⟨false, [], vS (Instr.loadAt 3 (.pointer (some (sAddr A1 i2)))), .int .i64 (geti s1 i2)⟩, ⟨false, [], vS (Instr.loadAt 3 (.pointer (some ⟨g1, 1, none⟩))), .int .i64 m2⟩] [none, none, some (.pointer (some (sAddr A1 i2))), some (.int .i64 (geti s1 i2)), none, some (.int .i64 m2), none] [0, 3, 6, 8, 54] [pl 0 (.slice A1 s1.length c1), pl 3 (.pointer (some ⟨g1, 0, none⟩)), pl 6 (.int .i64 disc1), pl 8 (.int .i64 i2), pl 54 (.bool ((geti s1 i2) == m2))] hF hS Fol (by kernel_rfl) (by kernel_rfl) (by kernel_rfl) ?_ (fun a w hF hS => ?_)
              · exact obs_cons (ob_ix1 (f := (Value.int .i64)) (m := s1) Und40 hi3 hs3 (hr_s1 _ (hS.dropN 1)) rfl (fun _ => hp2)) <| obs_cons (ob_get1 (n := s1.length) (m := s1) (Value.int .i64) (0 : Int) Agg3 (fun _ hS => ⟨_, (hr_s1 _ (hS.dropN 1))⟩) (fun _ hS => rfl) (fun _ => hp2)) <| obs_cons (ob_load Agg3 (fun _ _ hS => (hS.at_ 0 rfl).cell rfl)) <| obs_nil
              refine cond_ev (t := 54) (b := ((geti s1 i2) == m2)) hF (by kernel_rfl) (fun hb => ?_) (fun hb => ?_)
              · replace hm := if_t hm hb
                refine reg [] [] [4, 5] [pl 4 (.slice none 0 0), pl 5 (.int .i64 8)] hF hS Fol (by kernel_rfl) (by kernel_rfl) (by kernel_rfl) ?_ (fun a w hF hS => ?_)
                · exact obs_nil
                refine wp_ret ?_
                refine block_r (then_r (then_r (block_r (then_r ?_))))
                rw [← hφ2] at hm
                replace hm := done_b hm
                unfold gameroomref_DiscMove_K2 at hm
                try dsimp only at hm
                have hS : Sep w0 B w (own 3 (.slice none 0 0) (vI ([] : List Int)) :: blk g1 52 #[.int .i64 m1, .int .i64 m2, .int .i64 m3] :: fs) := hS.nil 3
                have hl3 := (hS.at_ 0 rfl).len1
                have hS := (hS.at_ 0 rfl).reN hl3
                have hS : Sep w0 B w (own 3 (.slice none (([] : List Int).length) 0) (vI ([] : List Int)) :: blk g1 52 #[.int .i64 m1, .int .i64 m2, .int .i64 m3] :: fs) := hS
                have hS := hS.pickN 2 [0] (by decide)
                have hm : some (([] : List Int), 8) = some r := hm
                obtain rfl := Option.some.inj hm
                exact retV (rs := [.tmp 4, .tmp 5]) (vs := [.slice none (([] : List Int).length) 0, .int .i64 8]) hF rfl (rv_t (by kernel_rfl) <| rv_t (by kernel_rfl) <| rv_nil) rfl ⟨_, rfl, none, 0, rfl, hS⟩
              · replace hm := if_f hm hb
                refine wp_skip ?_
                refine block_n ?_
                refine then_n ?_
                exact ⟨hF.weak [0, 3, 6, 8] (by kernel_rfl), hS, hm⟩
          · refine reg [] [] [0, 3, 6, 8, 45] [pl 0 (.slice A1 s1.length c1), pl 3 (.pointer (some ⟨g1, 0, none⟩)), pl 6 (.int .i64 disc1), pl 8 (.int .i64 i2), pl 45 (.bool (decide (i2 < disc1)))] hF hS Fol (by kernel_rfl) (by kernel_rfl) (by kernel_rfl) ?_ (fun a w hF hS => ?_)
            · exact obs_nil
            refine cond_ev (t := 45) (b := decide (i2 < disc1)) hF (by kernel_rfl) (fun hb => ?_) (fun hb => ?_)
            · replace hm := if_t hm hb
              refine wp_skip ?_
              refine then_n ?_
              exact ⟨hF.weak [0, 3, 6, 8] (by kernel_rfl), hS, hm⟩
            · replace hm := if_f hm hb
              refine wp_exit ?_
              refine then_e (then_e (block_e (then_n ?_)))
              rw [← hφ2] at hm
              replace hm := done_b hm
              unfold gameroomref_DiscMove_K2 at hm
              try dsimp only at hm
              have hm : ((gameroomref_DiscMove_J6 s1 m2 disc1)).bind some = some r := hm
              exact ⟨hF.weak [0, 3, 6] (by kernel_rfl), hS, hm⟩
      · refine reg [] [] [0, 3, 6, 42] [pl 0 (.slice A1 s1.length c1), pl 3 (.pointer (some ⟨g1, 0, none⟩)), pl 6 (.int .i64 disc1), pl 42 (.bool (decide (disc1 < 0)))] hF hS Fol (by kernel_rfl) (by kernel_rfl) (by kernel_rfl) ?_ (fun a w hF hS => ?_)
        · exact obs_nil
        refine cond_ev (t := 42) (b := decide (disc1 < 0)) hF (by kernel_rfl) (fun hb => ?_) (fun hb => ?_)
        · replace hm := if_t hm hb
          refine reg [] [] [4, 5] [pl 4 (.slice none 0 0), pl 5 (.int .i64 10)] hF hS Fol (by kernel_rfl) (by kernel_rfl) (by kernel_rfl) ?_ (fun a w hF hS => ?_)
          · exact obs_nil
          refine wp_ret ?_
          refine then_r ?_
          have hS : Sep w0 B w (own 3 (.slice none 0 0) (vI ([] : List Int)) :: blk g1 52 #[.int .i64 m1, .int .i64 m2, .int .i64 m3] :: fs) := hS.nil 3
          have hl2 := (hS.at_ 0 rfl).len1
          have hS := (hS.at_ 0 rfl).reN hl2
          have hS : Sep w0 B w (own 3 (.slice none (([] : List Int).length) 0) (vI ([] : List Int)) :: blk g1 52 #[.int .i64 m1, .int .i64 m2, .int .i64 m3] :: fs) := hS
          have hS := hS.pickN 2 [0] (by decide)
          have hm : some (([] : List Int), 10) = some r := hm
          obtain rfl := Option.some.inj hm
          exact retV (rs := [.tmp 4, .tmp 5]) (vs := [.slice none (([] : List Int).length) 0, .int .i64 10]) hF rfl (rv_t (by kernel_rfl) <| rv_t (by kernel_rfl) <| rv_nil) rfl ⟨_, rfl, none, 0, rfl, hS⟩
        · replace hm := if_f hm hb
          refine wp_skip ?_
          refine then_n ?_
          exact ⟨hF.weak [0, 3, 6] (by kernel_rfl), hS, hm⟩
    · refine reg [] [] [0, 3, 6, 7] [pl 0 (.slice A1 s1.length c1), pl 3 (.pointer (some ⟨g1, 0, none⟩)), pl 6 (.int .i64 (-1)), pl 7 (.int .i64 0)] hF hS Fol (by kernel_rfl) (by kernel_rfl) (by kernel_rfl) ?_ (fun a w hF hS => ?_)
      · exact obs_nil
      refine wp_block ?_
      refine wp_loop_model (S := Int) (R := Int) (gameroomref_DiscMove_L1 s1 m1) (fun x => ((gameroomref_DiscMove_K1 s1 m2) x).bind some) r (fun (x : Int) a w => Fr 63 [pl 0 (.slice A1 s1.length c1), pl 3 (.pointer (some ⟨g1, 0, none⟩)), pl 6 (.int .i64 (-1)), pl 7 (.int .i64 x)] a ∧ Sep w0 B w (blk g1 52 #[.int .i64 m1, .int .i64 m2, .int .i64 m3] :: fs)) (assoc_b hm) ⟨hF.weak [0, 3, 6, 7] (by kernel_rfl), hS⟩ ?_
      clear hF hS hm
      rintro nn1 i1 a w ⟨hF, hS⟩ hm
      generalize hφ1 : stK (gameroomref_DiscMove_L1 s1 m1) nn1 (fun x => ((gameroomref_DiscMove_K1 s1 m2) x).bind some) = φ1 at hm
      unfold gameroomref_DiscMove_L1 at hm
      dsimp only at hm
      refine seq_cut (fun a w => Fr 63 [pl 0 (.slice A1 s1.length c1), pl 3 (.pointer (some ⟨g1, 0, none⟩)), pl 6 (.int .i64 (-1)), pl 7 (.int .i64 i1)] a ∧ Sep w0 B w (blk g1 52 #[.int .i64 m1, .int .i64 m2, .int .i64 m3] :: fs) ∧ ((gameroomref_DiscMove_J3 s1 m1 i1)).bind φ1 = some r) ?_ ?_
      · rintro a w ⟨hF, hS, hm⟩
        unfold gameroomref_DiscMove_J3 at hm
        refine seq_cut (fun a w => Fr 63 [pl 0 (.slice A1 s1.length c1), pl 3 (.pointer (some ⟨g1, 0, none⟩)), pl 6 (.int .i64 (-1)), pl 7 (.int .i64 i1)] a ∧ Sep w0 B w (blk g1 52 #[.int .i64 m1, .int .i64 m2, .int .i64 m3] :: fs) ∧ ((gameroomref_DiscMove_J4 i1)).bind φ1 = some r) ?_ ?_
        · rintro a w ⟨hF, hS, hm⟩
          unfold gameroomref_DiscMove_J4 at hm
          refine reg1 [] [] [0, 3, 6, 7] [pl 0 (.slice A1 s1.length c1), pl 3 (.pointer (some ⟨g1, 0, none⟩)), pl 6 (.int .i64 (-1)), pl 7 (.int .i64 (w64 (i1 + 1)))] hF hS Fol (by kernel_rfl) (by kernel_rfl) (by kernel_rfl) ?_ (fun a w hF hS => ?_)
          · exact obs_nil
          refine then_n ?_
          rw [← hφ1] at hm
          exact ⟨(w64 (i1 + 1)), ⟨hF.weak [0, 3, 6, 7] (by kernel_rfl), hS⟩, hm⟩
        · refine wp_block ?_
          obtain ⟨hp1, hm⟩ := asrt_b hm
          refine reg [⟨true, [], vS (Instr.indexAt 40 (.slice A1 s1.length c1) (.int .i64 i1)), .pointer (some (sAddr A1 i1))⟩, ⟨false, [], vS (Instr.loadAt 3 (.pointer (some (sAddr A1 i1)))), .int .i64 (geti s1 i1)⟩, ⟨false, [], vS (Instr.loadAt 3 (.pointer (some ⟨g1, 0, none⟩))), .int .i64 m1⟩] [none, none, some (.pointer (some (sAddr A1 i1))), some (.int .i64 (geti s1 i1)), none, some (.int .i64 m1), none] [0, 3, 6, 7, 39] [pl 0 (.slice A1 s1.length c1), pl 3 (.pointer (some ⟨g1, 0, none⟩)), pl 6 (.int .i64 (-1)), pl 7 (.int .i64 i1), pl 39 (.bool ((geti s1 i1) == m1))] hF hS Fol (by kernel_rfl) (by kernel_rfl) (by kernel_rfl) ?_ (fun a w hF hS => ?_)
          · exact obs_cons (ob_ix1 (f := (Value.int .i64)) (m := s1) Und40 hi3 hs3 (hr_s1 _ (hS.dropN 1)) rfl (fun _ => hp1)) <| obs_cons (ob_get1 (n := s1.length) (m := s1) (Value.int .i64) (0 : Int) Agg3 (fun _ hS => ⟨_, (hr_s1 _ (hS.dropN 1))⟩) (fun _ hS => rfl) (fun _ => hp1)) <| obs_cons (ob_load Agg3 (fun _ _ hS => (hS.at_ 0 rfl).cell rfl)) <| obs_nil
          refine cond_ev (t := 39) (b := ((geti s1 i1) == m1)) hF (by kernel_rfl) (fun hb => ?_) (fun hb => ?_)
          · replace hm := if_t hm hb
            refine reg [] [] [0, 3, 6] [pl 0 (.slice A1 s1.length c1), pl 3 (.pointer (some ⟨g1, 0, none⟩)), pl 6 (.int .i64 i1)] hF hS Fol (by kernel_rfl) (by kernel_rfl) (by kernel_rfl) ?_ (fun a w hF hS => ?_)
            · exact obs_nil
            refine wp_exit ?_
            refine block_o rfl (then_e (then_e (block_e (then_n ?_))))
            rw [← hφ1] at hm
            replace hm := done_b hm
            unfold gameroomref_DiscMove_K1 at hm
            try dsimp only at hm
            have hm : ((gameroomref_DiscMove_J2 s1 m2) i1).bind some = some r := hm
            exact ⟨i1, hF.weak [0, 3, 6] (by kernel_rfl), hS, hm⟩
          · replace hm := if_f hm hb
            refine wp_skip ?_
            refine block_n ?_
            refine then_n ?_
            exact ⟨hF.weak [0, 3, 6, 7] (by kernel_rfl), hS, hm⟩
      · refine reg [] [] [0, 3, 6, 7, 30] [pl 0 (.slice A1 s1.length c1), pl 3 (.pointer (some ⟨g1, 0, none⟩)), pl 6 (.int .i64 (-1)), pl 7 (.int .i64 i1), pl 30 (.bool (decide (i1 < (s1.length : Int))))] hF hS Fol (by kernel_rfl) (by kernel_rfl) (by kernel_rfl) ?_ (fun a w hF hS => ?_)
        · exact obs_nil
        refine cond_ev (t := 30) (b := decide (i1 < (s1.length : Int))) hF (by kernel_rfl) (fun hb => ?_) (fun hb => ?_)
        · replace hm := if_t hm hb
          refine wp_skip ?_
          refine then_n ?_
          exact ⟨hF.weak [0, 3, 6, 7] (by kernel_rfl), hS, hm⟩
        · replace hm := if_f hm hb
          refine wp_exit ?_
          refine then_e (then_e (block_e (then_n ?_)))
          rw [← hφ1] at hm
          replace hm := done_b hm
          unfold gameroomref_DiscMove_K1 at hm
          try dsimp only at hm
          have hm : ((gameroomref_DiscMove_J2 s1 m2) (-1)).bind some = some r := hm
          exact ⟨(-1), hF.weak [0, 3, 6] (by kernel_rfl), hS, hm⟩
  · obtain ⟨r1, hr1, hm⟩ := call_b hm
    obtain ⟨r2, hr2, hm⟩ := call_b hm
    refine reg [⟨false, [], vS (Instr.loadAt 3 (.pointer (some ⟨g1, 0, none⟩))), .int .i64 m1⟩, ⟨false, [], callFunc 90 #[.int .i64 m1, .int .i64 0, .int .i64 2], .bool r1⟩, ⟨false, [(!r1, false)], vS (Instr.loadAt 3 (.pointer (some ⟨g1, 1, none⟩))), .int .i64 m2⟩, ⟨false, [(!r1, false)], callFunc 90 #[.int .i64 m2, .int .i64 0, .int .i64 2], .bool r2⟩, ⟨false, [((!r1) || (!r2), false)], vS (Instr.loadAt 3 (.pointer (some ⟨g1, 0, none⟩))), .int .i64 m1⟩, ⟨false, [((!r1) || (!r2), false)], vS (Instr.loadAt 3 (.pointer (some ⟨g1, 1, none⟩))), .int .i64 m2⟩] [none, some (.int .i64 m1), some (.bool r1), none, none, none, some (.int .i64 m2), some (.bool r2), none, none, none, none, some (.int .i64 m1), none, some (.int .i64 m2), none, none] [0, 3, 26] [pl 0 (.slice A1 s1.length c1), pl 3 (.pointer (some ⟨g1, 0, none⟩)), pl 26 (.bool (((!r1) || (!r2)) || (m1 == m2)))] hF hS Fol (by kernel_rfl) (by kernel_rfl) (by kernel_rfl) ?_ (fun a w hF hS => ?_)
    · exact obs_cons (ob_load Agg3 (fun _ _ hS => (hS.at_ 0 rfl).cell rfl)) <| obs_cons (ob_call Try.func90 (by kernel_rfl) rfl (fun _ _ hS => gameroomref_within_w hr1 hS )) <| obs_cons (ob_load Agg3 (fun _ _ hS => (hS.at_ 0 rfl).cell rfl)) <| obs_cons (ob_call Try.func90 (by kernel_rfl) rfl (fun hy _ hS => gameroomref_within_w (ite_some hr2 (by rw [show (!r1) = false from hy (!r1, false) (by simp)]; try rfl)) hS )) <| obs_cons (ob_load Agg3 (fun _ _ hS => (hS.at_ 0 rfl).cell rfl)) <| obs_cons (ob_load Agg3 (fun _ _ hS => (hS.at_ 0 rfl).cell rfl)) <| obs_nil
    refine cond_ev (t := 26) (b := ((!r1) || (!r2)) || (m1 == m2)) hF (by kernel_rfl) (fun hb => ?_) (fun hb => ?_)
    · replace hm := if_t hm hb
      refine reg [] [] [4, 5] [pl 4 (.slice none 0 0), pl 5 (.int .i64 5)] hF hS Fol (by kernel_rfl) (by kernel_rfl) (by kernel_rfl) ?_ (fun a w hF hS => ?_)
      · exact obs_nil
      refine wp_ret ?_
      refine then_r ?_
      have hS : Sep w0 B w (own 3 (.slice none 0 0) (vI ([] : List Int)) :: blk g1 52 #[.int .i64 m1, .int .i64 m2, .int .i64 m3] :: fs) := hS.nil 3
      have hl1 := (hS.at_ 0 rfl).len1
      have hS := (hS.at_ 0 rfl).reN hl1
      have hS : Sep w0 B w (own 3 (.slice none (([] : List Int).length) 0) (vI ([] : List Int)) :: blk g1 52 #[.int .i64 m1, .int .i64 m2, .int .i64 m3] :: fs) := hS
      have hS := hS.pickN 2 [0] (by decide)
      have hm : some (([] : List Int), 5) = some r := hm
      obtain rfl := Option.some.inj hm
      exact retV (rs := [.tmp 4, .tmp 5]) (vs := [.slice none (([] : List Int).length) 0, .int .i64 5]) hF rfl (rv_t (by kernel_rfl) <| rv_t (by kernel_rfl) <| rv_nil) rfl ⟨_, rfl, none, 0, rfl, hS⟩
    · replace hm := if_f hm hb
      refine wp_skip ?_
      refine then_n ?_
      exact ⟨hF.weak [0, 3] (by kernel_rfl), hS, hm⟩

noncomputable def gameroomlaw_sameInts_J4 (i1 : Int) : Option (St Int (Fl Unit Bool)) :=
  some (.next (w64 (i1 + 1)))

noncomputable def gameroomlaw_sameInts_J3 (a1 : List Int) (b1 : List Int) (i1 : Int) : Option (St Int (Fl Unit Bool)) :=
  asrt (0 ≤ i1 ∧ i1 < (a1.length : Int)) <| asrt (0 ≤ i1 ∧ i1 < (b1.length : Int)) <| if ((geti a1 i1) != (geti b1 i1)) then (some (.done (.ret false))) else ((gameroomlaw_sameInts_J4 i1))

noncomputable def gameroomlaw_sameInts_J2 : Option Bool :=
  some true

noncomputable def gameroomlaw_sameInts_K1 : (Fl Unit Bool) → Option Bool :=
  fun (x : (Fl Unit Bool)) => match x with | .go _ => gameroomlaw_sameInts_J2 | .ret x => some x

noncomputable def gameroomlaw_sameInts_L1 (a1 : List Int) (b1 : List Int) : Int → Option (St Int (Fl Unit Bool)) :=
  fun (x : Int) => match x with | i1 => if (decide (i1 < (a1.length : Int))) then ((gameroomlaw_sameInts_J3 a1 b1 i1)) else (some (.done (.go ())))

noncomputable def gameroomlaw_sameInts_J1 (a1 : List Int) (b1 : List Int) : Option Bool :=
  (loop (gameroomlaw_sameInts_L1 a1 b1) 0).bind gameroomlaw_sameInts_K1

noncomputable def gameroomlaw_sameInts_m (a1 : List Int) (b1 : List Int) : Option Bool :=
  if ((a1.length : Int) != (b1.length : Int)) then (some false) else ((gameroomlaw_sameInts_J1 a1 b1))

set_option maxRecDepth 100000 in
set_option maxHeartbeats 4000000 in
theorem gameroomlaw_sameInts_w {A1 : Option Addr} {c1 : Nat} {n1 : Nat} {a1 : List Int} {A2 : Option Addr} {c2 : Nat} {n2 : Nat} {b1 : List Int} {r : Bool} {w0 w : World} {B : Nat} {fs : List HP} (hm : gameroomlaw_sameInts_m a1 b1 = some r) (hS : Sep w0 B w (fs)) (hr_a1 : RdF w0 B fs A1 (vI a1)) (_hc_a1 : a1.length ≤ c1) (_hn_a1 : n1 = a1.length) (hr_b1 : RdF w0 B fs A2 (vI b1)) (_hc_b1 : b1.length ≤ c2) (_hn_b1 : n2 = b1.length) :
    Calls Try.prog 36 #[.slice A1 n1 c1, .slice A2 n2 c2] w fun e w' => e = .returned (.bool r) ∧ Sep w0 B w' (fs) := by
  obtain ⟨i3, hi3, hz3, hs3, hb3⟩ := info_parts Info3
  obtain rfl := _hn_a1
  obtain rfl := _hn_b1
  unfold gameroomlaw_sameInts_m at hm
  replace hm := start_b hm
  refine enter (l := [.slice A1 a1.length c1, .slice A2 b1.length c2]) (n := 26) Try.func36 rfl rfl (by simp) (fun a hF => ?_)
  refine reg [] [] [0, 1] [pl 0 (.slice A1 a1.length c1), pl 1 (.slice A2 b1.length c2)] hF hS Fol (by kernel_rfl) (by kernel_rfl) (by kernel_rfl) ?_ (fun a w hF hS => ?_)
  · exact obs_nil
  refine seq_cut (fun a w => Fr 26 [pl 0 (.slice A1 a1.length c1), pl 1 (.slice A2 b1.length c2)] a ∧ Sep w0 B w (fs) ∧ ((gameroomlaw_sameInts_J1 a1 b1)).bind some = some r) ?_ ?_
  · rintro a w ⟨hF, hS, hm⟩
    unfold gameroomlaw_sameInts_J1 at hm
    refine seq_cut (fun a w => Fr 26 [] a ∧ Sep w0 B w (fs) ∧ (gameroomlaw_sameInts_J2).bind some = some r) ?_ ?_
    · rintro a w ⟨hF, hS, hm⟩
      unfold gameroomlaw_sameInts_J2 at hm
      refine reg [] [] [4] [pl 4 (.bool true)] hF hS Fol (by kernel_rfl) (by kernel_rfl) (by kernel_rfl) ?_ (fun a w hF hS => ?_)
      · exact obs_nil
      refine wp_ret ?_
      have hm : some true = some r := hm
      obtain rfl := Option.some.inj hm
      exact retV (rs := [.tmp 4]) (vs := [.bool true]) hF rfl (rv_t (by kernel_rfl) <| rv_nil) rfl ⟨rfl, hS⟩
    · refine reg [] [] [0, 1, 5] [pl 0 (.slice A1 a1.length c1), pl 1 (.slice A2 b1.length c2), pl 5 (.int .i64 0)] hF hS Fol (by kernel_rfl) (by kernel_rfl) (by kernel_rfl) ?_ (fun a w hF hS => ?_)
      · exact obs_nil
      refine wp_block ?_
      refine wp_loop_model (S := Int) (R := (Fl Unit Bool)) (gameroomlaw_sameInts_L1 a1 b1) (fun x => (gameroomlaw_sameInts_K1 x).bind some) r (fun (x : Int) a w => Fr 26 [pl 0 (.slice A1 a1.length c1), pl 1 (.slice A2 b1.length c2), pl 5 (.int .i64 x)] a ∧ Sep w0 B w (fs)) (assoc_b hm) ⟨hF.weak [0, 1, 5] (by kernel_rfl), hS⟩ ?_
      clear hF hS hm
      rintro nn1 i1 a w ⟨hF, hS⟩ hm
      generalize hφ1 : stK (gameroomlaw_sameInts_L1 a1 b1) nn1 (fun x => (gameroomlaw_sameInts_K1 x).bind some) = φ1 at hm
      unfold gameroomlaw_sameInts_L1 at hm
      dsimp only at hm
      refine seq_cut (fun a w => Fr 26 [pl 0 (.slice A1 a1.length c1), pl 1 (.slice A2 b1.length c2), pl 5 (.int .i64 i1)] a ∧ Sep w0 B w (fs) ∧ ((gameroomlaw_sameInts_J3 a1 b1 i1)).bind φ1 = some r) ?_ ?_
      · rintro a w ⟨hF, hS, hm⟩
        unfold gameroomlaw_sameInts_J3 at hm
        refine seq_cut (fun a w => Fr 26 [pl 0 (.slice A1 a1.length c1), pl 1 (.slice A2 b1.length c2), pl 5 (.int .i64 i1)] a ∧ Sep w0 B w (fs) ∧ ((gameroomlaw_sameInts_J4 i1)).bind φ1 = some r) ?_ ?_
        · rintro a w ⟨hF, hS, hm⟩
          unfold gameroomlaw_sameInts_J4 at hm
          refine reg1 [] [] [0, 1, 5] [pl 0 (.slice A1 a1.length c1), pl 1 (.slice A2 b1.length c2), pl 5 (.int .i64 (w64 (i1 + 1)))] hF hS Fol (by kernel_rfl) (by kernel_rfl) (by kernel_rfl) ?_ (fun a w hF hS => ?_)
          · exact obs_nil
          refine then_n ?_
          rw [← hφ1] at hm
          exact ⟨(w64 (i1 + 1)), ⟨hF.weak [0, 1, 5] (by kernel_rfl), hS⟩, hm⟩
        · refine wp_block ?_
          obtain ⟨hp1, hm⟩ := asrt_b hm
          obtain ⟨hp2, hm⟩ := asrt_b hm
          refine reg [⟨true, [], vS (Instr.indexAt 40 (.slice A1 a1.length c1) (.int .i64 i1)), .pointer (some (sAddr A1 i1))⟩, ⟨false, [], vS (Instr.loadAt 3 (.pointer (some (sAddr A1 i1)))), .int .i64 (geti a1 i1)⟩, ⟨true, [], vS (Instr.indexAt 40 (.slice A2 b1.length c2) (.int .i64 i1)), .pointer (some (sAddr A2 i1))⟩, ⟨false, [], vS (Instr.loadAt 3 (.pointer (some (sAddr A2 i1)))), .int .i64 (geti b1 i1)⟩] [none, none, some (.pointer (some (sAddr A1 i1))), some (.int .i64 (geti a1 i1)), none, none, some (.pointer (some (sAddr A2 i1))), some (.int .i64 (geti b1 i1)), none] [0, 1, 5, 25] [pl 0 (.slice A1 a1.length c1), pl 1 (.slice A2 b1.length c2), pl 5 (.int .i64 i1), pl 25 (.bool ((geti a1 i1) != (geti b1 i1)))] hF hS Fol (by kernel_rfl) (by kernel_rfl) (by kernel_rfl) ?_ (fun a w hF hS => ?_)
          · exact obs_cons (ob_ix1 (f := (Value.int .i64)) (m := a1) Und40 hi3 hs3 (hr_a1 _ (hS.dropN 0)) rfl (fun _ => hp1)) <| obs_cons (ob_get1 (n := a1.length) (m := a1) (Value.int .i64) (0 : Int) Agg3 (fun _ hS => ⟨_, (hr_a1 _ (hS.dropN 0))⟩) (fun _ hS => rfl) (fun _ => hp1)) <| obs_cons (ob_ix1 (f := (Value.int .i64)) (m := b1) Und40 hi3 hs3 (hr_b1 _ (hS.dropN 0)) rfl (fun _ => hp2)) <| obs_cons (ob_get1 (n := b1.length) (m := b1) (Value.int .i64) (0 : Int) Agg3 (fun _ hS => ⟨_, (hr_b1 _ (hS.dropN 0))⟩) (fun _ hS => rfl) (fun _ => hp2)) <| obs_nil
          refine cond_ev (t := 25) (b := ((geti a1 i1) != (geti b1 i1))) hF (by kernel_rfl) (fun hb => ?_) (fun hb => ?_)
          · replace hm := if_t hm hb
            refine reg [] [] [4] [pl 4 (.bool false)] hF hS Fol (by kernel_rfl) (by kernel_rfl) (by kernel_rfl) ?_ (fun a w hF hS => ?_)
            · exact obs_nil
            refine wp_ret ?_
            refine block_r (then_r (then_r (block_r (then_r ?_))))
            rw [← hφ1] at hm
            replace hm := done_b hm
            unfold gameroomlaw_sameInts_K1 at hm
            try dsimp only at hm
            have hm : some false = some r := hm
            obtain rfl := Option.some.inj hm
            exact retV (rs := [.tmp 4]) (vs := [.bool false]) hF rfl (rv_t (by kernel_rfl) <| rv_nil) rfl ⟨rfl, hS⟩
          · replace hm := if_f hm hb
            refine wp_skip ?_
            refine block_n ?_
            refine then_n ?_
            exact ⟨hF.weak [0, 1, 5] (by kernel_rfl), hS, hm⟩
      · refine reg [] [] [0, 1, 5, 14] [pl 0 (.slice A1 a1.length c1), pl 1 (.slice A2 b1.length c2), pl 5 (.int .i64 i1), pl 14 (.bool (decide (i1 < (a1.length : Int))))] hF hS Fol (by kernel_rfl) (by kernel_rfl) (by kernel_rfl) ?_ (fun a w hF hS => ?_)
        · exact obs_nil
        refine cond_ev (t := 14) (b := decide (i1 < (a1.length : Int))) hF (by kernel_rfl) (fun hb => ?_) (fun hb => ?_)
        · replace hm := if_t hm hb
          refine wp_skip ?_
          refine then_n ?_
          exact ⟨hF.weak [0, 1, 5] (by kernel_rfl), hS, hm⟩
        · replace hm := if_f hm hb
          refine wp_exit ?_
          refine then_e (then_e (block_e (then_n ?_)))
          rw [← hφ1] at hm
          replace hm := done_b hm
          unfold gameroomlaw_sameInts_K1 at hm
          try dsimp only at hm
          have hm : (gameroomlaw_sameInts_J2).bind some = some r := hm
          exact ⟨hF.weak [] (by kernel_rfl), hS, hm⟩
  · refine reg [] [] [0, 1, 10] [pl 0 (.slice A1 a1.length c1), pl 1 (.slice A2 b1.length c2), pl 10 (.bool ((a1.length : Int) != (b1.length : Int)))] hF hS Fol (by kernel_rfl) (by kernel_rfl) (by kernel_rfl) ?_ (fun a w hF hS => ?_)
    · exact obs_nil
    refine cond_ev (t := 10) (b := ((a1.length : Int) != (b1.length : Int))) hF (by kernel_rfl) (fun hb => ?_) (fun hb => ?_)
    · replace hm := if_t hm hb
      refine reg [] [] [4] [pl 4 (.bool false)] hF hS Fol (by kernel_rfl) (by kernel_rfl) (by kernel_rfl) ?_ (fun a w hF hS => ?_)
      · exact obs_nil
      refine wp_ret ?_
      refine then_r ?_
      have hm : some false = some r := hm
      obtain rfl := Option.some.inj hm
      exact retV (rs := [.tmp 4]) (vs := [.bool false]) hF rfl (rv_t (by kernel_rfl) <| rv_nil) rfl ⟨rfl, hS⟩
    · replace hm := if_f hm hb
      refine wp_skip ?_
      refine then_n ?_
      exact ⟨hF.weak [0, 1] (by kernel_rfl), hS, hm⟩

noncomputable def gameroomref_DiscState_J2 (rec_gameroomref_DiscState : Int → Int → Int → Int → Option (List Int)) (n1 : Int) (from1 : Int) (to1 : Int) (k1 : Int) : Option (List Int) :=
  (rec_gameroomref_DiscState (w64 (n1 - 1)) (w64 ((w64 (3 - from1)) - to1)) to1 (w64 (k1 - (shlK .i64 1 (w64 (n1 - 1)))))).bind fun r2 => asrt ((r2.length : Int) + 1 ≤ bigN) <| some (r2 ++ ([to1] : List Int))

noncomputable def gameroomref_DiscState_J1 (rec_gameroomref_DiscState : Int → Int → Int → Int → Option (List Int)) (n1 : Int) (from1 : Int) (to1 : Int) (k1 : Int) : Option (List Int) :=
  asrt ((0 : Int) ≤ (w64 (n1 - 1))) <| if (decide (k1 < (shlK .i64 1 (w64 (n1 - 1))))) then ((rec_gameroomref_DiscState (w64 (n1 - 1)) from1 (w64 ((w64 (3 - from1)) - to1)) k1).bind fun r1 => asrt ((r1.length : Int) + 1 ≤ bigN) <| some (r1 ++ ([from1] : List Int))) else ((gameroomref_DiscState_J2 rec_gameroomref_DiscState n1 from1 to1 k1))

noncomputable def gameroomref_DiscState_B (rec_gameroomref_DiscState : Int → Int → Int → Int → Option (List Int)) (n1 : Int) (from1 : Int) (to1 : Int) (k1 : Int) : Option (List Int) :=
  if (n1 == 0) then (some ([] : List Int)) else ((gameroomref_DiscState_J1 rec_gameroomref_DiscState n1 from1 to1 k1))

noncomputable def gameroomref_DiscState_mF : Nat → Int → Int → Int → Int → Option (List Int)
  | 0 => fun _ _ _ _ => none
  | n + 1 => fun n1 from1 to1 k1 => gameroomref_DiscState_B (gameroomref_DiscState_mF n) n1 from1 to1 k1

noncomputable def gameroomref_DiscState_m (n1 : Int) (from1 : Int) (to1 : Int) (k1 : Int) : Option (List Int) :=
  recM fun n => gameroomref_DiscState_mF n n1 from1 to1 k1

set_option maxRecDepth 100000 in
set_option maxHeartbeats 4000000 in
theorem gameroomref_DiscState_wB {rec_gameroomref_DiscState : Int → Int → Int → Int → Option (List Int)} (ih_gameroomref_DiscState : ∀ {n1 : Int} {from1 : Int} {to1 : Int} {k1 : Int} {r : (List Int)} {w0 w : World} {B : Nat} {fs : List HP} (_ : rec_gameroomref_DiscState n1 from1 to1 k1 = some r) (_ : Sep w0 B w (fs)), Calls Try.prog 54 #[.int .i64 n1, .int .i64 from1, .int .i64 to1, .int .i64 k1] w fun e w' => ∃ v, e = .returned v ∧ ∃ (A5 : Option Addr) (c5 : Nat), v = .slice A5 r.length c5 ∧ Sep w0 B w' (own 3 (.slice A5 r.length c5) (vI r) :: fs)) {n1 : Int} {from1 : Int} {to1 : Int} {k1 : Int} {r : (List Int)} {w0 w : World} {B : Nat} {fs : List HP} (hm : gameroomref_DiscState_B rec_gameroomref_DiscState n1 from1 to1 k1 = some r) (hS : Sep w0 B w (fs)) :
    Calls Try.prog 54 #[.int .i64 n1, .int .i64 from1, .int .i64 to1, .int .i64 k1] w fun e w' => ∃ v, e = .returned v ∧ ∃ (A5 : Option Addr) (c5 : Nat), v = .slice A5 r.length c5 ∧ Sep w0 B w' (own 3 (.slice A5 r.length c5) (vI r) :: fs) := by
  obtain ⟨i3, hi3, hz3, hs3, hb3⟩ := info_parts Info3
  unfold gameroomref_DiscState_B at hm
  replace hm := start_b hm
  refine enter (l := [.int .i64 n1, .int .i64 from1, .int .i64 to1, .int .i64 k1]) (n := 43) Try.func54 rfl rfl (by simp) (fun a hF => ?_)
  refine reg [] [] [0, 1, 2, 3] [pl 0 (.int .i64 n1), pl 1 (.int .i64 from1), pl 2 (.int .i64 to1), pl 3 (.int .i64 k1)] hF hS Fol (by kernel_rfl) (by kernel_rfl) (by kernel_rfl) ?_ (fun a w hF hS => ?_)
  · exact obs_nil
  refine seq_cut (fun a w => Fr 43 [pl 0 (.int .i64 n1), pl 1 (.int .i64 from1), pl 2 (.int .i64 to1), pl 3 (.int .i64 k1)] a ∧ Sep w0 B w (fs) ∧ ((gameroomref_DiscState_J1 rec_gameroomref_DiscState n1 from1 to1 k1)).bind some = some r) ?_ ?_
  · rintro a w ⟨hF, hS, hm⟩
    unfold gameroomref_DiscState_J1 at hm
    refine reg [] [] [0, 1, 2, 3, 9] [pl 0 (.int .i64 n1), pl 1 (.int .i64 from1), pl 2 (.int .i64 to1), pl 3 (.int .i64 k1), pl 9 (.int .i64 (w64 ((w64 (3 - from1)) - to1)))] hF hS Fol (by kernel_rfl) (by kernel_rfl) (by kernel_rfl) ?_ (fun a w hF hS => ?_)
    · exact obs_nil
    obtain ⟨hp1, hm⟩ := asrt_b hm
    refine reg [⟨true, [], vS (Op.shift .shl .i64 1 .i64 (w64 (n1 - 1))), .int .i64 (shlK .i64 1 (w64 (n1 - 1)))⟩] [none, none, some (.int .i64 (shlK .i64 1 (w64 (n1 - 1)))), none] [0, 1, 2, 3, 9, 10] [pl 0 (.int .i64 n1), pl 1 (.int .i64 from1), pl 2 (.int .i64 to1), pl 3 (.int .i64 k1), pl 9 (.int .i64 (w64 ((w64 (3 - from1)) - to1))), pl 10 (.int .i64 (shlK .i64 1 (w64 (n1 - 1))))] hF hS Fol (by kernel_rfl) (by kernel_rfl) (by kernel_rfl) ?_ (fun a w hF hS => ?_)
    · exact obs_cons (ob_shl (fun _ => hp1)) <| obs_nil
    refine seq_cut (fun a w => Fr 43 [pl 0 (.int .i64 n1), pl 2 (.int .i64 to1), pl 3 (.int .i64 k1), pl 9 (.int .i64 (w64 ((w64 (3 - from1)) - to1))), pl 10 (.int .i64 (shlK .i64 1 (w64 (n1 - 1))))] a ∧ Sep w0 B w (fs) ∧ ((gameroomref_DiscState_J2 rec_gameroomref_DiscState n1 from1 to1 k1)).bind some = some r) ?_ ?_
    · rintro a w ⟨hF, hS, hm⟩
      unfold gameroomref_DiscState_J2 at hm
      refine seqR ?_
      obtain ⟨r2, hr2, hm⟩ := call_b hm
      obtain ⟨hp3, hm⟩ := asrt_b hm
      refine at_run 7 [] [] [2, 33, 34, 35, 38] [pl 2 (.int .i64 to1), pl 33 (.int .i64 (w64 (n1 - 1))), pl 34 (.int .i64 (w64 ((w64 (3 - from1)) - to1))), pl 35 (.int .i64 to1), pl 38 (.int .i64 (w64 (k1 - (shlK .i64 1 (w64 (n1 - 1))))))] hF hS (by kernel_rfl) (by kernel_rfl) ?_ (fun a w hF hS => ?_)
      · exact obs_nil
      refine at_call (f := 54) (args := #[.int .i64 (w64 (n1 - 1)), .int .i64 (w64 ((w64 (3 - from1)) - to1)), .int .i64 to1, .int .i64 (w64 (k1 - (shlK .i64 1 (w64 (n1 - 1)))))]) (d := 39) hF (by kernel_rfl) (by kernel_rfl) Try.func54 (by kernel_rfl) rfl (ih_gameroomref_DiscState hr2 hS ) (fun v a w hR hF => ?_)
      clear hS
      obtain ⟨A3, c3, rfl, hS⟩ := hR
      have hS : Sep w0 B w (own 3 (.slice A3 r2.length c3) (vI r2) :: fs) := hS
      refine at_run 1 [] [] [39, 40] [pl 39 (.slice A3 r2.length c3), pl 40 (.int .i64 to1)] hF hS (by kernel_rfl) (by kernel_rfl) ?_ (fun a w hF hS => ?_)
      · exact obs_nil
      refine at_do (d := 41) (s := vS (Instr.buildSlice 40 1 #[(0, .int .i64 to1)])) (v := .slice (some ⟨w.heap.size, 0, none⟩) 1 1) (w' := w.alloc (.cells #[.int .i64 to1] 3)) hF (by kernel_rfl) (by kernel_rfl) (by kernel_rfl) (fun a hF => ?_)
      have hS : Sep w0 B (w.alloc (.cells #[.int .i64 to1] 3)) (own 3 (.slice (some (⟨w.heap.size, 0, none⟩ : Addr)) 1 1) (vI ([to1] : List Int)) :: (own 3 (.slice A3 r2.length c3) (vI r2) :: fs)) := hS.lit 3 #[.int .i64 to1] 1 rfl (by omega)
      generalize (some (⟨w.heap.size, 0, none⟩ : Addr)) = g2 at hF hS
      generalize w.alloc (.cells #[.int .i64 to1] 3) = w at hS ⊢
      obtain ⟨A4, c4, w, hrun, hS⟩ := run_app1 (P := Try.prog) (t := 40) (m := r2) (ys := ([to1] : List Int)) (A2 := g2) (m2 := 1) (c2 := 1) (Value.int .i64) (0 : Int) (hS.at_ 1 rfl) (hS.at_ 0 rfl).rd ((hS.at_ 0 rfl).len1) 40 Und40 hi3 hz3 hs3 (by omega) rfl (fun _ => rfl) hp3
      have hS : Sep w0 B w (own 3 (.slice g2 1 1) (vI ([to1] : List Int)) :: own 3 (.slice A4 ((r2 ++ ([to1] : List Int)).length) c4) (vI (r2 ++ ([to1] : List Int))) :: fs) := hS
      refine at_do (d := 42) hF (by kernel_rfl) (by kernel_rfl) hrun (fun a hF => ?_)
      refine at_run 1 [] [] [8] [pl 8 (.slice A4 ((r2 ++ ([to1] : List Int)).length) c4)] hF hS (by kernel_rfl) (by kernel_rfl) ?_ (fun a w hF hS => ?_)
      · exact obs_nil
      refine at_end [8] [pl 8 (.slice A4 ((r2 ++ ([to1] : List Int)).length) c4)] hF rfl (by kernel_rfl) (fun hF => ?_)
      refine then_n ?_
      refine wp_ret ?_
      have hS := hS.pickN 2 [1] (by decide)
      have hm : some (r2 ++ ([to1] : List Int)) = some r := hm
      obtain rfl := Option.some.inj hm
      exact retV (rs := [.tmp 8]) (vs := [.slice A4 ((r2 ++ ([to1] : List Int)).length) c4]) hF rfl (rv_t (by kernel_rfl) <| rv_nil) rfl ⟨_, rfl, A4, c4, rfl, hS⟩
    · refine reg [] [] [0, 1, 2, 3, 9, 10, 22] [pl 0 (.int .i64 n1), pl 1 (.int .i64 from1), pl 2 (.int .i64 to1), pl 3 (.int .i64 k1), pl 9 (.int .i64 (w64 ((w64 (3 - from1)) - to1))), pl 10 (.int .i64 (shlK .i64 1 (w64 (n1 - 1)))), pl 22 (.bool (decide (k1 < (shlK .i64 1 (w64 (n1 - 1))))))] hF hS Fol (by kernel_rfl) (by kernel_rfl) (by kernel_rfl) ?_ (fun a w hF hS => ?_)
      · exact obs_nil
      refine cond_ev (t := 22) (b := decide (k1 < (shlK .i64 1 (w64 (n1 - 1))))) hF (by kernel_rfl) (fun hb => ?_) (fun hb => ?_)
      · replace hm := if_t hm hb
        refine seqR ?_
        obtain ⟨r1, hr1, hm⟩ := call_b hm
        obtain ⟨hp2, hm⟩ := asrt_b hm
        refine at_run 5 [] [] [1, 24, 25, 26, 27] [pl 1 (.int .i64 from1), pl 24 (.int .i64 (w64 (n1 - 1))), pl 25 (.int .i64 from1), pl 26 (.int .i64 (w64 ((w64 (3 - from1)) - to1))), pl 27 (.int .i64 k1)] hF hS (by kernel_rfl) (by kernel_rfl) ?_ (fun a w hF hS => ?_)
        · exact obs_nil
        refine at_call (f := 54) (args := #[.int .i64 (w64 (n1 - 1)), .int .i64 from1, .int .i64 (w64 ((w64 (3 - from1)) - to1)), .int .i64 k1]) (d := 28) hF (by kernel_rfl) (by kernel_rfl) Try.func54 (by kernel_rfl) rfl (ih_gameroomref_DiscState hr1 hS ) (fun v a w hR hF => ?_)
        clear hS
        obtain ⟨A1, c1, rfl, hS⟩ := hR
        have hS : Sep w0 B w (own 3 (.slice A1 r1.length c1) (vI r1) :: fs) := hS
        refine at_run 1 [] [] [28, 29] [pl 28 (.slice A1 r1.length c1), pl 29 (.int .i64 from1)] hF hS (by kernel_rfl) (by kernel_rfl) ?_ (fun a w hF hS => ?_)
        · exact obs_nil
        refine at_do (d := 30) (s := vS (Instr.buildSlice 40 1 #[(0, .int .i64 from1)])) (v := .slice (some ⟨w.heap.size, 0, none⟩) 1 1) (w' := w.alloc (.cells #[.int .i64 from1] 3)) hF (by kernel_rfl) (by kernel_rfl) (by kernel_rfl) (fun a hF => ?_)
        have hS : Sep w0 B (w.alloc (.cells #[.int .i64 from1] 3)) (own 3 (.slice (some (⟨w.heap.size, 0, none⟩ : Addr)) 1 1) (vI ([from1] : List Int)) :: (own 3 (.slice A1 r1.length c1) (vI r1) :: fs)) := hS.lit 3 #[.int .i64 from1] 1 rfl (by omega)
        generalize (some (⟨w.heap.size, 0, none⟩ : Addr)) = g1 at hF hS
        generalize w.alloc (.cells #[.int .i64 from1] 3) = w at hS ⊢
        obtain ⟨A2, c2, w, hrun, hS⟩ := run_app1 (P := Try.prog) (t := 40) (m := r1) (ys := ([from1] : List Int)) (A2 := g1) (m2 := 1) (c2 := 1) (Value.int .i64) (0 : Int) (hS.at_ 1 rfl) (hS.at_ 0 rfl).rd ((hS.at_ 0 rfl).len1) 40 Und40 hi3 hz3 hs3 (by omega) rfl (fun _ => rfl) hp2
        have hS : Sep w0 B w (own 3 (.slice g1 1 1) (vI ([from1] : List Int)) :: own 3 (.slice A2 ((r1 ++ ([from1] : List Int)).length) c2) (vI (r1 ++ ([from1] : List Int))) :: fs) := hS
        refine at_do (d := 31) hF (by kernel_rfl) (by kernel_rfl) hrun (fun a hF => ?_)
        refine at_run 1 [] [] [8] [pl 8 (.slice A2 ((r1 ++ ([from1] : List Int)).length) c2)] hF hS (by kernel_rfl) (by kernel_rfl) ?_ (fun a w hF hS => ?_)
        · exact obs_nil
        refine at_end [8] [pl 8 (.slice A2 ((r1 ++ ([from1] : List Int)).length) c2)] hF rfl (by kernel_rfl) (fun hF => ?_)
        refine then_n ?_
        refine wp_ret ?_
        refine then_r ?_
        have hS := hS.pickN 2 [1] (by decide)
        have hm : some (r1 ++ ([from1] : List Int)) = some r := hm
        obtain rfl := Option.some.inj hm
        exact retV (rs := [.tmp 8]) (vs := [.slice A2 ((r1 ++ ([from1] : List Int)).length) c2]) hF rfl (rv_t (by kernel_rfl) <| rv_nil) rfl ⟨_, rfl, A2, c2, rfl, hS⟩
      · replace hm := if_f hm hb
        refine wp_skip ?_
        refine then_n ?_
        exact ⟨hF.weak [0, 2, 3, 9, 10] (by kernel_rfl), hS, hm⟩
  · refine reg [] [] [0, 1, 2, 3, 12] [pl 0 (.int .i64 n1), pl 1 (.int .i64 from1), pl 2 (.int .i64 to1), pl 3 (.int .i64 k1), pl 12 (.bool (n1 == 0))] hF hS Fol (by kernel_rfl) (by kernel_rfl) (by kernel_rfl) ?_ (fun a w hF hS => ?_)
    · exact obs_nil
    refine cond_ev (t := 12) (b := (n1 == 0)) hF (by kernel_rfl) (fun hb => ?_) (fun hb => ?_)
    · replace hm := if_t hm hb
      refine reg [] [] [8] [pl 8 (.slice none 0 0)] hF hS Fol (by kernel_rfl) (by kernel_rfl) (by kernel_rfl) ?_ (fun a w hF hS => ?_)
      · exact obs_nil
      refine wp_ret ?_
      refine then_r ?_
      have hS : Sep w0 B w (own 3 (.slice none 0 0) (vI ([] : List Int)) :: fs) := hS.nil 3
      have hl1 := (hS.at_ 0 rfl).len1
      have hS := (hS.at_ 0 rfl).reN hl1
      have hS : Sep w0 B w (own 3 (.slice none (([] : List Int).length) 0) (vI ([] : List Int)) :: fs) := hS
      have hm : some ([] : List Int) = some r := hm
      obtain rfl := Option.some.inj hm
      exact retV (rs := [.tmp 8]) (vs := [.slice none (([] : List Int).length) 0]) hF rfl (rv_t (by kernel_rfl) <| rv_nil) rfl ⟨_, rfl, none, 0, rfl, hS⟩
    · replace hm := if_f hm hb
      refine wp_skip ?_
      refine then_n ?_
      exact ⟨hF.weak [0, 1, 2, 3] (by kernel_rfl), hS, hm⟩

theorem gameroomref_DiscState_w {n1 : Int} {from1 : Int} {to1 : Int} {k1 : Int} {r : (List Int)} {w0 w : World} {B : Nat} {fs : List HP} (hm : gameroomref_DiscState_m n1 from1 to1 k1 = some r) (hS : Sep w0 B w (fs)) :
    Calls Try.prog 54 #[.int .i64 n1, .int .i64 from1, .int .i64 to1, .int .i64 k1] w fun e w' => ∃ v, e = .returned v ∧ ∃ (A5 : Option Addr) (c5 : Nat), v = .slice A5 r.length c5 ∧ Sep w0 B w' (own 3 (.slice A5 r.length c5) (vI r) :: fs) := by
  have key : ∀ (n : Nat) {n1 : Int} {from1 : Int} {to1 : Int} {k1 : Int} {r : (List Int)} {w0 w : World} {B : Nat} {fs : List HP} (_ : gameroomref_DiscState_mF n n1 from1 to1 k1 = some r) (_ : Sep w0 B w (fs)), Calls Try.prog 54 #[.int .i64 n1, .int .i64 from1, .int .i64 to1, .int .i64 k1] w fun e w' => ∃ v, e = .returned v ∧ ∃ (A5 : Option Addr) (c5 : Nat), v = .slice A5 r.length c5 ∧ Sep w0 B w' (own 3 (.slice A5 r.length c5) (vI r) :: fs) := by
    intro n
    induction n with
    | zero => intros; rename_i hm0 _; cases hm0
    | succ n ih => intros; rename_i hm0 hS0; exact gameroomref_DiscState_wB (rec_gameroomref_DiscState := gameroomref_DiscState_mF n) (fun hm hS => ih hm hS) hm0 hS0
  obtain ⟨n, hn⟩ := recM_some hm
  exact key n hn hS

theorem gameroomref_DiscState_J2_le_gameroomref_DiscState {rec_gameroomref_DiscState1 rec_gameroomref_DiscState2 : Int → Int → Int → Int → Option (List Int)} (h_rec_gameroomref_DiscState : ∀ a0 a1 a2 a3, Le (rec_gameroomref_DiscState1 a0 a1 a2 a3) (rec_gameroomref_DiscState2 a0 a1 a2 a3)) (n1 : Int) (from1 : Int) (to1 : Int) (k1 : Int) : Le (gameroomref_DiscState_J2 rec_gameroomref_DiscState1 n1 from1 to1 k1) (gameroomref_DiscState_J2 rec_gameroomref_DiscState2 n1 from1 to1 k1) := by
  unfold gameroomref_DiscState_J2
  repeat' (first | with_reducible exact Le.refl _ | with_reducible exact h_rec_gameroomref_DiscState _ _ _ _ | refine Le.asrt ?_ | refine Le.ite ?_ ?_ | refine Le.bind ?_ (fun _ => ?_) | refine Le.loop2 (fun _ => ?_) | refine Le.elim2 (fun _ => ?_) (fun _ => ?_))

theorem gameroomref_DiscState_J1_le_gameroomref_DiscState {rec_gameroomref_DiscState1 rec_gameroomref_DiscState2 : Int → Int → Int → Int → Option (List Int)} (h_rec_gameroomref_DiscState : ∀ a0 a1 a2 a3, Le (rec_gameroomref_DiscState1 a0 a1 a2 a3) (rec_gameroomref_DiscState2 a0 a1 a2 a3)) (n1 : Int) (from1 : Int) (to1 : Int) (k1 : Int) : Le (gameroomref_DiscState_J1 rec_gameroomref_DiscState1 n1 from1 to1 k1) (gameroomref_DiscState_J1 rec_gameroomref_DiscState2 n1 from1 to1 k1) := by
  unfold gameroomref_DiscState_J1
  repeat' (first | with_reducible exact Le.refl _ | with_reducible exact h_rec_gameroomref_DiscState _ _ _ _ | with_reducible exact gameroomref_DiscState_J2_le_gameroomref_DiscState h_rec_gameroomref_DiscState _ _ _ _ | refine Le.asrt ?_ | refine Le.ite ?_ ?_ | refine Le.bind ?_ (fun _ => ?_) | refine Le.loop2 (fun _ => ?_) | refine Le.elim2 (fun _ => ?_) (fun _ => ?_))

theorem gameroomref_DiscState_B_le {rec_gameroomref_DiscState1 rec_gameroomref_DiscState2 : Int → Int → Int → Int → Option (List Int)} (h_rec_gameroomref_DiscState : ∀ a0 a1 a2 a3, Le (rec_gameroomref_DiscState1 a0 a1 a2 a3) (rec_gameroomref_DiscState2 a0 a1 a2 a3)) (n1 : Int) (from1 : Int) (to1 : Int) (k1 : Int) : Le (gameroomref_DiscState_B rec_gameroomref_DiscState1 n1 from1 to1 k1) (gameroomref_DiscState_B rec_gameroomref_DiscState2 n1 from1 to1 k1) := by
  unfold gameroomref_DiscState_B
  repeat' (first | with_reducible exact Le.refl _ | with_reducible exact h_rec_gameroomref_DiscState _ _ _ _ | with_reducible exact gameroomref_DiscState_J1_le_gameroomref_DiscState h_rec_gameroomref_DiscState _ _ _ _ | refine Le.asrt ?_ | refine Le.ite ?_ ?_ | refine Le.bind ?_ (fun _ => ?_) | refine Le.loop2 (fun _ => ?_) | refine Le.elim2 (fun _ => ?_) (fun _ => ?_))

theorem gameroomref_DiscState_mF_le : ∀ (n : Nat) (n1 : Int) (from1 : Int) (to1 : Int) (k1 : Int), Le (gameroomref_DiscState_mF n n1 from1 to1 k1) (gameroomref_DiscState_mF (n + 1) n1 from1 to1 k1)
  | 0, _, _, _, _ => fun _ h => by cases h
  | n + 1, _, _, _, _ => gameroomref_DiscState_B_le (fun a0 a1 a2 a3 => gameroomref_DiscState_mF_le n a0 a1 a2 a3) _ _ _ _

theorem gameroomref_DiscState_m_of (N : Nat) (n1 : Int) (from1 : Int) (to1 : Int) (k1 : Int) {r : (List Int)} (h : gameroomref_DiscState_mF N n1 from1 to1 k1 = some r) : gameroomref_DiscState_m n1 from1 to1 k1 = some r :=
  recM_mono (fun n => gameroomref_DiscState_mF_le n _ _ _ _) h

noncomputable def gameroomlaw_regular_J3 (i1 : Int) (from2 : Int) (to2 : Int) : Option (St (Int × Int × Int) (Fl Unit Bool)) :=
  some (.next (from2, to2, (w64 (i1 - 1))))

noncomputable def gameroomlaw_regular_J4 (s1 : List Int) (from1 : Int) (to1 : Int) (i1 : Int) : Option (St (Int × Int × Int) (Fl Unit Bool)) :=
  asrt (0 ≤ i1 ∧ i1 < (s1.length : Int)) <| if ((geti s1 i1) == from1) then ((gameroomlaw_regular_J3 i1) from1 (w64 ((w64 (3 - from1)) - to1))) else ((gameroomlaw_regular_J3 i1) (w64 ((w64 (3 - from1)) - to1)) to1)

noncomputable def gameroomlaw_regular_J2 (s1 : List Int) (from1 : Int) (to1 : Int) (i1 : Int) : Option (St (Int × Int × Int) (Fl Unit Bool)) :=
  asrt (0 ≤ i1 ∧ i1 < (s1.length : Int)) <| if ((geti s1 i1) == (w64 ((w64 (3 - from1)) - to1))) then (some (.done (.ret false))) else ((gameroomlaw_regular_J4 s1 from1 to1 i1))

noncomputable def gameroomlaw_regular_J1 : Option Bool :=
  some true

noncomputable def gameroomlaw_regular_K1 : (Fl Unit Bool) → Option Bool :=
  fun (x : (Fl Unit Bool)) => match x with | .go _ => gameroomlaw_regular_J1 | .ret x => some x

noncomputable def gameroomlaw_regular_L1 (s1 : List Int) : (Int × Int × Int) → Option (St (Int × Int × Int) (Fl Unit Bool)) :=
  fun (x : (Int × Int × Int)) => match x with | (from1, to1, i1) => if (decide ((0 : Int) ≤ i1)) then ((gameroomlaw_regular_J2 s1 from1 to1 i1)) else (some (.done (.go ())))

noncomputable def gameroomlaw_regular_m (s1 : List Int) : Option Bool :=
  (loop (gameroomlaw_regular_L1 s1) (0, 2, (w64 ((s1.length : Int) - 1)))).bind gameroomlaw_regular_K1

set_option maxRecDepth 100000 in
set_option maxHeartbeats 4000000 in
theorem gameroomlaw_regular_w {A1 : Option Addr} {c1 : Nat} {n1 : Nat} {s1 : List Int} {r : Bool} {w0 w : World} {B : Nat} {fs : List HP} (hm : gameroomlaw_regular_m s1 = some r) (hS : Sep w0 B w (fs)) (hr_s1 : RdF w0 B fs A1 (vI s1)) (_hc_s1 : s1.length ≤ c1) (_hn_s1 : n1 = s1.length) :
    Calls Try.prog 55 #[.slice A1 n1 c1] w fun e w' => e = .returned (.bool r) ∧ Sep w0 B w' (fs) := by
  obtain ⟨i3, hi3, hz3, hs3, hb3⟩ := info_parts Info3
  obtain rfl := _hn_s1
  unfold gameroomlaw_regular_m at hm
  replace hm := start_b hm
  refine enter (l := [.slice A1 s1.length c1]) (n := 32) Try.func55 rfl rfl (by simp) (fun a hF => ?_)
  refine reg [] [] [0] [pl 0 (.slice A1 s1.length c1)] hF hS Fol (by kernel_rfl) (by kernel_rfl) (by kernel_rfl) ?_ (fun a w hF hS => ?_)
  · exact obs_nil
  refine reg [] [] [0, 3, 4] [pl 0 (.slice A1 s1.length c1), pl 3 (.int .i64 0), pl 4 (.int .i64 2)] hF hS Fol (by kernel_rfl) (by kernel_rfl) (by kernel_rfl) ?_ (fun a w hF hS => ?_)
  · exact obs_nil
  refine seq_cut (fun a w => Fr 32 [] a ∧ Sep w0 B w (fs) ∧ (gameroomlaw_regular_J1).bind some = some r) ?_ ?_
  · rintro a w ⟨hF, hS, hm⟩
    unfold gameroomlaw_regular_J1 at hm
    refine reg [] [] [2] [pl 2 (.bool true)] hF hS Fol (by kernel_rfl) (by kernel_rfl) (by kernel_rfl) ?_ (fun a w hF hS => ?_)
    · exact obs_nil
    refine wp_ret ?_
    have hm : some true = some r := hm
    obtain rfl := Option.some.inj hm
    exact retV (rs := [.tmp 2]) (vs := [.bool true]) hF rfl (rv_t (by kernel_rfl) <| rv_nil) rfl ⟨rfl, hS⟩
  · refine reg [] [] [0, 3, 4, 5] [pl 0 (.slice A1 s1.length c1), pl 3 (.int .i64 0), pl 4 (.int .i64 2), pl 5 (.int .i64 (w64 ((s1.length : Int) - 1)))] hF hS Fol (by kernel_rfl) (by kernel_rfl) (by kernel_rfl) ?_ (fun a w hF hS => ?_)
    · exact obs_nil
    refine wp_block ?_
    refine wp_loop_model (S := (Int × Int × Int)) (R := (Fl Unit Bool)) (gameroomlaw_regular_L1 s1) (fun x => (gameroomlaw_regular_K1 x).bind some) r (fun (x : (Int × Int × Int)) a w => Fr 32 [pl 0 (.slice A1 s1.length c1), pl 3 (.int .i64 x.1), pl 4 (.int .i64 x.2.1), pl 5 (.int .i64 x.2.2)] a ∧ Sep w0 B w (fs)) (assoc_b hm) ⟨hF.weak [0, 3, 4, 5] (by kernel_rfl), hS⟩ ?_
    clear hF hS hm
    rintro nn1 ⟨from1, to1, i1⟩ a w ⟨hF, hS⟩ hm
    generalize hφ1 : stK (gameroomlaw_regular_L1 s1) nn1 (fun x => (gameroomlaw_regular_K1 x).bind some) = φ1 at hm
    unfold gameroomlaw_regular_L1 at hm
    dsimp only at hF hS hm
    refine seq_cut (fun a w => Fr 32 [pl 0 (.slice A1 s1.length c1), pl 3 (.int .i64 from1), pl 4 (.int .i64 to1), pl 5 (.int .i64 i1)] a ∧ Sep w0 B w (fs) ∧ ((gameroomlaw_regular_J2 s1 from1 to1 i1)).bind φ1 = some r) ?_ ?_
    · rintro a w ⟨hF, hS, hm⟩
      unfold gameroomlaw_regular_J2 at hm
      refine seq_cut (fun a w => ∃ (from2 : Int) (to2 : Int), Fr 32 [pl 0 (.slice A1 s1.length c1), pl 3 (.int .i64 from2), pl 4 (.int .i64 to2), pl 5 (.int .i64 i1)] a ∧ Sep w0 B w (fs) ∧ ((gameroomlaw_regular_J3 i1) from2 to2).bind φ1 = some r) ?_ ?_
      · rintro a w ⟨from2, to2, hF, hS, hm⟩
        unfold gameroomlaw_regular_J3 at hm
        refine reg1 [] [] [0, 3, 4, 5] [pl 0 (.slice A1 s1.length c1), pl 3 (.int .i64 from2), pl 4 (.int .i64 to2), pl 5 (.int .i64 (w64 (i1 - 1)))] hF hS Fol (by kernel_rfl) (by kernel_rfl) (by kernel_rfl) ?_ (fun a w hF hS => ?_)
        · exact obs_nil
        refine then_n ?_
        rw [← hφ1] at hm
        exact ⟨(from2, to2, (w64 (i1 - 1))), ⟨hF.weak [0, 3, 4, 5] (by kernel_rfl), hS⟩, hm⟩
      · refine wp_block ?_
        refine reg [] [] [0, 3, 4, 5, 6] [pl 0 (.slice A1 s1.length c1), pl 3 (.int .i64 from1), pl 4 (.int .i64 to1), pl 5 (.int .i64 i1), pl 6 (.int .i64 (w64 ((w64 (3 - from1)) - to1)))] hF hS Fol (by kernel_rfl) (by kernel_rfl) (by kernel_rfl) ?_ (fun a w hF hS => ?_)
        · exact obs_nil
        refine seq_cut (fun a w => Fr 32 [pl 0 (.slice A1 s1.length c1), pl 3 (.int .i64 from1), pl 4 (.int .i64 to1), pl 5 (.int .i64 i1), pl 6 (.int .i64 (w64 ((w64 (3 - from1)) - to1)))] a ∧ Sep w0 B w (fs) ∧ ((gameroomlaw_regular_J4 s1 from1 to1 i1)).bind φ1 = some r) ?_ ?_
        · rintro a w ⟨hF, hS, hm⟩
          unfold gameroomlaw_regular_J4 at hm
          obtain ⟨hp2, hm⟩ := asrt_b hm
          refine reg [⟨true, [], vS (Instr.indexAt 40 (.slice A1 s1.length c1) (.int .i64 i1)), .pointer (some (sAddr A1 i1))⟩, ⟨false, [], vS (Instr.loadAt 3 (.pointer (some (sAddr A1 i1)))), .int .i64 (geti s1 i1)⟩] [none, none, some (.pointer (some (sAddr A1 i1))), some (.int .i64 (geti s1 i1)), none, none] [0, 3, 4, 5, 6, 29] [pl 0 (.slice A1 s1.length c1), pl 3 (.int .i64 from1), pl 4 (.int .i64 to1), pl 5 (.int .i64 i1), pl 6 (.int .i64 (w64 ((w64 (3 - from1)) - to1))), pl 29 (.bool ((geti s1 i1) == from1))] hF hS Fol (by kernel_rfl) (by kernel_rfl) (by kernel_rfl) ?_ (fun a w hF hS => ?_)
          · exact obs_cons (ob_ix1 (f := (Value.int .i64)) (m := s1) Und40 hi3 hs3 (hr_s1 _ (hS.dropN 0)) rfl (fun _ => hp2)) <| obs_cons (ob_get1 (n := s1.length) (m := s1) (Value.int .i64) (0 : Int) Agg3 (fun _ hS => ⟨_, (hr_s1 _ (hS.dropN 0))⟩) (fun _ hS => rfl) (fun _ => hp2)) <| obs_nil
          refine cond_ev (t := 29) (b := ((geti s1 i1) == from1)) hF (by kernel_rfl) (fun hb => ?_) (fun hb => ?_)
          · replace hm := if_t hm hb
            refine reg1 [] [] [0, 3, 4, 5] [pl 0 (.slice A1 s1.length c1), pl 3 (.int .i64 from1), pl 4 (.int .i64 (w64 ((w64 (3 - from1)) - to1))), pl 5 (.int .i64 i1)] hF hS Fol (by kernel_rfl) (by kernel_rfl) (by kernel_rfl) ?_ (fun a w hF hS => ?_)
            · exact obs_nil
            refine block_n ?_
            refine then_n ?_
            exact ⟨from1, (w64 ((w64 (3 - from1)) - to1)), hF.weak [0, 3, 4, 5] (by kernel_rfl), hS, hm⟩
          · replace hm := if_f hm hb
            refine reg1 [] [] [0, 3, 4, 5] [pl 0 (.slice A1 s1.length c1), pl 3 (.int .i64 (w64 ((w64 (3 - from1)) - to1))), pl 4 (.int .i64 to1), pl 5 (.int .i64 i1)] hF hS Fol (by kernel_rfl) (by kernel_rfl) (by kernel_rfl) ?_ (fun a w hF hS => ?_)
            · exact obs_nil
            refine block_n ?_
            refine then_n ?_
            exact ⟨(w64 ((w64 (3 - from1)) - to1)), to1, hF.weak [0, 3, 4, 5] (by kernel_rfl), hS, hm⟩
        · obtain ⟨hp1, hm⟩ := asrt_b hm
          refine reg [⟨true, [], vS (Instr.indexAt 40 (.slice A1 s1.length c1) (.int .i64 i1)), .pointer (some (sAddr A1 i1))⟩, ⟨false, [], vS (Instr.loadAt 3 (.pointer (some (sAddr A1 i1)))), .int .i64 (geti s1 i1)⟩] [none, none, some (.pointer (some (sAddr A1 i1))), some (.int .i64 (geti s1 i1)), none, none] [0, 3, 4, 5, 6, 23] [pl 0 (.slice A1 s1.length c1), pl 3 (.int .i64 from1), pl 4 (.int .i64 to1), pl 5 (.int .i64 i1), pl 6 (.int .i64 (w64 ((w64 (3 - from1)) - to1))), pl 23 (.bool ((geti s1 i1) == (w64 ((w64 (3 - from1)) - to1))))] hF hS Fol (by kernel_rfl) (by kernel_rfl) (by kernel_rfl) ?_ (fun a w hF hS => ?_)
          · exact obs_cons (ob_ix1 (f := (Value.int .i64)) (m := s1) Und40 hi3 hs3 (hr_s1 _ (hS.dropN 0)) rfl (fun _ => hp1)) <| obs_cons (ob_get1 (n := s1.length) (m := s1) (Value.int .i64) (0 : Int) Agg3 (fun _ hS => ⟨_, (hr_s1 _ (hS.dropN 0))⟩) (fun _ hS => rfl) (fun _ => hp1)) <| obs_nil
          refine cond_ev (t := 23) (b := ((geti s1 i1) == (w64 ((w64 (3 - from1)) - to1)))) hF (by kernel_rfl) (fun hb => ?_) (fun hb => ?_)
          · replace hm := if_t hm hb
            refine reg [] [] [2] [pl 2 (.bool false)] hF hS Fol (by kernel_rfl) (by kernel_rfl) (by kernel_rfl) ?_ (fun a w hF hS => ?_)
            · exact obs_nil
            refine wp_ret ?_
            refine then_r (block_r (then_r (then_r (block_r (then_r ?_)))))
            rw [← hφ1] at hm
            replace hm := done_b hm
            unfold gameroomlaw_regular_K1 at hm
            try dsimp only at hm
            have hm : some false = some r := hm
            obtain rfl := Option.some.inj hm
            exact retV (rs := [.tmp 2]) (vs := [.bool false]) hF rfl (rv_t (by kernel_rfl) <| rv_nil) rfl ⟨rfl, hS⟩
          · replace hm := if_f hm hb
            refine wp_skip ?_
            refine then_n ?_
            exact ⟨hF.weak [0, 3, 4, 5, 6] (by kernel_rfl), hS, hm⟩
    · refine reg [] [] [0, 3, 4, 5, 11] [pl 0 (.slice A1 s1.length c1), pl 3 (.int .i64 from1), pl 4 (.int .i64 to1), pl 5 (.int .i64 i1), pl 11 (.bool (decide ((0 : Int) ≤ i1)))] hF hS Fol (by kernel_rfl) (by kernel_rfl) (by kernel_rfl) ?_ (fun a w hF hS => ?_)
      · exact obs_nil
      refine cond_ev (t := 11) (b := decide ((0 : Int) ≤ i1)) hF (by kernel_rfl) (fun hb => ?_) (fun hb => ?_)
      · replace hm := if_t hm hb
        refine wp_skip ?_
        refine then_n ?_
        exact ⟨hF.weak [0, 3, 4, 5] (by kernel_rfl), hS, hm⟩
      · replace hm := if_f hm hb
        refine wp_exit ?_
        refine then_e (then_e (block_e (then_n ?_)))
        rw [← hφ1] at hm
        replace hm := done_b hm
        unfold gameroomlaw_regular_K1 at hm
        try dsimp only at hm
        have hm : (gameroomlaw_regular_J1).bind some = some r := hm
        exact ⟨hF.weak [] (by kernel_rfl), hS, hm⟩

noncomputable def gameroomlaw_HanoiMoves_J8 (z2 : Bool) : Option Bool :=
  some z2

noncomputable def gameroomlaw_HanoiMoves_J7 (s1 : List Int) (r5 : (Int × Int × Int)) : Option Bool :=
  ((if ((r5.1 == 0) && (r5.2.1 == 0)) then gameroomlaw_regular_m s1 else some false)).bind fun r15 => some (((r5.1 == 0) && (r5.2.1 == 0)) && (!r15))

noncomputable def gameroomlaw_HanoiMoves_J6 (s1 : List Int) (r5 : (Int × Int × Int)) : Option Bool :=
  if (r5.1 == 1) then (asrt ((decide ((0 : Int) ≤ r5.2.1)) = true → (0 : Int) ≤ (s1.length : Int)) <| if ((decide ((0 : Int) ≤ r5.2.1)) && (decide (r5.2.1 < (shlK .i64 1 (s1.length : Int))))) then ((gameroomref_DiscState_m (s1.length : Int) 0 2 r5.2.1).bind fun r12 => ((if ((decide ((0 : Int) ≤ r5.2.1)) && (decide (r5.2.1 < (shlK .i64 1 (s1.length : Int))))) then gameroomlaw_sameInts_m r12 s1 else some false)).bind fun r13 => gameroomlaw_HanoiMoves_J8 (((decide ((0 : Int) ≤ r5.2.1)) && (decide (r5.2.1 < (shlK .i64 1 (s1.length : Int))))) && r13)) else (((if ((decide ((0 : Int) ≤ r5.2.1)) && (decide (r5.2.1 < (shlK .i64 1 (s1.length : Int))))) then gameroomlaw_sameInts_m ([] : List Int) s1 else some false)).bind fun r14 => gameroomlaw_HanoiMoves_J8 (((decide ((0 : Int) ≤ r5.2.1)) && (decide (r5.2.1 < (shlK .i64 1 (s1.length : Int))))) && r14))) else ((gameroomlaw_HanoiMoves_J7 s1 r5))

noncomputable def gameroomlaw_HanoiMoves_J5 (s1 : List Int) (m1 : Int) (m2 : Int) (m3 : Int) (x1 : List Int) (e1 : Int) (r5 : (Int × Int × Int)) : Option Bool :=
  (gameroomref_DiscMove_m s1 m1 m2 m3).bind fun r10 => ((if (!(e1 != r10.2)) then gameroomlaw_sameInts_m x1 r10.1 else some false)).bind fun r11 => if (((e1 != r10.2) || (!r11)) || (r5.2.2 != 0)) then (some false) else ((gameroomlaw_HanoiMoves_J6 s1 r5))

noncomputable def gameroomlaw_HanoiMoves_J3 (s1 : List Int) (m1 : Int) (m2 : Int) (m3 : Int) (x1 : List Int) (e1 : Int) (r5 : (Int × Int × Int)) : Option Bool :=
  (gameroomref_DiscsMay_m s1).bind fun r9 => if (r9 != 0) then (some (((((e1 == r9) && (r5.2.2 == r9)) && ((x1.length : Int) == 0)) && (r5.1 == 0)) && (r5.2.1 == 0))) else ((gameroomlaw_HanoiMoves_J5 s1 m1 m2 m3 x1 e1 r5))

noncomputable def gameroomlaw_HanoiMoves_J4 (s1 : List Int) (m1 : Int) (m2 : Int) (m3 : Int) (x1 : List Int) (e1 : Int) (r5 : (Int × Int × Int)) (z1 : Bool) : Option Bool :=
  if z1 then (some false) else ((gameroomlaw_HanoiMoves_J3 s1 m1 m2 m3 x1 e1 r5))

noncomputable def gameroomlaw_HanoiMoves_J2 (s1 : List Int) (m1 : Int) (m2 : Int) (m3 : Int) (n2 : Int) (from1 : Int) (to1 : Int) (k1 : Int) (x1 : List Int) (e1 : Int) (r3 : (List Int × Int)) (r5 : (Int × Int × Int)) (no1 : Int) : Option Bool :=
  if (no1 != 0) then (if ((r3.2 != no1) || (decide ((0 : Int) < (r3.1.length : Int)))) then (some false) else ((gameroomlaw_HanoiMoves_J3 s1 m1 m2 m3 x1 e1 r5))) else (if (r3.2 != 0) then (((if (!(r3.2 != 0)) then gameroomlaw_sameInts_m r3.1 ([] : List Int) else some false)).bind fun r6 => (gameroomlaw_HanoiMoves_J4 s1 m1 m2 m3 x1 e1 r5) ((r3.2 != 0) || (!r6))) else ((gameroomref_DiscState_m n2 from1 to1 k1).bind fun r7 => ((if (!(r3.2 != 0)) then gameroomlaw_sameInts_m r3.1 r7 else some false)).bind fun r8 => (gameroomlaw_HanoiMoves_J4 s1 m1 m2 m3 x1 e1 r5) ((r3.2 != 0) || (!r8))))

noncomputable def gameroomlaw_HanoiMoves_J1 (s1 : List Int) (m1 : Int) (m2 : Int) (m3 : Int) (n2 : Int) (from1 : Int) (to1 : Int) (k1 : Int) (x1 : List Int) (e1 : Int) : Option Bool :=
  (hanoi_Nth_m n2 from1 to1 k1).bind fun r3 => (gameroomlaw_ints_m s1).bind fun r4 => (hanoi_Regular_m r4).bind fun r5 => if ((decide (n2 < 0)) || (decide ((40 : Int) < n2))) then ((gameroomlaw_HanoiMoves_J2 s1 m1 m2 m3 n2 from1 to1 k1 x1 e1 r3 r5) 2) else (if (((((decide (from1 < 0)) || (decide ((2 : Int) < from1))) || (decide (to1 < 0))) || (decide ((2 : Int) < to1))) || (from1 == to1)) then ((gameroomlaw_HanoiMoves_J2 s1 m1 m2 m3 n2 from1 to1 k1 x1 e1 r3 r5) 5) else (asrt ((decide (k1 < 0)) = false → (0 : Int) ≤ n2) <| if ((decide (k1 < 0)) || (decide ((shlK .i64 1 n2) ≤ k1))) then ((gameroomlaw_HanoiMoves_J2 s1 m1 m2 m3 n2 from1 to1 k1 x1 e1 r3 r5) 3) else ((gameroomlaw_HanoiMoves_J2 s1 m1 m2 m3 n2 from1 to1 k1 x1 e1 r3 r5) 0)))

noncomputable def gameroomlaw_HanoiMoves_m (s1 : List Int) (m1 : Int) (m2 : Int) (m3 : Int) (n2 : Int) (from1 : Int) (to1 : Int) (k1 : Int) : Option Bool :=
  (gameroomlaw_ints_m s1).bind fun r1 => (hanoi_Do_m r1 m1 m2 m3).bind fun r2 => (gameroomlaw_HanoiMoves_J1 s1 m1 m2 m3 n2 from1 to1 k1) r2.1 r2.2

set_option maxRecDepth 100000 in
set_option maxHeartbeats 4000000 in
theorem gameroomlaw_HanoiMoves_w {A1 : Option Addr} {c1 : Nat} {n1 : Nat} {s1 : List Int} {m1 : Int} {m2 : Int} {m3 : Int} {n2 : Int} {from1 : Int} {to1 : Int} {k1 : Int} {r : Bool} {w0 w : World} {B : Nat} {fs : List HP} (hm : gameroomlaw_HanoiMoves_m s1 m1 m2 m3 n2 from1 to1 k1 = some r) (hS : Sep w0 B w (fs)) (hr_s1 : RdF w0 B fs A1 (vI s1)) (_hc_s1 : s1.length ≤ c1) (_hn_s1 : n1 = s1.length) :
    Calls Try.prog 9 #[.slice A1 n1 c1, .agg #[.int .i64 m1, .int .i64 m2, .int .i64 m3], .int .i64 n2, .int .i64 from1, .int .i64 to1, .int .i64 k1] w fun e w' => e = .returned (.bool r) ∧ Sep w0 B w' (fs) := by
  obtain ⟨i3, hi3, hz3, hs3, hb3⟩ := info_parts Info3
  obtain rfl := _hn_s1
  unfold gameroomlaw_HanoiMoves_m at hm
  replace hm := start_b hm
  refine enter (l := [.slice A1 s1.length c1, .agg #[.int .i64 m1, .int .i64 m2, .int .i64 m3], .int .i64 n2, .int .i64 from1, .int .i64 to1, .int .i64 k1]) (n := 174) Try.func9 rfl rfl (by simp) (fun a hF => ?_)
  refine seqR ?_
  refine at_do (d := 7) (s := vS (Instr.box 52 (.agg #[.int .i64 m1, .int .i64 m2, .int .i64 m3]))) (v := .pointer (some ⟨w.heap.size, 0, none⟩)) (w' := w.alloc (.cells #[.int .i64 m1, .int .i64 m2, .int .i64 m3] 52)) hF (by kernel_rfl) (by kernel_rfl) (by kernel_rfl) (fun a hF => ?_)
  have hS : Sep w0 B (w.alloc (.cells #[.int .i64 m1, .int .i64 m2, .int .i64 m3] 52)) (blk w.heap.size 52 #[.int .i64 m1, .int .i64 m2, .int .i64 m3] :: (fs)) := hS.box 52 #[.int .i64 m1, .int .i64 m2, .int .i64 m3]
  generalize w.heap.size = g1 at hF hS
  generalize w.alloc (.cells #[.int .i64 m1, .int .i64 m2, .int .i64 m3] 52) = w at hS ⊢
  refine at_run 1 [] [] [0, 2, 3, 4, 5, 7] [pl 0 (.slice A1 s1.length c1), pl 2 (.int .i64 n2), pl 3 (.int .i64 from1), pl 4 (.int .i64 to1), pl 5 (.int .i64 k1), pl 7 (.pointer (some ⟨g1, 0, none⟩))] hF hS (by kernel_rfl) (by kernel_rfl) ?_ (fun a w hF hS => ?_)
  · exact obs_nil
  refine at_end [0, 2, 3, 4, 5, 7] [pl 0 (.slice A1 s1.length c1), pl 2 (.int .i64 n2), pl 3 (.int .i64 from1), pl 4 (.int .i64 to1), pl 5 (.int .i64 k1), pl 7 (.pointer (some ⟨g1, 0, none⟩))] hF rfl (by kernel_rfl) (fun hF => ?_)
  refine then_n ?_
  refine seq_cut (fun a w => ∃ (x1 : List Int) (e1 : Int) (A6 : Option Addr) (c6 : Nat), Fr 174 [pl 0 (.slice A1 s1.length c1), pl 2 (.int .i64 n2), pl 3 (.int .i64 from1), pl 4 (.int .i64 to1), pl 5 (.int .i64 k1), pl 7 (.pointer (some ⟨g1, 0, none⟩)), pl 13 (.slice A6 x1.length c6), pl 14 (.int .i64 e1)] a ∧ Sep w0 B w (blk g1 52 #[.int .i64 m1, .int .i64 m2, .int .i64 m3] :: own 3 (.slice A6 x1.length c6) (vI x1) :: fs) ∧ ((gameroomlaw_HanoiMoves_J1 s1 m1 m2 m3 n2 from1 to1 k1) x1 e1).bind some = some r) ?_ ?_
  · rintro a w ⟨x1, e1, A6, c6, hF, hS, hm⟩
    unfold gameroomlaw_HanoiMoves_J1 at hm
    refine seqR ?_
    obtain ⟨r3, hr3, hm⟩ := call_b hm
    refine at_run 4 [] [] [0, 2, 3, 4, 5, 7, 13, 14, 31, 32, 33, 34] [pl 0 (.slice A1 s1.length c1), pl 2 (.int .i64 n2), pl 3 (.int .i64 from1), pl 4 (.int .i64 to1), pl 5 (.int .i64 k1), pl 7 (.pointer (some ⟨g1, 0, none⟩)), pl 13 (.slice A6 x1.length c6), pl 14 (.int .i64 e1), pl 31 (.int .i64 n2), pl 32 (.int .i64 from1), pl 33 (.int .i64 to1), pl 34 (.int .i64 k1)] hF hS (by kernel_rfl) (by kernel_rfl) ?_ (fun a w hF hS => ?_)
    · exact obs_nil
    refine at_call (f := 52) (args := #[.int .i64 n2, .int .i64 from1, .int .i64 to1, .int .i64 k1]) (d := 35) hF (by kernel_rfl) (by kernel_rfl) Try.func52 (by kernel_rfl) rfl (hanoi_Nth_w hr3 hS ) (fun v a w hR hF => ?_)
    clear hS
    obtain ⟨A7, c7, rfl, hS⟩ := hR
    have hS : Sep w0 B w (own 3 (.slice A7 r3.1.length c7) (vI r3.1) :: blk g1 52 #[.int .i64 m1, .int .i64 m2, .int .i64 m3] :: own 3 (.slice A6 x1.length c6) (vI x1) :: fs) := hS
    refine at_run 5 [] [] [0, 2, 3, 4, 5, 7, 13, 14, 15, 16] [pl 0 (.slice A1 s1.length c1), pl 2 (.int .i64 n2), pl 3 (.int .i64 from1), pl 4 (.int .i64 to1), pl 5 (.int .i64 k1), pl 7 (.pointer (some ⟨g1, 0, none⟩)), pl 13 (.slice A6 x1.length c6), pl 14 (.int .i64 e1), pl 15 (.slice A7 r3.1.length c7), pl 16 (.int .i64 r3.2)] hF hS (by kernel_rfl) (by kernel_rfl) ?_ (fun a w hF hS => ?_)
    · exact obs_nil
    refine at_end [0, 2, 3, 4, 5, 7, 13, 14, 15, 16] [pl 0 (.slice A1 s1.length c1), pl 2 (.int .i64 n2), pl 3 (.int .i64 from1), pl 4 (.int .i64 to1), pl 5 (.int .i64 k1), pl 7 (.pointer (some ⟨g1, 0, none⟩)), pl 13 (.slice A6 x1.length c6), pl 14 (.int .i64 e1), pl 15 (.slice A7 r3.1.length c7), pl 16 (.int .i64 r3.2)] hF rfl (by kernel_rfl) (fun hF => ?_)
    refine then_n ?_
    refine seqR ?_
    obtain ⟨r4, hr4, hm⟩ := call_b hm
    obtain ⟨r5, hr5, hm⟩ := call_b hm
    refine at_run 1 [] [] [0, 2, 3, 4, 5, 7, 13, 14, 15, 16, 39] [pl 0 (.slice A1 s1.length c1), pl 2 (.int .i64 n2), pl 3 (.int .i64 from1), pl 4 (.int .i64 to1), pl 5 (.int .i64 k1), pl 7 (.pointer (some ⟨g1, 0, none⟩)), pl 13 (.slice A6 x1.length c6), pl 14 (.int .i64 e1), pl 15 (.slice A7 r3.1.length c7), pl 16 (.int .i64 r3.2), pl 39 (.slice A1 s1.length c1)] hF hS (by kernel_rfl) (by kernel_rfl) ?_ (fun a w hF hS => ?_)
    · exact obs_nil
    refine at_call (f := 30) (args := #[.slice A1 s1.length c1]) (d := 40) hF (by kernel_rfl) (by kernel_rfl) Try.func30 (by kernel_rfl) rfl (gameroomlaw_ints_w hr4 hS (fun _ hS => (hr_s1 _ (hS.dropN 3))) _hc_s1 rfl) (fun v a w hR hF => ?_)
    clear hS
    obtain ⟨A8, c8, rfl, hS⟩ := hR
    have hS : Sep w0 B w (own 3 (.slice A8 r4.length c8) (vI r4) :: own 3 (.slice A7 r3.1.length c7) (vI r3.1) :: blk g1 52 #[.int .i64 m1, .int .i64 m2, .int .i64 m3] :: own 3 (.slice A6 x1.length c6) (vI x1) :: fs) := hS
    refine at_run 8 [⟨false, [], callFunc 53 #[.slice A8 r4.length c8], .tuple #[.int .i64 r5.1, .int .i64 r5.2.1, .int .i64 r5.2.2]⟩] [some (.tuple #[.int .i64 r5.1, .int .i64 r5.2.1, .int .i64 r5.2.2]), none, none, none, none, none, none, none] [0, 2, 3, 4, 5, 7, 13, 14, 15, 16, 17, 18, 19] [pl 0 (.slice A1 s1.length c1), pl 2 (.int .i64 n2), pl 3 (.int .i64 from1), pl 4 (.int .i64 to1), pl 5 (.int .i64 k1), pl 7 (.pointer (some ⟨g1, 0, none⟩)), pl 13 (.slice A6 x1.length c6), pl 14 (.int .i64 e1), pl 15 (.slice A7 r3.1.length c7), pl 16 (.int .i64 r3.2), pl 17 (.int .i64 r5.1), pl 18 (.int .i64 r5.2.1), pl 19 (.int .i64 r5.2.2)] hF hS (by kernel_rfl) (by kernel_rfl) ?_ (fun a w hF hS => ?_)
    · exact obs_cons (ob_call Try.func53 (by kernel_rfl) rfl (fun _ _ hS => hanoi_Regular_w hr5 hS (fun _ hS => (hS.at_ 0 rfl).rd) ((hS.at_ 0 rfl).cap1) rfl)) <| obs_nil
    refine at_end [0, 2, 3, 4, 5, 7, 13, 14, 15, 16, 17, 18, 19] [pl 0 (.slice A1 s1.length c1), pl 2 (.int .i64 n2), pl 3 (.int .i64 from1), pl 4 (.int .i64 to1), pl 5 (.int .i64 k1), pl 7 (.pointer (some ⟨g1, 0, none⟩)), pl 13 (.slice A6 x1.length c6), pl 14 (.int .i64 e1), pl 15 (.slice A7 r3.1.length c7), pl 16 (.int .i64 r3.2), pl 17 (.int .i64 r5.1), pl 18 (.int .i64 r5.2.1), pl 19 (.int .i64 r5.2.2)] hF rfl (by kernel_rfl) (fun hF => ?_)
    refine then_n ?_
    refine reg [] [] [0, 2, 3, 4, 5, 7, 13, 14, 15, 16, 17, 18, 19, 20] [pl 0 (.slice A1 s1.length c1), pl 2 (.int .i64 n2), pl 3 (.int .i64 from1), pl 4 (.int .i64 to1), pl 5 (.int .i64 k1), pl 7 (.pointer (some ⟨g1, 0, none⟩)), pl 13 (.slice A6 x1.length c6), pl 14 (.int .i64 e1), pl 15 (.slice A7 r3.1.length c7), pl 16 (.int .i64 r3.2), pl 17 (.int .i64 r5.1), pl 18 (.int .i64 r5.2.1), pl 19 (.int .i64 r5.2.2), pl 20 (.int .i64 0)] hF hS Fol (by kernel_rfl) (by kernel_rfl) (by kernel_rfl) ?_ (fun a w hF hS => ?_)
    · exact obs_nil
    refine seq_cut (fun a w => ∃ (no1 : Int), Fr 174 [pl 0 (.slice A1 s1.length c1), pl 2 (.int .i64 n2), pl 3 (.int .i64 from1), pl 4 (.int .i64 to1), pl 5 (.int .i64 k1), pl 7 (.pointer (some ⟨g1, 0, none⟩)), pl 13 (.slice A6 x1.length c6), pl 14 (.int .i64 e1), pl 15 (.slice A7 r3.1.length c7), pl 16 (.int .i64 r3.2), pl 17 (.int .i64 r5.1), pl 18 (.int .i64 r5.2.1), pl 19 (.int .i64 r5.2.2), pl 20 (.int .i64 no1)] a ∧ Sep w0 B w (blk g1 52 #[.int .i64 m1, .int .i64 m2, .int .i64 m3] :: own 3 (.slice A6 x1.length c6) (vI x1) :: own 3 (.slice A7 r3.1.length c7) (vI r3.1) :: fs) ∧ ((gameroomlaw_HanoiMoves_J2 s1 m1 m2 m3 n2 from1 to1 k1 x1 e1 r3 r5) no1).bind some = some r) ?_ ?_
    · rintro a w ⟨no1, hF, hS, hm⟩
      unfold gameroomlaw_HanoiMoves_J2 at hm
      refine seq_cut (fun a w => Fr 174 [pl 0 (.slice A1 s1.length c1), pl 7 (.pointer (some ⟨g1, 0, none⟩)), pl 13 (.slice A6 x1.length c6), pl 14 (.int .i64 e1), pl 17 (.int .i64 r5.1), pl 18 (.int .i64 r5.2.1), pl 19 (.int .i64 r5.2.2)] a ∧ Sep w0 B w (blk g1 52 #[.int .i64 m1, .int .i64 m2, .int .i64 m3] :: own 3 (.slice A6 x1.length c6) (vI x1) :: fs) ∧ ((gameroomlaw_HanoiMoves_J3 s1 m1 m2 m3 x1 e1 r5)).bind some = some r) ?_ ?_
      · rintro a w ⟨hF, hS, hm⟩
        unfold gameroomlaw_HanoiMoves_J3 at hm
        obtain ⟨r9, hr9, hm⟩ := call_b hm
        refine reg [⟨false, [], callFunc 32 #[.slice A1 s1.length c1], .int .i64 r9⟩] [none, some (.int .i64 r9), none] [0, 7, 13, 14, 17, 18, 19, 20] [pl 0 (.slice A1 s1.length c1), pl 7 (.pointer (some ⟨g1, 0, none⟩)), pl 13 (.slice A6 x1.length c6), pl 14 (.int .i64 e1), pl 17 (.int .i64 r5.1), pl 18 (.int .i64 r5.2.1), pl 19 (.int .i64 r5.2.2), pl 20 (.int .i64 r9)] hF hS Fol (by kernel_rfl) (by kernel_rfl) (by kernel_rfl) ?_ (fun a w hF hS => ?_)
        · exact obs_cons (ob_call Try.func32 (by kernel_rfl) rfl (fun _ _ hS => gameroomref_DiscsMay_w hr9 hS (fun _ hS => (hr_s1 _ (hS.dropN 2))) _hc_s1 rfl)) <| obs_nil
        refine seq_cut (fun a w => Fr 174 [pl 0 (.slice A1 s1.length c1), pl 7 (.pointer (some ⟨g1, 0, none⟩)), pl 13 (.slice A6 x1.length c6), pl 14 (.int .i64 e1), pl 17 (.int .i64 r5.1), pl 18 (.int .i64 r5.2.1), pl 19 (.int .i64 r5.2.2)] a ∧ Sep w0 B w (blk g1 52 #[.int .i64 m1, .int .i64 m2, .int .i64 m3] :: own 3 (.slice A6 x1.length c6) (vI x1) :: fs) ∧ ((gameroomlaw_HanoiMoves_J5 s1 m1 m2 m3 x1 e1 r5)).bind some = some r) ?_ ?_
        · rintro a w ⟨hF, hS, hm⟩
          unfold gameroomlaw_HanoiMoves_J5 at hm
          refine seqR ?_
          obtain ⟨r10, hr10, hm⟩ := call_b hm
          refine at_run 2 [⟨false, [], vS (Instr.loadAt 52 (.pointer (some ⟨g1, 0, none⟩))), .agg #[.int .i64 m1, .int .i64 m2, .int .i64 m3]⟩] [none, some (.agg #[.int .i64 m1, .int .i64 m2, .int .i64 m3])] [0, 13, 14, 17, 18, 19, 126, 127] [pl 0 (.slice A1 s1.length c1), pl 13 (.slice A6 x1.length c6), pl 14 (.int .i64 e1), pl 17 (.int .i64 r5.1), pl 18 (.int .i64 r5.2.1), pl 19 (.int .i64 r5.2.2), pl 126 (.slice A1 s1.length c1), pl 127 (.agg #[.int .i64 m1, .int .i64 m2, .int .i64 m3])] hF hS (by kernel_rfl) (by kernel_rfl) ?_ (fun a w hF hS => ?_)
          · exact obs_cons (ob_loadA (cs := #[.int .i64 m1, .int .i64 m2, .int .i64 m3]) (by kernel_rfl) (by kernel_rfl) (fun _ _ hS => (hS.at_ 0 rfl).cellsAt 0 (by rfl))) <| obs_nil
          refine at_call (f := 35) (args := #[.slice A1 s1.length c1, .agg #[.int .i64 m1, .int .i64 m2, .int .i64 m3]]) (d := 128) hF (by kernel_rfl) (by kernel_rfl) Try.func35 (by kernel_rfl) rfl (gameroomref_DiscMove_w hr10 hS (fun _ hS => (hr_s1 _ (hS.dropN 2))) _hc_s1 rfl) (fun v a w hR hF => ?_)
          clear hS
          obtain ⟨A10, c10, rfl, hS⟩ := hR
          have hS : Sep w0 B w (own 3 (.slice A10 r10.1.length c10) (vI r10.1) :: blk g1 52 #[.int .i64 m1, .int .i64 m2, .int .i64 m3] :: own 3 (.slice A6 x1.length c6) (vI x1) :: fs) := hS
          refine at_run 5 [] [] [0, 13, 14, 17, 18, 19, 21, 22] [pl 0 (.slice A1 s1.length c1), pl 13 (.slice A6 x1.length c6), pl 14 (.int .i64 e1), pl 17 (.int .i64 r5.1), pl 18 (.int .i64 r5.2.1), pl 19 (.int .i64 r5.2.2), pl 21 (.slice A10 r10.1.length c10), pl 22 (.int .i64 r10.2)] hF hS (by kernel_rfl) (by kernel_rfl) ?_ (fun a w hF hS => ?_)
          · exact obs_nil
          refine at_end [0, 13, 14, 17, 18, 19, 21, 22] [pl 0 (.slice A1 s1.length c1), pl 13 (.slice A6 x1.length c6), pl 14 (.int .i64 e1), pl 17 (.int .i64 r5.1), pl 18 (.int .i64 r5.2.1), pl 19 (.int .i64 r5.2.2), pl 21 (.slice A10 r10.1.length c10), pl 22 (.int .i64 r10.2)] hF rfl (by kernel_rfl) (fun hF => ?_)
          refine then_n ?_
          refine seq_cut (fun a w => Fr 174 [pl 0 (.slice A1 s1.length c1), pl 17 (.int .i64 r5.1), pl 18 (.int .i64 r5.2.1)] a ∧ Sep w0 B w (fs) ∧ ((gameroomlaw_HanoiMoves_J6 s1 r5)).bind some = some r) ?_ ?_
          · rintro a w ⟨hF, hS, hm⟩
            unfold gameroomlaw_HanoiMoves_J6 at hm
            refine seq_cut (fun a w => Fr 174 [pl 0 (.slice A1 s1.length c1), pl 17 (.int .i64 r5.1), pl 18 (.int .i64 r5.2.1)] a ∧ Sep w0 B w (fs) ∧ ((gameroomlaw_HanoiMoves_J7 s1 r5)).bind some = some r) ?_ ?_
            · rintro a w ⟨hF, hS, hm⟩
              unfold gameroomlaw_HanoiMoves_J7 at hm
              obtain ⟨r15, hr15, hm⟩ := call_b hm
              refine reg [⟨false, [((r5.1 == 0) && (r5.2.1 == 0), true)], callFunc 55 #[.slice A1 s1.length c1], .bool r15⟩] [none, none, none, none, none, none, none, none, some (.bool r15), none, none, none] [12] [pl 12 (.bool (((r5.1 == 0) && (r5.2.1 == 0)) && (!r15)))] hF hS Fol (by kernel_rfl) (by kernel_rfl) (by kernel_rfl) ?_ (fun a w hF hS => ?_)
              · exact obs_cons (ob_call Try.func55 (by kernel_rfl) rfl (fun hy _ hS => gameroomlaw_regular_w (ite_some hr15 (by rw [show ((r5.1 == 0) && (r5.2.1 == 0)) = true from hy ((r5.1 == 0) && (r5.2.1 == 0), true) (by simp)]; try rfl)) hS (fun _ hS => (hr_s1 _ (hS.dropN 0))) _hc_s1 rfl)) <| obs_nil
              refine wp_ret ?_
              have hm : some (((r5.1 == 0) && (r5.2.1 == 0)) && (!r15)) = some r := hm
              obtain rfl := Option.some.inj hm
              exact retV (rs := [.tmp 12]) (vs := [.bool (((r5.1 == 0) && (r5.2.1 == 0)) && (!r15))]) hF rfl (rv_t (by kernel_rfl) <| rv_nil) rfl ⟨rfl, hS⟩
            · refine reg [] [] [0, 17, 18, 145] [pl 0 (.slice A1 s1.length c1), pl 17 (.int .i64 r5.1), pl 18 (.int .i64 r5.2.1), pl 145 (.bool (r5.1 == 1))] hF hS Fol (by kernel_rfl) (by kernel_rfl) (by kernel_rfl) ?_ (fun a w hF hS => ?_)
              · exact obs_nil
              refine cond_ev (t := 145) (b := (r5.1 == 1)) hF (by kernel_rfl) (fun hb => ?_) (fun hb => ?_)
              · replace hm := if_t hm hb
                refine seq_cut (fun a w => ∃ (z2 : Bool), Fr 174 [pl 12 (.bool z2)] a ∧ Sep w0 B w (fs) ∧ (gameroomlaw_HanoiMoves_J8 z2).bind some = some r) ?_ ?_
                · rintro a w ⟨z2, hF, hS, hm⟩
                  unfold gameroomlaw_HanoiMoves_J8 at hm
                  refine wp_ret ?_
                  refine then_r ?_
                  have hm : some z2 = some r := hm
                  obtain rfl := Option.some.inj hm
                  exact retV (rs := [.tmp 12]) (vs := [.bool z2]) hF rfl (rv_t (by kernel_rfl) <| rv_nil) rfl ⟨rfl, hS⟩
                · refine oneR ?_
                  obtain ⟨hp2, hm⟩ := asrt_b hm
                  refine at_run 13 [⟨true, [(decide ((0 : Int) ≤ r5.2.1), true)], vS (Op.shift .shl .i64 1 .i64 (s1.length : Int)), .int .i64 (shlK .i64 1 (s1.length : Int))⟩] [none, none, none, none, none, none, some (.int .i64 (shlK .i64 1 (s1.length : Int))), none, none, none, none, none, none] [0, 155, 157, 158] [pl 0 (.slice A1 s1.length c1), pl 155 (.bool ((decide ((0 : Int) ≤ r5.2.1)) && (decide (r5.2.1 < (shlK .i64 1 (s1.length : Int)))))), ⟨157, [(155, true)], .int .i64 (s1.length : Int)⟩, ⟨158, [(155, true)], .int .i64 r5.2.1⟩] hF hS (by kernel_rfl) (by kernel_rfl) ?_ (fun a w hF hS => ?_)
                  · exact obs_cons (ob_shl (fun hy => hp2 (hy (decide ((0 : Int) ≤ r5.2.1), true) (by simp)))) <| obs_nil
                  rcases Bool.eq_false_or_eq_true ((decide ((0 : Int) ≤ r5.2.1)) && (decide (r5.2.1 < (shlK .i64 1 (s1.length : Int))))) with hg2 | hg2
                  · replace hm := if_t hm hg2
                    obtain ⟨r12, hr12, hm⟩ := call_b hm
                    obtain ⟨r13, hr13, hm⟩ := call_b hm
                    refine at_gcall (hs := [((decide ((0 : Int) ≤ r5.2.1)) && (decide (r5.2.1 < (shlK .i64 1 (s1.length : Int)))), true)]) (fun y hy => by simp only [List.mem_cons, List.not_mem_nil, or_false] at hy; subst hy; first | exact hg2) (f := 54) (args := #[.int .i64 (s1.length : Int), .int .i64 0, .int .i64 2, .int .i64 r5.2.1]) (d := 159) hF (by kernel_rfl) (by kernel_rfl) Try.func54 (by kernel_rfl) rfl (gameroomref_DiscState_w hr12 hS ) (fun v a w hR hF => ?_)
                    clear hS
                    obtain ⟨A11, c11, rfl, hS⟩ := hR
                    have hS : Sep w0 B w (own 3 (.slice A11 r12.length c11) (vI r12) :: fs) := hS
                    refine at_run 4 [⟨false, [((decide ((0 : Int) ≤ r5.2.1)) && (decide (r5.2.1 < (shlK .i64 1 (s1.length : Int)))), true)], callFunc 36 #[.slice A11 r12.length c11, .slice A1 s1.length c1], .bool r13⟩] [none, some (.bool r13), none, none] [12] [pl 12 (.bool (((decide ((0 : Int) ≤ r5.2.1)) && (decide (r5.2.1 < (shlK .i64 1 (s1.length : Int))))) && r13))] hF hS (by kernel_rfl) (by kernel_rfl) ?_ (fun a w hF hS => ?_)
                    · exact obs_cons (ob_call Try.func36 (by kernel_rfl) rfl (fun hy _ hS => gameroomlaw_sameInts_w (ite_some hr13 (by rw [show ((decide ((0 : Int) ≤ r5.2.1)) && (decide (r5.2.1 < (shlK .i64 1 (s1.length : Int))))) = true from hy ((decide ((0 : Int) ≤ r5.2.1)) && (decide (r5.2.1 < (shlK .i64 1 (s1.length : Int)))), true) (by simp)]; try rfl)) hS (fun _ hS => (hS.at_ 0 rfl).rd) ((hS.at_ 0 rfl).cap1) rfl (fun _ hS => (hr_s1 _ (hS.dropN 1))) _hc_s1 rfl)) <| obs_nil
                    refine at_end [12] [pl 12 (.bool (((decide ((0 : Int) ≤ r5.2.1)) && (decide (r5.2.1 < (shlK .i64 1 (s1.length : Int))))) && r13))] hF rfl (by kernel_rfl) (fun hF => ?_)
                    refine then_n ?_
                    have hS := hS.pickN 1 [] (by decide)
                    exact ⟨(((decide ((0 : Int) ≤ r5.2.1)) && (decide (r5.2.1 < (shlK .i64 1 (s1.length : Int))))) && r13), hF.weak [12] (by kernel_rfl), hS, hm⟩
                  · replace hm := if_f hm hg2
                    obtain ⟨r14, hr14, hm⟩ := call_b hm
                    refine at_gskip (d := 159) (v := .slice none 0 0) (hs := [((decide ((0 : Int) ≤ r5.2.1)) && (decide (r5.2.1 < (shlK .i64 1 (s1.length : Int)))), true)]) (ctx := [(155, true)]) hF (by kernel_rfl) (by kernel_rfl) (fun h => absurd (h ((decide ((0 : Int) ≤ r5.2.1)) && (decide (r5.2.1 < (shlK .i64 1 (s1.length : Int)))), true) (by simp)) (by simp [hg2])) (fun a hF => ?_)
                    refine at_run 4 [⟨false, [((decide ((0 : Int) ≤ r5.2.1)) && (decide (r5.2.1 < (shlK .i64 1 (s1.length : Int)))), true)], callFunc 36 #[.slice none 0 0, .slice A1 s1.length c1], .bool r14⟩] [none, some (.bool r14), none, none] [12] [pl 12 (.bool (((decide ((0 : Int) ≤ r5.2.1)) && (decide (r5.2.1 < (shlK .i64 1 (s1.length : Int))))) && r14))] hF hS (by kernel_rfl) (by kernel_rfl) ?_ (fun a w hF hS => ?_)
                    · exact obs_cons (Ob.vac (fun h => absurd (h ((decide ((0 : Int) ≤ r5.2.1)) && (decide (r5.2.1 < (shlK .i64 1 (s1.length : Int)))), true) (by simp)) (by simp [hg2]))) <| obs_nil
                    refine at_end [12] [pl 12 (.bool (((decide ((0 : Int) ≤ r5.2.1)) && (decide (r5.2.1 < (shlK .i64 1 (s1.length : Int))))) && r14))] hF rfl (by kernel_rfl) (fun hF => ?_)
                    refine then_n ?_
                    exact ⟨(((decide ((0 : Int) ≤ r5.2.1)) && (decide (r5.2.1 < (shlK .i64 1 (s1.length : Int))))) && r14), hF.weak [12] (by kernel_rfl), hS, hm⟩
              · replace hm := if_f hm hb
                refine wp_skip ?_
                refine then_n ?_
                exact ⟨hF.weak [0, 17, 18] (by kernel_rfl), hS, hm⟩
          · obtain ⟨r11, hr11, hm⟩ := call_b hm
            refine reg [⟨false, [((e1 != r10.2), false)], callFunc 36 #[.slice A6 x1.length c6, .slice A10 r10.1.length c10], .bool r11⟩] [none, none, none, none, none, none, some (.bool r11), none, none, none, none, none, none] [0, 17, 18, 143] [pl 0 (.slice A1 s1.length c1), pl 17 (.int .i64 r5.1), pl 18 (.int .i64 r5.2.1), pl 143 (.bool (((e1 != r10.2) || (!r11)) || (r5.2.2 != 0)))] hF hS Fol (by kernel_rfl) (by kernel_rfl) (by kernel_rfl) ?_ (fun a w hF hS => ?_)
            · exact obs_cons (ob_call Try.func36 (by kernel_rfl) rfl (fun hy _ hS => gameroomlaw_sameInts_w (ite_some hr11 (by rw [show (e1 != r10.2) = false from hy ((e1 != r10.2), false) (by simp)]; try rfl)) hS (fun _ hS => (hS.at_ 2 rfl).rd) ((hS.at_ 2 rfl).cap1) rfl (fun _ hS => (hS.at_ 0 rfl).rd) ((hS.at_ 0 rfl).cap1) rfl)) <| obs_nil
            refine cond_ev (t := 143) (b := ((e1 != r10.2) || (!r11)) || (r5.2.2 != 0)) hF (by kernel_rfl) (fun hb => ?_) (fun hb => ?_)
            · replace hm := if_t hm hb
              refine reg [] [] [12] [pl 12 (.bool false)] hF hS Fol (by kernel_rfl) (by kernel_rfl) (by kernel_rfl) ?_ (fun a w hF hS => ?_)
              · exact obs_nil
              refine wp_ret ?_
              refine then_r ?_
              have hS := hS.pickN 3 [] (by decide)
              have hm : some false = some r := hm
              obtain rfl := Option.some.inj hm
              exact retV (rs := [.tmp 12]) (vs := [.bool false]) hF rfl (rv_t (by kernel_rfl) <| rv_nil) rfl ⟨rfl, hS⟩
            · replace hm := if_f hm hb
              refine wp_skip ?_
              refine then_n ?_
              have hS := hS.pickN 3 [] (by decide)
              exact ⟨hF.weak [0, 17, 18] (by kernel_rfl), hS, hm⟩
        · refine reg [] [] [0, 7, 13, 14, 17, 18, 19, 20, 103] [pl 0 (.slice A1 s1.length c1), pl 7 (.pointer (some ⟨g1, 0, none⟩)), pl 13 (.slice A6 x1.length c6), pl 14 (.int .i64 e1), pl 17 (.int .i64 r5.1), pl 18 (.int .i64 r5.2.1), pl 19 (.int .i64 r5.2.2), pl 20 (.int .i64 r9), pl 103 (.bool (r9 != 0))] hF hS Fol (by kernel_rfl) (by kernel_rfl) (by kernel_rfl) ?_ (fun a w hF hS => ?_)
          · exact obs_nil
          refine cond_ev (t := 103) (b := (r9 != 0)) hF (by kernel_rfl) (fun hb => ?_) (fun hb => ?_)
          · replace hm := if_t hm hb
            refine reg [] [] [12] [pl 12 (.bool (((((e1 == r9) && (r5.2.2 == r9)) && ((x1.length : Int) == 0)) && (r5.1 == 0)) && (r5.2.1 == 0)))] hF hS Fol (by kernel_rfl) (by kernel_rfl) (by kernel_rfl) ?_ (fun a w hF hS => ?_)
            · exact obs_nil
            refine wp_ret ?_
            refine then_r ?_
            have hS := hS.pickN 2 [] (by decide)
            have hm : some (((((e1 == r9) && (r5.2.2 == r9)) && ((x1.length : Int) == 0)) && (r5.1 == 0)) && (r5.2.1 == 0)) = some r := hm
            obtain rfl := Option.some.inj hm
            exact retV (rs := [.tmp 12]) (vs := [.bool (((((e1 == r9) && (r5.2.2 == r9)) && ((x1.length : Int) == 0)) && (r5.1 == 0)) && (r5.2.1 == 0))]) hF rfl (rv_t (by kernel_rfl) <| rv_nil) rfl ⟨rfl, hS⟩
          · replace hm := if_f hm hb
            refine wp_skip ?_
            refine then_n ?_
            exact ⟨hF.weak [0, 7, 13, 14, 17, 18, 19] (by kernel_rfl), hS, hm⟩
      · refine reg [] [] [0, 2, 3, 4, 5, 7, 13, 14, 15, 16, 17, 18, 19, 20, 79] [pl 0 (.slice A1 s1.length c1), pl 2 (.int .i64 n2), pl 3 (.int .i64 from1), pl 4 (.int .i64 to1), pl 5 (.int .i64 k1), pl 7 (.pointer (some ⟨g1, 0, none⟩)), pl 13 (.slice A6 x1.length c6), pl 14 (.int .i64 e1), pl 15 (.slice A7 r3.1.length c7), pl 16 (.int .i64 r3.2), pl 17 (.int .i64 r5.1), pl 18 (.int .i64 r5.2.1), pl 19 (.int .i64 r5.2.2), pl 20 (.int .i64 no1), pl 79 (.bool (no1 != 0))] hF hS Fol (by kernel_rfl) (by kernel_rfl) (by kernel_rfl) ?_ (fun a w hF hS => ?_)
        · exact obs_nil
        refine cond_ev (t := 79) (b := (no1 != 0)) hF (by kernel_rfl) (fun hb => ?_) (fun hb => ?_)
        · replace hm := if_t hm hb
          refine reg [] [] [0, 7, 13, 14, 17, 18, 19, 87] [pl 0 (.slice A1 s1.length c1), pl 7 (.pointer (some ⟨g1, 0, none⟩)), pl 13 (.slice A6 x1.length c6), pl 14 (.int .i64 e1), pl 17 (.int .i64 r5.1), pl 18 (.int .i64 r5.2.1), pl 19 (.int .i64 r5.2.2), pl 87 (.bool ((r3.2 != no1) || (decide ((0 : Int) < (r3.1.length : Int)))))] hF hS Fol (by kernel_rfl) (by kernel_rfl) (by kernel_rfl) ?_ (fun a w hF hS => ?_)
          · exact obs_nil
          refine cond_ev (t := 87) (b := (r3.2 != no1) || (decide ((0 : Int) < (r3.1.length : Int)))) hF (by kernel_rfl) (fun hb => ?_) (fun hb => ?_)
          · replace hm := if_t hm hb
            refine reg [] [] [12] [pl 12 (.bool false)] hF hS Fol (by kernel_rfl) (by kernel_rfl) (by kernel_rfl) ?_ (fun a w hF hS => ?_)
            · exact obs_nil
            refine wp_ret ?_
            refine then_r ?_
            have hS := hS.pickN 3 [] (by decide)
            have hm : some false = some r := hm
            obtain rfl := Option.some.inj hm
            exact retV (rs := [.tmp 12]) (vs := [.bool false]) hF rfl (rv_t (by kernel_rfl) <| rv_nil) rfl ⟨rfl, hS⟩
          · replace hm := if_f hm hb
            refine wp_skip ?_
            refine then_n ?_
            have hS := hS.pickN 3 [0, 1] (by decide)
            exact ⟨hF.weak [0, 7, 13, 14, 17, 18, 19] (by kernel_rfl), hS, hm⟩
        · replace hm := if_f hm hb
          refine seq_cut (fun a w => ∃ (z1 : Bool), Fr 174 [pl 0 (.slice A1 s1.length c1), pl 7 (.pointer (some ⟨g1, 0, none⟩)), pl 13 (.slice A6 x1.length c6), pl 14 (.int .i64 e1), pl 17 (.int .i64 r5.1), pl 18 (.int .i64 r5.2.1), pl 19 (.int .i64 r5.2.2), pl 99 (.bool z1)] a ∧ Sep w0 B w (blk g1 52 #[.int .i64 m1, .int .i64 m2, .int .i64 m3] :: own 3 (.slice A6 x1.length c6) (vI x1) :: fs) ∧ ((gameroomlaw_HanoiMoves_J4 s1 m1 m2 m3 x1 e1 r5) z1).bind some = some r) ?_ ?_
          · rintro a w ⟨z1, hF, hS, hm⟩
            unfold gameroomlaw_HanoiMoves_J4 at hm
            refine cond_ev (t := 99) (b := z1) hF (by kernel_rfl) (fun hb => ?_) (fun hb => ?_)
            · replace hm := if_t hm hb
              refine reg [] [] [12] [pl 12 (.bool false)] hF hS Fol (by kernel_rfl) (by kernel_rfl) (by kernel_rfl) ?_ (fun a w hF hS => ?_)
              · exact obs_nil
              refine wp_ret ?_
              refine then_r ?_
              have hS := hS.pickN 2 [] (by decide)
              have hm : some false = some r := hm
              obtain rfl := Option.some.inj hm
              exact retV (rs := [.tmp 12]) (vs := [.bool false]) hF rfl (rv_t (by kernel_rfl) <| rv_nil) rfl ⟨rfl, hS⟩
            · replace hm := if_f hm hb
              refine wp_skip ?_
              refine then_n ?_
              exact ⟨hF.weak [0, 7, 13, 14, 17, 18, 19] (by kernel_rfl), hS, hm⟩
          · refine oneR ?_
            refine at_run 8 [] [] [0, 7, 13, 14, 17, 18, 19, 90, 91, 92, 93, 94, 95] [pl 0 (.slice A1 s1.length c1), pl 7 (.pointer (some ⟨g1, 0, none⟩)), pl 13 (.slice A6 x1.length c6), pl 14 (.int .i64 e1), pl 17 (.int .i64 r5.1), pl 18 (.int .i64 r5.2.1), pl 19 (.int .i64 r5.2.2), pl 90 (.bool (r3.2 != 0)), ⟨91, [(90, false)], .slice A7 r3.1.length c7⟩, ⟨92, [(90, false)], .int .i64 n2⟩, ⟨93, [(90, false)], .int .i64 from1⟩, ⟨94, [(90, false)], .int .i64 to1⟩, ⟨95, [(90, false)], .int .i64 k1⟩] hF hS (by kernel_rfl) (by kernel_rfl) ?_ (fun a w hF hS => ?_)
            · exact obs_nil
            rcases Bool.eq_false_or_eq_true (r3.2 != 0) with hg1 | hg1
            · replace hm := if_t hm hg1
              obtain ⟨r6, hr6, hm⟩ := call_b hm
              refine at_gskip (d := 96) (v := .slice none 0 0) (hs := [((r3.2 != 0), false)]) (ctx := [(90, false)]) hF (by kernel_rfl) (by kernel_rfl) (fun h => absurd (h ((r3.2 != 0), false) (by simp)) (by simp [hg1])) (fun a hF => ?_)
              refine at_run 3 [⟨false, [((r3.2 != 0), false)], callFunc 36 #[.slice A7 r3.1.length c7, .slice none 0 0], .bool r6⟩] [some (.bool r6), none, none] [0, 7, 13, 14, 17, 18, 19, 99] [pl 0 (.slice A1 s1.length c1), pl 7 (.pointer (some ⟨g1, 0, none⟩)), pl 13 (.slice A6 x1.length c6), pl 14 (.int .i64 e1), pl 17 (.int .i64 r5.1), pl 18 (.int .i64 r5.2.1), pl 19 (.int .i64 r5.2.2), pl 99 (.bool ((r3.2 != 0) || (!r6)))] hF hS (by kernel_rfl) (by kernel_rfl) ?_ (fun a w hF hS => ?_)
              · exact obs_cons (Ob.vac (fun h => absurd (h ((r3.2 != 0), false) (by simp)) (by simp [hg1]))) <| obs_nil
              refine at_end [0, 7, 13, 14, 17, 18, 19, 99] [pl 0 (.slice A1 s1.length c1), pl 7 (.pointer (some ⟨g1, 0, none⟩)), pl 13 (.slice A6 x1.length c6), pl 14 (.int .i64 e1), pl 17 (.int .i64 r5.1), pl 18 (.int .i64 r5.2.1), pl 19 (.int .i64 r5.2.2), pl 99 (.bool ((r3.2 != 0) || (!r6)))] hF rfl (by kernel_rfl) (fun hF => ?_)
              refine then_n ?_
              have hS := hS.pickN 3 [0, 1] (by decide)
              exact ⟨((r3.2 != 0) || (!r6)), hF.weak [0, 7, 13, 14, 17, 18, 19, 99] (by kernel_rfl), hS, hm⟩
            · replace hm := if_f hm hg1
              obtain ⟨r7, hr7, hm⟩ := call_b hm
              obtain ⟨r8, hr8, hm⟩ := call_b hm
              refine at_gcall (hs := [((r3.2 != 0), false)]) (fun y hy => by simp only [List.mem_cons, List.not_mem_nil, or_false] at hy; subst hy; first | exact hg1) (f := 54) (args := #[.int .i64 n2, .int .i64 from1, .int .i64 to1, .int .i64 k1]) (d := 96) hF (by kernel_rfl) (by kernel_rfl) Try.func54 (by kernel_rfl) rfl (gameroomref_DiscState_w hr7 hS ) (fun v a w hR hF => ?_)
              clear hS
              obtain ⟨A9, c9, rfl, hS⟩ := hR
              have hS : Sep w0 B w (own 3 (.slice A9 r7.length c9) (vI r7) :: blk g1 52 #[.int .i64 m1, .int .i64 m2, .int .i64 m3] :: own 3 (.slice A6 x1.length c6) (vI x1) :: own 3 (.slice A7 r3.1.length c7) (vI r3.1) :: fs) := hS
              refine at_run 3 [⟨false, [((r3.2 != 0), false)], callFunc 36 #[.slice A7 r3.1.length c7, .slice A9 r7.length c9], .bool r8⟩] [some (.bool r8), none, none] [0, 7, 13, 14, 17, 18, 19, 99] [pl 0 (.slice A1 s1.length c1), pl 7 (.pointer (some ⟨g1, 0, none⟩)), pl 13 (.slice A6 x1.length c6), pl 14 (.int .i64 e1), pl 17 (.int .i64 r5.1), pl 18 (.int .i64 r5.2.1), pl 19 (.int .i64 r5.2.2), pl 99 (.bool ((r3.2 != 0) || (!r8)))] hF hS (by kernel_rfl) (by kernel_rfl) ?_ (fun a w hF hS => ?_)
              · exact obs_cons (ob_call Try.func36 (by kernel_rfl) rfl (fun hy _ hS => gameroomlaw_sameInts_w (ite_some hr8 (by rw [show (r3.2 != 0) = false from hy ((r3.2 != 0), false) (by simp)]; try rfl)) hS (fun _ hS => (hS.at_ 3 rfl).rd) ((hS.at_ 3 rfl).cap1) rfl (fun _ hS => (hS.at_ 0 rfl).rd) ((hS.at_ 0 rfl).cap1) rfl)) <| obs_nil
              refine at_end [0, 7, 13, 14, 17, 18, 19, 99] [pl 0 (.slice A1 s1.length c1), pl 7 (.pointer (some ⟨g1, 0, none⟩)), pl 13 (.slice A6 x1.length c6), pl 14 (.int .i64 e1), pl 17 (.int .i64 r5.1), pl 18 (.int .i64 r5.2.1), pl 19 (.int .i64 r5.2.2), pl 99 (.bool ((r3.2 != 0) || (!r8)))] hF rfl (by kernel_rfl) (fun hF => ?_)
              refine then_n ?_
              have hS := hS.pickN 4 [1, 2] (by decide)
              exact ⟨((r3.2 != 0) || (!r8)), hF.weak [0, 7, 13, 14, 17, 18, 19, 99] (by kernel_rfl), hS, hm⟩
    · refine reg [] [] [0, 2, 3, 4, 5, 7, 13, 14, 15, 16, 17, 18, 19, 20, 50] [pl 0 (.slice A1 s1.length c1), pl 2 (.int .i64 n2), pl 3 (.int .i64 from1), pl 4 (.int .i64 to1), pl 5 (.int .i64 k1), pl 7 (.pointer (some ⟨g1, 0, none⟩)), pl 13 (.slice A6 x1.length c6), pl 14 (.int .i64 e1), pl 15 (.slice A7 r3.1.length c7), pl 16 (.int .i64 r3.2), pl 17 (.int .i64 r5.1), pl 18 (.int .i64 r5.2.1), pl 19 (.int .i64 r5.2.2), pl 20 (.int .i64 0), pl 50 (.bool ((decide (n2 < 0)) || (decide ((40 : Int) < n2))))] hF hS Fol (by kernel_rfl) (by kernel_rfl) (by kernel_rfl) ?_ (fun a w hF hS => ?_)
      · exact obs_nil
      refine cond_ev (t := 50) (b := (decide (n2 < 0)) || (decide ((40 : Int) < n2))) hF (by kernel_rfl) (fun hb => ?_) (fun hb => ?_)
      · replace hm := if_t hm hb
        refine reg1 [] [] [0, 2, 3, 4, 5, 7, 13, 14, 15, 16, 17, 18, 19, 20] [pl 0 (.slice A1 s1.length c1), pl 2 (.int .i64 n2), pl 3 (.int .i64 from1), pl 4 (.int .i64 to1), pl 5 (.int .i64 k1), pl 7 (.pointer (some ⟨g1, 0, none⟩)), pl 13 (.slice A6 x1.length c6), pl 14 (.int .i64 e1), pl 15 (.slice A7 r3.1.length c7), pl 16 (.int .i64 r3.2), pl 17 (.int .i64 r5.1), pl 18 (.int .i64 r5.2.1), pl 19 (.int .i64 r5.2.2), pl 20 (.int .i64 2)] hF hS Fol (by kernel_rfl) (by kernel_rfl) (by kernel_rfl) ?_ (fun a w hF hS => ?_)
        · exact obs_nil
        refine then_n ?_
        have hS := hS.pickN 4 [2, 3, 1] (by decide)
        exact ⟨2, hF.weak [0, 2, 3, 4, 5, 7, 13, 14, 15, 16, 17, 18, 19, 20] (by kernel_rfl), hS, hm⟩
      · replace hm := if_f hm hb
        refine reg [] [] [0, 2, 3, 4, 5, 7, 13, 14, 15, 16, 17, 18, 19, 20, 69] [pl 0 (.slice A1 s1.length c1), pl 2 (.int .i64 n2), pl 3 (.int .i64 from1), pl 4 (.int .i64 to1), pl 5 (.int .i64 k1), pl 7 (.pointer (some ⟨g1, 0, none⟩)), pl 13 (.slice A6 x1.length c6), pl 14 (.int .i64 e1), pl 15 (.slice A7 r3.1.length c7), pl 16 (.int .i64 r3.2), pl 17 (.int .i64 r5.1), pl 18 (.int .i64 r5.2.1), pl 19 (.int .i64 r5.2.2), pl 20 (.int .i64 0), pl 69 (.bool (((((decide (from1 < 0)) || (decide ((2 : Int) < from1))) || (decide (to1 < 0))) || (decide ((2 : Int) < to1))) || (from1 == to1)))] hF hS Fol (by kernel_rfl) (by kernel_rfl) (by kernel_rfl) ?_ (fun a w hF hS => ?_)
        · exact obs_nil
        refine cond_ev (t := 69) (b := ((((decide (from1 < 0)) || (decide ((2 : Int) < from1))) || (decide (to1 < 0))) || (decide ((2 : Int) < to1))) || (from1 == to1)) hF (by kernel_rfl) (fun hb => ?_) (fun hb => ?_)
        · replace hm := if_t hm hb
          refine reg1 [] [] [0, 2, 3, 4, 5, 7, 13, 14, 15, 16, 17, 18, 19, 20] [pl 0 (.slice A1 s1.length c1), pl 2 (.int .i64 n2), pl 3 (.int .i64 from1), pl 4 (.int .i64 to1), pl 5 (.int .i64 k1), pl 7 (.pointer (some ⟨g1, 0, none⟩)), pl 13 (.slice A6 x1.length c6), pl 14 (.int .i64 e1), pl 15 (.slice A7 r3.1.length c7), pl 16 (.int .i64 r3.2), pl 17 (.int .i64 r5.1), pl 18 (.int .i64 r5.2.1), pl 19 (.int .i64 r5.2.2), pl 20 (.int .i64 5)] hF hS Fol (by kernel_rfl) (by kernel_rfl) (by kernel_rfl) ?_ (fun a w hF hS => ?_)
          · exact obs_nil
          refine then_n ?_
          have hS := hS.pickN 4 [2, 3, 1] (by decide)
          exact ⟨5, hF.weak [0, 2, 3, 4, 5, 7, 13, 14, 15, 16, 17, 18, 19, 20] (by kernel_rfl), hS, hm⟩
        · replace hm := if_f hm hb
          obtain ⟨hp1, hm⟩ := asrt_b hm
          refine reg [⟨true, [(decide (k1 < 0), false)], vS (Op.shift .shl .i64 1 .i64 n2), .int .i64 (shlK .i64 1 n2)⟩] [none, none, none, none, none, some (.int .i64 (shlK .i64 1 n2)), none, none] [0, 2, 3, 4, 5, 7, 13, 14, 15, 16, 17, 18, 19, 20, 77] [pl 0 (.slice A1 s1.length c1), pl 2 (.int .i64 n2), pl 3 (.int .i64 from1), pl 4 (.int .i64 to1), pl 5 (.int .i64 k1), pl 7 (.pointer (some ⟨g1, 0, none⟩)), pl 13 (.slice A6 x1.length c6), pl 14 (.int .i64 e1), pl 15 (.slice A7 r3.1.length c7), pl 16 (.int .i64 r3.2), pl 17 (.int .i64 r5.1), pl 18 (.int .i64 r5.2.1), pl 19 (.int .i64 r5.2.2), pl 20 (.int .i64 0), pl 77 (.bool ((decide (k1 < 0)) || (decide ((shlK .i64 1 n2) ≤ k1))))] hF hS Fol (by kernel_rfl) (by kernel_rfl) (by kernel_rfl) ?_ (fun a w hF hS => ?_)
          · exact obs_cons (ob_shl (fun hy => hp1 (hy (decide (k1 < 0), false) (by simp)))) <| obs_nil
          refine cond_ev (t := 77) (b := (decide (k1 < 0)) || (decide ((shlK .i64 1 n2) ≤ k1))) hF (by kernel_rfl) (fun hb => ?_) (fun hb => ?_)
          · replace hm := if_t hm hb
            refine reg1 [] [] [0, 2, 3, 4, 5, 7, 13, 14, 15, 16, 17, 18, 19, 20] [pl 0 (.slice A1 s1.length c1), pl 2 (.int .i64 n2), pl 3 (.int .i64 from1), pl 4 (.int .i64 to1), pl 5 (.int .i64 k1), pl 7 (.pointer (some ⟨g1, 0, none⟩)), pl 13 (.slice A6 x1.length c6), pl 14 (.int .i64 e1), pl 15 (.slice A7 r3.1.length c7), pl 16 (.int .i64 r3.2), pl 17 (.int .i64 r5.1), pl 18 (.int .i64 r5.2.1), pl 19 (.int .i64 r5.2.2), pl 20 (.int .i64 3)] hF hS Fol (by kernel_rfl) (by kernel_rfl) (by kernel_rfl) ?_ (fun a w hF hS => ?_)
            · exact obs_nil
            refine then_n ?_
            have hS := hS.pickN 4 [2, 3, 1] (by decide)
            exact ⟨3, hF.weak [0, 2, 3, 4, 5, 7, 13, 14, 15, 16, 17, 18, 19, 20] (by kernel_rfl), hS, hm⟩
          · replace hm := if_f hm hb
            refine wp_skip ?_
            refine then_n ?_
            have hS := hS.pickN 4 [2, 3, 1] (by decide)
            exact ⟨0, hF.weak [0, 2, 3, 4, 5, 7, 13, 14, 15, 16, 17, 18, 19, 20] (by kernel_rfl), hS, hm⟩
  · obtain ⟨r1, hr1, hm⟩ := call_b hm
    obtain ⟨r2, hr2, hm⟩ := call_b hm
    refine regMix5 [0, 2] [] 7 #[true, false, true, false, false, false, false, false, false] [⟨false, [], vS (Instr.loadAt 52 (.pointer (some ⟨g1, 0, none⟩))), .agg #[.int .i64 m1, .int .i64 m2, .int .i64 m3]⟩] [none, some (.agg #[.int .i64 m1, .int .i64 m2, .int .i64 m3])] [0, 2, 3, 4, 5, 7, 24, 26] [pl 0 (.slice A1 s1.length c1), pl 2 (.int .i64 n2), pl 3 (.int .i64 from1), pl 4 (.int .i64 to1), pl 5 (.int .i64 k1), pl 7 (.pointer (some ⟨g1, 0, none⟩)), pl 24 (.slice A1 s1.length c1), pl 26 (.agg #[.int .i64 m1, .int .i64 m2, .int .i64 m3])] hF hS Fol (by kernel_rfl) (by kernel_rfl) (by kernel_rfl) (by kernel_rfl) ?_ (fun a w hF hS => ?_)
    · exact obs_cons (ob_loadA (cs := #[.int .i64 m1, .int .i64 m2, .int .i64 m3]) (by kernel_rfl) (by kernel_rfl) (fun _ _ hS => (hS.at_ 0 rfl).cellsAt 0 (by rfl))) <| obs_nil
    refine any_step [1] (by kernel_rfl) rfl ?_
    refine (all_cons ?_ all_nil)
    · refine any_op (listed' := #[true, true, true, false, false, false, false, false, false]) (by kernel_rfl) (by kernel_rfl) ?_
      refine at_call (f := 30) (args := #[.slice A1 s1.length c1]) (d := 25) hF (by kernel_rfl) (by kernel_rfl) Try.func30 (by kernel_rfl) rfl (gameroomlaw_ints_w hr1 hS (fun _ hS => (hr_s1 _ (hS.dropN 1))) _hc_s1 rfl) (fun v a w hR hF => ?_)
      clear hS
      obtain ⟨A4, c4, rfl, hS⟩ := hR
      have hS : Sep w0 B w (own 3 (.slice A4 r1.length c4) (vI r1) :: blk g1 52 #[.int .i64 m1, .int .i64 m2, .int .i64 m3] :: fs) := hS
      refine any_fin rfl (hS.pickN 2 [1] (by decide)) ?_
      refine any_step [3] (by kernel_rfl) rfl ?_
      refine (all_cons ?_ all_nil)
      · refine any_op (listed' := #[true, true, true, true, false, false, false, false, false]) (by kernel_rfl) (by kernel_rfl) ?_
        refine at_call (f := 51) (args := #[.slice A4 r1.length c4, .agg #[.int .i64 m1, .int .i64 m2, .int .i64 m3]]) (d := 27) hF (by kernel_rfl) (by kernel_rfl) Try.func51 (by kernel_rfl) rfl (hanoi_Do_w hr2 hS (fun _ hS => (hS.at_ 0 rfl).rd) ((hS.at_ 0 rfl).cap1) rfl) (fun v a w hR hF => ?_)
        clear hS
        obtain ⟨A5, c5, rfl, hS⟩ := hR
        have hS : Sep w0 B w (own 3 (.slice A5 r2.1.length c5) (vI r2.1) :: own 3 (.slice A4 r1.length c4) (vI r1) :: blk g1 52 #[.int .i64 m1, .int .i64 m2, .int .i64 m3] :: fs) := hS
        refine any_fin rfl (hS.pickN 3 [2] (by decide)) ?_
        refine any_step [4] (by kernel_rfl) rfl ?_
        refine (all_cons ?_ all_nil)
        · refine any_op (listed' := #[true, true, true, true, true, false, false, false, false]) (by kernel_rfl) (by kernel_rfl) ?_
          refine at_runW 1 [] [] [0, 2, 3, 4, 5, 7, 23] [pl 0 (.slice A1 s1.length c1), pl 2 (.int .i64 n2), pl 3 (.int .i64 from1), pl 4 (.int .i64 to1), pl 5 (.int .i64 k1), pl 7 (.pointer (some ⟨g1, 0, none⟩)), pl 23 (.tuple #[.slice A5 r2.1.length c5, .int .i64 r2.2])] hF hS (by kernel_rfl) (by kernel_rfl) ?_ (fun a hF => ?_)
          · exact obs_nil
          refine any_finI rfl (fun h => h) ?_
          refine any_step [5, 6] (by kernel_rfl) rfl ?_
          refine (all_cons ?_ (all_cons ?_ all_nil))
          · refine any_op (listed' := #[true, true, true, true, true, true, false, false, false]) (by kernel_rfl) (by kernel_rfl) ?_
            refine at_runW 1 [] [] [0, 2, 3, 4, 5, 7, 23, 28] [pl 0 (.slice A1 s1.length c1), pl 2 (.int .i64 n2), pl 3 (.int .i64 from1), pl 4 (.int .i64 to1), pl 5 (.int .i64 k1), pl 7 (.pointer (some ⟨g1, 0, none⟩)), pl 23 (.tuple #[.slice A5 r2.1.length c5, .int .i64 r2.2]), pl 28 (.slice A5 r2.1.length c5)] hF hS (by kernel_rfl) (by kernel_rfl) ?_ (fun a hF => ?_)
            · exact obs_nil
            refine any_finI rfl (fun h => h) ?_
            refine any_step [6, 7] (by kernel_rfl) rfl ?_
            refine (all_cons ?_ (all_cons ?_ all_nil))
            · refine any_op (listed' := #[true, true, true, true, true, true, true, false, false]) (by kernel_rfl) (by kernel_rfl) ?_
              refine at_runW 1 [] [] [0, 2, 3, 4, 5, 7, 28, 29] [pl 0 (.slice A1 s1.length c1), pl 2 (.int .i64 n2), pl 3 (.int .i64 from1), pl 4 (.int .i64 to1), pl 5 (.int .i64 k1), pl 7 (.pointer (some ⟨g1, 0, none⟩)), pl 28 (.slice A5 r2.1.length c5), pl 29 (.int .i64 r2.2)] hF hS (by kernel_rfl) (by kernel_rfl) ?_ (fun a hF => ?_)
              · exact obs_nil
              refine any_finI rfl (fun h => h) ?_
              refine any_step [7] (by kernel_rfl) rfl ?_
              refine (all_cons ?_ all_nil)
              · refine any_op (listed' := #[true, true, true, true, true, true, true, true, false]) (by kernel_rfl) (by kernel_rfl) ?_
                refine at_runW 1 [] [] [0, 2, 3, 4, 5, 7, 13, 29] [pl 0 (.slice A1 s1.length c1), pl 2 (.int .i64 n2), pl 3 (.int .i64 from1), pl 4 (.int .i64 to1), pl 5 (.int .i64 k1), pl 7 (.pointer (some ⟨g1, 0, none⟩)), pl 13 (.slice A5 r2.1.length c5), pl 29 (.int .i64 r2.2)] hF hS (by kernel_rfl) (by kernel_rfl) ?_ (fun a hF => ?_)
                · exact obs_nil
                refine any_finI rfl (fun h => h) ?_
                refine any_step [8] (by kernel_rfl) rfl ?_
                refine (all_cons ?_ all_nil)
                · refine any_op (listed' := #[true, true, true, true, true, true, true, true, true]) (by kernel_rfl) (by kernel_rfl) ?_
                  refine at_runW 1 [] [] [0, 2, 3, 4, 5, 7, 13, 14] [pl 0 (.slice A1 s1.length c1), pl 2 (.int .i64 n2), pl 3 (.int .i64 from1), pl 4 (.int .i64 to1), pl 5 (.int .i64 k1), pl 7 (.pointer (some ⟨g1, 0, none⟩)), pl 13 (.slice A5 r2.1.length c5), pl 14 (.int .i64 r2.2)] hF hS (by kernel_rfl) (by kernel_rfl) ?_ (fun a hF => ?_)
                  · exact obs_nil
                  refine any_finI rfl (fun h => h) ?_
                  refine any_end (by kernel_rfl) ?_
                  refine np_n ?_
                  refine then_n ?_
                  have hS := hS.pickN 3 [2, 0] (by decide)
                  exact ⟨r2.1, r2.2, A5, c5, hF.weak [0, 2, 3, 4, 5, 7, 13, 14] (by kernel_rfl), hS, hm⟩
            · refine any_op (listed' := #[true, true, true, true, true, true, false, true, false]) (by kernel_rfl) (by kernel_rfl) ?_
              refine at_runW 1 [] [] [0, 2, 3, 4, 5, 7, 13, 23] [pl 0 (.slice A1 s1.length c1), pl 2 (.int .i64 n2), pl 3 (.int .i64 from1), pl 4 (.int .i64 to1), pl 5 (.int .i64 k1), pl 7 (.pointer (some ⟨g1, 0, none⟩)), pl 13 (.slice A5 r2.1.length c5), pl 23 (.tuple #[.slice A5 r2.1.length c5, .int .i64 r2.2])] hF hS (by kernel_rfl) (by kernel_rfl) ?_ (fun a hF => ?_)
              · exact obs_nil
              refine any_finI rfl (fun h => h) ?_
              refine any_step [6] (by kernel_rfl) rfl ?_
              refine (all_cons ?_ all_nil)
              · refine any_op (listed' := #[true, true, true, true, true, true, true, true, false]) (by kernel_rfl) (by kernel_rfl) ?_
                refine at_runW 1 [] [] [0, 2, 3, 4, 5, 7, 13, 29] [pl 0 (.slice A1 s1.length c1), pl 2 (.int .i64 n2), pl 3 (.int .i64 from1), pl 4 (.int .i64 to1), pl 5 (.int .i64 k1), pl 7 (.pointer (some ⟨g1, 0, none⟩)), pl 13 (.slice A5 r2.1.length c5), pl 29 (.int .i64 r2.2)] hF hS (by kernel_rfl) (by kernel_rfl) ?_ (fun a hF => ?_)
                · exact obs_nil
                refine any_finI rfl (fun h => h) ?_
                refine any_step [8] (by kernel_rfl) rfl ?_
                refine (all_cons ?_ all_nil)
                · refine any_op (listed' := #[true, true, true, true, true, true, true, true, true]) (by kernel_rfl) (by kernel_rfl) ?_
                  refine at_runW 1 [] [] [0, 2, 3, 4, 5, 7, 13, 14] [pl 0 (.slice A1 s1.length c1), pl 2 (.int .i64 n2), pl 3 (.int .i64 from1), pl 4 (.int .i64 to1), pl 5 (.int .i64 k1), pl 7 (.pointer (some ⟨g1, 0, none⟩)), pl 13 (.slice A5 r2.1.length c5), pl 14 (.int .i64 r2.2)] hF hS (by kernel_rfl) (by kernel_rfl) ?_ (fun a hF => ?_)
                  · exact obs_nil
                  refine any_finI rfl (fun h => h) ?_
                  refine any_end (by kernel_rfl) ?_
                  refine np_n ?_
                  refine then_n ?_
                  have hS := hS.pickN 3 [2, 0] (by decide)
                  exact ⟨r2.1, r2.2, A5, c5, hF.weak [0, 2, 3, 4, 5, 7, 13, 14] (by kernel_rfl), hS, hm⟩
          · refine any_op (listed' := #[true, true, true, true, true, false, true, false, false]) (by kernel_rfl) (by kernel_rfl) ?_
            refine at_runW 1 [] [] [0, 2, 3, 4, 5, 7, 23, 29] [pl 0 (.slice A1 s1.length c1), pl 2 (.int .i64 n2), pl 3 (.int .i64 from1), pl 4 (.int .i64 to1), pl 5 (.int .i64 k1), pl 7 (.pointer (some ⟨g1, 0, none⟩)), pl 23 (.tuple #[.slice A5 r2.1.length c5, .int .i64 r2.2]), pl 29 (.int .i64 r2.2)] hF hS (by kernel_rfl) (by kernel_rfl) ?_ (fun a hF => ?_)
            · exact obs_nil
            refine any_finI rfl (fun h => h) ?_
            refine any_step [5] (by kernel_rfl) rfl ?_
            refine (all_cons ?_ all_nil)
            · refine any_op (listed' := #[true, true, true, true, true, true, true, false, false]) (by kernel_rfl) (by kernel_rfl) ?_
              refine at_runW 1 [] [] [0, 2, 3, 4, 5, 7, 28, 29] [pl 0 (.slice A1 s1.length c1), pl 2 (.int .i64 n2), pl 3 (.int .i64 from1), pl 4 (.int .i64 to1), pl 5 (.int .i64 k1), pl 7 (.pointer (some ⟨g1, 0, none⟩)), pl 28 (.slice A5 r2.1.length c5), pl 29 (.int .i64 r2.2)] hF hS (by kernel_rfl) (by kernel_rfl) ?_ (fun a hF => ?_)
              · exact obs_nil
              refine any_finI rfl (fun h => h) ?_
              refine any_step [7] (by kernel_rfl) rfl ?_
              refine (all_cons ?_ all_nil)
              · refine any_op (listed' := #[true, true, true, true, true, true, true, true, false]) (by kernel_rfl) (by kernel_rfl) ?_
                refine at_runW 1 [] [] [0, 2, 3, 4, 5, 7, 13, 29] [pl 0 (.slice A1 s1.length c1), pl 2 (.int .i64 n2), pl 3 (.int .i64 from1), pl 4 (.int .i64 to1), pl 5 (.int .i64 k1), pl 7 (.pointer (some ⟨g1, 0, none⟩)), pl 13 (.slice A5 r2.1.length c5), pl 29 (.int .i64 r2.2)] hF hS (by kernel_rfl) (by kernel_rfl) ?_ (fun a hF => ?_)
                · exact obs_nil
                refine any_finI rfl (fun h => h) ?_
                refine any_step [8] (by kernel_rfl) rfl ?_
                refine (all_cons ?_ all_nil)
                · refine any_op (listed' := #[true, true, true, true, true, true, true, true, true]) (by kernel_rfl) (by kernel_rfl) ?_
                  refine at_runW 1 [] [] [0, 2, 3, 4, 5, 7, 13, 14] [pl 0 (.slice A1 s1.length c1), pl 2 (.int .i64 n2), pl 3 (.int .i64 from1), pl 4 (.int .i64 to1), pl 5 (.int .i64 k1), pl 7 (.pointer (some ⟨g1, 0, none⟩)), pl 13 (.slice A5 r2.1.length c5), pl 14 (.int .i64 r2.2)] hF hS (by kernel_rfl) (by kernel_rfl) ?_ (fun a hF => ?_)
                  · exact obs_nil
                  refine any_finI rfl (fun h => h) ?_
                  refine any_end (by kernel_rfl) ?_
                  refine np_n ?_
                  refine then_n ?_
                  have hS := hS.pickN 3 [2, 0] (by decide)
                  exact ⟨r2.1, r2.2, A5, c5, hF.weak [0, 2, 3, 4, 5, 7, 13, 14] (by kernel_rfl), hS, hm⟩

end Go.Proofs.Ytbmhcapeikebgaa
