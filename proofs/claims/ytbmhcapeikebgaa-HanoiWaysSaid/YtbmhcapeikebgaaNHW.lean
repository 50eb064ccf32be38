/-
  Models and walks, printed by our own program (wip/gen).
-/
import Derived.Test.YtbmhcapeikebgaaFB
import Derived.Test.YtbmhcapeikebgaaLibAN
namespace Go.Proofs.Ytbmhcapeikebgaa
open Go Go.GL Go.RowKit


noncomputable def gameroomlaw_ints_m (l1 : List Int) : Option (List Int) :=
  asrt ((0 : Int) + (l1.length : Int) ≤ bigN) <| some ([] ++ l1)

set_option maxRecDepth 100000 in
set_option maxHeartbeats 4000000 in
theorem gameroomlaw_ints_w {A1 : Option Addr} {c1 : Nat} {n1 : Nat} {l1 : List Int} {r : (List Int)} {w0 w : World} {B : Nat} {fs : List HP} (hm : gameroomlaw_ints_m l1 = some r) (hS : Sep w0 B w (fs)) (hr_l1 : RdF w0 B fs A1 (vI l1)) (_hc_l1 : l1.length ≤ c1) (_hn_l1 : n1 = l1.length) :
    Calls Try.prog 30 #[.slice A1 n1 c1] w fun e w' => ∃ v, e = .returned v ∧ ∃ (A3 : Option Addr) (c3 : Nat), v = .slice A3 r.length c3 ∧ Sep w0 B w' (own 3 (.slice A3 r.length c3) (vI r) :: fs) := by
  obtain ⟨i3, hi3, hz3, hs3, hb3⟩ := info_parts Info3
  obtain rfl := _hn_l1
  unfold gameroomlaw_ints_m at hm
  replace hm := start_b hm
  refine enter (l := [.slice A1 l1.length c1]) (n := 5) Try.func30 rfl rfl (by simp) (fun a hF => ?_)
  refine reg [] [] [0] [pl 0 (.slice A1 l1.length c1)] hF hS Fol (by kernel_rfl) (by kernel_rfl) (by kernel_rfl) ?_ (fun a w hF hS => ?_)
  · exact obs_nil
  refine seqR ?_
  obtain ⟨hp1, hm⟩ := asrt_b hm
  refine at_run 1 [] [] [3] [pl 3 (.slice A1 l1.length c1)] hF hS (by kernel_rfl) (by kernel_rfl) ?_ (fun a w hF hS => ?_)
  · exact obs_nil
  have hS : Sep w0 B w (own 3 (.slice none 0 0) (vI ([] : List Int)) :: fs) := hS.nil 3
  obtain ⟨A2, c2, w, hrun, hS⟩ := run_app1 (P := Try.prog) (t := 40) (m := ([] : List Int)) (ys := l1) (A2 := A1) (m2 := l1.length) (c2 := c1) (Value.int .i64) (0 : Int) (hS.at_ 0 rfl) (hr_l1 _ (hS.dropN 1)) rfl 40 Und40 hi3 hz3 hs3 (by omega) rfl (fun _ => rfl) hp1
  have hS : Sep w0 B w (own 3 (.slice A2 (([] ++ l1).length) c2) (vI ([] ++ l1)) :: fs) := hS
  refine at_do (d := 4) hF (by kernel_rfl) (by kernel_rfl) hrun (fun a hF => ?_)
  refine at_run 1 [] [] [2] [pl 2 (.slice A2 (([] ++ l1).length) c2)] hF hS (by kernel_rfl) (by kernel_rfl) ?_ (fun a w hF hS => ?_)
  · exact obs_nil
  refine at_end [2] [pl 2 (.slice A2 (([] ++ l1).length) c2)] hF rfl (by kernel_rfl) (fun hF => ?_)
  refine then_n ?_
  refine wp_ret ?_
  have hm : some ([] ++ l1) = some r := hm
  obtain rfl := Option.some.inj hm
  exact retV (rs := [.tmp 2]) (vs := [.slice A2 (([] ++ l1).length) c2]) hF rfl (rv_t (by kernel_rfl) <| rv_nil) rfl ⟨_, rfl, A2, c2, rfl, hS⟩

noncomputable def hanoi_off_m (peg1 : Int) : Option Bool :=
  some ((decide (peg1 < 0)) || (decide ((2 : Int) < peg1)))

set_option maxRecDepth 100000 in
set_option maxHeartbeats 4000000 in
theorem hanoi_off_w {peg1 : Int} {r : Bool} {w0 w : World} {B : Nat} {fs : List HP} (hm : hanoi_off_m peg1 = some r) (hS : Sep w0 B w (fs)) :
    Calls Try.prog 87 #[.int .i64 peg1] w fun e w' => e = .returned (.bool r) ∧ Sep w0 B w' (fs) := by
  unfold hanoi_off_m at hm
  replace hm := start_b hm
  refine enter (l := [.int .i64 peg1]) (n := 9) Try.func87 rfl rfl (by simp) (fun a hF => ?_)
  refine reg [] [] [0] [pl 0 (.int .i64 peg1)] hF hS Fol (by kernel_rfl) (by kernel_rfl) (by kernel_rfl) ?_ (fun a w hF hS => ?_)
  · exact obs_nil
  refine reg [] [] [2] [pl 2 (.bool ((decide (peg1 < 0)) || (decide ((2 : Int) < peg1))))] hF hS Fol (by kernel_rfl) (by kernel_rfl) (by kernel_rfl) ?_ (fun a w hF hS => ?_)
  · exact obs_nil
  refine wp_ret ?_
  have hm : some ((decide (peg1 < 0)) || (decide ((2 : Int) < peg1))) = some r := hm
  obtain rfl := Option.some.inj hm
  exact retV (rs := [.tmp 2]) (vs := [.bool ((decide (peg1 < 0)) || (decide ((2 : Int) < peg1)))]) hF rfl (rv_t (by kernel_rfl) <| rv_nil) rfl ⟨rfl, hS⟩

noncomputable def slices_IndexFunc_J3 (z1 : Int) : Option (St Int (Fl Unit Int)) :=
  some (.next (w64 (z1 + 1)))

noncomputable def slices_IndexFunc_J2 (s1 : List Int) (z1 : Int) : Option (St Int (Fl Unit Int)) :=
  asrt (0 ≤ z1 ∧ z1 < (s1.length : Int)) <| (hanoi_off_m (geti s1 z1)).bind fun r1 => if r1 then (some (.done (.ret z1))) else ((slices_IndexFunc_J3 z1))

noncomputable def slices_IndexFunc_J1 : Option Int :=
  some (-1)

noncomputable def slices_IndexFunc_K1 : (Fl Unit Int) → Option Int :=
  fun (x : (Fl Unit Int)) => match x with | .go _ => slices_IndexFunc_J1 | .ret x => some x

noncomputable def slices_IndexFunc_L1 (s1 : List Int) : Int → Option (St Int (Fl Unit Int)) :=
  fun (x : Int) => match x with | z1 => if (decide (z1 < (s1.length : Int))) then ((slices_IndexFunc_J2 s1 z1)) else (some (.done (.go ())))

noncomputable def slices_IndexFunc_m (s1 : List Int) : Option Int :=
  (loop (slices_IndexFunc_L1 s1) 0).bind slices_IndexFunc_K1

set_option maxRecDepth 100000 in
set_option maxHeartbeats 4000000 in
theorem slices_IndexFunc_w {A1 : Option Addr} {c1 : Nat} {n1 : Nat} {s1 : List Int} {r : Int} {w0 w : World} {B : Nat} {fs : List HP} (hm : slices_IndexFunc_m s1 = some r) (hS : Sep w0 B w (fs)) (hr_s1 : RdF w0 B fs A1 (vI s1)) (_hc_s1 : s1.length ≤ c1) (_hn_s1 : n1 = s1.length) :
    Calls Try.prog 134 #[.slice A1 n1 c1, .func (.func 87) #[] #[]] w fun e w' => e = .returned (.int .i64 r) ∧ Sep w0 B w' (fs) := by
  obtain ⟨i3, hi3, hz3, hs3, hb3⟩ := info_parts Info3
  obtain rfl := _hn_s1
  unfold slices_IndexFunc_m at hm
  replace hm := start_b hm
  refine enter (l := [.slice A1 s1.length c1, .func (.func 87) #[] #[]]) (n := 19) Try.func134 rfl rfl (by simp) (fun a hF => ?_)
  refine reg [] [] [0, 1] [pl 0 (.slice A1 s1.length c1), pl 1 (.func (.func 87) #[] #[])] hF hS Fol (by kernel_rfl) (by kernel_rfl) (by kernel_rfl) ?_ (fun a w hF hS => ?_)
  · exact obs_nil
  refine seq_cut (fun a w => Fr 19 [] a ∧ Sep w0 B w (fs) ∧ (slices_IndexFunc_J1).bind some = some r) ?_ ?_
  · rintro a w ⟨hF, hS, hm⟩
    unfold slices_IndexFunc_J1 at hm
    refine reg [] [] [4] [pl 4 (.int .i64 (-1))] hF hS Fol (by kernel_rfl) (by kernel_rfl) (by kernel_rfl) ?_ (fun a w hF hS => ?_)
    · exact obs_nil
    refine wp_ret ?_
    have hm : some (-1) = some r := hm
    obtain rfl := Option.some.inj hm
    exact retV (rs := [.tmp 4]) (vs := [.int .i64 (-1)]) hF rfl (rv_t (by kernel_rfl) <| rv_nil) rfl ⟨rfl, hS⟩
  · refine reg [] [] [0, 1, 7, 8] [pl 0 (.slice A1 s1.length c1), pl 1 (.func (.func 87) #[] #[]), pl 7 (.int .i64 (s1.length : Int)), pl 8 (.int .i64 0)] hF hS Fol (by kernel_rfl) (by kernel_rfl) (by kernel_rfl) ?_ (fun a w hF hS => ?_)
    · exact obs_nil
    refine wp_block ?_
    refine wp_loop_model (S := Int) (R := (Fl Unit Int)) (slices_IndexFunc_L1 s1) (fun x => (slices_IndexFunc_K1 x).bind some) r (fun (x : Int) a w => Fr 19 [pl 0 (.slice A1 s1.length c1), pl 1 (.func (.func 87) #[] #[]), pl 7 (.int .i64 (s1.length : Int)), pl 8 (.int .i64 x)] a ∧ Sep w0 B w (fs)) (assoc_b hm) ⟨hF.weak [0, 1, 7, 8] (by kernel_rfl), hS⟩ ?_
    clear hF hS hm
    rintro nn1 z1 a w ⟨hF, hS⟩ hm
    generalize hφ1 : stK (slices_IndexFunc_L1 s1) nn1 (fun x => (slices_IndexFunc_K1 x).bind some) = φ1 at hm
    unfold slices_IndexFunc_L1 at hm
    dsimp only at hm
    refine reg [] [] [0, 1, 7, 8, 9] [pl 0 (.slice A1 s1.length c1), pl 1 (.func (.func 87) #[] #[]), pl 7 (.int .i64 (s1.length : Int)), pl 8 (.int .i64 z1), pl 9 (.bool (decide (z1 < (s1.length : Int))))] hF hS Fol (by kernel_rfl) (by kernel_rfl) (by kernel_rfl) ?_ (fun a w hF hS => ?_)
    · exact obs_nil
    refine seq_cut (fun a w => Fr 19 [pl 0 (.slice A1 s1.length c1), pl 1 (.func (.func 87) #[] #[]), pl 7 (.int .i64 (s1.length : Int)), pl 8 (.int .i64 z1)] a ∧ Sep w0 B w (fs) ∧ ((slices_IndexFunc_J2 s1 z1)).bind φ1 = some r) ?_ ?_
    · rintro a w ⟨hF, hS, hm⟩
      unfold slices_IndexFunc_J2 at hm
      refine seq_cut (fun a w => Fr 19 [pl 0 (.slice A1 s1.length c1), pl 1 (.func (.func 87) #[] #[]), pl 7 (.int .i64 (s1.length : Int)), pl 8 (.int .i64 z1)] a ∧ Sep w0 B w (fs) ∧ ((slices_IndexFunc_J3 z1)).bind φ1 = some r) ?_ ?_
      · rintro a w ⟨hF, hS, hm⟩
        unfold slices_IndexFunc_J3 at hm
        refine reg1 [] [] [0, 1, 7, 8] [pl 0 (.slice A1 s1.length c1), pl 1 (.func (.func 87) #[] #[]), pl 7 (.int .i64 (s1.length : Int)), pl 8 (.int .i64 (w64 (z1 + 1)))] hF hS Fol (by kernel_rfl) (by kernel_rfl) (by kernel_rfl) ?_ (fun a w hF hS => ?_)
        · exact obs_nil
        refine then_n ?_
        rw [← hφ1] at hm
        exact ⟨(w64 (z1 + 1)), ⟨hF.weak [0, 1, 7, 8] (by kernel_rfl), hS⟩, hm⟩
      · refine wp_block ?_
        refine reg [] [] [0, 1, 5, 7, 8] [pl 0 (.slice A1 s1.length c1), pl 1 (.func (.func 87) #[] #[]), pl 5 (.int .i64 z1), pl 7 (.int .i64 (s1.length : Int)), pl 8 (.int .i64 z1)] hF hS Fol (by kernel_rfl) (by kernel_rfl) (by kernel_rfl) ?_ (fun a w hF hS => ?_)
        · exact obs_nil
        obtain ⟨hp1, hm⟩ := asrt_b hm
        obtain ⟨r1, hr1, hm⟩ := call_b hm
        refine reg [⟨true, [], vS (Instr.indexAt 40 (.slice A1 s1.length c1) (.int .i64 z1)), .pointer (some (sAddr A1 z1))⟩, ⟨false, [], vS (Instr.loadAt 3 (.pointer (some (sAddr A1 z1)))), .int .i64 (geti s1 z1)⟩, ⟨false, [], callFunc 87 #[.int .i64 (geti s1 z1)], .bool r1⟩] [none, none, none, some (.pointer (some (sAddr A1 z1))), some (.int .i64 (geti s1 z1)), some (.bool r1)] [0, 1, 5, 7, 8, 16] [pl 0 (.slice A1 s1.length c1), pl 1 (.func (.func 87) #[] #[]), pl 5 (.int .i64 z1), pl 7 (.int .i64 (s1.length : Int)), pl 8 (.int .i64 z1), pl 16 (.bool r1)] hF hS Fol (by kernel_rfl) (by kernel_rfl) (by kernel_rfl) ?_ (fun a w hF hS => ?_)
        · exact obs_cons (ob_ix1 (f := (Value.int .i64)) (m := s1) Und40 hi3 hs3 (hr_s1 _ (hS.dropN 0)) rfl (fun _ => hp1)) <| obs_cons (ob_get1 (n := s1.length) (m := s1) (Value.int .i64) (0 : Int) Agg3 (fun _ hS => ⟨_, (hr_s1 _ (hS.dropN 0))⟩) (fun _ hS => rfl) (fun _ => hp1)) <| obs_cons (ob_call Try.func87 (by kernel_rfl) rfl (fun _ _ hS => hanoi_off_w hr1 hS )) <| obs_nil
        refine cond_ev (t := 16) (b := r1) hF (by kernel_rfl) (fun hb => ?_) (fun hb => ?_)
        · replace hm := if_t hm hb
          refine reg [] [] [4] [pl 4 (.int .i64 z1)] hF hS Fol (by kernel_rfl) (by kernel_rfl) (by kernel_rfl) ?_ (fun a w hF hS => ?_)
          · exact obs_nil
          refine wp_ret ?_
          refine block_r (then_r (then_r (block_r (then_r ?_))))
          rw [← hφ1] at hm
          replace hm := done_b hm
          unfold slices_IndexFunc_K1 at hm
          try dsimp only at hm
          have hm : some z1 = some r := hm
          obtain rfl := Option.some.inj hm
          exact retV (rs := [.tmp 4]) (vs := [.int .i64 z1]) hF rfl (rv_t (by kernel_rfl) <| rv_nil) rfl ⟨rfl, hS⟩
        · replace hm := if_f hm hb
          refine wp_skip ?_
          refine block_n ?_
          refine then_n ?_
          exact ⟨hF.weak [0, 1, 7, 8] (by kernel_rfl), hS, hm⟩
    · refine cond_ev (t := 9) (b := decide (z1 < (s1.length : Int))) hF (by kernel_rfl) (fun hb => ?_) (fun hb => ?_)
      · replace hm := if_t hm hb
        refine wp_skip ?_
        refine then_n ?_
        exact ⟨hF.weak [0, 1, 7, 8] (by kernel_rfl), hS, hm⟩
      · replace hm := if_f hm hb
        refine wp_exit ?_
        refine then_e (then_e (block_e (then_n ?_)))
        rw [← hφ1] at hm
        replace hm := done_b hm
        unfold slices_IndexFunc_K1 at hm
        try dsimp only at hm
        have hm : (slices_IndexFunc_J1).bind some = some r := hm
        exact ⟨hF.weak [] (by kernel_rfl), hS, hm⟩

noncomputable def slices_ContainsFunc_m (s1 : List Int) : Option Bool :=
  (slices_IndexFunc_m s1).bind fun r1 => some (decide ((0 : Int) ≤ r1))

set_option maxRecDepth 100000 in
set_option maxHeartbeats 4000000 in
theorem slices_ContainsFunc_w {A1 : Option Addr} {c1 : Nat} {n1 : Nat} {s1 : List Int} {r : Bool} {w0 w : World} {B : Nat} {fs : List HP} (hm : slices_ContainsFunc_m s1 = some r) (hS : Sep w0 B w (fs)) (hr_s1 : RdF w0 B fs A1 (vI s1)) (_hc_s1 : s1.length ≤ c1) (_hn_s1 : n1 = s1.length) :
    Calls Try.prog 94 #[.slice A1 n1 c1, .func (.func 87) #[] #[]] w fun e w' => e = .returned (.bool r) ∧ Sep w0 B w' (fs) := by
  obtain ⟨i3, hi3, hz3, hs3, hb3⟩ := info_parts Info3
  obtain rfl := _hn_s1
  unfold slices_ContainsFunc_m at hm
  replace hm := start_b hm
  refine enter (l := [.slice A1 s1.length c1, .func (.func 87) #[] #[]]) (n := 9) Try.func94 rfl rfl (by simp) (fun a hF => ?_)
  refine reg [] [] [0, 1] [pl 0 (.slice A1 s1.length c1), pl 1 (.func (.func 87) #[] #[])] hF hS Fol (by kernel_rfl) (by kernel_rfl) (by kernel_rfl) ?_ (fun a w hF hS => ?_)
  · exact obs_nil
  obtain ⟨r1, hr1, hm⟩ := call_b hm
  refine reg [⟨false, [], callFunc 134 #[.slice A1 s1.length c1, .func (.func 87) #[] #[]], .int .i64 r1⟩] [none, none, some (.int .i64 r1), none, none] [4] [pl 4 (.bool (decide ((0 : Int) ≤ r1)))] hF hS Fol (by kernel_rfl) (by kernel_rfl) (by kernel_rfl) ?_ (fun a w hF hS => ?_)
  · exact obs_cons (ob_call Try.func134 (by kernel_rfl) rfl (fun _ _ hS => slices_IndexFunc_w hr1 hS (fun _ hS => (hr_s1 _ (hS.dropN 0))) _hc_s1 rfl)) <| obs_nil
  refine wp_ret ?_
  have hm : some (decide ((0 : Int) ≤ r1)) = some r := hm
  obtain rfl := Option.some.inj hm
  exact retV (rs := [.tmp 4]) (vs := [.bool (decide ((0 : Int) ≤ r1))]) hF rfl (rv_t (by kernel_rfl) <| rv_nil) rfl ⟨rfl, hS⟩

noncomputable def hanoi_check_J1 : Option Int :=
  some 0

noncomputable def hanoi_check_m (s1 : List Int) : Option Int :=
  if (decide ((40 : Int) < (s1.length : Int))) then (some 2) else ((slices_ContainsFunc_m s1).bind fun r1 => if r1 then (some 3) else (hanoi_check_J1))

set_option maxRecDepth 100000 in
set_option maxHeartbeats 4000000 in
theorem hanoi_check_w {A1 : Option Addr} {c1 : Nat} {n1 : Nat} {s1 : List Int} {r : Int} {w0 w : World} {B : Nat} {fs : List HP} (hm : hanoi_check_m s1 = some r) (hS : Sep w0 B w (fs)) (hr_s1 : RdF w0 B fs A1 (vI s1)) (_hc_s1 : s1.length ≤ c1) (_hn_s1 : n1 = s1.length) :
    Calls Try.prog 85 #[.slice A1 n1 c1] w fun e w' => e = .returned (.int .i64 r) ∧ Sep w0 B w' (fs) := by
  obtain ⟨i3, hi3, hz3, hs3, hb3⟩ := info_parts Info3
  obtain rfl := _hn_s1
  unfold hanoi_check_m at hm
  replace hm := start_b hm
  refine enter (l := [.slice A1 s1.length c1]) (n := 10) Try.func85 rfl rfl (by simp) (fun a hF => ?_)
  refine reg [] [] [0] [pl 0 (.slice A1 s1.length c1)] hF hS Fol (by kernel_rfl) (by kernel_rfl) (by kernel_rfl) ?_ (fun a w hF hS => ?_)
  · exact obs_nil
  refine seq_cut (fun a w => Fr 10 [] a ∧ Sep w0 B w (fs) ∧ (hanoi_check_J1).bind some = some r) ?_ ?_
  · rintro a w ⟨hF, hS, hm⟩
    unfold hanoi_check_J1 at hm
    refine reg [] [] [2] [pl 2 (.int .i64 0)] hF hS Fol (by kernel_rfl) (by kernel_rfl) (by kernel_rfl) ?_ (fun a w hF hS => ?_)
    · exact obs_nil
    refine wp_ret ?_
    have hm : some 0 = some r := hm
    obtain rfl := Option.some.inj hm
    exact retV (rs := [.tmp 2]) (vs := [.int .i64 0]) hF rfl (rv_t (by kernel_rfl) <| rv_nil) rfl ⟨rfl, hS⟩
  · refine wp_block ?_
    refine reg [] [] [0, 3] [pl 0 (.slice A1 s1.length c1), pl 3 (.bool (decide ((40 : Int) < (s1.length : Int))))] hF hS Fol (by kernel_rfl) (by kernel_rfl) (by kernel_rfl) ?_ (fun a w hF hS => ?_)
    · exact obs_nil
    refine cond_ev (t := 3) (b := decide ((40 : Int) < (s1.length : Int))) hF (by kernel_rfl) (fun hb => ?_) (fun hb => ?_)
    · replace hm := if_t hm hb
      refine reg [] [] [2] [pl 2 (.int .i64 2)] hF hS Fol (by kernel_rfl) (by kernel_rfl) (by kernel_rfl) ?_ (fun a w hF hS => ?_)
      · exact obs_nil
      refine wp_ret ?_
      refine block_r (then_r ?_)
      have hm : some 2 = some r := hm
      obtain rfl := Option.some.inj hm
      exact retV (rs := [.tmp 2]) (vs := [.int .i64 2]) hF rfl (rv_t (by kernel_rfl) <| rv_nil) rfl ⟨rfl, hS⟩
    · replace hm := if_f hm hb
      obtain ⟨r1, hr1, hm⟩ := call_b hm
      refine reg [⟨false, [], callFunc 94 #[.slice A1 s1.length c1, .func (.func 87) #[] #[]], .bool r1⟩] [none, some (.bool r1), none] [7] [pl 7 (.bool r1)] hF hS Fol (by kernel_rfl) (by kernel_rfl) (by kernel_rfl) ?_ (fun a w hF hS => ?_)
      · exact obs_cons (ob_call Try.func94 (by kernel_rfl) rfl (fun _ _ hS => slices_ContainsFunc_w hr1 hS (fun _ hS => (hr_s1 _ (hS.dropN 0))) _hc_s1 rfl)) <| obs_nil
      refine cond_ev (t := 7) (b := r1) hF (by kernel_rfl) (fun hb => ?_) (fun hb => ?_)
      · replace hm := if_t hm hb
        refine reg [] [] [2] [pl 2 (.int .i64 3)] hF hS Fol (by kernel_rfl) (by kernel_rfl) (by kernel_rfl) ?_ (fun a w hF hS => ?_)
        · exact obs_nil
        refine wp_ret ?_
        refine block_r (then_r ?_)
        have hm : some 3 = some r := hm
        obtain rfl := Option.some.inj hm
        exact retV (rs := [.tmp 2]) (vs := [.int .i64 3]) hF rfl (rv_t (by kernel_rfl) <| rv_nil) rfl ⟨rfl, hS⟩
      · replace hm := if_f hm hb
        refine wp_skip ?_
        refine block_n ?_
        refine then_n ?_
        exact ⟨hF.weak [] (by kernel_rfl), hS, hm⟩

noncomputable def hanoi_gather_J3 (i1 : Int) (peg3 : Int) (n4 : Int) : Option (St (Int × Int × Int) Int) :=
  some (.next (peg3, n4, (w64 (i1 - 1))))

noncomputable def hanoi_gather_J2 (s1 : List Int) (peg2 : Int) (n2 : Int) (i1 : Int) : Option (St (Int × Int × Int) Int) :=
  asrt (0 ≤ i1 ∧ i1 < (s1.length : Int)) <| if ((geti s1 i1) != peg2) then (asrt ((0 : Int) ≤ i1) <| asrt (0 ≤ i1 ∧ i1 < (s1.length : Int)) <| (hanoi_gather_J3 i1) (w64 ((w64 (3 - (geti s1 i1))) - peg2)) (w64 (n2 + (shlK .i64 1 i1)))) else ((hanoi_gather_J3 i1) peg2 n2)

noncomputable def hanoi_gather_J1 (n3 : Int) : Option Int :=
  some n3

noncomputable def hanoi_gather_K1 : Int → Option Int :=
  fun (x : Int) => match x with | n3 => hanoi_gather_J1 n3

noncomputable def hanoi_gather_L1 (s1 : List Int) : (Int × Int × Int) → Option (St (Int × Int × Int) Int) :=
  fun (x : (Int × Int × Int)) => match x with | (peg2, n2, i1) => if (decide ((0 : Int) ≤ i1)) then ((hanoi_gather_J2 s1 peg2 n2 i1)) else (some (.done n2))

noncomputable def hanoi_gather_m (s1 : List Int) (peg1 : Int) : Option Int :=
  (loop (hanoi_gather_L1 s1) (peg1, 0, (w64 ((s1.length : Int) - 1)))).bind hanoi_gather_K1

set_option maxRecDepth 100000 in
set_option maxHeartbeats 4000000 in
theorem hanoi_gather_w {A1 : Option Addr} {c1 : Nat} {n1 : Nat} {s1 : List Int} {peg1 : Int} {r : Int} {w0 w : World} {B : Nat} {fs : List HP} (hm : hanoi_gather_m s1 peg1 = some r) (hS : Sep w0 B w (fs)) (hr_s1 : RdF w0 B fs A1 (vI s1)) (_hc_s1 : s1.length ≤ c1) (_hn_s1 : n1 = s1.length) :
    Calls Try.prog 86 #[.slice A1 n1 c1, .int .i64 peg1] w fun e w' => e = .returned (.int .i64 r) ∧ Sep w0 B w' (fs) := by
  obtain ⟨i3, hi3, hz3, hs3, hb3⟩ := info_parts Info3
  obtain rfl := _hn_s1
  unfold hanoi_gather_m at hm
  replace hm := start_b hm
  refine enter (l := [.slice A1 s1.length c1, .int .i64 peg1]) (n := 32) Try.func86 rfl rfl (by simp) (fun a hF => ?_)
  refine reg [] [] [0, 1] [pl 0 (.slice A1 s1.length c1), pl 1 (.int .i64 peg1)] hF hS Fol (by kernel_rfl) (by kernel_rfl) (by kernel_rfl) ?_ (fun a w hF hS => ?_)
  · exact obs_nil
  refine reg [] [] [0, 1, 5] [pl 0 (.slice A1 s1.length c1), pl 1 (.int .i64 peg1), pl 5 (.int .i64 0)] hF hS Fol (by kernel_rfl) (by kernel_rfl) (by kernel_rfl) ?_ (fun a w hF hS => ?_)
  · exact obs_nil
  refine seq_cut (fun a w => ∃ (n3 : Int), Fr 32 [pl 5 (.int .i64 n3)] a ∧ Sep w0 B w (fs) ∧ (hanoi_gather_J1 n3).bind some = some r) ?_ ?_
  · rintro a w ⟨n3, hF, hS, hm⟩
    unfold hanoi_gather_J1 at hm
    refine reg [] [] [4] [pl 4 (.int .i64 n3)] hF hS Fol (by kernel_rfl) (by kernel_rfl) (by kernel_rfl) ?_ (fun a w hF hS => ?_)
    · exact obs_nil
    refine wp_ret ?_
    have hm : some n3 = some r := hm
    obtain rfl := Option.some.inj hm
    exact retV (rs := [.tmp 4]) (vs := [.int .i64 n3]) hF rfl (rv_t (by kernel_rfl) <| rv_nil) rfl ⟨rfl, hS⟩
  · refine reg [] [] [0, 1, 5, 6] [pl 0 (.slice A1 s1.length c1), pl 1 (.int .i64 peg1), pl 5 (.int .i64 0), pl 6 (.int .i64 (w64 ((s1.length : Int) - 1)))] hF hS Fol (by kernel_rfl) (by kernel_rfl) (by kernel_rfl) ?_ (fun a w hF hS => ?_)
    · exact obs_nil
    refine wp_block ?_
    refine wp_loop_model (S := (Int × Int × Int)) (R := Int) (hanoi_gather_L1 s1) (fun x => (hanoi_gather_K1 x).bind some) r (fun (x : (Int × Int × Int)) a w => Fr 32 [pl 0 (.slice A1 s1.length c1), pl 1 (.int .i64 x.1), pl 5 (.int .i64 x.2.1), pl 6 (.int .i64 x.2.2)] a ∧ Sep w0 B w (fs)) (assoc_b hm) ⟨hF.weak [0, 1, 5, 6] (by kernel_rfl), hS⟩ ?_
    clear hF hS hm
    rintro nn1 ⟨peg2, n2, i1⟩ a w ⟨hF, hS⟩ hm
    generalize hφ1 : stK (hanoi_gather_L1 s1) nn1 (fun x => (hanoi_gather_K1 x).bind some) = φ1 at hm
    unfold hanoi_gather_L1 at hm
    dsimp only at hF hS hm
    refine seq_cut (fun a w => Fr 32 [pl 0 (.slice A1 s1.length c1), pl 1 (.int .i64 peg2), pl 5 (.int .i64 n2), pl 6 (.int .i64 i1)] a ∧ Sep w0 B w (fs) ∧ ((hanoi_gather_J2 s1 peg2 n2 i1)).bind φ1 = some r) ?_ ?_
    · rintro a w ⟨hF, hS, hm⟩
      unfold hanoi_gather_J2 at hm
      refine seq_cut (fun a w => ∃ (peg3 : Int) (n4 : Int), Fr 32 [pl 0 (.slice A1 s1.length c1), pl 1 (.int .i64 peg3), pl 5 (.int .i64 n4), pl 6 (.int .i64 i1)] a ∧ Sep w0 B w (fs) ∧ ((hanoi_gather_J3 i1) peg3 n4).bind φ1 = some r) ?_ ?_
      · rintro a w ⟨peg3, n4, hF, hS, hm⟩
        unfold hanoi_gather_J3 at hm
        refine reg1 [] [] [0, 1, 5, 6] [pl 0 (.slice A1 s1.length c1), pl 1 (.int .i64 peg3), pl 5 (.int .i64 n4), pl 6 (.int .i64 (w64 (i1 - 1)))] hF hS Fol (by kernel_rfl) (by kernel_rfl) (by kernel_rfl) ?_ (fun a w hF hS => ?_)
        · exact obs_nil
        refine then_n ?_
        rw [← hφ1] at hm
        exact ⟨(peg3, n4, (w64 (i1 - 1))), ⟨hF.weak [0, 1, 5, 6] (by kernel_rfl), hS⟩, hm⟩
      · refine wp_block ?_
        obtain ⟨hp1, hm⟩ := asrt_b hm
        refine reg [⟨true, [], vS (Instr.indexAt 40 (.slice A1 s1.length c1) (.int .i64 i1)), .pointer (some (sAddr A1 i1))⟩, ⟨false, [], vS (Instr.loadAt 3 (.pointer (some (sAddr A1 i1)))), .int .i64 (geti s1 i1)⟩] [none, none, some (.pointer (some (sAddr A1 i1))), some (.int .i64 (geti s1 i1)), none, none] [0, 1, 5, 6, 19] [pl 0 (.slice A1 s1.length c1), pl 1 (.int .i64 peg2), pl 5 (.int .i64 n2), pl 6 (.int .i64 i1), pl 19 (.bool ((geti s1 i1) != peg2))] hF hS Fol (by kernel_rfl) (by kernel_rfl) (by kernel_rfl) ?_ (fun a w hF hS => ?_)
        · exact obs_cons (ob_ix1 (f := (Value.int .i64)) (m := s1) Und40 hi3 hs3 (hr_s1 _ (hS.dropN 0)) rfl (fun _ => hp1)) <| obs_cons (ob_get1 (n := s1.length) (m := s1) (Value.int .i64) (0 : Int) Agg3 (fun _ hS => ⟨_, (hr_s1 _ (hS.dropN 0))⟩) (fun _ hS => rfl) (fun _ => hp1)) <| obs_nil
        refine cond_ev (t := 19) (b := ((geti s1 i1) != peg2)) hF (by kernel_rfl) (fun hb => ?_) (fun hb => ?_)
        · replace hm := if_t hm hb
          obtain ⟨hp2, hm⟩ := asrt_b hm
          refine reg [⟨true, [], vS (Op.shift .shl .i64 1 .i64 i1), .int .i64 (shlK .i64 1 i1)⟩] [none, none, some (.int .i64 (shlK .i64 1 i1)), none, none] [0, 1, 5, 6] [pl 0 (.slice A1 s1.length c1), pl 1 (.int .i64 peg2), pl 5 (.int .i64 (w64 (n2 + (shlK .i64 1 i1)))), pl 6 (.int .i64 i1)] hF hS Fol (by kernel_rfl) (by kernel_rfl) (by kernel_rfl) ?_ (fun a w hF hS => ?_)
          · exact obs_cons (ob_shl (fun _ => hp2)) <| obs_nil
          obtain ⟨hp3, hm⟩ := asrt_b hm
          refine reg1 [⟨true, [], vS (Instr.indexAt 40 (.slice A1 s1.length c1) (.int .i64 i1)), .pointer (some (sAddr A1 i1))⟩, ⟨false, [], vS (Instr.loadAt 3 (.pointer (some (sAddr A1 i1)))), .int .i64 (geti s1 i1)⟩] [none, none, some (.pointer (some (sAddr A1 i1))), some (.int .i64 (geti s1 i1)), none, none, none, none] [0, 1, 5, 6] [pl 0 (.slice A1 s1.length c1), pl 1 (.int .i64 (w64 ((w64 (3 - (geti s1 i1))) - peg2))), pl 5 (.int .i64 (w64 (n2 + (shlK .i64 1 i1)))), pl 6 (.int .i64 i1)] hF hS Fol (by kernel_rfl) (by kernel_rfl) (by kernel_rfl) ?_ (fun a w hF hS => ?_)
          · exact obs_cons (ob_ix1 (f := (Value.int .i64)) (m := s1) Und40 hi3 hs3 (hr_s1 _ (hS.dropN 0)) rfl (fun _ => hp3)) <| obs_cons (ob_get1 (n := s1.length) (m := s1) (Value.int .i64) (0 : Int) Agg3 (fun _ hS => ⟨_, (hr_s1 _ (hS.dropN 0))⟩) (fun _ hS => rfl) (fun _ => hp3)) <| obs_nil
          refine block_n ?_
          refine then_n ?_
          exact ⟨(w64 ((w64 (3 - (geti s1 i1))) - peg2)), (w64 (n2 + (shlK .i64 1 i1))), hF.weak [0, 1, 5, 6] (by kernel_rfl), hS, hm⟩
        · replace hm := if_f hm hb
          refine wp_skip ?_
          refine block_n ?_
          refine then_n ?_
          exact ⟨peg2, n2, hF.weak [0, 1, 5, 6] (by kernel_rfl), hS, hm⟩
    · refine reg [] [] [0, 1, 5, 6, 11] [pl 0 (.slice A1 s1.length c1), pl 1 (.int .i64 peg2), pl 5 (.int .i64 n2), pl 6 (.int .i64 i1), pl 11 (.bool (decide ((0 : Int) ≤ i1)))] hF hS Fol (by kernel_rfl) (by kernel_rfl) (by kernel_rfl) ?_ (fun a w hF hS => ?_)
      · exact obs_nil
      refine cond_ev (t := 11) (b := decide ((0 : Int) ≤ i1)) hF (by kernel_rfl) (fun hb => ?_) (fun hb => ?_)
      · replace hm := if_t hm hb
        refine wp_skip ?_
        refine then_n ?_
        exact ⟨hF.weak [0, 1, 5, 6] (by kernel_rfl), hS, hm⟩
      · replace hm := if_f hm hb
        refine wp_exit ?_
        refine then_e (then_e (block_e (then_n ?_)))
        rw [← hφ1] at hm
        replace hm := done_b hm
        unfold hanoi_gather_K1 at hm
        try dsimp only at hm
        have hm : (hanoi_gather_J1 n2).bind some = some r := hm
        exact ⟨n2, hF.weak [5] (by kernel_rfl), hS, hm⟩

noncomputable def hanoi_Far_J3 (z1 : Int) : Option (St Int (Fl Unit (Int × Int))) :=
  some (.next (w64 (z1 + 1)))

noncomputable def hanoi_Far_J2 (s1 : List Int) (t1 : List Int) (z1 : Int) : Option (St Int (Fl Unit (Int × Int))) :=
  asrt (0 ≤ z1 ∧ z1 < 2) <| (hanoi_check_m (geti2 ([s1, t1] : List (List Int)) z1)).bind fun r1 => if (r1 != 0) then (some (.done (.ret (0, r1)))) else ((hanoi_Far_J3 z1))

noncomputable def hanoi_Far_J6 (k1 : Int) : Option (St Int Int) :=
  some (.next (w64 (k1 - 1)))

noncomputable def hanoi_Far_L2 (s1 : List Int) (t1 : List Int) : Int → Option (St Int Int) :=
  fun (x : Int) => match x with | k1 => asrt ((decide ((0 : Int) ≤ k1)) = true → 0 ≤ k1 ∧ k1 < (s1.length : Int)) <| asrt ((decide ((0 : Int) ≤ k1)) = true → 0 ≤ k1 ∧ k1 < (t1.length : Int)) <| if ((decide ((0 : Int) ≤ k1)) && ((geti s1 k1) == (geti t1 k1))) then ((hanoi_Far_J6 k1)) else (some (.done k1))

noncomputable def hanoi_Far_J7 (s1 : List Int) (t1 : List Int) (k2 : Int) : Option (Int × Int) :=
  asrt (0 ≤ (0 : Int) ∧ (0 : Int) ≤ k2 ∧ k2 ≤ (s1.length : Int)) <| asrt (0 ≤ (0 : Int) ∧ (0 : Int) ≤ k2 ∧ k2 ≤ (t1.length : Int)) <| asrt (0 ≤ k2 ∧ k2 < (s1.length : Int)) <| asrt (0 ≤ k2 ∧ k2 < (t1.length : Int)) <| (hanoi_gather_m (cut s1 (0 : Int) k2) (w64 ((w64 (3 - (geti s1 k2))) - (geti t1 k2)))).bind fun r2 => (hanoi_gather_m (cut t1 (0 : Int) k2) (w64 ((w64 (3 - (geti s1 k2))) - (geti t1 k2)))).bind fun r3 => asrt (0 ≤ k2 ∧ k2 < (t1.length : Int)) <| (hanoi_gather_m (cut s1 (0 : Int) k2) (geti t1 k2)).bind fun r4 => asrt ((0 : Int) ≤ k2) <| asrt (0 ≤ k2 ∧ k2 < (s1.length : Int)) <| (hanoi_gather_m (cut t1 (0 : Int) k2) (geti s1 k2)).bind fun r5 => some ((minI (w64 ((w64 (r2 + 1)) + r3)) (w64 ((w64 ((w64 ((w64 ((w64 (r4 + 1)) + (shlK .i64 1 k2))) - 1)) + 1)) + r5))), 0)

noncomputable def hanoi_Far_J5 (s1 : List Int) (t1 : List Int) (k2 : Int) : Option (Int × Int) :=
  if (decide (k2 < 0)) then (some (0, 0)) else ((hanoi_Far_J7 s1 t1 k2))

noncomputable def hanoi_Far_K2 (s1 : List Int) (t1 : List Int) : Int → Option (Int × Int) :=
  fun (x : Int) => match x with | k2 => (hanoi_Far_J5 s1 t1) k2

noncomputable def hanoi_Far_J4 (s1 : List Int) (t1 : List Int) : Option (Int × Int) :=
  (loop (hanoi_Far_L2 s1 t1) (w64 ((s1.length : Int) - 1))).bind (hanoi_Far_K2 s1 t1)

noncomputable def hanoi_Far_J1 (s1 : List Int) (t1 : List Int) : Option (Int × Int) :=
  if ((s1.length : Int) != (t1.length : Int)) then (some (0, 11)) else ((hanoi_Far_J4 s1 t1))

noncomputable def hanoi_Far_K1 (s1 : List Int) (t1 : List Int) : (Fl Unit (Int × Int)) → Option (Int × Int) :=
  fun (x : (Fl Unit (Int × Int))) => match x with | .go _ => (hanoi_Far_J1 s1 t1) | .ret x => some x

noncomputable def hanoi_Far_L1 (s1 : List Int) (t1 : List Int) : Int → Option (St Int (Fl Unit (Int × Int))) :=
  fun (x : Int) => match x with | z1 => if (decide (z1 < 2)) then ((hanoi_Far_J2 s1 t1 z1)) else (some (.done (.go ())))

noncomputable def hanoi_Far_m (s1 : List Int) (t1 : List Int) : Option (Int × Int) :=
  (loop (hanoi_Far_L1 s1 t1) 0).bind (hanoi_Far_K1 s1 t1)

set_option maxRecDepth 100000 in
set_option maxHeartbeats 4000000 in
theorem hanoi_Far_w {A1 : Option Addr} {c1 : Nat} {n1 : Nat} {s1 : List Int} {A2 : Option Addr} {c2 : Nat} {n2 : Nat} {t1 : List Int} {r : (Int × Int)} {w0 w : World} {B : Nat} {fs : List HP} (hm : hanoi_Far_m s1 t1 = some r) (hS : Sep w0 B w (fs)) (hr_s1 : RdF w0 B fs A1 (vI s1)) (_hc_s1 : s1.length ≤ c1) (_hn_s1 : n1 = s1.length) (hr_t1 : RdF w0 B fs A2 (vI t1)) (_hc_t1 : t1.length ≤ c2) (_hn_t1 : n2 = t1.length) :
    Calls Try.prog 29 #[.slice A1 n1 c1, .slice A2 n2 c2] w fun e w' => e = .returned (.tuple #[.int .i64 r.1, .int .i64 r.2]) ∧ Sep w0 B w' (fs) := by
  obtain ⟨i3, hi3, hz3, hs3, hb3⟩ := info_parts Info3
  obtain ⟨i40, hi40, hz40, hs40, hb40⟩ := info_parts Info40
  obtain rfl := _hn_s1
  obtain rfl := _hn_t1
  unfold hanoi_Far_m at hm
  replace hm := start_b hm
  refine enter (l := [.slice A1 s1.length c1, .slice A2 t1.length c2]) (n := 100) Try.func29 rfl rfl (by simp) (fun a hF => ?_)
  refine reg [] [] [0, 1] [pl 0 (.slice A1 s1.length c1), pl 1 (.slice A2 t1.length c2)] hF hS Fol (by kernel_rfl) (by kernel_rfl) (by kernel_rfl) ?_ (fun a w hF hS => ?_)
  · exact obs_nil
  refine seq_cut (fun a w => Fr 100 [pl 0 (.slice A1 s1.length c1), pl 1 (.slice A2 t1.length c2)] a ∧ Sep w0 B w (fs) ∧ ((hanoi_Far_J1 s1 t1)).bind some = some r) ?_ ?_
  · rintro a w ⟨hF, hS, hm⟩
    unfold hanoi_Far_J1 at hm
    refine seq_cut (fun a w => Fr 100 [pl 0 (.slice A1 s1.length c1), pl 1 (.slice A2 t1.length c2)] a ∧ Sep w0 B w (fs) ∧ ((hanoi_Far_J4 s1 t1)).bind some = some r) ?_ ?_
    · rintro a w ⟨hF, hS, hm⟩
      unfold hanoi_Far_J4 at hm
      refine reg [] [] [0, 1, 9] [pl 0 (.slice A1 s1.length c1), pl 1 (.slice A2 t1.length c2), pl 9 (.int .i64 (w64 ((s1.length : Int) - 1)))] hF hS Fol (by kernel_rfl) (by kernel_rfl) (by kernel_rfl) ?_ (fun a w hF hS => ?_)
      · exact obs_nil
      refine seq_cut (fun a w => ∃ (k2 : Int), Fr 100 [pl 0 (.slice A1 s1.length c1), pl 1 (.slice A2 t1.length c2), pl 9 (.int .i64 k2)] a ∧ Sep w0 B w (fs) ∧ ((hanoi_Far_J5 s1 t1) k2).bind some = some r) ?_ ?_
      · rintro a w ⟨k2, hF, hS, hm⟩
        unfold hanoi_Far_J5 at hm
        refine seq_cut (fun a w => Fr 100 [pl 0 (.slice A1 s1.length c1), pl 1 (.slice A2 t1.length c2), pl 9 (.int .i64 k2)] a ∧ Sep w0 B w (fs) ∧ ((hanoi_Far_J7 s1 t1 k2)).bind some = some r) ?_ ?_
        · rintro a w ⟨hF, hS, hm⟩
          unfold hanoi_Far_J7 at hm
          obtain ⟨hp4, hm⟩ := asrt_b hm
          obtain ⟨hp5, hm⟩ := asrt_b hm
          refine reg [⟨true, [], vS (Instr.sliceAt 40 (.slice A1 s1.length c1) none (some (.int .i64 k2)) none), .slice (cutAddr A1 c1 (0 : Int)) ((cut s1 (0 : Int) k2).length) (c1 - Int.toNat (0 : Int))⟩, ⟨true, [], vS (Instr.sliceAt 40 (.slice A2 t1.length c2) none (some (.int .i64 k2)) none), .slice (cutAddr A2 c2 (0 : Int)) ((cut t1 (0 : Int) k2).length) (c2 - Int.toNat (0 : Int))⟩] [none, none, some (.slice (cutAddr A1 c1 (0 : Int)) ((cut s1 (0 : Int) k2).length) (c1 - Int.toNat (0 : Int))), none, none, some (.slice (cutAddr A2 c2 (0 : Int)) ((cut t1 (0 : Int) k2).length) (c2 - Int.toNat (0 : Int))), none, none] [0, 1, 9, 10, 11] [pl 0 (.slice A1 s1.length c1), pl 1 (.slice A2 t1.length c2), pl 9 (.int .i64 k2), pl 10 (.slice (cutAddr A1 c1 (0 : Int)) ((cut s1 (0 : Int) k2).length) (c1 - Int.toNat (0 : Int))), pl 11 (.slice (cutAddr A2 c2 (0 : Int)) ((cut t1 (0 : Int) k2).length) (c2 - Int.toNat (0 : Int)))] hF hS Fol (by kernel_rfl) (by kernel_rfl) (by kernel_rfl) ?_ (fun a w hF hS => ?_)
          · exact obs_cons (ob_cutn (l := s1) (k := .i64) (k' := .i64) Und40 hi3 hs3 rfl (.inr ⟨rfl, rfl⟩) (.inl rfl) (fun _ => hp4) _hc_s1) <| obs_cons (ob_cutn (l := t1) (k := .i64) (k' := .i64) Und40 hi3 hs3 rfl (.inr ⟨rfl, rfl⟩) (.inl rfl) (fun _ => hp5) _hc_t1) <| obs_nil
          obtain ⟨hp6, hm⟩ := asrt_b hm
          obtain ⟨hp7, hm⟩ := asrt_b hm
          refine reg [⟨true, [], vS (Instr.indexAt 40 (.slice A1 s1.length c1) (.int .i64 k2)), .pointer (some (sAddr A1 k2))⟩, ⟨false, [], vS (Instr.loadAt 3 (.pointer (some (sAddr A1 k2)))), .int .i64 (geti s1 k2)⟩, ⟨true, [], vS (Instr.indexAt 40 (.slice A2 t1.length c2) (.int .i64 k2)), .pointer (some (sAddr A2 k2))⟩, ⟨false, [], vS (Instr.loadAt 3 (.pointer (some (sAddr A2 k2)))), .int .i64 (geti t1 k2)⟩] [none, none, some (.pointer (some (sAddr A1 k2))), some (.int .i64 (geti s1 k2)), none, none, none, some (.pointer (some (sAddr A2 k2))), some (.int .i64 (geti t1 k2)), none, none] [0, 1, 9, 10, 11, 12] [pl 0 (.slice A1 s1.length c1), pl 1 (.slice A2 t1.length c2), pl 9 (.int .i64 k2), pl 10 (.slice (cutAddr A1 c1 (0 : Int)) ((cut s1 (0 : Int) k2).length) (c1 - Int.toNat (0 : Int))), pl 11 (.slice (cutAddr A2 c2 (0 : Int)) ((cut t1 (0 : Int) k2).length) (c2 - Int.toNat (0 : Int))), pl 12 (.int .i64 (w64 ((w64 (3 - (geti s1 k2))) - (geti t1 k2))))] hF hS Fol (by kernel_rfl) (by kernel_rfl) (by kernel_rfl) ?_ (fun a w hF hS => ?_)
          · exact obs_cons (ob_ix1 (f := (Value.int .i64)) (m := s1) Und40 hi3 hs3 (hr_s1 _ (hS.dropN 0)) rfl (fun _ => hp6)) <| obs_cons (ob_get1 (n := s1.length) (m := s1) (Value.int .i64) (0 : Int) Agg3 (fun _ hS => ⟨_, (hr_s1 _ (hS.dropN 0))⟩) (fun _ hS => rfl) (fun _ => hp6)) <| obs_cons (ob_ix1 (f := (Value.int .i64)) (m := t1) Und40 hi3 hs3 (hr_t1 _ (hS.dropN 0)) rfl (fun _ => hp7)) <| obs_cons (ob_get1 (n := t1.length) (m := t1) (Value.int .i64) (0 : Int) Agg3 (fun _ hS => ⟨_, (hr_t1 _ (hS.dropN 0))⟩) (fun _ hS => rfl) (fun _ => hp7)) <| obs_nil
          obtain ⟨r2, hr2, hm⟩ := call_b hm
          obtain ⟨r3, hr3, hm⟩ := call_b hm
          refine reg [⟨false, [], callFunc 86 #[.slice (cutAddr A1 c1 (0 : Int)) ((cut s1 (0 : Int) k2).length) (c1 - Int.toNat (0 : Int)), .int .i64 (w64 ((w64 (3 - (geti s1 k2))) - (geti t1 k2)))], .int .i64 r2⟩, ⟨false, [], callFunc 86 #[.slice (cutAddr A2 c2 (0 : Int)) ((cut t1 (0 : Int) k2).length) (c2 - Int.toNat (0 : Int)), .int .i64 (w64 ((w64 (3 - (geti s1 k2))) - (geti t1 k2)))], .int .i64 r3⟩] [none, none, some (.int .i64 r2), none, none, none, some (.int .i64 r3), none, none] [0, 1, 9, 10, 11, 13] [pl 0 (.slice A1 s1.length c1), pl 1 (.slice A2 t1.length c2), pl 9 (.int .i64 k2), pl 10 (.slice (cutAddr A1 c1 (0 : Int)) ((cut s1 (0 : Int) k2).length) (c1 - Int.toNat (0 : Int))), pl 11 (.slice (cutAddr A2 c2 (0 : Int)) ((cut t1 (0 : Int) k2).length) (c2 - Int.toNat (0 : Int))), pl 13 (.int .i64 (w64 ((w64 (r2 + 1)) + r3)))] hF hS Fol (by kernel_rfl) (by kernel_rfl) (by kernel_rfl) ?_ (fun a w hF hS => ?_)
          · exact obs_cons (ob_call Try.func86 (by kernel_rfl) rfl (fun _ _ hS => hanoi_gather_w hr2 hS (fun _ hS => (Rd.cutF (hr_s1 _ (hS.dropN 0)) hp4 _hc_s1)) (cap_cut hp4 _hc_s1) rfl)) <| obs_cons (ob_call Try.func86 (by kernel_rfl) rfl (fun _ _ hS => hanoi_gather_w hr3 hS (fun _ hS => (Rd.cutF (hr_t1 _ (hS.dropN 0)) hp5 _hc_t1)) (cap_cut hp5 _hc_t1) rfl)) <| obs_nil
          obtain ⟨hp8, hm⟩ := asrt_b hm
          obtain ⟨r4, hr4, hm⟩ := call_b hm
          obtain ⟨hp9, hm⟩ := asrt_b hm
          obtain ⟨hp10, hm⟩ := asrt_b hm
          obtain ⟨r5, hr5, hm⟩ := call_b hm
          refine reg [⟨true, [], vS (Instr.indexAt 40 (.slice A2 t1.length c2) (.int .i64 k2)), .pointer (some (sAddr A2 k2))⟩, ⟨false, [], vS (Instr.loadAt 3 (.pointer (some (sAddr A2 k2)))), .int .i64 (geti t1 k2)⟩, ⟨false, [], callFunc 86 #[.slice (cutAddr A1 c1 (0 : Int)) ((cut s1 (0 : Int) k2).length) (c1 - Int.toNat (0 : Int)), .int .i64 (geti t1 k2)], .int .i64 r4⟩, ⟨true, [], vS (Op.shift .shl .i64 1 .i64 k2), .int .i64 (shlK .i64 1 k2)⟩, ⟨true, [], vS (Instr.indexAt 40 (.slice A1 s1.length c1) (.int .i64 k2)), .pointer (some (sAddr A1 k2))⟩, ⟨false, [], vS (Instr.loadAt 3 (.pointer (some (sAddr A1 k2)))), .int .i64 (geti s1 k2)⟩, ⟨false, [], callFunc 86 #[.slice (cutAddr A2 c2 (0 : Int)) ((cut t1 (0 : Int) k2).length) (c2 - Int.toNat (0 : Int)), .int .i64 (geti s1 k2)], .int .i64 r5⟩] [none, none, none, some (.pointer (some (sAddr A2 k2))), some (.int .i64 (geti t1 k2)), some (.int .i64 r4), none, none, some (.int .i64 (shlK .i64 1 k2)), none, none, none, none, none, none, some (.pointer (some (sAddr A1 k2))), some (.int .i64 (geti s1 k2)), some (.int .i64 r5), none, none] [13, 14] [pl 13 (.int .i64 (w64 ((w64 (r2 + 1)) + r3))), pl 14 (.int .i64 (w64 ((w64 ((w64 ((w64 ((w64 (r4 + 1)) + (shlK .i64 1 k2))) - 1)) + 1)) + r5)))] hF hS Fol (by kernel_rfl) (by kernel_rfl) (by kernel_rfl) ?_ (fun a w hF hS => ?_)
          · exact obs_cons (ob_ix1 (f := (Value.int .i64)) (m := t1) Und40 hi3 hs3 (hr_t1 _ (hS.dropN 0)) rfl (fun _ => hp8)) <| obs_cons (ob_get1 (n := t1.length) (m := t1) (Value.int .i64) (0 : Int) Agg3 (fun _ hS => ⟨_, (hr_t1 _ (hS.dropN 0))⟩) (fun _ hS => rfl) (fun _ => hp8)) <| obs_cons (ob_call Try.func86 (by kernel_rfl) rfl (fun _ _ hS => hanoi_gather_w hr4 hS (fun _ hS => (Rd.cutF (hr_s1 _ (hS.dropN 0)) hp4 _hc_s1)) (cap_cut hp4 _hc_s1) rfl)) <| obs_cons (ob_shl (fun _ => hp9)) <| obs_cons (ob_ix1 (f := (Value.int .i64)) (m := s1) Und40 hi3 hs3 (hr_s1 _ (hS.dropN 0)) rfl (fun _ => hp10)) <| obs_cons (ob_get1 (n := s1.length) (m := s1) (Value.int .i64) (0 : Int) Agg3 (fun _ hS => ⟨_, (hr_s1 _ (hS.dropN 0))⟩) (fun _ hS => rfl) (fun _ => hp10)) <| obs_cons (ob_call Try.func86 (by kernel_rfl) rfl (fun _ _ hS => hanoi_gather_w hr5 hS (fun _ hS => (Rd.cutF (hr_t1 _ (hS.dropN 0)) hp5 _hc_t1)) (cap_cut hp5 _hc_t1) rfl)) <| obs_nil
          refine reg [⟨true, [], vS (Builtin.min_ #[3, 3] 3 #[.int .i64 (w64 ((w64 (r2 + 1)) + r3)), .int .i64 (w64 ((w64 ((w64 ((w64 ((w64 (r4 + 1)) + (shlK .i64 1 k2))) - 1)) + 1)) + r5))]), .int .i64 (minI (w64 ((w64 (r2 + 1)) + r3)) (w64 ((w64 ((w64 ((w64 ((w64 (r4 + 1)) + (shlK .i64 1 k2))) - 1)) + 1)) + r5)))⟩] [none, none, some (.int .i64 (minI (w64 ((w64 (r2 + 1)) + r3)) (w64 ((w64 ((w64 ((w64 ((w64 (r4 + 1)) + (shlK .i64 1 k2))) - 1)) + 1)) + r5)))), none, none] [4, 5] [pl 4 (.int .i64 (minI (w64 ((w64 (r2 + 1)) + r3)) (w64 ((w64 ((w64 ((w64 ((w64 (r4 + 1)) + (shlK .i64 1 k2))) - 1)) + 1)) + r5)))), pl 5 (.int .i64 0)] hF hS Fol (by kernel_rfl) (by kernel_rfl) (by kernel_rfl) ?_ (fun a w hF hS => ?_)
          · exact obs_cons (ob_min rfl) <| obs_nil
          refine wp_ret ?_
          have hm : some ((minI (w64 ((w64 (r2 + 1)) + r3)) (w64 ((w64 ((w64 ((w64 ((w64 (r4 + 1)) + (shlK .i64 1 k2))) - 1)) + 1)) + r5))), 0) = some r := hm
          obtain rfl := Option.some.inj hm
          exact retV (rs := [.tmp 4, .tmp 5]) (vs := [.int .i64 (minI (w64 ((w64 (r2 + 1)) + r3)) (w64 ((w64 ((w64 ((w64 ((w64 (r4 + 1)) + (shlK .i64 1 k2))) - 1)) + 1)) + r5))), .int .i64 0]) hF rfl (rv_t (by kernel_rfl) <| rv_t (by kernel_rfl) <| rv_nil) rfl ⟨rfl, hS⟩
        · refine reg [] [] [0, 1, 9, 53] [pl 0 (.slice A1 s1.length c1), pl 1 (.slice A2 t1.length c2), pl 9 (.int .i64 k2), pl 53 (.bool (decide (k2 < 0)))] hF hS Fol (by kernel_rfl) (by kernel_rfl) (by kernel_rfl) ?_ (fun a w hF hS => ?_)
          · exact obs_nil
          refine cond_ev (t := 53) (b := decide (k2 < 0)) hF (by kernel_rfl) (fun hb => ?_) (fun hb => ?_)
          · replace hm := if_t hm hb
            refine reg [] [] [4, 5] [pl 4 (.int .i64 0), pl 5 (.int .i64 0)] hF hS Fol (by kernel_rfl) (by kernel_rfl) (by kernel_rfl) ?_ (fun a w hF hS => ?_)
            · exact obs_nil
            refine wp_ret ?_
            refine then_r ?_
            have hm : some (0, 0) = some r := hm
            obtain rfl := Option.some.inj hm
            exact retV (rs := [.tmp 4, .tmp 5]) (vs := [.int .i64 0, .int .i64 0]) hF rfl (rv_t (by kernel_rfl) <| rv_t (by kernel_rfl) <| rv_nil) rfl ⟨rfl, hS⟩
          · replace hm := if_f hm hb
            refine wp_skip ?_
            refine then_n ?_
            exact ⟨hF.weak [0, 1, 9] (by kernel_rfl), hS, hm⟩
      · refine wp_block ?_
        refine wp_loop_model (S := Int) (R := Int) (hanoi_Far_L2 s1 t1) (fun x => ((hanoi_Far_K2 s1 t1) x).bind some) r (fun (x : Int) a w => Fr 100 [pl 0 (.slice A1 s1.length c1), pl 1 (.slice A2 t1.length c2), pl 9 (.int .i64 x)] a ∧ Sep w0 B w (fs)) (assoc_b hm) ⟨hF.weak [0, 1, 9] (by kernel_rfl), hS⟩ ?_
        clear hF hS hm
        rintro nn2 k1 a w ⟨hF, hS⟩ hm
        generalize hφ2 : stK (hanoi_Far_L2 s1 t1) nn2 (fun x => ((hanoi_Far_K2 s1 t1) x).bind some) = φ2 at hm
        unfold hanoi_Far_L2 at hm
        dsimp only at hm
        refine seq_cut (fun a w => Fr 100 [pl 0 (.slice A1 s1.length c1), pl 1 (.slice A2 t1.length c2), pl 9 (.int .i64 k1)] a ∧ Sep w0 B w (fs) ∧ ((hanoi_Far_J6 k1)).bind φ2 = some r) ?_ ?_
        · rintro a w ⟨hF, hS, hm⟩
          unfold hanoi_Far_J6 at hm
          refine wp_block ?_
          refine reg1 [] [] [0, 1, 9] [pl 0 (.slice A1 s1.length c1), pl 1 (.slice A2 t1.length c2), pl 9 (.int .i64 (w64 (k1 - 1)))] hF hS Fol (by kernel_rfl) (by kernel_rfl) (by kernel_rfl) ?_ (fun a w hF hS => ?_)
          · exact obs_nil
          refine block_n ?_
          refine then_n ?_
          rw [← hφ2] at hm
          exact ⟨(w64 (k1 - 1)), ⟨hF.weak [0, 1, 9] (by kernel_rfl), hS⟩, hm⟩
        · obtain ⟨hp2, hm⟩ := asrt_b hm
          obtain ⟨hp3, hm⟩ := asrt_b hm
          refine reg [⟨true, [(decide ((0 : Int) ≤ k1), true)], vS (Instr.indexAt 40 (.slice A1 s1.length c1) (.int .i64 k1)), .pointer (some (sAddr A1 k1))⟩, ⟨false, [(decide ((0 : Int) ≤ k1), true)], vS (Instr.loadAt 3 (.pointer (some (sAddr A1 k1)))), .int .i64 (geti s1 k1)⟩, ⟨true, [(decide ((0 : Int) ≤ k1), true)], vS (Instr.indexAt 40 (.slice A2 t1.length c2) (.int .i64 k1)), .pointer (some (sAddr A2 k1))⟩, ⟨false, [(decide ((0 : Int) ≤ k1), true)], vS (Instr.loadAt 3 (.pointer (some (sAddr A2 k1)))), .int .i64 (geti t1 k1)⟩] [none, none, none, none, none, some (.pointer (some (sAddr A1 k1))), some (.int .i64 (geti s1 k1)), none, none, some (.pointer (some (sAddr A2 k1))), some (.int .i64 (geti t1 k1)), none, none] [0, 1, 9, 49] [pl 0 (.slice A1 s1.length c1), pl 1 (.slice A2 t1.length c2), pl 9 (.int .i64 k1), pl 49 (.bool ((decide ((0 : Int) ≤ k1)) && ((geti s1 k1) == (geti t1 k1))))] hF hS Fol (by kernel_rfl) (by kernel_rfl) (by kernel_rfl) ?_ (fun a w hF hS => ?_)
          · exact obs_cons (ob_ix1 (f := (Value.int .i64)) (m := s1) Und40 hi3 hs3 (hr_s1 _ (hS.dropN 0)) rfl (fun hy => hp2 (hy (decide ((0 : Int) ≤ k1), true) (by simp)))) <| obs_cons (ob_get1 (n := s1.length) (m := s1) (Value.int .i64) (0 : Int) Agg3 (fun _ hS => ⟨_, (hr_s1 _ (hS.dropN 0))⟩) (fun _ hS => rfl) (fun hy => hp2 (hy (decide ((0 : Int) ≤ k1), true) (by simp)))) <| obs_cons (ob_ix1 (f := (Value.int .i64)) (m := t1) Und40 hi3 hs3 (hr_t1 _ (hS.dropN 0)) rfl (fun hy => hp3 (hy (decide ((0 : Int) ≤ k1), true) (by simp)))) <| obs_cons (ob_get1 (n := t1.length) (m := t1) (Value.int .i64) (0 : Int) Agg3 (fun _ hS => ⟨_, (hr_t1 _ (hS.dropN 0))⟩) (fun _ hS => rfl) (fun hy => hp3 (hy (decide ((0 : Int) ≤ k1), true) (by simp)))) <| obs_nil
          refine cond_ev (t := 49) (b := (decide ((0 : Int) ≤ k1)) && ((geti s1 k1) == (geti t1 k1))) hF (by kernel_rfl) (fun hb => ?_) (fun hb => ?_)
          · replace hm := if_t hm hb
            refine wp_skip ?_
            refine then_n ?_
            exact ⟨hF.weak [0, 1, 9] (by kernel_rfl), hS, hm⟩
          · replace hm := if_f hm hb
            refine wp_exit ?_
            refine then_e (then_e (block_e (then_n ?_)))
            rw [← hφ2] at hm
            replace hm := done_b hm
            unfold hanoi_Far_K2 at hm
            try dsimp only at hm
            have hm : ((hanoi_Far_J5 s1 t1) k1).bind some = some r := hm
            exact ⟨k1, hF.weak [0, 1, 9] (by kernel_rfl), hS, hm⟩
    · refine reg [] [] [0, 1, 33] [pl 0 (.slice A1 s1.length c1), pl 1 (.slice A2 t1.length c2), pl 33 (.bool ((s1.length : Int) != (t1.length : Int)))] hF hS Fol (by kernel_rfl) (by kernel_rfl) (by kernel_rfl) ?_ (fun a w hF hS => ?_)
      · exact obs_nil
      refine cond_ev (t := 33) (b := ((s1.length : Int) != (t1.length : Int))) hF (by kernel_rfl) (fun hb => ?_) (fun hb => ?_)
      · replace hm := if_t hm hb
        refine reg [] [] [4, 5] [pl 4 (.int .i64 0), pl 5 (.int .i64 11)] hF hS Fol (by kernel_rfl) (by kernel_rfl) (by kernel_rfl) ?_ (fun a w hF hS => ?_)
        · exact obs_nil
        refine wp_ret ?_
        refine then_r ?_
        have hm : some (0, 11) = some r := hm
        obtain rfl := Option.some.inj hm
        exact retV (rs := [.tmp 4, .tmp 5]) (vs := [.int .i64 0, .int .i64 11]) hF rfl (rv_t (by kernel_rfl) <| rv_t (by kernel_rfl) <| rv_nil) rfl ⟨rfl, hS⟩
      · replace hm := if_f hm hb
        refine wp_skip ?_
        refine then_n ?_
        exact ⟨hF.weak [0, 1] (by kernel_rfl), hS, hm⟩
  · refine seqR ?_
    refine at_run 2 [] [] [0, 1, 15, 16] [pl 0 (.slice A1 s1.length c1), pl 1 (.slice A2 t1.length c2), pl 15 (.slice A1 s1.length c1), pl 16 (.slice A2 t1.length c2)] hF hS (by kernel_rfl) (by kernel_rfl) ?_ (fun a w hF hS => ?_)
    · exact obs_nil
    refine at_do (d := 17) (s := vS (Instr.buildSlice 125 2 #[(0, .slice A1 s1.length c1), (1, .slice A2 t1.length c2)])) (v := .slice (some ⟨w.heap.size, 0, none⟩) 2 2) (w' := w.alloc (.cells #[.slice A1 s1.length c1, .slice A2 t1.length c2] 40)) hF (by kernel_rfl) (by kernel_rfl) (by kernel_rfl) (fun a hF => ?_)
    have hS : Sep w0 B (w.alloc (.cells #[.slice A1 s1.length c1, .slice A2 t1.length c2] 40)) (own 40 (.slice (some (⟨w.heap.size, 0, none⟩ : Addr)) 2 2) [.slice A1 s1.length c1, .slice A2 t1.length c2] :: (fs)) := hS.lit 40 #[.slice A1 s1.length c1, .slice A2 t1.length c2] 2 rfl (by omega)
    generalize (some (⟨w.heap.size, 0, none⟩ : Addr)) = g1 at hF hS
    generalize w.alloc (.cells #[.slice A1 s1.length c1, .slice A2 t1.length c2] 40) = w at hS ⊢
    refine at_run 2 [] [] [0, 1, 17, 18, 19] [pl 0 (.slice A1 s1.length c1), pl 1 (.slice A2 t1.length c2), pl 17 (.slice g1 2 2), pl 18 (.int .i64 2), pl 19 (.int .i64 0)] hF hS (by kernel_rfl) (by kernel_rfl) ?_ (fun a w hF hS => ?_)
    · exact obs_nil
    refine at_end [0, 1, 17, 18, 19] [pl 0 (.slice A1 s1.length c1), pl 1 (.slice A2 t1.length c2), pl 17 (.slice g1 2 2), pl 18 (.int .i64 2), pl 19 (.int .i64 0)] hF rfl (by kernel_rfl) (fun hF => ?_)
    refine then_n ?_
    refine wp_block ?_
    refine wp_loop_model (S := Int) (R := (Fl Unit (Int × Int))) (hanoi_Far_L1 s1 t1) (fun x => ((hanoi_Far_K1 s1 t1) x).bind some) r (fun (x : Int) a w => Fr 100 [pl 0 (.slice A1 s1.length c1), pl 1 (.slice A2 t1.length c2), pl 17 (.slice g1 2 2), pl 18 (.int .i64 2), pl 19 (.int .i64 x)] a ∧ Sep w0 B w (own 40 (.slice g1 2 2) [.slice A1 s1.length c1, .slice A2 t1.length c2] :: fs)) (assoc_b hm) ⟨hF.weak [0, 1, 17, 18, 19] (by kernel_rfl), hS⟩ ?_
    clear hF hS hm
    rintro nn1 z1 a w ⟨hF, hS⟩ hm
    generalize hφ1 : stK (hanoi_Far_L1 s1 t1) nn1 (fun x => ((hanoi_Far_K1 s1 t1) x).bind some) = φ1 at hm
    unfold hanoi_Far_L1 at hm
    dsimp only at hm
    refine reg [] [] [0, 1, 17, 18, 19, 20] [pl 0 (.slice A1 s1.length c1), pl 1 (.slice A2 t1.length c2), pl 17 (.slice g1 2 2), pl 18 (.int .i64 2), pl 19 (.int .i64 z1), pl 20 (.bool (decide (z1 < 2)))] hF hS Fol (by kernel_rfl) (by kernel_rfl) (by kernel_rfl) ?_ (fun a w hF hS => ?_)
    · exact obs_nil
    refine seq_cut (fun a w => Fr 100 [pl 0 (.slice A1 s1.length c1), pl 1 (.slice A2 t1.length c2), pl 17 (.slice g1 2 2), pl 18 (.int .i64 2), pl 19 (.int .i64 z1)] a ∧ Sep w0 B w (own 40 (.slice g1 2 2) [.slice A1 s1.length c1, .slice A2 t1.length c2] :: fs) ∧ ((hanoi_Far_J2 s1 t1 z1)).bind φ1 = some r) ?_ ?_
    · rintro a w ⟨hF, hS, hm⟩
      unfold hanoi_Far_J2 at hm
      refine seq_cut (fun a w => Fr 100 [pl 0 (.slice A1 s1.length c1), pl 1 (.slice A2 t1.length c2), pl 17 (.slice g1 2 2), pl 18 (.int .i64 2), pl 19 (.int .i64 z1)] a ∧ Sep w0 B w (own 40 (.slice g1 2 2) [.slice A1 s1.length c1, .slice A2 t1.length c2] :: fs) ∧ ((hanoi_Far_J3 z1)).bind φ1 = some r) ?_ ?_
      · rintro a w ⟨hF, hS, hm⟩
        unfold hanoi_Far_J3 at hm
        refine reg1 [] [] [0, 1, 17, 18, 19] [pl 0 (.slice A1 s1.length c1), pl 1 (.slice A2 t1.length c2), pl 17 (.slice g1 2 2), pl 18 (.int .i64 2), pl 19 (.int .i64 (w64 (z1 + 1)))] hF hS Fol (by kernel_rfl) (by kernel_rfl) (by kernel_rfl) ?_ (fun a w hF hS => ?_)
        · exact obs_nil
        refine then_n ?_
        rw [← hφ1] at hm
        exact ⟨(w64 (z1 + 1)), ⟨hF.weak [0, 1, 17, 18, 19] (by kernel_rfl), hS⟩, hm⟩
      · refine wp_block ?_
        obtain ⟨hp1, hm⟩ := asrt_b hm
        refine reg [⟨true, [], vS (Instr.indexAt 125 (.slice g1 2 2) (.int .i64 z1)), .pointer (some (sAddr g1 z1))⟩, ⟨false, [], vS (Instr.loadAt 40 (.pointer (some (sAddr g1 z1)))), .slice (hdA ([(A1, c1), (A2, c2)] : List Hd) z1) ((geti2 ([s1, t1] : List (List Int)) z1).length) (hdC ([(A1, c1), (A2, c2)] : List Hd) z1)⟩] [some (.pointer (some (sAddr g1 z1))), some (.slice (hdA ([(A1, c1), (A2, c2)] : List Hd) z1) ((geti2 ([s1, t1] : List (List Int)) z1).length) (hdC ([(A1, c1), (A2, c2)] : List Hd) z1)), none] [0, 1, 7, 17, 18, 19] [pl 0 (.slice A1 s1.length c1), pl 1 (.slice A2 t1.length c2), pl 7 (.slice (hdA ([(A1, c1), (A2, c2)] : List Hd) z1) ((geti2 ([s1, t1] : List (List Int)) z1).length) (hdC ([(A1, c1), (A2, c2)] : List Hd) z1)), pl 17 (.slice g1 2 2), pl 18 (.int .i64 2), pl 19 (.int .i64 z1)] hF hS Fol (by kernel_rfl) (by kernel_rfl) (by kernel_rfl) ?_ (fun a w hF hS => ?_)
        · exact obs_cons (ob_ixRn Und125 hi40 hs40 (rdLit (hd := ([(A1, c1), (A2, c2)] : List Hd)) (m := ([s1, t1] : List (List Int))) hS 0 rfl ⟨⟨(hr_s1 _ (hS.dropN 1)), _hc_s1⟩, ⟨(hr_t1 _ (hS.dropN 1)), _hc_t1⟩, trivial⟩) rfl (fun _ => hp1)) <| obs_cons (ob_getR Agg40 (fun _ hS => ⟨_, (rdLit (hd := ([(A1, c1), (A2, c2)] : List Hd)) (m := ([s1, t1] : List (List Int))) hS 0 rfl ⟨⟨(hr_s1 _ (hS.dropN 1)), _hc_s1⟩, ⟨(hr_t1 _ (hS.dropN 1)), _hc_t1⟩, trivial⟩)⟩) (fun _ => hp1)) <| obs_nil
        obtain ⟨r1, hr1, hm⟩ := call_b hm
        refine reg [⟨false, [], callFunc 85 #[.slice (hdA ([(A1, c1), (A2, c2)] : List Hd) z1) ((geti2 ([s1, t1] : List (List Int)) z1).length) (hdC ([(A1, c1), (A2, c2)] : List Hd) z1)], .int .i64 r1⟩] [none, some (.int .i64 r1), none] [0, 1, 8, 17, 18, 19] [pl 0 (.slice A1 s1.length c1), pl 1 (.slice A2 t1.length c2), pl 8 (.int .i64 r1), pl 17 (.slice g1 2 2), pl 18 (.int .i64 2), pl 19 (.int .i64 z1)] hF hS Fol (by kernel_rfl) (by kernel_rfl) (by kernel_rfl) ?_ (fun a w hF hS => ?_)
        · exact obs_cons (ob_call Try.func85 (by kernel_rfl) rfl (fun _ _ hS => hanoi_check_w hr1 hS (fun _ hS => ((rdLit (hd := ([(A1, c1), (A2, c2)] : List Hd)) (m := ([s1, t1] : List (List Int))) hS 0 rfl ⟨⟨(hr_s1 _ (hS.dropN 1)), _hc_s1⟩, ⟨(hr_t1 _ (hS.dropN 1)), _hc_t1⟩, trivial⟩).row _ hp1).1) ((rdLit (hd := ([(A1, c1), (A2, c2)] : List Hd)) (m := ([s1, t1] : List (List Int))) hS 0 rfl ⟨⟨(hr_s1 _ (hS.dropN 1)), _hc_s1⟩, ⟨(hr_t1 _ (hS.dropN 1)), _hc_t1⟩, trivial⟩).row _ hp1).2 rfl)) <| obs_nil
        refine reg [] [] [0, 1, 8, 17, 18, 19, 26] [pl 0 (.slice A1 s1.length c1), pl 1 (.slice A2 t1.length c2), pl 8 (.int .i64 r1), pl 17 (.slice g1 2 2), pl 18 (.int .i64 2), pl 19 (.int .i64 z1), pl 26 (.bool (r1 != 0))] hF hS Fol (by kernel_rfl) (by kernel_rfl) (by kernel_rfl) ?_ (fun a w hF hS => ?_)
        · exact obs_nil
        refine cond_ev (t := 26) (b := (r1 != 0)) hF (by kernel_rfl) (fun hb => ?_) (fun hb => ?_)
        · replace hm := if_t hm hb
          refine reg [] [] [4, 5] [pl 4 (.int .i64 0), pl 5 (.int .i64 r1)] hF hS Fol (by kernel_rfl) (by kernel_rfl) (by kernel_rfl) ?_ (fun a w hF hS => ?_)
          · exact obs_nil
          refine wp_ret ?_
          refine block_r (then_r (then_r (block_r (then_r ?_))))
          rw [← hφ1] at hm
          replace hm := done_b hm
          unfold hanoi_Far_K1 at hm
          try dsimp only at hm
          have hS := hS.pickN 1 [] (by decide)
          have hm : some (0, r1) = some r := hm
          obtain rfl := Option.some.inj hm
          exact retV (rs := [.tmp 4, .tmp 5]) (vs := [.int .i64 0, .int .i64 r1]) hF rfl (rv_t (by kernel_rfl) <| rv_t (by kernel_rfl) <| rv_nil) rfl ⟨rfl, hS⟩
        · replace hm := if_f hm hb
          refine wp_skip ?_
          refine block_n ?_
          refine then_n ?_
          exact ⟨hF.weak [0, 1, 17, 18, 19] (by kernel_rfl), hS, hm⟩
    · refine cond_ev (t := 20) (b := decide (z1 < 2)) hF (by kernel_rfl) (fun hb => ?_) (fun hb => ?_)
      · replace hm := if_t hm hb
        refine wp_skip ?_
        refine then_n ?_
        exact ⟨hF.weak [0, 1, 17, 18, 19] (by kernel_rfl), hS, hm⟩
      · replace hm := if_f hm hb
        refine wp_exit ?_
        refine then_e (then_e (block_e (then_n ?_)))
        have hS := hS.pickN 1 [] (by decide)
        rw [← hφ1] at hm
        replace hm := done_b hm
        unfold hanoi_Far_K1 at hm
        try dsimp only at hm
        have hm : ((hanoi_Far_J1 s1 t1)).bind some = some r := hm
        exact ⟨hF.weak [0, 1] (by kernel_rfl), hS, hm⟩

noncomputable def slices_Clone_J1 (s1 : List Int) : Option (List Int) :=
  asrt ((0 : Int) + (s1.length : Int) ≤ bigN) <| some (([] : List Int) ++ s1)

noncomputable def slices_Clone_m (s1 : List Int) : Option (List Int) :=
  (slices_Clone_J1 s1)

set_option maxRecDepth 100000 in
set_option maxHeartbeats 4000000 in
theorem slices_Clone_w {A1 : Option Addr} {c1 : Nat} {n1 : Nat} {s1 : List Int} {r : (List Int)} {w0 w : World} {B : Nat} {fs : List HP} (hm : slices_Clone_m s1 = some r) (hS : Sep w0 B w (fs)) (hr_s1 : RdF w0 B fs A1 (vI s1)) (_hc_s1 : s1.length ≤ c1) (_hn_s1 : n1 = s1.length) :
    Calls Try.prog 88 #[.slice A1 n1 c1] w fun e w' => ∃ v, e = .returned v ∧ ∃ (A3 : Option Addr) (c3 : Nat), v = .slice A3 r.length c3 ∧ Sep w0 B w' (own 3 (.slice A3 r.length c3) (vI r) :: fs) := by
  obtain ⟨i3, hi3, hz3, hs3, hb3⟩ := info_parts Info3
  obtain rfl := _hn_s1
  unfold slices_Clone_m at hm
  replace hm := start_b hm
  refine enter (l := [.slice A1 s1.length c1]) (n := 8) Try.func88 rfl rfl (by simp) (fun a hF => ?_)
  refine reg [] [] [0] [pl 0 (.slice A1 s1.length c1)] hF hS Fol (by kernel_rfl) (by kernel_rfl) (by kernel_rfl) ?_ (fun a w hF hS => ?_)
  · exact obs_nil
  refine seq_cut (fun a w => Fr 8 [pl 0 (.slice A1 s1.length c1)] a ∧ Sep w0 B w (fs) ∧ ((slices_Clone_J1 s1)).bind some = some r) ?_ ?_
  · rintro a w ⟨hF, hS, hm⟩
    unfold slices_Clone_J1 at hm
    refine seqR ?_
    obtain ⟨hp1, hm⟩ := asrt_b hm
    refine at_do (d := 5) (s := vS (Instr.buildSlice 40 0 #[])) (v := .slice (some ⟨w.heap.size, 0, none⟩) 0 0) (w' := w.alloc (.cells #[] 3)) hF (by kernel_rfl) (by kernel_rfl) (by kernel_rfl) (fun a hF => ?_)
    have hS : Sep w0 B (w.alloc (.cells #[] 3)) (own 3 (.slice (some (⟨w.heap.size, 0, none⟩ : Addr)) 0 0) (vI ([] : List Int)) :: (fs)) := hS.lit 3 #[] 0 rfl (by omega)
    generalize (some (⟨w.heap.size, 0, none⟩ : Addr)) = g1 at hF hS
    generalize w.alloc (.cells #[] 3) = w at hS ⊢
    refine at_run 1 [] [] [5, 6] [pl 5 (.slice g1 0 0), pl 6 (.slice A1 s1.length c1)] hF hS (by kernel_rfl) (by kernel_rfl) ?_ (fun a w hF hS => ?_)
    · exact obs_nil
    obtain ⟨A2, c2, w, hrun, hS⟩ := run_app1 (P := Try.prog) (t := 40) (m := ([] : List Int)) (ys := s1) (A2 := A1) (m2 := s1.length) (c2 := c1) (Value.int .i64) (0 : Int) (hS.at_ 0 rfl) (hr_s1 _ (hS.dropN 1)) rfl 40 Und40 hi3 hz3 hs3 (by omega) rfl (fun _ => rfl) hp1
    have hS : Sep w0 B w (own 3 (.slice A2 ((([] : List Int) ++ s1).length) c2) (vI (([] : List Int) ++ s1)) :: fs) := hS
    refine at_do (d := 7) hF (by kernel_rfl) (by kernel_rfl) hrun (fun a hF => ?_)
    refine at_run 1 [] [] [2] [pl 2 (.slice A2 ((([] : List Int) ++ s1).length) c2)] hF hS (by kernel_rfl) (by kernel_rfl) ?_ (fun a w hF hS => ?_)
    · exact obs_nil
    refine at_end [2] [pl 2 (.slice A2 ((([] : List Int) ++ s1).length) c2)] hF rfl (by kernel_rfl) (fun hF => ?_)
    refine then_n ?_
    refine wp_ret ?_
    have hm : some (([] : List Int) ++ s1) = some r := hm
    obtain rfl := Option.some.inj hm
    exact retV (rs := [.tmp 2]) (vs := [.slice A2 ((([] : List Int) ++ s1).length) c2]) hF rfl (rv_t (by kernel_rfl) <| rv_nil) rfl ⟨_, rfl, A2, c2, rfl, hS⟩
  · refine reg [⟨true, [], vS (binOp .eql 40 (.slice A1 s1.length c1) (.slice none 0 0)), .bool A1.isNone⟩] [none, some (.bool A1.isNone)] [0, 4] [pl 0 (.slice A1 s1.length c1), pl 4 (.bool A1.isNone)] hF hS Fol (by kernel_rfl) (by kernel_rfl) (by kernel_rfl) ?_ (fun a w hF hS => ?_)
    · exact obs_cons (ob_isnil Und40 rfl) <| obs_nil
    refine cond_ev (t := 4) (b := A1.isNone) hF (by kernel_rfl) (fun hb => ?_) (fun hb => ?_)
    · have hA9 := Option.isNone_iff_eq_none.1 hb
      have hnil9 : s1 = [] := by have h9 := (hr_s1 _ (hS.dropN 0)); rw [hA9] at h9; exact h9.none_nil
      have hm : (some ([] : List Int)).bind some = some r := by rw [hnil9] at hm; simpa [asrt, bigN, slices_Clone_J1] using hm
      refine reg [] [] [2] [pl 2 (.slice none 0 0)] hF hS Fol (by kernel_rfl) (by kernel_rfl) (by kernel_rfl) ?_ (fun a w hF hS => ?_)
      · exact obs_nil
      refine wp_ret ?_
      refine then_r ?_
      have hS : Sep w0 B w (own 3 (.slice none 0 0) (vI ([] : List Int)) :: fs) := hS.nil 3
      have hl1 := (hS.at_ 0 rfl).len1
      have hS := (hS.at_ 0 rfl).reN hl1
      have hS : Sep w0 B w (own 3 (.slice none (([] : List Int).length) 0) (vI ([] : List Int)) :: fs) := hS
      have hm : some ([] : List Int) = some r := hm
      obtain rfl := Option.some.inj hm
      exact retV (rs := [.tmp 2]) (vs := [.slice none (([] : List Int).length) 0]) hF rfl (rv_t (by kernel_rfl) <| rv_nil) rfl ⟨_, rfl, none, 0, rfl, hS⟩
    · refine wp_skip ?_
      refine then_n ?_
      exact ⟨hF.weak [0] (by kernel_rfl), hS, hm⟩

noncomputable def hanoi_Way_1_J1 (p23 : List Int) (p32 : List (Int × Int × Int)) : Option (List Int × List (Int × Int × Int)) :=
  some (p23, p32)

noncomputable def hanoi_Way_1_J3 (rec_hanoi_Way_1 : Int → Int → List Int → List (Int × Int × Int) → Option (List Int × List (Int × Int × Int))) (n1 : Int) (peg1 : Int) (z1 : List Int) (z2 : List (Int × Int × Int)) : Option (List Int × List (Int × Int × Int)) :=
  (rec_hanoi_Way_1 (w64 (n1 - 1)) peg1 z1 z2).bind fun r2 => hanoi_Way_1_J1 r2.1 r2.2

noncomputable def hanoi_Way_1_J2 (rec_hanoi_Way_1 : Int → Int → List Int → List (Int × Int × Int) → Option (List Int × List (Int × Int × Int))) (n1 : Int) (peg1 : Int) (p21 : List Int) (v1 : List (Int × Int × Int)) : Option (List Int × List (Int × Int × Int)) :=
  asrt (0 ≤ (w64 (n1 - 1)) ∧ (w64 (n1 - 1)) < (p21.length : Int)) <| if ((geti p21 (w64 (n1 - 1))) != peg1) then ((rec_hanoi_Way_1 (w64 (n1 - 1)) (w64 ((w64 (3 - (geti p21 (w64 (n1 - 1))))) - peg1)) p21 v1).bind fun r1 => asrt ((r1.2.length : Int) + 1 ≤ bigK) <| asrt (0 ≤ (w64 (n1 - 1)) ∧ (w64 (n1 - 1)) < (p21.length : Int)) <| (hanoi_Way_1_J3 rec_hanoi_Way_1 n1 peg1) (r1.1.set (Int.toNat (w64 (n1 - 1))) peg1) (r1.2 ++ ([(geti p21 (w64 (n1 - 1)), peg1, 0)] : List (Int × Int × Int)))) else ((hanoi_Way_1_J3 rec_hanoi_Way_1 n1 peg1) p21 v1)

noncomputable def hanoi_Way_1_B (rec_hanoi_Way_1 : Int → Int → List Int → List (Int × Int × Int) → Option (List Int × List (Int × Int × Int))) (n1 : Int) (peg1 : Int) (p21 : List Int) (v1 : List (Int × Int × Int)) : Option (List Int × List (Int × Int × Int)) :=
  if (n1 == 0) then (some (p21, v1)) else ((hanoi_Way_1_J2 rec_hanoi_Way_1 n1 peg1 p21 v1))

noncomputable def hanoi_Way_1_mF : Nat → Int → Int → List Int → List (Int × Int × Int) → Option (List Int × List (Int × Int × Int))
  | 0 => fun _ _ _ _ => none
  | n + 1 => fun n1 peg1 p21 v1 => hanoi_Way_1_B (hanoi_Way_1_mF n) n1 peg1 p21 v1

noncomputable def hanoi_Way_1_m (n1 : Int) (peg1 : Int) (p21 : List Int) (v1 : List (Int × Int × Int)) : Option (List Int × List (Int × Int × Int)) :=
  recM fun n => hanoi_Way_1_mF n n1 peg1 p21 v1

set_option maxRecDepth 100000 in
set_option maxHeartbeats 4000000 in
theorem hanoi_Way_1_wB {rec_hanoi_Way_1 : Int → Int → List Int → List (Int × Int × Int) → Option (List Int × List (Int × Int × Int))} (ih_hanoi_Way_1 : ∀ {n1 : Int} {peg1 : Int} {g1 : Nat} {A1 : Option Addr} {c1 : Nat} {n2 : Nat} {p21 : List Int} {g2 : Nat} {g3 : Nat} {A2 : Option Addr} {c2 : Nat} {n3 : Nat} {v1 : List (Int × Int × Int)} {r : (List Int × List (Int × Int × Int))} {w0 w : World} {B : Nat} {fs : List HP} (_ : rec_hanoi_Way_1 n1 peg1 p21 v1 = some r) (_ : Sep w0 B w (blk g1 40 #[.slice A1 n2 c1] :: own 3 (.slice A1 n2 c1) (vI p21) :: blk g2 128 #[.func (.func 89) #[] #[.pointer (some ⟨g1, 0, none⟩), .pointer (some ⟨g2, 0, none⟩), .pointer (some ⟨g3, 0, none⟩)]] :: blk g3 44 #[.slice A2 n3 c2] :: ownK 52 3 A2 n3 c2 (List.flatMap enc52 v1) :: fs)), Calls Try.prog 89 #[.int .i64 n1, .int .i64 peg1, .pointer (some ⟨g1, 0, none⟩), .pointer (some ⟨g2, 0, none⟩), .pointer (some ⟨g3, 0, none⟩)] w fun e w' => ∃ v, e = .returned v ∧ ∃ (A3 : Option Addr) (c3 : Nat), v = .tuple #[] ∧ Sep w0 B w' (blk g1 40 #[.slice A1 n2 c1] :: own 3 (.slice A1 n2 c1) (vI r.1) :: blk g2 128 #[.func (.func 89) #[] #[.pointer (some ⟨g1, 0, none⟩), .pointer (some ⟨g2, 0, none⟩), .pointer (some ⟨g3, 0, none⟩)]] :: blk g3 44 #[.slice A3 r.2.length c3] :: ownK 52 3 A3 r.2.length c3 (List.flatMap enc52 r.2) :: fs)) {n1 : Int} {peg1 : Int} {g1 : Nat} {A1 : Option Addr} {c1 : Nat} {n2 : Nat} {p21 : List Int} {g2 : Nat} {g3 : Nat} {A2 : Option Addr} {c2 : Nat} {n3 : Nat} {v1 : List (Int × Int × Int)} {r : (List Int × List (Int × Int × Int))} {w0 w : World} {B : Nat} {fs : List HP} (hm : hanoi_Way_1_B rec_hanoi_Way_1 n1 peg1 p21 v1 = some r) (hS : Sep w0 B w (blk g1 40 #[.slice A1 n2 c1] :: own 3 (.slice A1 n2 c1) (vI p21) :: blk g2 128 #[.func (.func 89) #[] #[.pointer (some ⟨g1, 0, none⟩), .pointer (some ⟨g2, 0, none⟩), .pointer (some ⟨g3, 0, none⟩)]] :: blk g3 44 #[.slice A2 n3 c2] :: ownK 52 3 A2 n3 c2 (List.flatMap enc52 v1) :: fs)) :
    Calls Try.prog 89 #[.int .i64 n1, .int .i64 peg1, .pointer (some ⟨g1, 0, none⟩), .pointer (some ⟨g2, 0, none⟩), .pointer (some ⟨g3, 0, none⟩)] w fun e w' => ∃ v, e = .returned v ∧ ∃ (A3 : Option Addr) (c3 : Nat), v = .tuple #[] ∧ Sep w0 B w' (blk g1 40 #[.slice A1 n2 c1] :: own 3 (.slice A1 n2 c1) (vI r.1) :: blk g2 128 #[.func (.func 89) #[] #[.pointer (some ⟨g1, 0, none⟩), .pointer (some ⟨g2, 0, none⟩), .pointer (some ⟨g3, 0, none⟩)]] :: blk g3 44 #[.slice A3 r.2.length c3] :: ownK 52 3 A3 r.2.length c3 (List.flatMap enc52 r.2) :: fs) := by
  obtain ⟨i3, hi3, hz3, hs3, hb3⟩ := info_parts Info3
  obtain ⟨i44, hi44, hz44, hs44, hb44⟩ := info_parts Info44
  obtain ⟨i52, hi52, hz52, hs52, hb52⟩ := info_parts Info52
  obtain rfl := (hS.at_ 1 rfl).len1
  obtain rfl := (hS.at_ 4 rfl).lenK encK52
  unfold hanoi_Way_1_B at hm
  replace hm := start_b hm
  refine enter (l := [.int .i64 n1, .int .i64 peg1, .pointer (some ⟨g1, 0, none⟩), .pointer (some ⟨g2, 0, none⟩), .pointer (some ⟨g3, 0, none⟩)]) (n := 42) Try.func89 rfl rfl (by simp) (fun a hF => ?_)
  refine end_cut (fun a w => ∃ (p23 : List Int) (p32 : List (Int × Int × Int)) (A8 : Option Addr) (c8 : Nat), Fr 42 [] a ∧ Sep w0 B w (blk g1 40 #[.slice A1 p21.length c1] :: own 3 (.slice A1 p21.length c1) (vI p23) :: blk g2 128 #[.func (.func 89) #[] #[.pointer (some ⟨g1, 0, none⟩), .pointer (some ⟨g2, 0, none⟩), .pointer (some ⟨g3, 0, none⟩)]] :: blk g3 44 #[.slice A8 p32.length c8] :: ownK 52 3 A8 p32.length c8 (List.flatMap enc52 p32) :: fs) ∧ (hanoi_Way_1_J1 p23 p32).bind some = some r) ?_ ?_
  · rintro a w ⟨p23, p32, A8, c8, hF, hS, hm⟩
    unfold hanoi_Way_1_J1 at hm
    have hm : some (p23, p32) = some r := hm
    obtain rfl := Option.some.inj hm
    exact endV (rs := []) (vs := []) hF rfl (rv_nil) rfl ⟨_, rfl, A8, c8, rfl, hS⟩ rfl
  · refine seq_cut (fun a w => Fr 42 [pl 0 (.int .i64 n1), pl 1 (.int .i64 peg1), pl 2 (.pointer (some ⟨g1, 0, none⟩)), pl 3 (.pointer (some ⟨g2, 0, none⟩)), pl 4 (.pointer (some ⟨g3, 0, none⟩))] a ∧ Sep w0 B w (blk g1 40 #[.slice A1 p21.length c1] :: own 3 (.slice A1 p21.length c1) (vI p21) :: blk g2 128 #[.func (.func 89) #[] #[.pointer (some ⟨g1, 0, none⟩), .pointer (some ⟨g2, 0, none⟩), .pointer (some ⟨g3, 0, none⟩)]] :: blk g3 44 #[.slice A2 v1.length c2] :: ownK 52 3 A2 v1.length c2 (List.flatMap enc52 v1) :: fs) ∧ ((hanoi_Way_1_J2 rec_hanoi_Way_1 n1 peg1 p21 v1)).bind some = some r) ?_ ?_
    · rintro a w ⟨hF, hS, hm⟩
      unfold hanoi_Way_1_J2 at hm
      refine seq_cut (fun a w => ∃ (z1 : List Int) (z2 : List (Int × Int × Int)) (A6 : Option Addr) (c6 : Nat), Fr 42 [pl 0 (.int .i64 n1), pl 1 (.int .i64 peg1), pl 3 (.pointer (some ⟨g2, 0, none⟩))] a ∧ Sep w0 B w (blk g2 128 #[.func (.func 89) #[] #[.pointer (some ⟨g1, 0, none⟩), .pointer (some ⟨g2, 0, none⟩), .pointer (some ⟨g3, 0, none⟩)]] :: blk g1 40 #[.slice A1 p21.length c1] :: own 3 (.slice A1 p21.length c1) (vI z1) :: blk g3 44 #[.slice A6 z2.length c6] :: ownK 52 3 A6 z2.length c6 (List.flatMap enc52 z2) :: fs) ∧ ((hanoi_Way_1_J3 rec_hanoi_Way_1 n1 peg1) z1 z2).bind some = some r) ?_ ?_
      · rintro a w ⟨z1, z2, A6, c6, hF, hS, hm⟩
        unfold hanoi_Way_1_J3 at hm
        refine oneR ?_
        obtain ⟨r2, hr2, hm⟩ := call_b hm
        refine at_run 4 [⟨false, [], vS (Instr.loadAt 128 (.pointer (some ⟨g2, 0, none⟩))), .func (.func 89) #[] #[.pointer (some ⟨g1, 0, none⟩), .pointer (some ⟨g2, 0, none⟩), .pointer (some ⟨g3, 0, none⟩)]⟩] [some (.func (.func 89) #[] #[.pointer (some ⟨g1, 0, none⟩), .pointer (some ⟨g2, 0, none⟩), .pointer (some ⟨g3, 0, none⟩)]), none, none, none] [37, 39, 40] [pl 37 (.func (.func 89) #[] #[.pointer (some ⟨g1, 0, none⟩), .pointer (some ⟨g2, 0, none⟩), .pointer (some ⟨g3, 0, none⟩)]), pl 39 (.int .i64 (w64 (n1 - 1))), pl 40 (.int .i64 peg1)] hF hS (by kernel_rfl) (by kernel_rfl) ?_ (fun a w hF hS => ?_)
        · exact obs_cons (ob_load Agg128 (fun _ _ hS => (hS.at_ 0 rfl).cell rfl)) <| obs_nil
        have hS : Sep w0 B w (blk g1 40 #[.slice A1 p21.length c1] :: own 3 (.slice A1 p21.length c1) (vI z1) :: blk g2 128 #[.func (.func 89) #[] #[.pointer (some ⟨g1, 0, none⟩), .pointer (some ⟨g2, 0, none⟩), .pointer (some ⟨g3, 0, none⟩)]] :: blk g3 44 #[.slice A6 z2.length c6] :: ownK 52 3 A6 z2.length c6 (List.flatMap enc52 z2) :: fs) := hS.pickN 5 [1, 2, 0, 3, 4] (by decide)
        refine at_call (f := 89) (args := #[.int .i64 (w64 (n1 - 1)), .int .i64 peg1, .pointer (some ⟨g1, 0, none⟩), .pointer (some ⟨g2, 0, none⟩), .pointer (some ⟨g3, 0, none⟩)]) (d := 41) hF (by kernel_rfl) (by kernel_rfl) Try.func89 (by kernel_rfl) rfl (ih_hanoi_Way_1 hr2 hS ) (fun v a w hR hF => ?_)
        clear hS
        obtain ⟨A7, c7, rfl, hS⟩ := hR
        have hS : Sep w0 B w (blk g1 40 #[.slice A1 p21.length c1] :: own 3 (.slice A1 p21.length c1) (vI r2.1) :: blk g2 128 #[.func (.func 89) #[] #[.pointer (some ⟨g1, 0, none⟩), .pointer (some ⟨g2, 0, none⟩), .pointer (some ⟨g3, 0, none⟩)]] :: blk g3 44 #[.slice A7 r2.2.length c7] :: ownK 52 3 A7 r2.2.length c7 (List.flatMap enc52 r2.2) :: fs) := hS
        refine at_end [] [] hF rfl (by kernel_rfl) (fun hF => ?_)
        refine then_n ?_
        exact ⟨r2.1, r2.2, A7, c7, hF.weak [] (by kernel_rfl), hS, hm⟩
      · obtain ⟨hp1, hm⟩ := asrt_b hm
        refine reg [⟨false, [], vS (Instr.loadAt 40 (.pointer (some ⟨g1, 0, none⟩))), .slice A1 p21.length c1⟩, ⟨true, [], vS (Instr.indexAt 40 (.slice A1 p21.length c1) (.int .i64 (w64 (n1 - 1)))), .pointer (some (sAddr A1 (w64 (n1 - 1))))⟩, ⟨false, [], vS (Instr.loadAt 3 (.pointer (some (sAddr A1 (w64 (n1 - 1)))))), .int .i64 (geti p21 (w64 (n1 - 1)))⟩] [some (.slice A1 p21.length c1), none, none, some (.pointer (some (sAddr A1 (w64 (n1 - 1))))), some (.int .i64 (geti p21 (w64 (n1 - 1)))), none] [0, 1, 2, 3, 4, 7] [pl 0 (.int .i64 n1), pl 1 (.int .i64 peg1), pl 2 (.pointer (some ⟨g1, 0, none⟩)), pl 3 (.pointer (some ⟨g2, 0, none⟩)), pl 4 (.pointer (some ⟨g3, 0, none⟩)), pl 7 (.int .i64 (geti p21 (w64 (n1 - 1))))] hF hS Fol (by kernel_rfl) (by kernel_rfl) (by kernel_rfl) ?_ (fun a w hF hS => ?_)
        · exact obs_cons (ob_load Agg40 (fun _ _ hS => (hS.at_ 0 rfl).cell rfl)) <| obs_cons (ob_ix1 (f := (Value.int .i64)) (m := p21) Und40 hi3 hs3 (hS.at_ 1 rfl).rd rfl (fun _ => hp1)) <| obs_cons (ob_get1 (n := p21.length) (m := p21) (Value.int .i64) (0 : Int) Agg3 (fun _ hS => ⟨_, (hS.at_ 1 rfl).rd⟩) (fun _ hS => rfl) (fun _ => hp1)) <| obs_nil
        refine reg [] [] [0, 1, 2, 3, 4, 7, 17] [pl 0 (.int .i64 n1), pl 1 (.int .i64 peg1), pl 2 (.pointer (some ⟨g1, 0, none⟩)), pl 3 (.pointer (some ⟨g2, 0, none⟩)), pl 4 (.pointer (some ⟨g3, 0, none⟩)), pl 7 (.int .i64 (geti p21 (w64 (n1 - 1)))), pl 17 (.bool ((geti p21 (w64 (n1 - 1))) != peg1))] hF hS Fol (by kernel_rfl) (by kernel_rfl) (by kernel_rfl) ?_ (fun a w hF hS => ?_)
        · exact obs_nil
        refine cond_ev (t := 17) (b := ((geti p21 (w64 (n1 - 1))) != peg1)) hF (by kernel_rfl) (fun hb => ?_) (fun hb => ?_)
        · replace hm := if_t hm hb
          refine seqR ?_
          obtain ⟨r1, hr1, hm⟩ := call_b hm
          refine at_run 7 [⟨false, [], vS (Instr.loadAt 128 (.pointer (some ⟨g2, 0, none⟩))), .func (.func 89) #[] #[.pointer (some ⟨g1, 0, none⟩), .pointer (some ⟨g2, 0, none⟩), .pointer (some ⟨g3, 0, none⟩)]⟩] [some (.func (.func 89) #[] #[.pointer (some ⟨g1, 0, none⟩), .pointer (some ⟨g2, 0, none⟩), .pointer (some ⟨g3, 0, none⟩)]), none, none, none, none, none, none] [0, 1, 2, 3, 4, 7, 18, 20, 24] [pl 0 (.int .i64 n1), pl 1 (.int .i64 peg1), pl 2 (.pointer (some ⟨g1, 0, none⟩)), pl 3 (.pointer (some ⟨g2, 0, none⟩)), pl 4 (.pointer (some ⟨g3, 0, none⟩)), pl 7 (.int .i64 (geti p21 (w64 (n1 - 1)))), pl 18 (.func (.func 89) #[] #[.pointer (some ⟨g1, 0, none⟩), .pointer (some ⟨g2, 0, none⟩), .pointer (some ⟨g3, 0, none⟩)]), pl 20 (.int .i64 (w64 (n1 - 1))), pl 24 (.int .i64 (w64 ((w64 (3 - (geti p21 (w64 (n1 - 1))))) - peg1)))] hF hS (by kernel_rfl) (by kernel_rfl) ?_ (fun a w hF hS => ?_)
          · exact obs_cons (ob_load Agg128 (fun _ _ hS => (hS.at_ 2 rfl).cell rfl)) <| obs_nil
          refine at_call (f := 89) (args := #[.int .i64 (w64 (n1 - 1)), .int .i64 (w64 ((w64 (3 - (geti p21 (w64 (n1 - 1))))) - peg1)), .pointer (some ⟨g1, 0, none⟩), .pointer (some ⟨g2, 0, none⟩), .pointer (some ⟨g3, 0, none⟩)]) (d := 25) hF (by kernel_rfl) (by kernel_rfl) Try.func89 (by kernel_rfl) rfl (ih_hanoi_Way_1 hr1 hS ) (fun v a w hR hF => ?_)
          clear hS
          obtain ⟨A4, c4, rfl, hS⟩ := hR
          have hS : Sep w0 B w (blk g1 40 #[.slice A1 p21.length c1] :: own 3 (.slice A1 p21.length c1) (vI r1.1) :: blk g2 128 #[.func (.func 89) #[] #[.pointer (some ⟨g1, 0, none⟩), .pointer (some ⟨g2, 0, none⟩), .pointer (some ⟨g3, 0, none⟩)]] :: blk g3 44 #[.slice A4 r1.2.length c4] :: ownK 52 3 A4 r1.2.length c4 (List.flatMap enc52 r1.2) :: fs) := hS
          refine at_end [0, 1, 2, 3, 4, 7] [pl 0 (.int .i64 n1), pl 1 (.int .i64 peg1), pl 2 (.pointer (some ⟨g1, 0, none⟩)), pl 3 (.pointer (some ⟨g2, 0, none⟩)), pl 4 (.pointer (some ⟨g3, 0, none⟩)), pl 7 (.int .i64 (geti p21 (w64 (n1 - 1))))] hF rfl (by kernel_rfl) (fun hF => ?_)
          refine then_n ?_
          refine seqR ?_
          obtain ⟨hp2, hm⟩ := asrt_b hm
          refine at_run 4 [⟨false, [], vS (Instr.loadAt 44 (.pointer (some ⟨g3, 0, none⟩))), .slice A4 r1.2.length c4⟩] [some (.slice A4 r1.2.length c4), none, none, none] [0, 1, 2, 3, 4, 26, 29] [pl 0 (.int .i64 n1), pl 1 (.int .i64 peg1), pl 2 (.pointer (some ⟨g1, 0, none⟩)), pl 3 (.pointer (some ⟨g2, 0, none⟩)), pl 4 (.pointer (some ⟨g3, 0, none⟩)), pl 26 (.slice A4 r1.2.length c4), pl 29 (.agg #[.int .i64 (geti p21 (w64 (n1 - 1))), .int .i64 peg1, .int .i64 0])] hF hS (by kernel_rfl) (by kernel_rfl) ?_ (fun a w hF hS => ?_)
          · exact obs_cons (ob_load Agg44 (fun _ _ hS => (hS.at_ 3 rfl).cell rfl)) <| obs_nil
          refine at_do (d := 30) (s := vS (Instr.buildSlice 44 1 #[(0, .agg #[.int .i64 (geti p21 (w64 (n1 - 1))), .int .i64 peg1, .int .i64 0])])) (v := .slice (some ⟨w.heap.size, 0, none⟩) 1 1) (w' := w.alloc (.cells #[.int .i64 (geti p21 (w64 (n1 - 1))), .int .i64 peg1, .int .i64 0] 52)) hF (by kernel_rfl) (by kernel_rfl) (by kernel_rfl) (fun a hF => ?_)
          have hS : Sep w0 B (w.alloc (.cells #[.int .i64 (geti p21 (w64 (n1 - 1))), .int .i64 peg1, .int .i64 0] 52)) (ownK 52 3 (some (⟨w.heap.size, 0, none⟩ : Addr)) 1 1 (List.flatMap enc52 ([(geti p21 (w64 (n1 - 1)), peg1, 0)] : List (Int × Int × Int))) :: (blk g1 40 #[.slice A1 p21.length c1] :: own 3 (.slice A1 p21.length c1) (vI r1.1) :: blk g2 128 #[.func (.func 89) #[] #[.pointer (some ⟨g1, 0, none⟩), .pointer (some ⟨g2, 0, none⟩), .pointer (some ⟨g3, 0, none⟩)]] :: blk g3 44 #[.slice A4 r1.2.length c4] :: ownK 52 3 A4 r1.2.length c4 (List.flatMap enc52 r1.2) :: fs)) := hS.litK 52 3 #[.int .i64 (geti p21 (w64 (n1 - 1))), .int .i64 peg1, .int .i64 0] 1 rfl (by omega)
          generalize (some (⟨w.heap.size, 0, none⟩ : Addr)) = g4 at hF hS
          generalize w.alloc (.cells #[.int .i64 (geti p21 (w64 (n1 - 1))), .int .i64 peg1, .int .i64 0] 52) = w at hS ⊢
          obtain ⟨A5, c5, w, hrun, hS⟩ := run_appK (P := Try.prog) (t := 44) (m := r1.2) (ys := ([(geti p21 (w64 (n1 - 1)), peg1, 0)] : List (Int × Int × Int))) (A2 := g4) (m2 := 1) (c2 := 1) encK52 (hS.at_ 5 rfl) (hS.at_ 0 rfl).rdK ((hS.at_ 0 rfl).lenK encK52) 44 Und44 hi52 hz52 hs52 rfl (by omega) hp2
          have hS : Sep w0 B w (ownK 52 3 g4 1 1 (List.flatMap enc52 ([(geti p21 (w64 (n1 - 1)), peg1, 0)] : List (Int × Int × Int))) :: blk g1 40 #[.slice A1 p21.length c1] :: own 3 (.slice A1 p21.length c1) (vI r1.1) :: blk g2 128 #[.func (.func 89) #[] #[.pointer (some ⟨g1, 0, none⟩), .pointer (some ⟨g2, 0, none⟩), .pointer (some ⟨g3, 0, none⟩)]] :: blk g3 44 #[.slice A4 r1.2.length c4] :: ownK 52 3 A5 ((r1.2 ++ ([(geti p21 (w64 (n1 - 1)), peg1, 0)] : List (Int × Int × Int))).length) c5 (List.flatMap enc52 (r1.2 ++ ([(geti p21 (w64 (n1 - 1)), peg1, 0)] : List (Int × Int × Int)))) :: fs) := hS
          refine at_do (d := 31) hF (by kernel_rfl) (by kernel_rfl) hrun (fun a hF => ?_)
          obtain ⟨w, hrun, hS⟩ := run_put (P := Try.prog) (t := 44) (u := .slice A5 ((r1.2 ++ ([(geti p21 (w64 (n1 - 1)), peg1, 0)] : List (Int × Int × Int))).length) c5) (i := 0) (hS.at_ 4 rfl) hi44 hs44 rfl (Nat.lt_of_lt_of_eq (Nat.lt_of_succ_le (Nat.le_of_ble_eq_true (by kernel_rfl))) rfl)
          refine at_skip hF (by kernel_rfl) hrun ?_
          have hS : Sep w0 B w (ownK 52 3 g4 1 1 (List.flatMap enc52 ([(geti p21 (w64 (n1 - 1)), peg1, 0)] : List (Int × Int × Int))) :: blk g1 40 #[.slice A1 p21.length c1] :: own 3 (.slice A1 p21.length c1) (vI r1.1) :: blk g2 128 #[.func (.func 89) #[] #[.pointer (some ⟨g1, 0, none⟩), .pointer (some ⟨g2, 0, none⟩), .pointer (some ⟨g3, 0, none⟩)]] :: blk g3 44 #[.slice A5 ((r1.2 ++ ([(geti p21 (w64 (n1 - 1)), peg1, 0)] : List (Int × Int × Int))).length) c5] :: ownK 52 3 A5 ((r1.2 ++ ([(geti p21 (w64 (n1 - 1)), peg1, 0)] : List (Int × Int × Int))).length) c5 (List.flatMap enc52 (r1.2 ++ ([(geti p21 (w64 (n1 - 1)), peg1, 0)] : List (Int × Int × Int)))) :: fs) := hS
          refine at_end [0, 1, 2, 3] [pl 0 (.int .i64 n1), pl 1 (.int .i64 peg1), pl 2 (.pointer (some ⟨g1, 0, none⟩)), pl 3 (.pointer (some ⟨g2, 0, none⟩))] hF rfl (by kernel_rfl) (fun hF => ?_)
          refine then_n ?_
          refine oneR ?_
          obtain ⟨hp3, hm⟩ := asrt_b hm
          refine at_run 5 [⟨false, [], vS (Instr.loadAt 40 (.pointer (some ⟨g1, 0, none⟩))), .slice A1 p21.length c1⟩, ⟨true, [], vS (Instr.indexAt 40 (.slice A1 p21.length c1) (.int .i64 (w64 (n1 - 1)))), .pointer (some (sAddr A1 (w64 (n1 - 1))))⟩] [some (.slice A1 p21.length c1), none, none, none, some (.pointer (some (sAddr A1 (w64 (n1 - 1)))))] [0, 1, 3, 35, 36] [pl 0 (.int .i64 n1), pl 1 (.int .i64 peg1), pl 3 (.pointer (some ⟨g2, 0, none⟩)), pl 35 (.int .i64 peg1), pl 36 (.pointer (some (sAddr A1 (w64 (n1 - 1)))))] hF hS (by kernel_rfl) (by kernel_rfl) ?_ (fun a w hF hS => ?_)
          · exact obs_cons (ob_load Agg40 (fun _ _ hS => (hS.at_ 1 rfl).cell rfl)) <| obs_cons (ob_ix1 (f := (Value.int .i64)) (m := r1.1) Und40 hi3 hs3 (hS.at_ 2 rfl).rd ((hS.at_ 2 rfl).len1) (fun _ => hp3)) <| obs_nil
          obtain ⟨w, hrun, hS⟩ := run_set1 (P := Try.prog) (t := 3) (x := peg1) (Value.int .i64) (hS.at_ 2 rfl) hi3 hs3 rfl rfl hp3
          refine at_skip hF (by kernel_rfl) hrun ?_
          have hS : Sep w0 B w (ownK 52 3 g4 1 1 (List.flatMap enc52 ([(geti p21 (w64 (n1 - 1)), peg1, 0)] : List (Int × Int × Int))) :: blk g1 40 #[.slice A1 p21.length c1] :: own 3 (.slice A1 p21.length c1) (vI (r1.1.set (Int.toNat (w64 (n1 - 1))) peg1)) :: blk g2 128 #[.func (.func 89) #[] #[.pointer (some ⟨g1, 0, none⟩), .pointer (some ⟨g2, 0, none⟩), .pointer (some ⟨g3, 0, none⟩)]] :: blk g3 44 #[.slice A5 ((r1.2 ++ ([(geti p21 (w64 (n1 - 1)), peg1, 0)] : List (Int × Int × Int))).length) c5] :: ownK 52 3 A5 ((r1.2 ++ ([(geti p21 (w64 (n1 - 1)), peg1, 0)] : List (Int × Int × Int))).length) c5 (List.flatMap enc52 (r1.2 ++ ([(geti p21 (w64 (n1 - 1)), peg1, 0)] : List (Int × Int × Int)))) :: fs) := hS
          refine at_end [0, 1, 3] [pl 0 (.int .i64 n1), pl 1 (.int .i64 peg1), pl 3 (.pointer (some ⟨g2, 0, none⟩))] hF rfl (by kernel_rfl) (fun hF => ?_)
          refine then_n ?_
          have hS := hS.pickN 6 [3, 1, 2, 4, 5] (by decide)
          exact ⟨(r1.1.set (Int.toNat (w64 (n1 - 1))) peg1), (r1.2 ++ ([(geti p21 (w64 (n1 - 1)), peg1, 0)] : List (Int × Int × Int))), A5, c5, hF.weak [0, 1, 3] (by kernel_rfl), hS, hm⟩
        · replace hm := if_f hm hb
          refine wp_skip ?_
          refine then_n ?_
          have hS := hS.pickN 5 [2, 0, 1, 3, 4] (by decide)
          exact ⟨p21, v1, A2, c2, hF.weak [0, 1, 3] (by kernel_rfl), hS, hm⟩
    · refine reg [] [] [0, 1, 2, 3, 4, 9] [pl 0 (.int .i64 n1), pl 1 (.int .i64 peg1), pl 2 (.pointer (some ⟨g1, 0, none⟩)), pl 3 (.pointer (some ⟨g2, 0, none⟩)), pl 4 (.pointer (some ⟨g3, 0, none⟩)), pl 9 (.bool (n1 == 0))] hF hS Fol (by kernel_rfl) (by kernel_rfl) (by kernel_rfl) ?_ (fun a w hF hS => ?_)
      · exact obs_nil
      refine cond_ev (t := 9) (b := (n1 == 0)) hF (by kernel_rfl) (fun hb => ?_) (fun hb => ?_)
      · replace hm := if_t hm hb
        refine wp_ret ?_
        refine then_r (then_r ?_)
        have hm : some (p21, v1) = some r := hm
        obtain rfl := Option.some.inj hm
        exact retV (rs := []) (vs := []) hF rfl (rv_nil) rfl ⟨_, rfl, A2, c2, rfl, hS⟩
      · replace hm := if_f hm hb
        refine wp_skip ?_
        refine then_n ?_
        exact ⟨hF.weak [0, 1, 2, 3, 4] (by kernel_rfl), hS, hm⟩

theorem hanoi_Way_1_w {n1 : Int} {peg1 : Int} {g1 : Nat} {A1 : Option Addr} {c1 : Nat} {n2 : Nat} {p21 : List Int} {g2 : Nat} {g3 : Nat} {A2 : Option Addr} {c2 : Nat} {n3 : Nat} {v1 : List (Int × Int × Int)} {r : (List Int × List (Int × Int × Int))} {w0 w : World} {B : Nat} {fs : List HP} (hm : hanoi_Way_1_m n1 peg1 p21 v1 = some r) (hS : Sep w0 B w (blk g1 40 #[.slice A1 n2 c1] :: own 3 (.slice A1 n2 c1) (vI p21) :: blk g2 128 #[.func (.func 89) #[] #[.pointer (some ⟨g1, 0, none⟩), .pointer (some ⟨g2, 0, none⟩), .pointer (some ⟨g3, 0, none⟩)]] :: blk g3 44 #[.slice A2 n3 c2] :: ownK 52 3 A2 n3 c2 (List.flatMap enc52 v1) :: fs)) :
    Calls Try.prog 89 #[.int .i64 n1, .int .i64 peg1, .pointer (some ⟨g1, 0, none⟩), .pointer (some ⟨g2, 0, none⟩), .pointer (some ⟨g3, 0, none⟩)] w fun e w' => ∃ v, e = .returned v ∧ ∃ (A3 : Option Addr) (c3 : Nat), v = .tuple #[] ∧ Sep w0 B w' (blk g1 40 #[.slice A1 n2 c1] :: own 3 (.slice A1 n2 c1) (vI r.1) :: blk g2 128 #[.func (.func 89) #[] #[.pointer (some ⟨g1, 0, none⟩), .pointer (some ⟨g2, 0, none⟩), .pointer (some ⟨g3, 0, none⟩)]] :: blk g3 44 #[.slice A3 r.2.length c3] :: ownK 52 3 A3 r.2.length c3 (List.flatMap enc52 r.2) :: fs) := by
  have key : ∀ (n : Nat) {n1 : Int} {peg1 : Int} {g1 : Nat} {A1 : Option Addr} {c1 : Nat} {n2 : Nat} {p21 : List Int} {g2 : Nat} {g3 : Nat} {A2 : Option Addr} {c2 : Nat} {n3 : Nat} {v1 : List (Int × Int × Int)} {r : (List Int × List (Int × Int × Int))} {w0 w : World} {B : Nat} {fs : List HP} (_ : hanoi_Way_1_mF n n1 peg1 p21 v1 = some r) (_ : Sep w0 B w (blk g1 40 #[.slice A1 n2 c1] :: own 3 (.slice A1 n2 c1) (vI p21) :: blk g2 128 #[.func (.func 89) #[] #[.pointer (some ⟨g1, 0, none⟩), .pointer (some ⟨g2, 0, none⟩), .pointer (some ⟨g3, 0, none⟩)]] :: blk g3 44 #[.slice A2 n3 c2] :: ownK 52 3 A2 n3 c2 (List.flatMap enc52 v1) :: fs)), Calls Try.prog 89 #[.int .i64 n1, .int .i64 peg1, .pointer (some ⟨g1, 0, none⟩), .pointer (some ⟨g2, 0, none⟩), .pointer (some ⟨g3, 0, none⟩)] w fun e w' => ∃ v, e = .returned v ∧ ∃ (A3 : Option Addr) (c3 : Nat), v = .tuple #[] ∧ Sep w0 B w' (blk g1 40 #[.slice A1 n2 c1] :: own 3 (.slice A1 n2 c1) (vI r.1) :: blk g2 128 #[.func (.func 89) #[] #[.pointer (some ⟨g1, 0, none⟩), .pointer (some ⟨g2, 0, none⟩), .pointer (some ⟨g3, 0, none⟩)]] :: blk g3 44 #[.slice A3 r.2.length c3] :: ownK 52 3 A3 r.2.length c3 (List.flatMap enc52 r.2) :: fs) := by
    intro n
    induction n with
    | zero => intros; rename_i hm0 _; cases hm0
    | succ n ih => intros; rename_i hm0 hS0; exact hanoi_Way_1_wB (rec_hanoi_Way_1 := hanoi_Way_1_mF n) (fun hm hS => ih hm hS) hm0 hS0
  obtain ⟨n, hn⟩ := recM_some hm
  exact key n hn hS

theorem hanoi_Way_1_J3_le_hanoi_Way_1 {rec_hanoi_Way_11 rec_hanoi_Way_12 : Int → Int → List Int → List (Int × Int × Int) → Option (List Int × List (Int × Int × Int))} (h_rec_hanoi_Way_1 : ∀ a0 a1 a2 a3, Le (rec_hanoi_Way_11 a0 a1 a2 a3) (rec_hanoi_Way_12 a0 a1 a2 a3)) (n1 : Int) (peg1 : Int) (z1 : List Int) (z2 : List (Int × Int × Int)) : Le (hanoi_Way_1_J3 rec_hanoi_Way_11 n1 peg1 z1 z2) (hanoi_Way_1_J3 rec_hanoi_Way_12 n1 peg1 z1 z2) := by
  unfold hanoi_Way_1_J3
  repeat' (first | with_reducible exact Le.refl _ | with_reducible exact h_rec_hanoi_Way_1 _ _ _ _ | refine Le.asrt ?_ | refine Le.ite ?_ ?_ | refine Le.bind ?_ (fun _ => ?_) | refine Le.loop2 (fun _ => ?_) | refine Le.elim2 (fun _ => ?_) (fun _ => ?_))

theorem hanoi_Way_1_J2_le_hanoi_Way_1 {rec_hanoi_Way_11 rec_hanoi_Way_12 : Int → Int → List Int → List (Int × Int × Int) → Option (List Int × List (Int × Int × Int))} (h_rec_hanoi_Way_1 : ∀ a0 a1 a2 a3, Le (rec_hanoi_Way_11 a0 a1 a2 a3) (rec_hanoi_Way_12 a0 a1 a2 a3)) (n1 : Int) (peg1 : Int) (p21 : List Int) (v1 : List (Int × Int × Int)) : Le (hanoi_Way_1_J2 rec_hanoi_Way_11 n1 peg1 p21 v1) (hanoi_Way_1_J2 rec_hanoi_Way_12 n1 peg1 p21 v1) := by
  unfold hanoi_Way_1_J2
  repeat' (first | with_reducible exact Le.refl _ | with_reducible exact h_rec_hanoi_Way_1 _ _ _ _ | with_reducible exact hanoi_Way_1_J3_le_hanoi_Way_1 h_rec_hanoi_Way_1 _ _ _ _ | refine Le.asrt ?_ | refine Le.ite ?_ ?_ | refine Le.bind ?_ (fun _ => ?_) | refine Le.loop2 (fun _ => ?_) | refine Le.elim2 (fun _ => ?_) (fun _ => ?_))

theorem hanoi_Way_1_B_le {rec_hanoi_Way_11 rec_hanoi_Way_12 : Int → Int → List Int → List (Int × Int × Int) → Option (List Int × List (Int × Int × Int))} (h_rec_hanoi_Way_1 : ∀ a0 a1 a2 a3, Le (rec_hanoi_Way_11 a0 a1 a2 a3) (rec_hanoi_Way_12 a0 a1 a2 a3)) (n1 : Int) (peg1 : Int) (p21 : List Int) (v1 : List (Int × Int × Int)) : Le (hanoi_Way_1_B rec_hanoi_Way_11 n1 peg1 p21 v1) (hanoi_Way_1_B rec_hanoi_Way_12 n1 peg1 p21 v1) := by
  unfold hanoi_Way_1_B
  repeat' (first | with_reducible exact Le.refl _ | with_reducible exact h_rec_hanoi_Way_1 _ _ _ _ | with_reducible exact hanoi_Way_1_J2_le_hanoi_Way_1 h_rec_hanoi_Way_1 _ _ _ _ | refine Le.asrt ?_ | refine Le.ite ?_ ?_ | refine Le.bind ?_ (fun _ => ?_) | refine Le.loop2 (fun _ => ?_) | refine Le.elim2 (fun _ => ?_) (fun _ => ?_))

theorem hanoi_Way_1_mF_le : ∀ (n : Nat) (n1 : Int) (peg1 : Int) (p21 : List Int) (v1 : List (Int × Int × Int)), Le (hanoi_Way_1_mF n n1 peg1 p21 v1) (hanoi_Way_1_mF (n + 1) n1 peg1 p21 v1)
  | 0, _, _, _, _ => fun _ h => by cases h
  | n + 1, _, _, _, _ => hanoi_Way_1_B_le (fun a0 a1 a2 a3 => hanoi_Way_1_mF_le n a0 a1 a2 a3) _ _ _ _

theorem hanoi_Way_1_m_of (N : Nat) (n1 : Int) (peg1 : Int) (p21 : List Int) (v1 : List (Int × Int × Int)) {r : (List Int × List (Int × Int × Int))} (h : hanoi_Way_1_mF N n1 peg1 p21 v1 = some r) : hanoi_Way_1_m n1 peg1 p21 v1 = some r :=
  recM_mono (fun n => hanoi_Way_1_mF_le n _ _ _ _) h

noncomputable def hanoi_Way_J2 (s1 : List Int) (peg1 : Int) : Option (List (Int × Int × Int) × Int) :=
  (slices_Clone_m s1).bind fun r3 => (hanoi_Way_1_m (r3.length : Int) peg1 r3 ([] : List (Int × Int × Int))).bind fun r4 => some (r4.2, 0)

noncomputable def hanoi_Way_J1 (s1 : List Int) (peg1 : Int) : Option (List (Int × Int × Int) × Int) :=
  (hanoi_off_m peg1).bind fun r2 => if r2 then (some (([] : List (Int × Int × Int)), 5)) else (if (decide ((10 : Int) < (s1.length : Int))) then (some (([] : List (Int × Int × Int)), 11)) else ((hanoi_Way_J2 s1 peg1)))

noncomputable def hanoi_Way_m (s1 : List Int) (peg1 : Int) : Option (List (Int × Int × Int) × Int) :=
  (hanoi_check_m s1).bind fun r1 => if (r1 != 0) then (some (([] : List (Int × Int × Int)), r1)) else ((hanoi_Way_J1 s1 peg1))

set_option maxRecDepth 100000 in
set_option maxHeartbeats 4000000 in
theorem hanoi_Way_w {A1 : Option Addr} {c1 : Nat} {n1 : Nat} {s1 : List Int} {peg1 : Int} {r : (List (Int × Int × Int) × Int)} {w0 w : World} {B : Nat} {fs : List HP} (hm : hanoi_Way_m s1 peg1 = some r) (hS : Sep w0 B w (fs)) (hr_s1 : RdF w0 B fs A1 (vI s1)) (_hc_s1 : s1.length ≤ c1) (_hn_s1 : n1 = s1.length) :
    Calls Try.prog 31 #[.slice A1 n1 c1, .int .i64 peg1] w fun e w' => ∃ v, e = .returned v ∧ ∃ (A4 : Option Addr) (c4 : Nat), v = .tuple #[.slice A4 r.1.length c4, .int .i64 r.2] ∧ Sep w0 B w' (ownK 52 3 A4 r.1.length c4 (List.flatMap enc52 r.1) :: fs) := by
  obtain ⟨i3, hi3, hz3, hs3, hb3⟩ := info_parts Info3
  obtain ⟨i40, hi40, hz40, hs40, hb40⟩ := info_parts Info40
  obtain ⟨i52, hi52, hz52, hs52, hb52⟩ := info_parts Info52
  obtain ⟨i128, hi128, hz128, hs128, hb128⟩ := info_parts Info128
  obtain rfl := _hn_s1
  unfold hanoi_Way_m at hm
  replace hm := start_b hm
  refine enter (l := [.slice A1 s1.length c1, .int .i64 peg1]) (n := 30) Try.func31 rfl rfl (by simp) (fun a hF => ?_)
  refine seqR ?_
  refine at_do (d := 2) (s := vS (Instr.box 40 (.slice A1 s1.length c1))) (v := .pointer (some ⟨w.heap.size, 0, none⟩)) (w' := w.alloc (.cells #[.slice A1 s1.length c1] 40)) hF (by kernel_rfl) (by kernel_rfl) (by kernel_rfl) (fun a hF => ?_)
  have hS : Sep w0 B (w.alloc (.cells #[.slice A1 s1.length c1] 40)) (blk w.heap.size 40 #[.slice A1 s1.length c1] :: (fs)) := hS.box 40 #[.slice A1 s1.length c1]
  generalize w.heap.size = g1 at hF hS
  generalize w.alloc (.cells #[.slice A1 s1.length c1] 40) = w at hS ⊢
  refine at_run 2 [] [] [1, 2] [pl 1 (.int .i64 peg1), pl 2 (.pointer (some ⟨g1, 0, none⟩))] hF hS (by kernel_rfl) (by kernel_rfl) ?_ (fun a w hF hS => ?_)
  · exact obs_nil
  refine at_end [1, 2] [pl 1 (.int .i64 peg1), pl 2 (.pointer (some ⟨g1, 0, none⟩))] hF rfl (by kernel_rfl) (fun hF => ?_)
  refine then_n ?_
  refine seq_cut (fun a w => Fr 30 [pl 1 (.int .i64 peg1), pl 2 (.pointer (some ⟨g1, 0, none⟩))] a ∧ Sep w0 B w (blk g1 40 #[.slice A1 s1.length c1] :: fs) ∧ ((hanoi_Way_J1 s1 peg1)).bind some = some r) ?_ ?_
  · rintro a w ⟨hF, hS, hm⟩
    unfold hanoi_Way_J1 at hm
    refine seq_cut (fun a w => Fr 30 [pl 1 (.int .i64 peg1), pl 2 (.pointer (some ⟨g1, 0, none⟩))] a ∧ Sep w0 B w (blk g1 40 #[.slice A1 s1.length c1] :: fs) ∧ ((hanoi_Way_J2 s1 peg1)).bind some = some r) ?_ ?_
    · rintro a w ⟨hF, hS, hm⟩
      unfold hanoi_Way_J2 at hm
      refine seqR ?_
      obtain ⟨r3, hr3, hm⟩ := call_b hm
      refine at_run 1 [⟨false, [], vS (Instr.loadAt 40 (.pointer (some ⟨g1, 0, none⟩))), .slice A1 s1.length c1⟩] [some (.slice A1 s1.length c1)] [1, 2, 21] [pl 1 (.int .i64 peg1), pl 2 (.pointer (some ⟨g1, 0, none⟩)), pl 21 (.slice A1 s1.length c1)] hF hS (by kernel_rfl) (by kernel_rfl) ?_ (fun a w hF hS => ?_)
      · exact obs_cons (ob_load Agg40 (fun _ _ hS => (hS.at_ 0 rfl).cell rfl)) <| obs_nil
      refine at_call (f := 88) (args := #[.slice A1 s1.length c1]) (d := 22) hF (by kernel_rfl) (by kernel_rfl) Try.func88 (by kernel_rfl) rfl (slices_Clone_w hr3 hS (fun _ hS => (hr_s1 _ (hS.dropN 1))) _hc_s1 rfl) (fun v a w hR hF => ?_)
      clear hS
      obtain ⟨A2, c2, rfl, hS⟩ := hR
      have hS : Sep w0 B w (own 3 (.slice A2 r3.length c2) (vI r3) :: blk g1 40 #[.slice A1 s1.length c1] :: fs) := hS
      obtain ⟨w, hrun, hS⟩ := run_put (P := Try.prog) (t := 40) (u := .slice A2 r3.length c2) (i := 0) (hS.at_ 1 rfl) hi40 hs40 rfl (Nat.lt_of_lt_of_eq (Nat.lt_of_succ_le (Nat.le_of_ble_eq_true (by kernel_rfl))) rfl)
      refine at_skip hF (by kernel_rfl) hrun ?_
      have hS : Sep w0 B w (own 3 (.slice A2 r3.length c2) (vI r3) :: blk g1 40 #[.slice A2 r3.length c2] :: fs) := hS
      refine at_end [1, 2] [pl 1 (.int .i64 peg1), pl 2 (.pointer (some ⟨g1, 0, none⟩))] hF rfl (by kernel_rfl) (fun hF => ?_)
      refine then_n ?_
      refine seqR ?_
      refine at_do (d := 7) (s := vS (Instr.alloc 44 true (.tuple #[]))) (v := .pointer (some ⟨w.heap.size, 0, none⟩)) (w' := w.alloc (.cells #[.slice none 0 0] 44)) hF (by kernel_rfl) (by kernel_rfl) (by kernel_rfl) (fun a hF => ?_)
      have hS : Sep w0 B (w.alloc (.cells #[.slice none 0 0] 44)) (blk w.heap.size 44 #[.slice none 0 0] :: (own 3 (.slice A2 r3.length c2) (vI r3) :: blk g1 40 #[.slice A2 r3.length c2] :: fs)) := hS.box 44 #[.slice none 0 0]
      generalize w.heap.size = g2 at hF hS
      generalize w.alloc (.cells #[.slice none 0 0] 44) = w at hS ⊢
      refine at_end [1, 2, 7] [pl 1 (.int .i64 peg1), pl 2 (.pointer (some ⟨g1, 0, none⟩)), pl 7 (.pointer (some ⟨g2, 0, none⟩))] hF rfl (by kernel_rfl) (fun hF => ?_)
      refine then_n ?_
      refine seqR ?_
      refine at_do (d := 8) (s := vS (Instr.alloc 128 true (.tuple #[]))) (v := .pointer (some ⟨w.heap.size, 0, none⟩)) (w' := w.alloc (.cells #[.nilFunc] 128)) hF (by kernel_rfl) (by kernel_rfl) (by kernel_rfl) (fun a hF => ?_)
      have hS : Sep w0 B (w.alloc (.cells #[.nilFunc] 128)) (blk w.heap.size 128 #[.nilFunc] :: (blk g2 44 #[.slice none 0 0] :: own 3 (.slice A2 r3.length c2) (vI r3) :: blk g1 40 #[.slice A2 r3.length c2] :: fs)) := hS.box 128 #[.nilFunc]
      generalize w.heap.size = g3 at hF hS
      generalize w.alloc (.cells #[.nilFunc] 128) = w at hS ⊢
      refine at_end [1, 2, 7, 8] [pl 1 (.int .i64 peg1), pl 2 (.pointer (some ⟨g1, 0, none⟩)), pl 7 (.pointer (some ⟨g2, 0, none⟩)), pl 8 (.pointer (some ⟨g3, 0, none⟩))] hF rfl (by kernel_rfl) (fun hF => ?_)
      refine then_n ?_
      refine seqR ?_
      refine at_run 1 [] [] [1, 2, 7, 8, 23] [pl 1 (.int .i64 peg1), pl 2 (.pointer (some ⟨g1, 0, none⟩)), pl 7 (.pointer (some ⟨g2, 0, none⟩)), pl 8 (.pointer (some ⟨g3, 0, none⟩)), pl 23 (.func (.func 89) #[] #[.pointer (some ⟨g1, 0, none⟩), .pointer (some ⟨g3, 0, none⟩), .pointer (some ⟨g2, 0, none⟩)])] hF hS (by kernel_rfl) (by kernel_rfl) ?_ (fun a w hF hS => ?_)
      · exact obs_nil
      obtain ⟨w, hrun, hS⟩ := run_put (P := Try.prog) (t := 128) (u := .func (.func 89) #[] #[.pointer (some ⟨g1, 0, none⟩), .pointer (some ⟨g3, 0, none⟩), .pointer (some ⟨g2, 0, none⟩)]) (i := 0) (hS.at_ 0 rfl) hi128 hs128 rfl (Nat.lt_of_lt_of_eq (Nat.lt_of_succ_le (Nat.le_of_ble_eq_true (by kernel_rfl))) rfl)
      refine at_skip hF (by kernel_rfl) hrun ?_
      have hS : Sep w0 B w (blk g3 128 #[.func (.func 89) #[] #[.pointer (some ⟨g1, 0, none⟩), .pointer (some ⟨g3, 0, none⟩), .pointer (some ⟨g2, 0, none⟩)]] :: blk g2 44 #[.slice none 0 0] :: own 3 (.slice A2 r3.length c2) (vI r3) :: blk g1 40 #[.slice A2 r3.length c2] :: fs) := hS
      refine at_end [1, 2, 7, 8] [pl 1 (.int .i64 peg1), pl 2 (.pointer (some ⟨g1, 0, none⟩)), pl 7 (.pointer (some ⟨g2, 0, none⟩)), pl 8 (.pointer (some ⟨g3, 0, none⟩))] hF rfl (by kernel_rfl) (fun hF => ?_)
      refine then_n ?_
      refine seqR ?_
      obtain ⟨r4, hr4, hm⟩ := call_b hm
      refine at_run 4 [⟨false, [], vS (Instr.loadAt 128 (.pointer (some ⟨g3, 0, none⟩))), .func (.func 89) #[] #[.pointer (some ⟨g1, 0, none⟩), .pointer (some ⟨g3, 0, none⟩), .pointer (some ⟨g2, 0, none⟩)]⟩, ⟨false, [], vS (Instr.loadAt 40 (.pointer (some ⟨g1, 0, none⟩))), .slice A2 r3.length c2⟩] [some (.func (.func 89) #[] #[.pointer (some ⟨g1, 0, none⟩), .pointer (some ⟨g3, 0, none⟩), .pointer (some ⟨g2, 0, none⟩)]), some (.slice A2 r3.length c2), none, none] [7, 24, 26, 27] [pl 7 (.pointer (some ⟨g2, 0, none⟩)), pl 24 (.func (.func 89) #[] #[.pointer (some ⟨g1, 0, none⟩), .pointer (some ⟨g3, 0, none⟩), .pointer (some ⟨g2, 0, none⟩)]), pl 26 (.int .i64 (r3.length : Int)), pl 27 (.int .i64 peg1)] hF hS (by kernel_rfl) (by kernel_rfl) ?_ (fun a w hF hS => ?_)
      · exact obs_cons (ob_load Agg128 (fun _ _ hS => (hS.at_ 0 rfl).cell rfl)) <| obs_cons (ob_load Agg40 (fun _ _ hS => (hS.at_ 3 rfl).cell rfl)) <| obs_nil
      have hS : Sep w0 B w (ownK 52 3 none 0 0 (List.flatMap enc52 ([] : List (Int × Int × Int))) :: blk g3 128 #[.func (.func 89) #[] #[.pointer (some ⟨g1, 0, none⟩), .pointer (some ⟨g3, 0, none⟩), .pointer (some ⟨g2, 0, none⟩)]] :: blk g2 44 #[.slice none 0 0] :: own 3 (.slice A2 r3.length c2) (vI r3) :: blk g1 40 #[.slice A2 r3.length c2] :: fs) := hS.nilK 52 3 enc52
      have hS : Sep w0 B w (ownK 52 3 none 0 0 (List.flatMap enc52 ([] : List (Int × Int × Int))) :: blk g3 128 #[.func (.func 89) #[] #[.pointer (some ⟨g1, 0, none⟩), .pointer (some ⟨g3, 0, none⟩), .pointer (some ⟨g2, 0, none⟩)]] :: blk g2 44 #[.slice none 0 0] :: own 3 (.slice A2 r3.length c2) (vI r3) :: blk g1 40 #[.slice A2 r3.length c2] :: fs) := hS
      have hS : Sep w0 B w (blk g1 40 #[.slice A2 r3.length c2] :: own 3 (.slice A2 r3.length c2) (vI r3) :: blk g3 128 #[.func (.func 89) #[] #[.pointer (some ⟨g1, 0, none⟩), .pointer (some ⟨g3, 0, none⟩), .pointer (some ⟨g2, 0, none⟩)]] :: blk g2 44 #[.slice none 0 0] :: ownK 52 3 none 0 0 (List.flatMap enc52 ([] : List (Int × Int × Int))) :: fs) := hS.pickN 5 [4, 3, 1, 2, 0] (by decide)
      refine at_call (f := 89) (args := #[.int .i64 (r3.length : Int), .int .i64 peg1, .pointer (some ⟨g1, 0, none⟩), .pointer (some ⟨g3, 0, none⟩), .pointer (some ⟨g2, 0, none⟩)]) (d := 28) hF (by kernel_rfl) (by kernel_rfl) Try.func89 (by kernel_rfl) rfl (hanoi_Way_1_w hr4 hS ) (fun v a w hR hF => ?_)
      clear hS
      obtain ⟨A3, c3, rfl, hS⟩ := hR
      have hS : Sep w0 B w (blk g1 40 #[.slice A2 r3.length c2] :: own 3 (.slice A2 r3.length c2) (vI r4.1) :: blk g3 128 #[.func (.func 89) #[] #[.pointer (some ⟨g1, 0, none⟩), .pointer (some ⟨g3, 0, none⟩), .pointer (some ⟨g2, 0, none⟩)]] :: blk g2 44 #[.slice A3 r4.2.length c3] :: ownK 52 3 A3 r4.2.length c3 (List.flatMap enc52 r4.2) :: fs) := hS
      refine at_end [7] [pl 7 (.pointer (some ⟨g2, 0, none⟩))] hF rfl (by kernel_rfl) (fun hF => ?_)
      refine then_n ?_
      refine reg [⟨false, [], vS (Instr.loadAt 44 (.pointer (some ⟨g2, 0, none⟩))), .slice A3 r4.2.length c3⟩] [some (.slice A3 r4.2.length c3), none, none] [4, 5] [pl 4 (.slice A3 r4.2.length c3), pl 5 (.int .i64 0)] hF hS Fol (by kernel_rfl) (by kernel_rfl) (by kernel_rfl) ?_ (fun a w hF hS => ?_)
      · exact obs_cons (ob_load Agg44 (fun _ _ hS => (hS.at_ 3 rfl).cell rfl)) <| obs_nil
      refine wp_ret ?_
      have hS := hS.pickN 5 [4] (by decide)
      have hm : some (r4.2, 0) = some r := hm
      obtain rfl := Option.some.inj hm
      exact retV (rs := [.tmp 4, .tmp 5]) (vs := [.slice A3 r4.2.length c3, .int .i64 0]) hF rfl (rv_t (by kernel_rfl) <| rv_t (by kernel_rfl) <| rv_nil) rfl ⟨_, rfl, A3, c3, rfl, hS⟩
    · refine wp_block ?_
      obtain ⟨r2, hr2, hm⟩ := call_b hm
      refine reg [⟨false, [], callFunc 87 #[.int .i64 peg1], .bool r2⟩] [none, some (.bool r2), none] [1, 2, 14] [pl 1 (.int .i64 peg1), pl 2 (.pointer (some ⟨g1, 0, none⟩)), pl 14 (.bool r2)] hF hS Fol (by kernel_rfl) (by kernel_rfl) (by kernel_rfl) ?_ (fun a w hF hS => ?_)
      · exact obs_cons (ob_call Try.func87 (by kernel_rfl) rfl (fun _ _ hS => hanoi_off_w hr2 hS )) <| obs_nil
      refine cond_ev (t := 14) (b := r2) hF (by kernel_rfl) (fun hb => ?_) (fun hb => ?_)
      · replace hm := if_t hm hb
        refine reg [] [] [4, 5] [pl 4 (.slice none 0 0), pl 5 (.int .i64 5)] hF hS Fol (by kernel_rfl) (by kernel_rfl) (by kernel_rfl) ?_ (fun a w hF hS => ?_)
        · exact obs_nil
        refine wp_ret ?_
        refine block_r (then_r ?_)
        have hS : Sep w0 B w (ownK 52 3 none 0 0 (List.flatMap enc52 ([] : List (Int × Int × Int))) :: blk g1 40 #[.slice A1 s1.length c1] :: fs) := hS.nilK 52 3 enc52
        have hl2 := (hS.at_ 0 rfl).lenK encK52
        have hS := (hS.at_ 0 rfl).reNK hl2
        have hS : Sep w0 B w (ownK 52 3 none (([] : List (Int × Int × Int)).length) 0 (List.flatMap enc52 ([] : List (Int × Int × Int))) :: blk g1 40 #[.slice A1 s1.length c1] :: fs) := hS
        have hS := hS.pickN 2 [0] (by decide)
        have hm : some (([] : List (Int × Int × Int)), 5) = some r := hm
        obtain rfl := Option.some.inj hm
        exact retV (rs := [.tmp 4, .tmp 5]) (vs := [.slice none (([] : List (Int × Int × Int)).length) 0, .int .i64 5]) hF rfl (rv_t (by kernel_rfl) <| rv_t (by kernel_rfl) <| rv_nil) rfl ⟨_, rfl, none, 0, rfl, hS⟩
      · replace hm := if_f hm hb
        refine reg [⟨false, [], vS (Instr.loadAt 40 (.pointer (some ⟨g1, 0, none⟩))), .slice A1 s1.length c1⟩] [some (.slice A1 s1.length c1), none, none, none] [1, 2, 17] [pl 1 (.int .i64 peg1), pl 2 (.pointer (some ⟨g1, 0, none⟩)), pl 17 (.bool (decide ((10 : Int) < (s1.length : Int))))] hF hS Fol (by kernel_rfl) (by kernel_rfl) (by kernel_rfl) ?_ (fun a w hF hS => ?_)
        · exact obs_cons (ob_load Agg40 (fun _ _ hS => (hS.at_ 0 rfl).cell rfl)) <| obs_nil
        refine cond_ev (t := 17) (b := decide ((10 : Int) < (s1.length : Int))) hF (by kernel_rfl) (fun hb => ?_) (fun hb => ?_)
        · replace hm := if_t hm hb
          refine reg [] [] [4, 5] [pl 4 (.slice none 0 0), pl 5 (.int .i64 11)] hF hS Fol (by kernel_rfl) (by kernel_rfl) (by kernel_rfl) ?_ (fun a w hF hS => ?_)
          · exact obs_nil
          refine wp_ret ?_
          refine block_r (then_r ?_)
          have hS : Sep w0 B w (ownK 52 3 none 0 0 (List.flatMap enc52 ([] : List (Int × Int × Int))) :: blk g1 40 #[.slice A1 s1.length c1] :: fs) := hS.nilK 52 3 enc52
          have hl3 := (hS.at_ 0 rfl).lenK encK52
          have hS := (hS.at_ 0 rfl).reNK hl3
          have hS : Sep w0 B w (ownK 52 3 none (([] : List (Int × Int × Int)).length) 0 (List.flatMap enc52 ([] : List (Int × Int × Int))) :: blk g1 40 #[.slice A1 s1.length c1] :: fs) := hS
          have hS := hS.pickN 2 [0] (by decide)
          have hm : some (([] : List (Int × Int × Int)), 11) = some r := hm
          obtain rfl := Option.some.inj hm
          exact retV (rs := [.tmp 4, .tmp 5]) (vs := [.slice none (([] : List (Int × Int × Int)).length) 0, .int .i64 11]) hF rfl (rv_t (by kernel_rfl) <| rv_t (by kernel_rfl) <| rv_nil) rfl ⟨_, rfl, none, 0, rfl, hS⟩
        · replace hm := if_f hm hb
          refine wp_skip ?_
          refine block_n ?_
          refine then_n ?_
          exact ⟨hF.weak [1, 2] (by kernel_rfl), hS, hm⟩
  · obtain ⟨r1, hr1, hm⟩ := call_b hm
    refine reg [⟨false, [], vS (Instr.loadAt 40 (.pointer (some ⟨g1, 0, none⟩))), .slice A1 s1.length c1⟩, ⟨false, [], callFunc 85 #[.slice A1 s1.length c1], .int .i64 r1⟩] [some (.slice A1 s1.length c1), some (.int .i64 r1), none] [1, 2, 6] [pl 1 (.int .i64 peg1), pl 2 (.pointer (some ⟨g1, 0, none⟩)), pl 6 (.int .i64 r1)] hF hS Fol (by kernel_rfl) (by kernel_rfl) (by kernel_rfl) ?_ (fun a w hF hS => ?_)
    · exact obs_cons (ob_load Agg40 (fun _ _ hS => (hS.at_ 0 rfl).cell rfl)) <| obs_cons (ob_call Try.func85 (by kernel_rfl) rfl (fun _ _ hS => hanoi_check_w hr1 hS (fun _ hS => (hr_s1 _ (hS.dropN 1))) _hc_s1 rfl)) <| obs_nil
    refine reg [] [] [1, 2, 6, 12] [pl 1 (.int .i64 peg1), pl 2 (.pointer (some ⟨g1, 0, none⟩)), pl 6 (.int .i64 r1), pl 12 (.bool (r1 != 0))] hF hS Fol (by kernel_rfl) (by kernel_rfl) (by kernel_rfl) ?_ (fun a w hF hS => ?_)
    · exact obs_nil
    refine cond_ev (t := 12) (b := (r1 != 0)) hF (by kernel_rfl) (fun hb => ?_) (fun hb => ?_)
    · replace hm := if_t hm hb
      refine reg [] [] [4, 5] [pl 4 (.slice none 0 0), pl 5 (.int .i64 r1)] hF hS Fol (by kernel_rfl) (by kernel_rfl) (by kernel_rfl) ?_ (fun a w hF hS => ?_)
      · exact obs_nil
      refine wp_ret ?_
      refine then_r ?_
      have hS : Sep w0 B w (ownK 52 3 none 0 0 (List.flatMap enc52 ([] : List (Int × Int × Int))) :: blk g1 40 #[.slice A1 s1.length c1] :: fs) := hS.nilK 52 3 enc52
      have hl1 := (hS.at_ 0 rfl).lenK encK52
      have hS := (hS.at_ 0 rfl).reNK hl1
      have hS : Sep w0 B w (ownK 52 3 none (([] : List (Int × Int × Int)).length) 0 (List.flatMap enc52 ([] : List (Int × Int × Int))) :: blk g1 40 #[.slice A1 s1.length c1] :: fs) := hS
      have hS := hS.pickN 2 [0] (by decide)
      have hm : some (([] : List (Int × Int × Int)), r1) = some r := hm
      obtain rfl := Option.some.inj hm
      exact retV (rs := [.tmp 4, .tmp 5]) (vs := [.slice none (([] : List (Int × Int × Int)).length) 0, .int .i64 r1]) hF rfl (rv_t (by kernel_rfl) <| rv_t (by kernel_rfl) <| rv_nil) rfl ⟨_, rfl, none, 0, rfl, hS⟩
    · replace hm := if_f hm hb
      refine wp_skip ?_
      refine then_n ?_
      exact ⟨hF.weak [1, 2] (by kernel_rfl), hS, hm⟩

noncomputable def gameroomref_within_m (n1 : Int) (low1 : Int) (high1 : Int) : Option Bool :=
  some ((decide (low1 ≤ n1)) && (decide (n1 ≤ high1)))

set_option maxRecDepth 100000 in
set_option maxHeartbeats 4000000 in
theorem gameroomref_within_w {n1 : Int} {low1 : Int} {high1 : Int} {r : Bool} {w0 w : World} {B : Nat} {fs : List HP} (hm : gameroomref_within_m n1 low1 high1 = some r) (hS : Sep w0 B w (fs)) :
    Calls Try.prog 90 #[.int .i64 n1, .int .i64 low1, .int .i64 high1] w fun e w' => e = .returned (.bool r) ∧ Sep w0 B w' (fs) := by
  unfold gameroomref_within_m at hm
  replace hm := start_b hm
  refine enter (l := [.int .i64 n1, .int .i64 low1, .int .i64 high1]) (n := 15) Try.func90 rfl rfl (by simp) (fun a hF => ?_)
  refine reg [] [] [0, 1, 2] [pl 0 (.int .i64 n1), pl 1 (.int .i64 low1), pl 2 (.int .i64 high1)] hF hS Fol (by kernel_rfl) (by kernel_rfl) (by kernel_rfl) ?_ (fun a w hF hS => ?_)
  · exact obs_nil
  refine reg [] [] [6] [pl 6 (.bool ((decide (low1 ≤ n1)) && (decide (n1 ≤ high1))))] hF hS Fol (by kernel_rfl) (by kernel_rfl) (by kernel_rfl) ?_ (fun a w hF hS => ?_)
  · exact obs_nil
  refine wp_ret ?_
  have hm : some ((decide (low1 ≤ n1)) && (decide (n1 ≤ high1))) = some r := hm
  obtain rfl := Option.some.inj hm
  exact retV (rs := [.tmp 6]) (vs := [.bool ((decide (low1 ≤ n1)) && (decide (n1 ≤ high1)))]) hF rfl (rv_t (by kernel_rfl) <| rv_nil) rfl ⟨rfl, hS⟩

noncomputable def gameroomref_DiscsMay_J4 (i1 : Int) : Option (St Int (Fl Unit Int)) :=
  some (.next (w64 (i1 + 1)))

noncomputable def gameroomref_DiscsMay_J3 (s1 : List Int) (i1 : Int) : Option (St Int (Fl Unit Int)) :=
  asrt (0 ≤ i1 ∧ i1 < (s1.length : Int)) <| (gameroomref_within_m (geti s1 i1) 0 2).bind fun r1 => if (!r1) then (some (.done (.ret 3))) else ((gameroomref_DiscsMay_J4 i1))

noncomputable def gameroomref_DiscsMay_J2 : Option Int :=
  some 0

noncomputable def gameroomref_DiscsMay_K1 : (Fl Unit Int) → Option Int :=
  fun (x : (Fl Unit Int)) => match x with | .go _ => gameroomref_DiscsMay_J2 | .ret x => some x

noncomputable def gameroomref_DiscsMay_L1 (s1 : List Int) : Int → Option (St Int (Fl Unit Int)) :=
  fun (x : Int) => match x with | i1 => if (decide (i1 < (s1.length : Int))) then ((gameroomref_DiscsMay_J3 s1 i1)) else (some (.done (.go ())))

noncomputable def gameroomref_DiscsMay_J1 (s1 : List Int) : Option Int :=
  (loop (gameroomref_DiscsMay_L1 s1) 0).bind gameroomref_DiscsMay_K1

noncomputable def gameroomref_DiscsMay_m (s1 : List Int) : Option Int :=
  if (decide ((40 : Int) < (s1.length : Int))) then (some 2) else ((gameroomref_DiscsMay_J1 s1))

set_option maxRecDepth 100000 in
set_option maxHeartbeats 4000000 in
theorem gameroomref_DiscsMay_w {A1 : Option Addr} {c1 : Nat} {n1 : Nat} {s1 : List Int} {r : Int} {w0 w : World} {B : Nat} {fs : List HP} (hm : gameroomref_DiscsMay_m s1 = some r) (hS : Sep w0 B w (fs)) (hr_s1 : RdF w0 B fs A1 (vI s1)) (_hc_s1 : s1.length ≤ c1) (_hn_s1 : n1 = s1.length) :
    Calls Try.prog 32 #[.slice A1 n1 c1] w fun e w' => e = .returned (.int .i64 r) ∧ Sep w0 B w' (fs) := by
  obtain ⟨i3, hi3, hz3, hs3, hb3⟩ := info_parts Info3
  obtain rfl := _hn_s1
  unfold gameroomref_DiscsMay_m at hm
  replace hm := start_b hm
  refine enter (l := [.slice A1 s1.length c1]) (n := 19) Try.func32 rfl rfl (by simp) (fun a hF => ?_)
  refine reg [] [] [0] [pl 0 (.slice A1 s1.length c1)] hF hS Fol (by kernel_rfl) (by kernel_rfl) (by kernel_rfl) ?_ (fun a w hF hS => ?_)
  · exact obs_nil
  refine seq_cut (fun a w => Fr 19 [pl 0 (.slice A1 s1.length c1)] a ∧ Sep w0 B w (fs) ∧ ((gameroomref_DiscsMay_J1 s1)).bind some = some r) ?_ ?_
  · rintro a w ⟨hF, hS, hm⟩
    unfold gameroomref_DiscsMay_J1 at hm
    refine seq_cut (fun a w => Fr 19 [] a ∧ Sep w0 B w (fs) ∧ (gameroomref_DiscsMay_J2).bind some = some r) ?_ ?_
    · rintro a w ⟨hF, hS, hm⟩
      unfold gameroomref_DiscsMay_J2 at hm
      refine reg [] [] [2] [pl 2 (.int .i64 0)] hF hS Fol (by kernel_rfl) (by kernel_rfl) (by kernel_rfl) ?_ (fun a w hF hS => ?_)
      · exact obs_nil
      refine wp_ret ?_
      have hm : some 0 = some r := hm
      obtain rfl := Option.some.inj hm
      exact retV (rs := [.tmp 2]) (vs := [.int .i64 0]) hF rfl (rv_t (by kernel_rfl) <| rv_nil) rfl ⟨rfl, hS⟩
    · refine reg [] [] [0, 3] [pl 0 (.slice A1 s1.length c1), pl 3 (.int .i64 0)] hF hS Fol (by kernel_rfl) (by kernel_rfl) (by kernel_rfl) ?_ (fun a w hF hS => ?_)
      · exact obs_nil
      refine wp_block ?_
      refine wp_loop_model (S := Int) (R := (Fl Unit Int)) (gameroomref_DiscsMay_L1 s1) (fun x => (gameroomref_DiscsMay_K1 x).bind some) r (fun (x : Int) a w => Fr 19 [pl 0 (.slice A1 s1.length c1), pl 3 (.int .i64 x)] a ∧ Sep w0 B w (fs)) (assoc_b hm) ⟨hF.weak [0, 3] (by kernel_rfl), hS⟩ ?_
      clear hF hS hm
      rintro nn1 i1 a w ⟨hF, hS⟩ hm
      generalize hφ1 : stK (gameroomref_DiscsMay_L1 s1) nn1 (fun x => (gameroomref_DiscsMay_K1 x).bind some) = φ1 at hm
      unfold gameroomref_DiscsMay_L1 at hm
      dsimp only at hm
      refine seq_cut (fun a w => Fr 19 [pl 0 (.slice A1 s1.length c1), pl 3 (.int .i64 i1)] a ∧ Sep w0 B w (fs) ∧ ((gameroomref_DiscsMay_J3 s1 i1)).bind φ1 = some r) ?_ ?_
      · rintro a w ⟨hF, hS, hm⟩
        unfold gameroomref_DiscsMay_J3 at hm
        refine seq_cut (fun a w => Fr 19 [pl 0 (.slice A1 s1.length c1), pl 3 (.int .i64 i1)] a ∧ Sep w0 B w (fs) ∧ ((gameroomref_DiscsMay_J4 i1)).bind φ1 = some r) ?_ ?_
        · rintro a w ⟨hF, hS, hm⟩
          unfold gameroomref_DiscsMay_J4 at hm
          refine reg1 [] [] [0, 3] [pl 0 (.slice A1 s1.length c1), pl 3 (.int .i64 (w64 (i1 + 1)))] hF hS Fol (by kernel_rfl) (by kernel_rfl) (by kernel_rfl) ?_ (fun a w hF hS => ?_)
          · exact obs_nil
          refine then_n ?_
          rw [← hφ1] at hm
          exact ⟨(w64 (i1 + 1)), ⟨hF.weak [0, 3] (by kernel_rfl), hS⟩, hm⟩
        · refine wp_block ?_
          obtain ⟨hp1, hm⟩ := asrt_b hm
          obtain ⟨r1, hr1, hm⟩ := call_b hm
          refine reg [⟨true, [], vS (Instr.indexAt 40 (.slice A1 s1.length c1) (.int .i64 i1)), .pointer (some (sAddr A1 i1))⟩, ⟨false, [], vS (Instr.loadAt 3 (.pointer (some (sAddr A1 i1)))), .int .i64 (geti s1 i1)⟩, ⟨false, [], callFunc 90 #[.int .i64 (geti s1 i1), .int .i64 0, .int .i64 2], .bool r1⟩] [none, none, some (.pointer (some (sAddr A1 i1))), some (.int .i64 (geti s1 i1)), some (.bool r1), none] [0, 3, 18] [pl 0 (.slice A1 s1.length c1), pl 3 (.int .i64 i1), pl 18 (.bool (!r1))] hF hS Fol (by kernel_rfl) (by kernel_rfl) (by kernel_rfl) ?_ (fun a w hF hS => ?_)
          · exact obs_cons (ob_ix1 (f := (Value.int .i64)) (m := s1) Und40 hi3 hs3 (hr_s1 _ (hS.dropN 0)) rfl (fun _ => hp1)) <| obs_cons (ob_get1 (n := s1.length) (m := s1) (Value.int .i64) (0 : Int) Agg3 (fun _ hS => ⟨_, (hr_s1 _ (hS.dropN 0))⟩) (fun _ hS => rfl) (fun _ => hp1)) <| obs_cons (ob_call Try.func90 (by kernel_rfl) rfl (fun _ _ hS => gameroomref_within_w hr1 hS )) <| obs_nil
          refine cond_ev (t := 18) (b := !r1) hF (by kernel_rfl) (fun hb => ?_) (fun hb => ?_)
          · replace hm := if_t hm hb
            refine reg [] [] [2] [pl 2 (.int .i64 3)] hF hS Fol (by kernel_rfl) (by kernel_rfl) (by kernel_rfl) ?_ (fun a w hF hS => ?_)
            · exact obs_nil
            refine wp_ret ?_
            refine block_r (then_r (then_r (block_r (then_r ?_))))
            rw [← hφ1] at hm
            replace hm := done_b hm
            unfold gameroomref_DiscsMay_K1 at hm
            try dsimp only at hm
            have hm : some 3 = some r := hm
            obtain rfl := Option.some.inj hm
            exact retV (rs := [.tmp 2]) (vs := [.int .i64 3]) hF rfl (rv_t (by kernel_rfl) <| rv_nil) rfl ⟨rfl, hS⟩
          · replace hm := if_f hm hb
            refine wp_skip ?_
            refine block_n ?_
            refine then_n ?_
            exact ⟨hF.weak [0, 3] (by kernel_rfl), hS, hm⟩
      · refine reg [] [] [0, 3, 10] [pl 0 (.slice A1 s1.length c1), pl 3 (.int .i64 i1), pl 10 (.bool (decide (i1 < (s1.length : Int))))] hF hS Fol (by kernel_rfl) (by kernel_rfl) (by kernel_rfl) ?_ (fun a w hF hS => ?_)
        · exact obs_nil
        refine cond_ev (t := 10) (b := decide (i1 < (s1.length : Int))) hF (by kernel_rfl) (fun hb => ?_) (fun hb => ?_)
        · replace hm := if_t hm hb
          refine wp_skip ?_
          refine then_n ?_
          exact ⟨hF.weak [0, 3] (by kernel_rfl), hS, hm⟩
        · replace hm := if_f hm hb
          refine wp_exit ?_
          refine then_e (then_e (block_e (then_n ?_)))
          rw [← hφ1] at hm
          replace hm := done_b hm
          unfold gameroomref_DiscsMay_K1 at hm
          try dsimp only at hm
          have hm : (gameroomref_DiscsMay_J2).bind some = some r := hm
          exact ⟨hF.weak [] (by kernel_rfl), hS, hm⟩
  · refine reg [] [] [0, 6] [pl 0 (.slice A1 s1.length c1), pl 6 (.bool (decide ((40 : Int) < (s1.length : Int))))] hF hS Fol (by kernel_rfl) (by kernel_rfl) (by kernel_rfl) ?_ (fun a w hF hS => ?_)
    · exact obs_nil
    refine cond_ev (t := 6) (b := decide ((40 : Int) < (s1.length : Int))) hF (by kernel_rfl) (fun hb => ?_) (fun hb => ?_)
    · replace hm := if_t hm hb
      refine reg [] [] [2] [pl 2 (.int .i64 2)] hF hS Fol (by kernel_rfl) (by kernel_rfl) (by kernel_rfl) ?_ (fun a w hF hS => ?_)
      · exact obs_nil
      refine wp_ret ?_
      refine then_r ?_
      have hm : some 2 = some r := hm
      obtain rfl := Option.some.inj hm
      exact retV (rs := [.tmp 2]) (vs := [.int .i64 2]) hF rfl (rv_t (by kernel_rfl) <| rv_nil) rfl ⟨rfl, hS⟩
    · replace hm := if_f hm hb
      refine wp_skip ?_
      refine then_n ?_
      exact ⟨hF.weak [0] (by kernel_rfl), hS, hm⟩

noncomputable def gameroomref_Ints_m (l1 : List Int) : Option (List Int) :=
  asrt ((0 : Int) + (l1.length : Int) ≤ bigN) <| some ([] ++ l1)

set_option maxRecDepth 100000 in
set_option maxHeartbeats 4000000 in
theorem gameroomref_Ints_w {A1 : Option Addr} {c1 : Nat} {n1 : Nat} {l1 : List Int} {r : (List Int)} {w0 w : World} {B : Nat} {fs : List HP} (hm : gameroomref_Ints_m l1 = some r) (hS : Sep w0 B w (fs)) (hr_l1 : RdF w0 B fs A1 (vI l1)) (_hc_l1 : l1.length ≤ c1) (_hn_l1 : n1 = l1.length) :
    Calls Try.prog 93 #[.slice A1 n1 c1] w fun e w' => ∃ v, e = .returned v ∧ ∃ (A3 : Option Addr) (c3 : Nat), v = .slice A3 r.length c3 ∧ Sep w0 B w' (own 3 (.slice A3 r.length c3) (vI r) :: fs) := by
  obtain ⟨i3, hi3, hz3, hs3, hb3⟩ := info_parts Info3
  obtain rfl := _hn_l1
  unfold gameroomref_Ints_m at hm
  replace hm := start_b hm
  refine enter (l := [.slice A1 l1.length c1]) (n := 5) Try.func93 rfl rfl (by simp) (fun a hF => ?_)
  refine reg [] [] [0] [pl 0 (.slice A1 l1.length c1)] hF hS Fol (by kernel_rfl) (by kernel_rfl) (by kernel_rfl) ?_ (fun a w hF hS => ?_)
  · exact obs_nil
  refine seqR ?_
  obtain ⟨hp1, hm⟩ := asrt_b hm
  refine at_run 1 [] [] [3] [pl 3 (.slice A1 l1.length c1)] hF hS (by kernel_rfl) (by kernel_rfl) ?_ (fun a w hF hS => ?_)
  · exact obs_nil
  have hS : Sep w0 B w (own 3 (.slice none 0 0) (vI ([] : List Int)) :: fs) := hS.nil 3
  obtain ⟨A2, c2, w, hrun, hS⟩ := run_app1 (P := Try.prog) (t := 40) (m := ([] : List Int)) (ys := l1) (A2 := A1) (m2 := l1.length) (c2 := c1) (Value.int .i64) (0 : Int) (hS.at_ 0 rfl) (hr_l1 _ (hS.dropN 1)) rfl 40 Und40 hi3 hz3 hs3 (by omega) rfl (fun _ => rfl) hp1
  have hS : Sep w0 B w (own 3 (.slice A2 (([] ++ l1).length) c2) (vI ([] ++ l1)) :: fs) := hS
  refine at_do (d := 4) hF (by kernel_rfl) (by kernel_rfl) hrun (fun a hF => ?_)
  refine at_run 1 [] [] [2] [pl 2 (.slice A2 (([] ++ l1).length) c2)] hF hS (by kernel_rfl) (by kernel_rfl) ?_ (fun a w hF hS => ?_)
  · exact obs_nil
  refine at_end [2] [pl 2 (.slice A2 (([] ++ l1).length) c2)] hF rfl (by kernel_rfl) (fun hF => ?_)
  refine then_n ?_
  refine wp_ret ?_
  have hm : some ([] ++ l1) = some r := hm
  obtain rfl := Option.some.inj hm
  exact retV (rs := [.tmp 2]) (vs := [.slice A2 (([] ++ l1).length) c2]) hF rfl (rv_t (by kernel_rfl) <| rv_nil) rfl ⟨_, rfl, A2, c2, rfl, hS⟩

noncomputable def gameroomref_DiscMove_J4 (i1 : Int) : Option (St Int Int) :=
  some (.next (w64 (i1 + 1)))

noncomputable def gameroomref_DiscMove_J3 (s1 : List Int) (m1 : Int) (i1 : Int) : Option (St Int Int) :=
  asrt (0 ≤ i1 ∧ i1 < (s1.length : Int)) <| if ((geti s1 i1) == m1) then (some (.done i1)) else ((gameroomref_DiscMove_J4 i1))

noncomputable def gameroomref_DiscMove_J8 (i2 : Int) : Option (St Int (Fl Unit (List Int × Int))) :=
  some (.next (w64 (i2 + 1)))

noncomputable def gameroomref_DiscMove_J7 (s1 : List Int) (m2 : Int) (i2 : Int) : Option (St Int (Fl Unit (List Int × Int))) :=
  asrt (0 ≤ i2 ∧ i2 < (s1.length : Int)) <| if ((geti s1 i2) == m2) then (some (.done (.ret (([] : List Int), 8)))) else ((gameroomref_DiscMove_J8 i2))

noncomputable def gameroomref_DiscMove_L2 (s1 : List Int) (m2 : Int) (disc1 : Int) : Int → Option (St Int (Fl Unit (List Int × Int))) :=
  fun (x : Int) => match x with | i2 => if (decide (i2 < disc1)) then ((gameroomref_DiscMove_J7 s1 m2 i2)) else (some (.done (.go ())))

noncomputable def gameroomref_DiscMove_J6 (s1 : List Int) (m2 : Int) (disc1 : Int) : Option (List Int × Int) :=
  (gameroomref_Ints_m s1).bind fun r3 => asrt (0 ≤ disc1 ∧ disc1 < (r3.length : Int)) <| some ((r3.set (Int.toNat disc1) m2), 0)

noncomputable def gameroomref_DiscMove_K2 (s1 : List Int) (m2 : Int) (disc1 : Int) : (Fl Unit (List Int × Int)) → Option (List Int × Int) :=
  fun (x : (Fl Unit (List Int × Int))) => match x with | .go _ => (gameroomref_DiscMove_J6 s1 m2 disc1) | .ret x => some x

noncomputable def gameroomref_DiscMove_J5 (s1 : List Int) (m2 : Int) (disc1 : Int) : Option (List Int × Int) :=
  (loop (gameroomref_DiscMove_L2 s1 m2 disc1) 0).bind (gameroomref_DiscMove_K2 s1 m2 disc1)

noncomputable def gameroomref_DiscMove_J2 (s1 : List Int) (m2 : Int) (disc1 : Int) : Option (List Int × Int) :=
  if (decide (disc1 < 0)) then (some (([] : List Int), 10)) else ((gameroomref_DiscMove_J5 s1 m2 disc1))

noncomputable def gameroomref_DiscMove_K1 (s1 : List Int) (m2 : Int) : Int → Option (List Int × Int) :=
  fun (x : Int) => match x with | disc1 => (gameroomref_DiscMove_J2 s1 m2) disc1

noncomputable def gameroomref_DiscMove_L1 (s1 : List Int) (m1 : Int) : Int → Option (St Int Int) :=
  fun (x : Int) => match x with | i1 => if (decide (i1 < (s1.length : Int))) then ((gameroomref_DiscMove_J3 s1 m1 i1)) else (some (.done (-1)))

noncomputable def gameroomref_DiscMove_J1 (s1 : List Int) (m1 : Int) (m2 : Int) : Option (List Int × Int) :=
  (loop (gameroomref_DiscMove_L1 s1 m1) 0).bind (gameroomref_DiscMove_K1 s1 m2)

noncomputable def gameroomref_DiscMove_m (s1 : List Int) (m1 : Int) (m2 : Int) (m3 : Int) : Option (List Int × Int) :=
  (gameroomref_within_m m1 0 2).bind fun r1 => ((if (!(!r1)) then gameroomref_within_m m2 0 2 else some false)).bind fun r2 => if (((!r1) || (!r2)) || (m1 == m2)) then (some (([] : List Int), 5)) else ((gameroomref_DiscMove_J1 s1 m1 m2))

set_option maxRecDepth 100000 in
set_option maxHeartbeats 4000000 in
theorem gameroomref_DiscMove_w {A1 : Option Addr} {c1 : Nat} {n1 : Nat} {s1 : List Int} {m1 : Int} {m2 : Int} {m3 : Int} {r : (List Int × Int)} {w0 w : World} {B : Nat} {fs : List HP} (hm : gameroomref_DiscMove_m s1 m1 m2 m3 = some r) (hS : Sep w0 B w (fs)) (hr_s1 : RdF w0 B fs A1 (vI s1)) (_hc_s1 : s1.length ≤ c1) (_hn_s1 : n1 = s1.length) :
    Calls Try.prog 35 #[.slice A1 n1 c1, .agg #[.int .i64 m1, .int .i64 m2, .int .i64 m3]] w fun e w' => ∃ v, e = .returned v ∧ ∃ (A3 : Option Addr) (c3 : Nat), v = .tuple #[.slice A3 r.1.length c3, .int .i64 r.2] ∧ Sep w0 B w' (own 3 (.slice A3 r.1.length c3) (vI r.1) :: fs) := by
  obtain ⟨i3, hi3, hz3, hs3, hb3⟩ := info_parts Info3
  obtain rfl := _hn_s1
  unfold gameroomref_DiscMove_m at hm
  replace hm := start_b hm
  refine enter (l := [.slice A1 s1.length c1, .agg #[.int .i64 m1, .int .i64 m2, .int .i64 m3]]) (n := 63) Try.func35 rfl rfl (by simp) (fun a hF => ?_)
  refine seqR ?_
  refine at_do (d := 3) (s := vS (Instr.box 52 (.agg #[.int .i64 m1, .int .i64 m2, .int .i64 m3]))) (v := .pointer (some ⟨w.heap.size, 0, none⟩)) (w' := w.alloc (.cells #[.int .i64 m1, .int .i64 m2, .int .i64 m3] 52)) hF (by kernel_rfl) (by kernel_rfl) (by kernel_rfl) (fun a hF => ?_)
  have hS : Sep w0 B (w.alloc (.cells #[.int .i64 m1, .int .i64 m2, .int .i64 m3] 52)) (blk w.heap.size 52 #[.int .i64 m1, .int .i64 m2, .int .i64 m3] :: (fs)) := hS.box 52 #[.int .i64 m1, .int .i64 m2, .int .i64 m3]
  generalize w.heap.size = g1 at hF hS
  generalize w.alloc (.cells #[.int .i64 m1, .int .i64 m2, .int .i64 m3] 52) = w at hS ⊢
  refine at_run 2 [] [] [0, 3] [pl 0 (.slice A1 s1.length c1), pl 3 (.pointer (some ⟨g1, 0, none⟩))] hF hS (by kernel_rfl) (by kernel_rfl) ?_ (fun a w hF hS => ?_)
  · exact obs_nil
  refine at_end [0, 3] [pl 0 (.slice A1 s1.length c1), pl 3 (.pointer (some ⟨g1, 0, none⟩))] hF rfl (by kernel_rfl) (fun hF => ?_)
  refine then_n ?_
  refine seq_cut (fun a w => Fr 63 [pl 0 (.slice A1 s1.length c1), pl 3 (.pointer (some ⟨g1, 0, none⟩))] a ∧ Sep w0 B w (blk g1 52 #[.int .i64 m1, .int .i64 m2, .int .i64 m3] :: fs) ∧ ((gameroomref_DiscMove_J1 s1 m1 m2)).bind some = some r) ?_ ?_
  · rintro a w ⟨hF, hS, hm⟩
    unfold gameroomref_DiscMove_J1 at hm
    refine reg [] [] [0, 3, 6] [pl 0 (.slice A1 s1.length c1), pl 3 (.pointer (some ⟨g1, 0, none⟩)), pl 6 (.int .i64 (-1))] hF hS Fol (by kernel_rfl) (by kernel_rfl) (by kernel_rfl) ?_ (fun a w hF hS => ?_)
    · exact obs_nil
    refine seq_cut (fun a w => ∃ (disc1 : Int), Fr 63 [pl 0 (.slice A1 s1.length c1), pl 3 (.pointer (some ⟨g1, 0, none⟩)), pl 6 (.int .i64 disc1)] a ∧ Sep w0 B w (blk g1 52 #[.int .i64 m1, .int .i64 m2, .int .i64 m3] :: fs) ∧ ((gameroomref_DiscMove_J2 s1 m2) disc1).bind some = some r) ?_ ?_
    · rintro a w ⟨disc1, hF, hS, hm⟩
      unfold gameroomref_DiscMove_J2 at hm
      refine seq_cut (fun a w => Fr 63 [pl 0 (.slice A1 s1.length c1), pl 3 (.pointer (some ⟨g1, 0, none⟩)), pl 6 (.int .i64 disc1)] a ∧ Sep w0 B w (blk g1 52 #[.int .i64 m1, .int .i64 m2, .int .i64 m3] :: fs) ∧ ((gameroomref_DiscMove_J5 s1 m2 disc1)).bind some = some r) ?_ ?_
      · rintro a w ⟨hF, hS, hm⟩
        unfold gameroomref_DiscMove_J5 at hm
        refine seq_cut (fun a w => Fr 63 [pl 0 (.slice A1 s1.length c1), pl 3 (.pointer (some ⟨g1, 0, none⟩)), pl 6 (.int .i64 disc1)] a ∧ Sep w0 B w (blk g1 52 #[.int .i64 m1, .int .i64 m2, .int .i64 m3] :: fs) ∧ ((gameroomref_DiscMove_J6 s1 m2 disc1)).bind some = some r) ?_ ?_
        · rintro a w ⟨hF, hS, hm⟩
          unfold gameroomref_DiscMove_J6 at hm
          refine seqR ?_
          obtain ⟨r3, hr3, hm⟩ := call_b hm
          refine at_run 1 [] [] [3, 6, 55] [pl 3 (.pointer (some ⟨g1, 0, none⟩)), pl 6 (.int .i64 disc1), pl 55 (.slice A1 s1.length c1)] hF hS (by kernel_rfl) (by kernel_rfl) ?_ (fun a w hF hS => ?_)
          · exact obs_nil
          refine at_call (f := 93) (args := #[.slice A1 s1.length c1]) (d := 56) hF (by kernel_rfl) (by kernel_rfl) Try.func93 (by kernel_rfl) rfl (gameroomref_Ints_w hr3 hS (fun _ hS => (hr_s1 _ (hS.dropN 1))) _hc_s1 rfl) (fun v a w hR hF => ?_)
          clear hS
          obtain ⟨A2, c2, rfl, hS⟩ := hR
          have hS : Sep w0 B w (own 3 (.slice A2 r3.length c2) (vI r3) :: blk g1 52 #[.int .i64 m1, .int .i64 m2, .int .i64 m3] :: fs) := hS
          refine at_run 1 [] [] [3, 6, 9] [pl 3 (.pointer (some ⟨g1, 0, none⟩)), pl 6 (.int .i64 disc1), pl 9 (.slice A2 r3.length c2)] hF hS (by kernel_rfl) (by kernel_rfl) ?_ (fun a w hF hS => ?_)
          · exact obs_nil
          refine at_end [3, 6, 9] [pl 3 (.pointer (some ⟨g1, 0, none⟩)), pl 6 (.int .i64 disc1), pl 9 (.slice A2 r3.length c2)] hF rfl (by kernel_rfl) (fun hF => ?_)
          refine then_n ?_
          refine seqR ?_
          obtain ⟨hp3, hm⟩ := asrt_b hm
          refine at_run 5 [⟨false, [], vS (Instr.loadAt 3 (.pointer (some ⟨g1, 1, none⟩))), .int .i64 m2⟩, ⟨true, [], vS (Instr.indexAt 40 (.slice A2 r3.length c2) (.int .i64 disc1)), .pointer (some (sAddr A2 disc1))⟩] [none, none, none, some (.int .i64 m2), some (.pointer (some (sAddr A2 disc1)))] [9, 60, 61] [pl 9 (.slice A2 r3.length c2), pl 60 (.int .i64 m2), pl 61 (.pointer (some (sAddr A2 disc1)))] hF hS (by kernel_rfl) (by kernel_rfl) ?_ (fun a w hF hS => ?_)
          · exact obs_cons (ob_load Agg3 (fun _ _ hS => (hS.at_ 1 rfl).cell rfl)) <| obs_cons (ob_ix1 (f := (Value.int .i64)) (m := r3) Und40 hi3 hs3 (hS.at_ 0 rfl).rd rfl (fun _ => hp3)) <| obs_nil
          obtain ⟨w, hrun, hS⟩ := run_set1 (P := Try.prog) (t := 3) (x := m2) (Value.int .i64) (hS.at_ 0 rfl) hi3 hs3 rfl rfl hp3
          refine at_skip hF (by kernel_rfl) hrun ?_
          have hS : Sep w0 B w (own 3 (.slice A2 r3.length c2) (vI (r3.set (Int.toNat disc1) m2)) :: blk g1 52 #[.int .i64 m1, .int .i64 m2, .int .i64 m3] :: fs) := hS
          refine at_end [9] [pl 9 (.slice A2 r3.length c2)] hF rfl (by kernel_rfl) (fun hF => ?_)
          refine then_n ?_
          refine reg [] [] [4, 5] [pl 4 (.slice A2 r3.length c2), pl 5 (.int .i64 0)] hF hS Fol (by kernel_rfl) (by kernel_rfl) (by kernel_rfl) ?_ (fun a w hF hS => ?_)
          · exact obs_nil
          refine wp_ret ?_
          have hl4 := (hS.at_ 0 rfl).len1
          have hS := (hS.at_ 0 rfl).reN hl4
          have hS : Sep w0 B w (own 3 (.slice A2 ((r3.set (Int.toNat disc1) m2).length) c2) (vI (r3.set (Int.toNat disc1) m2)) :: blk g1 52 #[.int .i64 m1, .int .i64 m2, .int .i64 m3] :: fs) := hS
          have hF := hF.cast (t := 4) (v := .slice A2 r3.length c2) (v' := .slice A2 ((r3.set (Int.toNat disc1) m2).length) c2) rfl rfl (congrArg (fun k => Value.slice A2 k c2) hl4)
          have hS := hS.pickN 2 [0] (by decide)
          have hm : some ((r3.set (Int.toNat disc1) m2), 0) = some r := hm
          obtain rfl := Option.some.inj hm
          exact retV (rs := [.tmp 4, .tmp 5]) (vs := [.slice A2 ((r3.set (Int.toNat disc1) m2).length) c2, .int .i64 0]) hF rfl (rv_t (by kernel_rfl) <| rv_t (by kernel_rfl) <| rv_nil) rfl ⟨_, rfl, A2, c2, rfl, hS⟩
        · refine reg [] [] [0, 3, 6, 8] [pl 0 (.slice A1 s1.length c1), pl 3 (.pointer (some ⟨g1, 0, none⟩)), pl 6 (.int .i64 disc1), pl 8 (.int .i64 0)] hF hS Fol (by kernel_rfl) (by kernel_rfl) (by kernel_rfl) ?_ (fun a w hF hS => ?_)
          · exact obs_nil
          refine wp_block ?_
          refine wp_loop_model (S := Int) (R := (Fl Unit (List Int × Int))) (gameroomref_DiscMove_L2 s1 m2 disc1) (fun x => ((gameroomref_DiscMove_K2 s1 m2 disc1) x).bind some) r (fun (x : Int) a w => Fr 63 [pl 0 (.slice A1 s1.length c1), pl 3 (.pointer (some ⟨g1, 0, none⟩)), pl 6 (.int .i64 disc1), pl 8 (.int .i64 x)] a ∧ Sep w0 B w (blk g1 52 #[.int .i64 m1, .int .i64 m2, .int .i64 m3] :: fs)) (assoc_b hm) ⟨hF.weak [0, 3, 6, 8] (by kernel_rfl), hS⟩ ?_
          clear hF hS hm
          rintro nn2 i2 a w ⟨hF, hS⟩ hm
          generalize hφ2 : stK (gameroomref_DiscMove_L2 s1 m2 disc1) nn2 (fun x => ((gameroomref_DiscMove_K2 s1 m2 disc1) x).bind some) = φ2 at hm
          unfold gameroomref_DiscMove_L2 at hm
          dsimp only at hm
          refine seq_cut (fun a w => Fr 63 [pl 0 (.slice A1 s1.length c1), pl 3 (.pointer (some ⟨g1, 0, none⟩)), pl 6 (.int .i64 disc1), pl 8 (.int .i64 i2)] a ∧ Sep w0 B w (blk g1 52 #[.int .i64 m1, .int .i64 m2, .int .i64 m3] :: fs) ∧ ((gameroomref_DiscMove_J7 s1 m2 i2)).bind φ2 = some r) ?_ ?_
          · rintro a w ⟨hF, hS, hm⟩
            unfold gameroomref_DiscMove_J7 at hm
            refine seq_cut (fun a w => Fr 63 [pl 0 (.slice A1 s1.length c1), pl 3 (.pointer (some ⟨g1, 0, none⟩)), pl 6 (.int .i64 disc1), pl 8 (.int .i64 i2)] a ∧ Sep w0 B w (blk g1 52 #[.int .i64 m1, .int .i64 m2, .int .i64 m3] :: fs) ∧ ((gameroomref_DiscMove_J8 i2)).bind φ2 = some r) ?_ ?_
            · rintro a w ⟨hF, hS, hm⟩
              unfold gameroomref_DiscMove_J8 at hm
              refine reg1 [] [] [0, 3, 6, 8] [pl 0 (.slice A1 s1.length c1), pl 3 (.pointer (some ⟨g1, 0, none⟩)), pl 6 (.int .i64 disc1), pl 8 (.int .i64 (w64 (i2 + 1)))] hF hS Fol (by kernel_rfl) (by kernel_rfl) (by kernel_rfl) ?_ (fun a w hF hS => ?_)
              · exact obs_nil
              refine then_n ?_
              rw [← hφ2] at hm
              exact ⟨(w64 (i2 + 1)), ⟨hF.weak [0, 3, 6, 8] (by kernel_rfl), hS⟩, hm⟩
            · refine wp_block ?_
              obtain ⟨hp2, hm⟩ := asrt_b hm
              refine reg [⟨true, [], vS (Instr.indexAt 40 (.slice A1 s1.length c1) (.int .i64 i2)), .pointer (some (sAddr A1 i2))⟩, ⟨false, [], vS (Instr.loadAt 3 (.pointer (some (sAddr A1 i2)))), .int .i64 (geti s1 i2)⟩, ⟨false, [], vS (Instr.loadAt 3 (.pointer (some ⟨g1, 1, none⟩))), .int .i64 m2⟩] [none, none, some (.pointer (some (sAddr A1 i2))), some (.int .i64 (geti s1 i2)), none, some (.int .i64 m2), none] [0, 3, 6, 8, 54] [pl 0 (.slice A1 s1.length c1), pl 3 (.pointer (some ⟨g1, 0, none⟩)), pl 6 (.int .i64 disc1), pl 8 (.int .i64 i2), pl 54 (.bool ((geti s1 i2) == m2))] hF hS Fol (by kernel_rfl) (by kernel_rfl) (by kernel_rfl) ?_ (fun a w hF hS => ?_)
              · exact obs_cons (ob_ix1 (f := (Value.int .i64)) (m := s1) Und40 hi3 hs3 (hr_s1 _ (hS.dropN 1)) rfl (fun _ => hp2)) <| obs_cons (ob_get1 (n := s1.length) (m := s1) (Value.int .i64) (0 : Int) Agg3 (fun _ hS => ⟨_, (hr_s1 _ (hS.dropN 1))⟩) (fun _ hS => rfl) (fun _ => hp2)) <| obs_cons (ob_load Agg3 (fun _ _ hS => (hS.at_ 0 rfl).cell rfl)) <| obs_nil
              refine cond_ev (t := 54) (b := ((geti s1 i2) == m2)) hF (by kernel_rfl) (fun hb => ?_) (fun hb => ?_)
              · replace hm := if_t hm hb
                refine reg [] [] [4, 5] [pl 4 (.slice none 0 0), pl 5 (.int .i64 8)] hF hS Fol (by kernel_rfl) (by kernel_rfl) (by kernel_rfl) ?_ (fun a w hF hS => ?_)
                · exact obs_nil
                refine wp_ret ?_
                refine block_r (then_r (then_r (block_r (then_r ?_))))
                rw [← hφ2] at hm
                replace hm := done_b hm
                unfold gameroomref_DiscMove_K2 at hm
                try dsimp only at hm
                have hS : Sep w0 B w (own 3 (.slice none 0 0) (vI ([] : List Int)) :: blk g1 52 #[.int .i64 m1, .int .i64 m2, .int .i64 m3] :: fs) := hS.nil 3
                have hl3 := (hS.at_ 0 rfl).len1
                have hS := (hS.at_ 0 rfl).reN hl3
                have hS : Sep w0 B w (own 3 (.slice none (([] : List Int).length) 0) (vI ([] : List Int)) :: blk g1 52 #[.int .i64 m1, .int .i64 m2, .int .i64 m3] :: fs) := hS
                have hS := hS.pickN 2 [0] (by decide)
                have hm : some (([] : List Int), 8) = some r := hm
                obtain rfl := Option.some.inj hm
                exact retV (rs := [.tmp 4, .tmp 5]) (vs := [.slice none (([] : List Int).length) 0, .int .i64 8]) hF rfl (rv_t (by kernel_rfl) <| rv_t (by kernel_rfl) <| rv_nil) rfl ⟨_, rfl, none, 0, rfl, hS⟩
              · replace hm := if_f hm hb
                refine wp_skip ?_
                refine block_n ?_
                refine then_n ?_
                exact ⟨hF.weak [0, 3, 6, 8] (by kernel_rfl), hS, hm⟩
          · refine reg [] [] [0, 3, 6, 8, 45] [pl 0 (.slice A1 s1.length c1), pl 3 (.pointer (some ⟨g1, 0, none⟩)), pl 6 (.int .i64 disc1), pl 8 (.int .i64 i2), pl 45 (.bool (decide (i2 < disc1)))] hF hS Fol (by kernel_rfl) (by kernel_rfl) (by kernel_rfl) ?_ (fun a w hF hS => ?_)
            · exact obs_nil
            refine cond_ev (t := 45) (b := decide (i2 < disc1)) hF (by kernel_rfl) (fun hb => ?_) (fun hb => ?_)
            · replace hm := if_t hm hb
              refine wp_skip ?_
              refine then_n ?_
              exact ⟨hF.weak [0, 3, 6, 8] (by kernel_rfl), hS, hm⟩
            · replace hm := if_f hm hb
              refine wp_exit ?_
              refine then_e (then_e (block_e (then_n ?_)))
              rw [← hφ2] at hm
              replace hm := done_b hm
              unfold gameroomref_DiscMove_K2 at hm
              try dsimp only at hm
              have hm : ((gameroomref_DiscMove_J6 s1 m2 disc1)).bind some = some r := hm
              exact ⟨hF.weak [0, 3, 6] (by kernel_rfl), hS, hm⟩
      · refine reg [] [] [0, 3, 6, 42] [pl 0 (.slice A1 s1.length c1), pl 3 (.pointer (some ⟨g1, 0, none⟩)), pl 6 (.int .i64 disc1), pl 42 (.bool (decide (disc1 < 0)))] hF hS Fol (by kernel_rfl) (by kernel_rfl) (by kernel_rfl) ?_ (fun a w hF hS => ?_)
        · exact obs_nil
        refine cond_ev (t := 42) (b := decide (disc1 < 0)) hF (by kernel_rfl) (fun hb => ?_) (fun hb => ?_)
        · replace hm := if_t hm hb
          refine reg [] [] [4, 5] [pl 4 (.slice none 0 0), pl 5 (.int .i64 10)] hF hS Fol (by kernel_rfl) (by kernel_rfl) (by kernel_rfl) ?_ (fun a w hF hS => ?_)
          · exact obs_nil
          refine wp_ret ?_
          refine then_r ?_
          have hS : Sep w0 B w (own 3 (.slice none 0 0) (vI ([] : List Int)) :: blk g1 52 #[.int .i64 m1, .int .i64 m2, .int .i64 m3] :: fs) := hS.nil 3
          have hl2 := (hS.at_ 0 rfl).len1
          have hS := (hS.at_ 0 rfl).reN hl2
          have hS : Sep w0 B w (own 3 (.slice none (([] : List Int).length) 0) (vI ([] : List Int)) :: blk g1 52 #[.int .i64 m1, .int .i64 m2, .int .i64 m3] :: fs) := hS
          have hS := hS.pickN 2 [0] (by decide)
          have hm : some (([] : List Int), 10) = some r := hm
          obtain rfl := Option.some.inj hm
          exact retV (rs := [.tmp 4, .tmp 5]) (vs := [.slice none (([] : List Int).length) 0, .int .i64 10]) hF rfl (rv_t (by kernel_rfl) <| rv_t (by kernel_rfl) <| rv_nil) rfl ⟨_, rfl, none, 0, rfl, hS⟩
        · replace hm := if_f hm hb
          refine wp_skip ?_
          refine then_n ?_
          exact ⟨hF.weak [0, 3, 6] (by kernel_rfl), hS, hm⟩
    · refine reg [] [] [0, 3, 6, 7] [pl 0 (.slice A1 s1.length c1), pl 3 (.pointer (some ⟨g1, 0, none⟩)), pl 6 (.int .i64 (-1)), pl 7 (.int .i64 0)] hF hS Fol (by kernel_rfl) (by kernel_rfl) (by kernel_rfl) ?_ (fun a w hF hS => ?_)
      · exact obs_nil
      refine wp_block ?_
      refine wp_loop_model (S := Int) (R := Int) (gameroomref_DiscMove_L1 s1 m1) (fun x => ((gameroomref_DiscMove_K1 s1 m2) x).bind some) r (fun (x : Int) a w => Fr 63 [pl 0 (.slice A1 s1.length c1), pl 3 (.pointer (some ⟨g1, 0, none⟩)), pl 6 (.int .i64 (-1)), pl 7 (.int .i64 x)] a ∧ Sep w0 B w (blk g1 52 #[.int .i64 m1, .int .i64 m2, .int .i64 m3] :: fs)) (assoc_b hm) ⟨hF.weak [0, 3, 6, 7] (by kernel_rfl), hS⟩ ?_
      clear hF hS hm
      rintro nn1 i1 a w ⟨hF, hS⟩ hm
      generalize hφ1 : stK (gameroomref_DiscMove_L1 s1 m1) nn1 (fun x => ((gameroomref_DiscMove_K1 s1 m2) x).bind some) = φ1 at hm
      unfold gameroomref_DiscMove_L1 at hm
      dsimp only at hm
      refine seq_cut (fun a w => Fr 63 [pl 0 (.slice A1 s1.length c1), pl 3 (.pointer (some ⟨g1, 0, none⟩)), pl 6 (.int .i64 (-1)), pl 7 (.int .i64 i1)] a ∧ Sep w0 B w (blk g1 52 #[.int .i64 m1, .int .i64 m2, .int .i64 m3] :: fs) ∧ ((gameroomref_DiscMove_J3 s1 m1 i1)).bind φ1 = some r) ?_ ?_
      · rintro a w ⟨hF, hS, hm⟩
        unfold gameroomref_DiscMove_J3 at hm
        refine seq_cut (fun a w => Fr 63 [pl 0 (.slice A1 s1.length c1), pl 3 (.pointer (some ⟨g1, 0, none⟩)), pl 6 (.int .i64 (-1)), pl 7 (.int .i64 i1)] a ∧ Sep w0 B w (blk g1 52 #[.int .i64 m1, .int .i64 m2, .int .i64 m3] :: fs) ∧ ((gameroomref_DiscMove_J4 i1)).bind φ1 = some r) ?_ ?_
        · rintro a w ⟨hF, hS, hm⟩
          unfold gameroomref_DiscMove_J4 at hm
          refine reg1 [] [] [0, 3, 6, 7] [pl 0 (.slice A1 s1.length c1), pl 3 (.pointer (some ⟨g1, 0, none⟩)), pl 6 (.int .i64 (-1)), pl 7 (.int .i64 (w64 (i1 + 1)))] hF hS Fol (by kernel_rfl) (by kernel_rfl) (by kernel_rfl) ?_ (fun a w hF hS => ?_)
          · exact obs_nil
          refine then_n ?_
          rw [← hφ1] at hm
          exact ⟨(w64 (i1 + 1)), ⟨hF.weak [0, 3, 6, 7] (by kernel_rfl), hS⟩, hm⟩
        · refine wp_block ?_
          obtain ⟨hp1, hm⟩ := asrt_b hm
          refine reg [⟨true, [], vS (Instr.indexAt 40 (.slice A1 s1.length c1) (.int .i64 i1)), .pointer (some (sAddr A1 i1))⟩, ⟨false, [], vS (Instr.loadAt 3 (.pointer (some (sAddr A1 i1)))), .int .i64 (geti s1 i1)⟩, ⟨false, [], vS (Instr.loadAt 3 (.pointer (some ⟨g1, 0, none⟩))), .int .i64 m1⟩] [none, none, some (.pointer (some (sAddr A1 i1))), some (.int .i64 (geti s1 i1)), none, some (.int .i64 m1), none] [0, 3, 6, 7, 39] [pl 0 (.slice A1 s1.length c1), pl 3 (.pointer (some ⟨g1, 0, none⟩)), pl 6 (.int .i64 (-1)), pl 7 (.int .i64 i1), pl 39 (.bool ((geti s1 i1) == m1))] hF hS Fol (by kernel_rfl) (by kernel_rfl) (by kernel_rfl) ?_ (fun a w hF hS => ?_)
          · exact obs_cons (ob_ix1 (f := (Value.int .i64)) (m := s1) Und40 hi3 hs3 (hr_s1 _ (hS.dropN 1)) rfl (fun _ => hp1)) <| obs_cons (ob_get1 (n := s1.length) (m := s1) (Value.int .i64) (0 : Int) Agg3 (fun _ hS => ⟨_, (hr_s1 _ (hS.dropN 1))⟩) (fun _ hS => rfl) (fun _ => hp1)) <| obs_cons (ob_load Agg3 (fun _ _ hS => (hS.at_ 0 rfl).cell rfl)) <| obs_nil
          refine cond_ev (t := 39) (b := ((geti s1 i1) == m1)) hF (by kernel_rfl) (fun hb => ?_) (fun hb => ?_)
          · replace hm := if_t hm hb
            refine reg [] [] [0, 3, 6] [pl 0 (.slice A1 s1.length c1), pl 3 (.pointer (some ⟨g1, 0, none⟩)), pl 6 (.int .i64 i1)] hF hS Fol (by kernel_rfl) (by kernel_rfl) (by kernel_rfl) ?_ (fun a w hF hS => ?_)
            · exact obs_nil
            refine wp_exit ?_
            refine block_o rfl (then_e (then_e (block_e (then_n ?_))))
            rw [← hφ1] at hm
            replace hm := done_b hm
            unfold gameroomref_DiscMove_K1 at hm
            try dsimp only at hm
            have hm : ((gameroomref_DiscMove_J2 s1 m2) i1).bind some = some r := hm
            exact ⟨i1, hF.weak [0, 3, 6] (by kernel_rfl), hS, hm⟩
          · replace hm := if_f hm hb
            refine wp_skip ?_
            refine block_n ?_
            refine then_n ?_
            exact ⟨hF.weak [0, 3, 6, 7] (by kernel_rfl), hS, hm⟩
      · refine reg [] [] [0, 3, 6, 7, 30] [pl 0 (.slice A1 s1.length c1), pl 3 (.pointer (some ⟨g1, 0, none⟩)), pl 6 (.int .i64 (-1)), pl 7 (.int .i64 i1), pl 30 (.bool (decide (i1 < (s1.length : Int))))] hF hS Fol (by kernel_rfl) (by kernel_rfl) (by kernel_rfl) ?_ (fun a w hF hS => ?_)
        · exact obs_nil
        refine cond_ev (t := 30) (b := decide (i1 < (s1.length : Int))) hF (by kernel_rfl) (fun hb => ?_) (fun hb => ?_)
        · replace hm := if_t hm hb
          refine wp_skip ?_
          refine then_n ?_
          exact ⟨hF.weak [0, 3, 6, 7] (by kernel_rfl), hS, hm⟩
        · replace hm := if_f hm hb
          refine wp_exit ?_
          refine then_e (then_e (block_e (then_n ?_)))
          rw [← hφ1] at hm
          replace hm := done_b hm
          unfold gameroomref_DiscMove_K1 at hm
          try dsimp only at hm
          have hm : ((gameroomref_DiscMove_J2 s1 m2) (-1)).bind some = some r := hm
          exact ⟨(-1), hF.weak [0, 3, 6] (by kernel_rfl), hS, hm⟩
  · obtain ⟨r1, hr1, hm⟩ := call_b hm
    obtain ⟨r2, hr2, hm⟩ := call_b hm
    refine reg [⟨false, [], vS (Instr.loadAt 3 (.pointer (some ⟨g1, 0, none⟩))), .int .i64 m1⟩, ⟨false, [], callFunc 90 #[.int .i64 m1, .int .i64 0, .int .i64 2], .bool r1⟩, ⟨false, [(!r1, false)], vS (Instr.loadAt 3 (.pointer (some ⟨g1, 1, none⟩))), .int .i64 m2⟩, ⟨false, [(!r1, false)], callFunc 90 #[.int .i64 m2, .int .i64 0, .int .i64 2], .bool r2⟩, ⟨false, [((!r1) || (!r2), false)], vS (Instr.loadAt 3 (.pointer (some ⟨g1, 0, none⟩))), .int .i64 m1⟩, ⟨false, [((!r1) || (!r2), false)], vS (Instr.loadAt 3 (.pointer (some ⟨g1, 1, none⟩))), .int .i64 m2⟩] [none, some (.int .i64 m1), some (.bool r1), none, none, none, some (.int .i64 m2), some (.bool r2), none, none, none, none, some (.int .i64 m1), none, some (.int .i64 m2), none, none] [0, 3, 26] [pl 0 (.slice A1 s1.length c1), pl 3 (.pointer (some ⟨g1, 0, none⟩)), pl 26 (.bool (((!r1) || (!r2)) || (m1 == m2)))] hF hS Fol (by kernel_rfl) (by kernel_rfl) (by kernel_rfl) ?_ (fun a w hF hS => ?_)
    · exact obs_cons (ob_load Agg3 (fun _ _ hS => (hS.at_ 0 rfl).cell rfl)) <| obs_cons (ob_call Try.func90 (by kernel_rfl) rfl (fun _ _ hS => gameroomref_within_w hr1 hS )) <| obs_cons (ob_load Agg3 (fun _ _ hS => (hS.at_ 0 rfl).cell rfl)) <| obs_cons (ob_call Try.func90 (by kernel_rfl) rfl (fun hy _ hS => gameroomref_within_w (ite_some hr2 (by rw [show (!r1) = false from hy (!r1, false) (by simp)]; try rfl)) hS )) <| obs_cons (ob_load Agg3 (fun _ _ hS => (hS.at_ 0 rfl).cell rfl)) <| obs_cons (ob_load Agg3 (fun _ _ hS => (hS.at_ 0 rfl).cell rfl)) <| obs_nil
    refine cond_ev (t := 26) (b := ((!r1) || (!r2)) || (m1 == m2)) hF (by kernel_rfl) (fun hb => ?_) (fun hb => ?_)
    · replace hm := if_t hm hb
      refine reg [] [] [4, 5] [pl 4 (.slice none 0 0), pl 5 (.int .i64 5)] hF hS Fol (by kernel_rfl) (by kernel_rfl) (by kernel_rfl) ?_ (fun a w hF hS => ?_)
      · exact obs_nil
      refine wp_ret ?_
      refine then_r ?_
      have hS : Sep w0 B w (own 3 (.slice none 0 0) (vI ([] : List Int)) :: blk g1 52 #[.int .i64 m1, .int .i64 m2, .int .i64 m3] :: fs) := hS.nil 3
      have hl1 := (hS.at_ 0 rfl).len1
      have hS := (hS.at_ 0 rfl).reN hl1
      have hS : Sep w0 B w (own 3 (.slice none (([] : List Int).length) 0) (vI ([] : List Int)) :: blk g1 52 #[.int .i64 m1, .int .i64 m2, .int .i64 m3] :: fs) := hS
      have hS := hS.pickN 2 [0] (by decide)
      have hm : some (([] : List Int), 5) = some r := hm
      obtain rfl := Option.some.inj hm
      exact retV (rs := [.tmp 4, .tmp 5]) (vs := [.slice none (([] : List Int).length) 0, .int .i64 5]) hF rfl (rv_t (by kernel_rfl) <| rv_t (by kernel_rfl) <| rv_nil) rfl ⟨_, rfl, none, 0, rfl, hS⟩
    · replace hm := if_f hm hb
      refine wp_skip ?_
      refine then_n ?_
      exact ⟨hF.weak [0, 3] (by kernel_rfl), hS, hm⟩

noncomputable def gameroomlaw_sameInts_J4 (i1 : Int) : Option (St Int (Fl Unit Bool)) :=
  some (.next (w64 (i1 + 1)))

noncomputable def gameroomlaw_sameInts_J3 (a1 : List Int) (b1 : List Int) (i1 : Int) : Option (St Int (Fl Unit Bool)) :=
  asrt (0 ≤ i1 ∧ i1 < (a1.length : Int)) <| asrt (0 ≤ i1 ∧ i1 < (b1.length : Int)) <| if ((geti a1 i1) != (geti b1 i1)) then (some (.done (.ret false))) else ((gameroomlaw_sameInts_J4 i1))

noncomputable def gameroomlaw_sameInts_J2 : Option Bool :=
  some true

noncomputable def gameroomlaw_sameInts_K1 : (Fl Unit Bool) → Option Bool :=
  fun (x : (Fl Unit Bool)) => match x with | .go _ => gameroomlaw_sameInts_J2 | .ret x => some x

noncomputable def gameroomlaw_sameInts_L1 (a1 : List Int) (b1 : List Int) : Int → Option (St Int (Fl Unit Bool)) :=
  fun (x : Int) => match x with | i1 => if (decide (i1 < (a1.length : Int))) then ((gameroomlaw_sameInts_J3 a1 b1 i1)) else (some (.done (.go ())))

noncomputable def gameroomlaw_sameInts_J1 (a1 : List Int) (b1 : List Int) : Option Bool :=
  (loop (gameroomlaw_sameInts_L1 a1 b1) 0).bind gameroomlaw_sameInts_K1

noncomputable def gameroomlaw_sameInts_m (a1 : List Int) (b1 : List Int) : Option Bool :=
  if ((a1.length : Int) != (b1.length : Int)) then (some false) else ((gameroomlaw_sameInts_J1 a1 b1))

set_option maxRecDepth 100000 in
set_option maxHeartbeats 4000000 in
theorem gameroomlaw_sameInts_w {A1 : Option Addr} {c1 : Nat} {n1 : Nat} {a1 : List Int} {A2 : Option Addr} {c2 : Nat} {n2 : Nat} {b1 : List Int} {r : Bool} {w0 w : World} {B : Nat} {fs : List HP} (hm : gameroomlaw_sameInts_m a1 b1 = some r) (hS : Sep w0 B w (fs)) (hr_a1 : RdF w0 B fs A1 (vI a1)) (_hc_a1 : a1.length ≤ c1) (_hn_a1 : n1 = a1.length) (hr_b1 : RdF w0 B fs A2 (vI b1)) (_hc_b1 : b1.length ≤ c2) (_hn_b1 : n2 = b1.length) :
    Calls Try.prog 36 #[.slice A1 n1 c1, .slice A2 n2 c2] w fun e w' => e = .returned (.bool r) ∧ Sep w0 B w' (fs) := by
  obtain ⟨i3, hi3, hz3, hs3, hb3⟩ := info_parts Info3
  obtain rfl := _hn_a1
  obtain rfl := _hn_b1
  unfold gameroomlaw_sameInts_m at hm
  replace hm := start_b hm
  refine enter (l := [.slice A1 a1.length c1, .slice A2 b1.length c2]) (n := 26) Try.func36 rfl rfl (by simp) (fun a hF => ?_)
  refine reg [] [] [0, 1] [pl 0 (.slice A1 a1.length c1), pl 1 (.slice A2 b1.length c2)] hF hS Fol (by kernel_rfl) (by kernel_rfl) (by kernel_rfl) ?_ (fun a w hF hS => ?_)
  · exact obs_nil
  refine seq_cut (fun a w => Fr 26 [pl 0 (.slice A1 a1.length c1), pl 1 (.slice A2 b1.length c2)] a ∧ Sep w0 B w (fs) ∧ ((gameroomlaw_sameInts_J1 a1 b1)).bind some = some r) ?_ ?_
  · rintro a w ⟨hF, hS, hm⟩
    unfold gameroomlaw_sameInts_J1 at hm
    refine seq_cut (fun a w => Fr 26 [] a ∧ Sep w0 B w (fs) ∧ (gameroomlaw_sameInts_J2).bind some = some r) ?_ ?_
    · rintro a w ⟨hF, hS, hm⟩
      unfold gameroomlaw_sameInts_J2 at hm
      refine reg [] [] [4] [pl 4 (.bool true)] hF hS Fol (by kernel_rfl) (by kernel_rfl) (by kernel_rfl) ?_ (fun a w hF hS => ?_)
      · exact obs_nil
      refine wp_ret ?_
      have hm : some true = some r := hm
      obtain rfl := Option.some.inj hm
      exact retV (rs := [.tmp 4]) (vs := [.bool true]) hF rfl (rv_t (by kernel_rfl) <| rv_nil) rfl ⟨rfl, hS⟩
    · refine reg [] [] [0, 1, 5] [pl 0 (.slice A1 a1.length c1), pl 1 (.slice A2 b1.length c2), pl 5 (.int .i64 0)] hF hS Fol (by kernel_rfl) (by kernel_rfl) (by kernel_rfl) ?_ (fun a w hF hS => ?_)
      · exact obs_nil
      refine wp_block ?_
      refine wp_loop_model (S := Int) (R := (Fl Unit Bool)) (gameroomlaw_sameInts_L1 a1 b1) (fun x => (gameroomlaw_sameInts_K1 x).bind some) r (fun (x : Int) a w => Fr 26 [pl 0 (.slice A1 a1.length c1), pl 1 (.slice A2 b1.length c2), pl 5 (.int .i64 x)] a ∧ Sep w0 B w (fs)) (assoc_b hm) ⟨hF.weak [0, 1, 5] (by kernel_rfl), hS⟩ ?_
      clear hF hS hm
      rintro nn1 i1 a w ⟨hF, hS⟩ hm
      generalize hφ1 : stK (gameroomlaw_sameInts_L1 a1 b1) nn1 (fun x => (gameroomlaw_sameInts_K1 x).bind some) = φ1 at hm
      unfold gameroomlaw_sameInts_L1 at hm
      dsimp only at hm
      refine seq_cut (fun a w => Fr 26 [pl 0 (.slice A1 a1.length c1), pl 1 (.slice A2 b1.length c2), pl 5 (.int .i64 i1)] a ∧ Sep w0 B w (fs) ∧ ((gameroomlaw_sameInts_J3 a1 b1 i1)).bind φ1 = some r) ?_ ?_
      · rintro a w ⟨hF, hS, hm⟩
        unfold gameroomlaw_sameInts_J3 at hm
        refine seq_cut (fun a w => Fr 26 [pl 0 (.slice A1 a1.length c1), pl 1 (.slice A2 b1.length c2), pl 5 (.int .i64 i1)] a ∧ Sep w0 B w (fs) ∧ ((gameroomlaw_sameInts_J4 i1)).bind φ1 = some r) ?_ ?_
        · rintro a w ⟨hF, hS, hm⟩
          unfold gameroomlaw_sameInts_J4 at hm
          refine reg1 [] [] [0, 1, 5] [pl 0 (.slice A1 a1.length c1), pl 1 (.slice A2 b1.length c2), pl 5 (.int .i64 (w64 (i1 + 1)))] hF hS Fol (by kernel_rfl) (by kernel_rfl) (by kernel_rfl) ?_ (fun a w hF hS => ?_)
          · exact obs_nil
          refine then_n ?_
          rw [← hφ1] at hm
          exact ⟨(w64 (i1 + 1)), ⟨hF.weak [0, 1, 5] (by kernel_rfl), hS⟩, hm⟩
        · refine wp_block ?_
          obtain ⟨hp1, hm⟩ := asrt_b hm
          obtain ⟨hp2, hm⟩ := asrt_b hm
          refine reg [⟨true, [], vS (Instr.indexAt 40 (.slice A1 a1.length c1) (.int .i64 i1)), .pointer (some (sAddr A1 i1))⟩, ⟨false, [], vS (Instr.loadAt 3 (.pointer (some (sAddr A1 i1)))), .int .i64 (geti a1 i1)⟩, ⟨true, [], vS (Instr.indexAt 40 (.slice A2 b1.length c2) (.int .i64 i1)), .pointer (some (sAddr A2 i1))⟩, ⟨false, [], vS (Instr.loadAt 3 (.pointer (some (sAddr A2 i1)))), .int .i64 (geti b1 i1)⟩] [none, none, some (.pointer (some (sAddr A1 i1))), some (.int .i64 (geti a1 i1)), none, none, some (.pointer (some (sAddr A2 i1))), some (.int .i64 (geti b1 i1)), none] [0, 1, 5, 25] [pl 0 (.slice A1 a1.length c1), pl 1 (.slice A2 b1.length c2), pl 5 (.int .i64 i1), pl 25 (.bool ((geti a1 i1) != (geti b1 i1)))] hF hS Fol (by kernel_rfl) (by kernel_rfl) (by kernel_rfl) ?_ (fun a w hF hS => ?_)
          · exact obs_cons (ob_ix1 (f := (Value.int .i64)) (m := a1) Und40 hi3 hs3 (hr_a1 _ (hS.dropN 0)) rfl (fun _ => hp1)) <| obs_cons (ob_get1 (n := a1.length) (m := a1) (Value.int .i64) (0 : Int) Agg3 (fun _ hS => ⟨_, (hr_a1 _ (hS.dropN 0))⟩) (fun _ hS => rfl) (fun _ => hp1)) <| obs_cons (ob_ix1 (f := (Value.int .i64)) (m := b1) Und40 hi3 hs3 (hr_b1 _ (hS.dropN 0)) rfl (fun _ => hp2)) <| obs_cons (ob_get1 (n := b1.length) (m := b1) (Value.int .i64) (0 : Int) Agg3 (fun _ hS => ⟨_, (hr_b1 _ (hS.dropN 0))⟩) (fun _ hS => rfl) (fun _ => hp2)) <| obs_nil
          refine cond_ev (t := 25) (b := ((geti a1 i1) != (geti b1 i1))) hF (by kernel_rfl) (fun hb => ?_) (fun hb => ?_)
          · replace hm := if_t hm hb
            refine reg [] [] [4] [pl 4 (.bool false)] hF hS Fol (by kernel_rfl) (by kernel_rfl) (by kernel_rfl) ?_ (fun a w hF hS => ?_)
            · exact obs_nil
            refine wp_ret ?_
            refine block_r (then_r (then_r (block_r (then_r ?_))))
            rw [← hφ1] at hm
            replace hm := done_b hm
            unfold gameroomlaw_sameInts_K1 at hm
            try dsimp only at hm
            have hm : some false = some r := hm
            obtain rfl := Option.some.inj hm
            exact retV (rs := [.tmp 4]) (vs := [.bool false]) hF rfl (rv_t (by kernel_rfl) <| rv_nil) rfl ⟨rfl, hS⟩
          · replace hm := if_f hm hb
            refine wp_skip ?_
            refine block_n ?_
            refine then_n ?_
            exact ⟨hF.weak [0, 1, 5] (by kernel_rfl), hS, hm⟩
      · refine reg [] [] [0, 1, 5, 14] [pl 0 (.slice A1 a1.length c1), pl 1 (.slice A2 b1.length c2), pl 5 (.int .i64 i1), pl 14 (.bool (decide (i1 < (a1.length : Int))))] hF hS Fol (by kernel_rfl) (by kernel_rfl) (by kernel_rfl) ?_ (fun a w hF hS => ?_)
        · exact obs_nil
        refine cond_ev (t := 14) (b := decide (i1 < (a1.length : Int))) hF (by kernel_rfl) (fun hb => ?_) (fun hb => ?_)
        · replace hm := if_t hm hb
          refine wp_skip ?_
          refine then_n ?_
          exact ⟨hF.weak [0, 1, 5] (by kernel_rfl), hS, hm⟩
        · replace hm := if_f hm hb
          refine wp_exit ?_
          refine then_e (then_e (block_e (then_n ?_)))
          rw [← hφ1] at hm
          replace hm := done_b hm
          unfold gameroomlaw_sameInts_K1 at hm
          try dsimp only at hm
          have hm : (gameroomlaw_sameInts_J2).bind some = some r := hm
          exact ⟨hF.weak [] (by kernel_rfl), hS, hm⟩
  · refine reg [] [] [0, 1, 10] [pl 0 (.slice A1 a1.length c1), pl 1 (.slice A2 b1.length c2), pl 10 (.bool ((a1.length : Int) != (b1.length : Int)))] hF hS Fol (by kernel_rfl) (by kernel_rfl) (by kernel_rfl) ?_ (fun a w hF hS => ?_)
    · exact obs_nil
    refine cond_ev (t := 10) (b := ((a1.length : Int) != (b1.length : Int))) hF (by kernel_rfl) (fun hb => ?_) (fun hb => ?_)
    · replace hm := if_t hm hb
      refine reg [] [] [4] [pl 4 (.bool false)] hF hS Fol (by kernel_rfl) (by kernel_rfl) (by kernel_rfl) ?_ (fun a w hF hS => ?_)
      · exact obs_nil
      refine wp_ret ?_
      refine then_r ?_
      have hm : some false = some r := hm
      obtain rfl := Option.some.inj hm
      exact retV (rs := [.tmp 4]) (vs := [.bool false]) hF rfl (rv_t (by kernel_rfl) <| rv_nil) rfl ⟨rfl, hS⟩
    · replace hm := if_f hm hb
      refine wp_skip ?_
      refine then_n ?_
      exact ⟨hF.weak [0, 1] (by kernel_rfl), hS, hm⟩

noncomputable def gameroomref_discsTo_J2 (rec_gameroomref_discsTo : List Int → Int → Int → Option Int) (s1 : List Int) (n2 : Int) (peg1 : Int) : Option Int :=
  asrt (0 ≤ (w64 (n2 - 1)) ∧ (w64 (n2 - 1)) < (s1.length : Int)) <| (rec_gameroomref_discsTo s1 (w64 (n2 - 1)) (w64 ((w64 (3 - (geti s1 (w64 (n2 - 1))))) - peg1))).bind fun r2 => asrt ((0 : Int) ≤ (w64 (n2 - 1))) <| some (w64 (r2 + (shlK .i64 1 (w64 (n2 - 1)))))

noncomputable def gameroomref_discsTo_J1 (rec_gameroomref_discsTo : List Int → Int → Int → Option Int) (s1 : List Int) (n2 : Int) (peg1 : Int) : Option Int :=
  asrt (0 ≤ (w64 (n2 - 1)) ∧ (w64 (n2 - 1)) < (s1.length : Int)) <| if ((geti s1 (w64 (n2 - 1))) == peg1) then ((rec_gameroomref_discsTo s1 (w64 (n2 - 1)) peg1).bind fun r1 => some r1) else ((gameroomref_discsTo_J2 rec_gameroomref_discsTo s1 n2 peg1))

noncomputable def gameroomref_discsTo_B (rec_gameroomref_discsTo : List Int → Int → Int → Option Int) (s1 : List Int) (n2 : Int) (peg1 : Int) : Option Int :=
  if (n2 == 0) then (some 0) else ((gameroomref_discsTo_J1 rec_gameroomref_discsTo s1 n2 peg1))

noncomputable def gameroomref_discsTo_mF : Nat → List Int → Int → Int → Option Int
  | 0 => fun _ _ _ => none
  | n + 1 => fun s1 n2 peg1 => gameroomref_discsTo_B (gameroomref_discsTo_mF n) s1 n2 peg1

noncomputable def gameroomref_discsTo_m (s1 : List Int) (n2 : Int) (peg1 : Int) : Option Int :=
  recM fun n => gameroomref_discsTo_mF n s1 n2 peg1

set_option maxRecDepth 100000 in
set_option maxHeartbeats 4000000 in
theorem gameroomref_discsTo_wB {rec_gameroomref_discsTo : List Int → Int → Int → Option Int} (ih_gameroomref_discsTo : ∀ {A1 : Option Addr} {c1 : Nat} {n1 : Nat} {s1 : List Int} {n2 : Int} {peg1 : Int} {r : Int} {w0 w : World} {B : Nat} {fs : List HP} (_ : rec_gameroomref_discsTo s1 n2 peg1 = some r) (_ : Sep w0 B w (fs)) (hr_s1 : RdF w0 B fs A1 (vI s1)) (_hc_s1 : s1.length ≤ c1) (_hn_s1 : n1 = s1.length), Calls Try.prog 91 #[.slice A1 n1 c1, .int .i64 n2, .int .i64 peg1] w fun e w' => e = .returned (.int .i64 r) ∧ Sep w0 B w' (fs)) {A1 : Option Addr} {c1 : Nat} {n1 : Nat} {s1 : List Int} {n2 : Int} {peg1 : Int} {r : Int} {w0 w : World} {B : Nat} {fs : List HP} (hm : gameroomref_discsTo_B rec_gameroomref_discsTo s1 n2 peg1 = some r) (hS : Sep w0 B w (fs)) (hr_s1 : RdF w0 B fs A1 (vI s1)) (_hc_s1 : s1.length ≤ c1) (_hn_s1 : n1 = s1.length) :
    Calls Try.prog 91 #[.slice A1 n1 c1, .int .i64 n2, .int .i64 peg1] w fun e w' => e = .returned (.int .i64 r) ∧ Sep w0 B w' (fs) := by
  obtain ⟨i3, hi3, hz3, hs3, hb3⟩ := info_parts Info3
  obtain rfl := _hn_s1
  unfold gameroomref_discsTo_B at hm
  replace hm := start_b hm
  refine enter (l := [.slice A1 s1.length c1, .int .i64 n2, .int .i64 peg1]) (n := 37) Try.func91 rfl rfl (by simp) (fun a hF => ?_)
  refine reg [] [] [0, 1, 2] [pl 0 (.slice A1 s1.length c1), pl 1 (.int .i64 n2), pl 2 (.int .i64 peg1)] hF hS Fol (by kernel_rfl) (by kernel_rfl) (by kernel_rfl) ?_ (fun a w hF hS => ?_)
  · exact obs_nil
  refine seq_cut (fun a w => Fr 37 [pl 0 (.slice A1 s1.length c1), pl 1 (.int .i64 n2), pl 2 (.int .i64 peg1)] a ∧ Sep w0 B w (fs) ∧ ((gameroomref_discsTo_J1 rec_gameroomref_discsTo s1 n2 peg1)).bind some = some r) ?_ ?_
  · rintro a w ⟨hF, hS, hm⟩
    unfold gameroomref_discsTo_J1 at hm
    refine seq_cut (fun a w => Fr 37 [pl 0 (.slice A1 s1.length c1), pl 1 (.int .i64 n2), pl 2 (.int .i64 peg1)] a ∧ Sep w0 B w (fs) ∧ ((gameroomref_discsTo_J2 rec_gameroomref_discsTo s1 n2 peg1)).bind some = some r) ?_ ?_
    · rintro a w ⟨hF, hS, hm⟩
      unfold gameroomref_discsTo_J2 at hm
      obtain ⟨hp2, hm⟩ := asrt_b hm
      obtain ⟨r2, hr2, hm⟩ := call_b hm
      obtain ⟨hp3, hm⟩ := asrt_b hm
      refine reg [⟨true, [], vS (Instr.indexAt 40 (.slice A1 s1.length c1) (.int .i64 (w64 (n2 - 1)))), .pointer (some (sAddr A1 (w64 (n2 - 1))))⟩, ⟨false, [], vS (Instr.loadAt 3 (.pointer (some (sAddr A1 (w64 (n2 - 1)))))), .int .i64 (geti s1 (w64 (n2 - 1)))⟩, ⟨false, [], callFunc 91 #[.slice A1 s1.length c1, .int .i64 (w64 (n2 - 1)), .int .i64 (w64 ((w64 (3 - (geti s1 (w64 (n2 - 1))))) - peg1))], .int .i64 r2⟩, ⟨true, [], vS (Op.shift .shl .i64 1 .i64 (w64 (n2 - 1))), .int .i64 (shlK .i64 1 (w64 (n2 - 1)))⟩] [none, none, none, none, none, none, some (.pointer (some (sAddr A1 (w64 (n2 - 1))))), some (.int .i64 (geti s1 (w64 (n2 - 1)))), none, none, none, some (.int .i64 r2), none, none, some (.int .i64 (shlK .i64 1 (w64 (n2 - 1)))), none, none] [6] [pl 6 (.int .i64 (w64 (r2 + (shlK .i64 1 (w64 (n2 - 1))))))] hF hS Fol (by kernel_rfl) (by kernel_rfl) (by kernel_rfl) ?_ (fun a w hF hS => ?_)
      · exact obs_cons (ob_ix1 (f := (Value.int .i64)) (m := s1) Und40 hi3 hs3 (hr_s1 _ (hS.dropN 0)) rfl (fun _ => hp2)) <| obs_cons (ob_get1 (n := s1.length) (m := s1) (Value.int .i64) (0 : Int) Agg3 (fun _ hS => ⟨_, (hr_s1 _ (hS.dropN 0))⟩) (fun _ hS => rfl) (fun _ => hp2)) <| obs_cons (ob_call Try.func91 (by kernel_rfl) rfl (fun _ _ hS => ih_gameroomref_discsTo hr2 hS (fun _ hS => (hr_s1 _ (hS.dropN 0))) _hc_s1 rfl)) <| obs_cons (ob_shl (fun _ => hp3)) <| obs_nil
      refine wp_ret ?_
      have hm : some (w64 (r2 + (shlK .i64 1 (w64 (n2 - 1))))) = some r := hm
      obtain rfl := Option.some.inj hm
      exact retV (rs := [.tmp 6]) (vs := [.int .i64 (w64 (r2 + (shlK .i64 1 (w64 (n2 - 1)))))]) hF rfl (rv_t (by kernel_rfl) <| rv_nil) rfl ⟨rfl, hS⟩
    · obtain ⟨hp1, hm⟩ := asrt_b hm
      refine reg [⟨true, [], vS (Instr.indexAt 40 (.slice A1 s1.length c1) (.int .i64 (w64 (n2 - 1)))), .pointer (some (sAddr A1 (w64 (n2 - 1))))⟩, ⟨false, [], vS (Instr.loadAt 3 (.pointer (some (sAddr A1 (w64 (n2 - 1)))))), .int .i64 (geti s1 (w64 (n2 - 1)))⟩] [none, none, none, some (.pointer (some (sAddr A1 (w64 (n2 - 1))))), some (.int .i64 (geti s1 (w64 (n2 - 1)))), none, none] [0, 1, 2, 15] [pl 0 (.slice A1 s1.length c1), pl 1 (.int .i64 n2), pl 2 (.int .i64 peg1), pl 15 (.bool ((geti s1 (w64 (n2 - 1))) == peg1))] hF hS Fol (by kernel_rfl) (by kernel_rfl) (by kernel_rfl) ?_ (fun a w hF hS => ?_)
      · exact obs_cons (ob_ix1 (f := (Value.int .i64)) (m := s1) Und40 hi3 hs3 (hr_s1 _ (hS.dropN 0)) rfl (fun _ => hp1)) <| obs_cons (ob_get1 (n := s1.length) (m := s1) (Value.int .i64) (0 : Int) Agg3 (fun _ hS => ⟨_, (hr_s1 _ (hS.dropN 0))⟩) (fun _ hS => rfl) (fun _ => hp1)) <| obs_nil
      refine cond_ev (t := 15) (b := ((geti s1 (w64 (n2 - 1))) == peg1)) hF (by kernel_rfl) (fun hb => ?_) (fun hb => ?_)
      · replace hm := if_t hm hb
        obtain ⟨r1, hr1, hm⟩ := call_b hm
        refine reg [⟨false, [], callFunc 91 #[.slice A1 s1.length c1, .int .i64 (w64 (n2 - 1)), .int .i64 peg1], .int .i64 r1⟩] [none, none, none, none, some (.int .i64 r1), none] [6] [pl 6 (.int .i64 r1)] hF hS Fol (by kernel_rfl) (by kernel_rfl) (by kernel_rfl) ?_ (fun a w hF hS => ?_)
        · exact obs_cons (ob_call Try.func91 (by kernel_rfl) rfl (fun _ _ hS => ih_gameroomref_discsTo hr1 hS (fun _ hS => (hr_s1 _ (hS.dropN 0))) _hc_s1 rfl)) <| obs_nil
        refine wp_ret ?_
        refine then_r ?_
        have hm : some r1 = some r := hm
        obtain rfl := Option.some.inj hm
        exact retV (rs := [.tmp 6]) (vs := [.int .i64 r1]) hF rfl (rv_t (by kernel_rfl) <| rv_nil) rfl ⟨rfl, hS⟩
      · replace hm := if_f hm hb
        refine wp_skip ?_
        refine then_n ?_
        exact ⟨hF.weak [0, 1, 2] (by kernel_rfl), hS, hm⟩
  · refine reg [] [] [0, 1, 2, 8] [pl 0 (.slice A1 s1.length c1), pl 1 (.int .i64 n2), pl 2 (.int .i64 peg1), pl 8 (.bool (n2 == 0))] hF hS Fol (by kernel_rfl) (by kernel_rfl) (by kernel_rfl) ?_ (fun a w hF hS => ?_)
    · exact obs_nil
    refine cond_ev (t := 8) (b := (n2 == 0)) hF (by kernel_rfl) (fun hb => ?_) (fun hb => ?_)
    · replace hm := if_t hm hb
      refine reg [] [] [6] [pl 6 (.int .i64 0)] hF hS Fol (by kernel_rfl) (by kernel_rfl) (by kernel_rfl) ?_ (fun a w hF hS => ?_)
      · exact obs_nil
      refine wp_ret ?_
      refine then_r ?_
      have hm : some 0 = some r := hm
      obtain rfl := Option.some.inj hm
      exact retV (rs := [.tmp 6]) (vs := [.int .i64 0]) hF rfl (rv_t (by kernel_rfl) <| rv_nil) rfl ⟨rfl, hS⟩
    · replace hm := if_f hm hb
      refine wp_skip ?_
      refine then_n ?_
      exact ⟨hF.weak [0, 1, 2] (by kernel_rfl), hS, hm⟩

theorem gameroomref_discsTo_w {A1 : Option Addr} {c1 : Nat} {n1 : Nat} {s1 : List Int} {n2 : Int} {peg1 : Int} {r : Int} {w0 w : World} {B : Nat} {fs : List HP} (hm : gameroomref_discsTo_m s1 n2 peg1 = some r) (hS : Sep w0 B w (fs)) (hr_s1 : RdF w0 B fs A1 (vI s1)) (_hc_s1 : s1.length ≤ c1) (_hn_s1 : n1 = s1.length) :
    Calls Try.prog 91 #[.slice A1 n1 c1, .int .i64 n2, .int .i64 peg1] w fun e w' => e = .returned (.int .i64 r) ∧ Sep w0 B w' (fs) := by
  have key : ∀ (n : Nat) {A1 : Option Addr} {c1 : Nat} {n1 : Nat} {s1 : List Int} {n2 : Int} {peg1 : Int} {r : Int} {w0 w : World} {B : Nat} {fs : List HP} (_ : gameroomref_discsTo_mF n s1 n2 peg1 = some r) (_ : Sep w0 B w (fs)) (hr_s1 : RdF w0 B fs A1 (vI s1)) (_hc_s1 : s1.length ≤ c1) (_hn_s1 : n1 = s1.length), Calls Try.prog 91 #[.slice A1 n1 c1, .int .i64 n2, .int .i64 peg1] w fun e w' => e = .returned (.int .i64 r) ∧ Sep w0 B w' (fs) := by
    intro n
    induction n with
    | zero => intros; rename_i hm0 _ _ _ _; cases hm0
    | succ n ih => intros; rename_i hm0 hS0 h0 h1 h2; exact gameroomref_discsTo_wB (rec_gameroomref_discsTo := gameroomref_discsTo_mF n) (fun hm hS h0 h1 h2 => ih hm hS h0 h1 h2) hm0 hS0 h0 h1 h2
  obtain ⟨n, hn⟩ := recM_some hm
  exact key n hn hS hr_s1 _hc_s1 _hn_s1

theorem gameroomref_discsTo_J2_le_gameroomref_discsTo {rec_gameroomref_discsTo1 rec_gameroomref_discsTo2 : List Int → Int → Int → Option Int} (h_rec_gameroomref_discsTo : ∀ a0 a1 a2, Le (rec_gameroomref_discsTo1 a0 a1 a2) (rec_gameroomref_discsTo2 a0 a1 a2)) (s1 : List Int) (n2 : Int) (peg1 : Int) : Le (gameroomref_discsTo_J2 rec_gameroomref_discsTo1 s1 n2 peg1) (gameroomref_discsTo_J2 rec_gameroomref_discsTo2 s1 n2 peg1) := by
  unfold gameroomref_discsTo_J2
  repeat' (first | with_reducible exact Le.refl _ | with_reducible exact h_rec_gameroomref_discsTo _ _ _ | refine Le.asrt ?_ | refine Le.ite ?_ ?_ | refine Le.bind ?_ (fun _ => ?_) | refine Le.loop2 (fun _ => ?_) | refine Le.elim2 (fun _ => ?_) (fun _ => ?_))

theorem gameroomref_discsTo_J1_le_gameroomref_discsTo {rec_gameroomref_discsTo1 rec_gameroomref_discsTo2 : List Int → Int → Int → Option Int} (h_rec_gameroomref_discsTo : ∀ a0 a1 a2, Le (rec_gameroomref_discsTo1 a0 a1 a2) (rec_gameroomref_discsTo2 a0 a1 a2)) (s1 : List Int) (n2 : Int) (peg1 : Int) : Le (gameroomref_discsTo_J1 rec_gameroomref_discsTo1 s1 n2 peg1) (gameroomref_discsTo_J1 rec_gameroomref_discsTo2 s1 n2 peg1) := by
  unfold gameroomref_discsTo_J1
  repeat' (first | with_reducible exact Le.refl _ | with_reducible exact h_rec_gameroomref_discsTo _ _ _ | with_reducible exact gameroomref_discsTo_J2_le_gameroomref_discsTo h_rec_gameroomref_discsTo _ _ _ | refine Le.asrt ?_ | refine Le.ite ?_ ?_ | refine Le.bind ?_ (fun _ => ?_) | refine Le.loop2 (fun _ => ?_) | refine Le.elim2 (fun _ => ?_) (fun _ => ?_))

theorem gameroomref_discsTo_B_le {rec_gameroomref_discsTo1 rec_gameroomref_discsTo2 : List Int → Int → Int → Option Int} (h_rec_gameroomref_discsTo : ∀ a0 a1 a2, Le (rec_gameroomref_discsTo1 a0 a1 a2) (rec_gameroomref_discsTo2 a0 a1 a2)) (s1 : List Int) (n2 : Int) (peg1 : Int) : Le (gameroomref_discsTo_B rec_gameroomref_discsTo1 s1 n2 peg1) (gameroomref_discsTo_B rec_gameroomref_discsTo2 s1 n2 peg1) := by
  unfold gameroomref_discsTo_B
  repeat' (first | with_reducible exact Le.refl _ | with_reducible exact h_rec_gameroomref_discsTo _ _ _ | with_reducible exact gameroomref_discsTo_J1_le_gameroomref_discsTo h_rec_gameroomref_discsTo _ _ _ | refine Le.asrt ?_ | refine Le.ite ?_ ?_ | refine Le.bind ?_ (fun _ => ?_) | refine Le.loop2 (fun _ => ?_) | refine Le.elim2 (fun _ => ?_) (fun _ => ?_))

theorem gameroomref_discsTo_mF_le : ∀ (n : Nat) (s1 : List Int) (n2 : Int) (peg1 : Int), Le (gameroomref_discsTo_mF n s1 n2 peg1) (gameroomref_discsTo_mF (n + 1) s1 n2 peg1)
  | 0, _, _, _ => fun _ h => by cases h
  | n + 1, _, _, _ => gameroomref_discsTo_B_le (fun a0 a1 a2 => gameroomref_discsTo_mF_le n a0 a1 a2) _ _ _

theorem gameroomref_discsTo_m_of (N : Nat) (s1 : List Int) (n2 : Int) (peg1 : Int) {r : Int} (h : gameroomref_discsTo_mF N s1 n2 peg1 = some r) : gameroomref_discsTo_m s1 n2 peg1 = some r :=
  recM_mono (fun n => gameroomref_discsTo_mF_le n _ _ _) h

noncomputable def gameroomref_DiscsBetween_J2 (n3 : Int) : Option (St Int Int) :=
  some (.next (w64 (n3 - 1)))

noncomputable def gameroomref_DiscsBetween_J4 (r1 : Int) (r2 : Int) : Option Int :=
  some (w64 ((w64 (r1 + 1)) + r2))

noncomputable def gameroomref_DiscsBetween_J3 (s1 : List Int) (t1 : List Int) (n4 : Int) : Option Int :=
  asrt (0 ≤ (w64 (n4 - 1)) ∧ (w64 (n4 - 1)) < (s1.length : Int)) <| asrt (0 ≤ (w64 (n4 - 1)) ∧ (w64 (n4 - 1)) < (t1.length : Int)) <| (gameroomref_discsTo_m s1 (w64 (n4 - 1)) (w64 ((w64 (3 - (geti s1 (w64 (n4 - 1))))) - (geti t1 (w64 (n4 - 1)))))).bind fun r1 => (gameroomref_discsTo_m t1 (w64 (n4 - 1)) (w64 ((w64 (3 - (geti s1 (w64 (n4 - 1))))) - (geti t1 (w64 (n4 - 1)))))).bind fun r2 => (gameroomref_discsTo_m s1 (w64 (n4 - 1)) (geti t1 (w64 (n4 - 1)))).bind fun r3 => asrt ((0 : Int) ≤ (w64 (n4 - 1))) <| (gameroomref_discsTo_m t1 (w64 (n4 - 1)) (geti s1 (w64 (n4 - 1)))).bind fun r4 => if (decide ((w64 ((w64 ((w64 (r3 + (shlK .i64 1 (w64 (n4 - 1))))) + 1)) + r4)) < (w64 ((w64 (r1 + 1)) + r2)))) then (some (w64 ((w64 ((w64 (r3 + (shlK .i64 1 (w64 (n4 - 1))))) + 1)) + r4))) else ((gameroomref_DiscsBetween_J4 r1 r2))

noncomputable def gameroomref_DiscsBetween_J1 (s1 : List Int) (t1 : List Int) (n4 : Int) : Option Int :=
  if (n4 == 0) then (some 0) else ((gameroomref_DiscsBetween_J3 s1 t1 n4))

noncomputable def gameroomref_DiscsBetween_K1 (s1 : List Int) (t1 : List Int) : Int → Option Int :=
  fun (x : Int) => match x with | n4 => (gameroomref_DiscsBetween_J1 s1 t1) n4

noncomputable def gameroomref_DiscsBetween_L1 (s1 : List Int) (t1 : List Int) : Int → Option (St Int Int) :=
  fun (x : Int) => match x with | n3 => asrt ((decide ((0 : Int) < n3)) = true → 0 ≤ (w64 (n3 - 1)) ∧ (w64 (n3 - 1)) < (s1.length : Int)) <| asrt ((decide ((0 : Int) < n3)) = true → 0 ≤ (w64 (n3 - 1)) ∧ (w64 (n3 - 1)) < (t1.length : Int)) <| if ((decide ((0 : Int) < n3)) && ((geti s1 (w64 (n3 - 1))) == (geti t1 (w64 (n3 - 1))))) then ((gameroomref_DiscsBetween_J2 n3)) else (some (.done n3))

noncomputable def gameroomref_DiscsBetween_m (s1 : List Int) (t1 : List Int) : Option Int :=
  (loop (gameroomref_DiscsBetween_L1 s1 t1) (s1.length : Int)).bind (gameroomref_DiscsBetween_K1 s1 t1)

set_option maxRecDepth 100000 in
set_option maxHeartbeats 4000000 in
theorem gameroomref_DiscsBetween_w {A1 : Option Addr} {c1 : Nat} {n1 : Nat} {s1 : List Int} {A2 : Option Addr} {c2 : Nat} {n2 : Nat} {t1 : List Int} {r : Int} {w0 w : World} {B : Nat} {fs : List HP} (hm : gameroomref_DiscsBetween_m s1 t1 = some r) (hS : Sep w0 B w (fs)) (hr_s1 : RdF w0 B fs A1 (vI s1)) (_hc_s1 : s1.length ≤ c1) (_hn_s1 : n1 = s1.length) (hr_t1 : RdF w0 B fs A2 (vI t1)) (_hc_t1 : t1.length ≤ c2) (_hn_t1 : n2 = t1.length) :
    Calls Try.prog 33 #[.slice A1 n1 c1, .slice A2 n2 c2] w fun e w' => e = .returned (.int .i64 r) ∧ Sep w0 B w' (fs) := by
  obtain ⟨i3, hi3, hz3, hs3, hb3⟩ := info_parts Info3
  obtain rfl := _hn_s1
  obtain rfl := _hn_t1
  unfold gameroomref_DiscsBetween_m at hm
  replace hm := start_b hm
  refine enter (l := [.slice A1 s1.length c1, .slice A2 t1.length c2]) (n := 79) Try.func33 rfl rfl (by simp) (fun a hF => ?_)
  refine reg [] [] [0, 1] [pl 0 (.slice A1 s1.length c1), pl 1 (.slice A2 t1.length c2)] hF hS Fol (by kernel_rfl) (by kernel_rfl) (by kernel_rfl) ?_ (fun a w hF hS => ?_)
  · exact obs_nil
  refine reg [] [] [0, 1, 5] [pl 0 (.slice A1 s1.length c1), pl 1 (.slice A2 t1.length c2), pl 5 (.int .i64 (s1.length : Int))] hF hS Fol (by kernel_rfl) (by kernel_rfl) (by kernel_rfl) ?_ (fun a w hF hS => ?_)
  · exact obs_nil
  refine seq_cut (fun a w => ∃ (n4 : Int), Fr 79 [pl 0 (.slice A1 s1.length c1), pl 1 (.slice A2 t1.length c2), pl 5 (.int .i64 n4)] a ∧ Sep w0 B w (fs) ∧ ((gameroomref_DiscsBetween_J1 s1 t1) n4).bind some = some r) ?_ ?_
  · rintro a w ⟨n4, hF, hS, hm⟩
    unfold gameroomref_DiscsBetween_J1 at hm
    refine seq_cut (fun a w => Fr 79 [pl 0 (.slice A1 s1.length c1), pl 1 (.slice A2 t1.length c2), pl 5 (.int .i64 n4)] a ∧ Sep w0 B w (fs) ∧ ((gameroomref_DiscsBetween_J3 s1 t1 n4)).bind some = some r) ?_ ?_
    · rintro a w ⟨hF, hS, hm⟩
      unfold gameroomref_DiscsBetween_J3 at hm
      obtain ⟨hp3, hm⟩ := asrt_b hm
      obtain ⟨hp4, hm⟩ := asrt_b hm
      refine reg [⟨true, [], vS (Instr.indexAt 40 (.slice A1 s1.length c1) (.int .i64 (w64 (n4 - 1)))), .pointer (some (sAddr A1 (w64 (n4 - 1))))⟩, ⟨false, [], vS (Instr.loadAt 3 (.pointer (some (sAddr A1 (w64 (n4 - 1)))))), .int .i64 (geti s1 (w64 (n4 - 1)))⟩, ⟨true, [], vS (Instr.indexAt 40 (.slice A2 t1.length c2) (.int .i64 (w64 (n4 - 1)))), .pointer (some (sAddr A2 (w64 (n4 - 1))))⟩, ⟨false, [], vS (Instr.loadAt 3 (.pointer (some (sAddr A2 (w64 (n4 - 1)))))), .int .i64 (geti t1 (w64 (n4 - 1)))⟩] [none, none, none, some (.pointer (some (sAddr A1 (w64 (n4 - 1))))), some (.int .i64 (geti s1 (w64 (n4 - 1)))), none, none, none, some (.pointer (some (sAddr A2 (w64 (n4 - 1))))), some (.int .i64 (geti t1 (w64 (n4 - 1)))), none, none] [0, 1, 5, 6, 7] [pl 0 (.slice A1 s1.length c1), pl 1 (.slice A2 t1.length c2), pl 5 (.int .i64 n4), pl 6 (.int .i64 (geti s1 (w64 (n4 - 1)))), pl 7 (.int .i64 (geti t1 (w64 (n4 - 1))))] hF hS Fol (by kernel_rfl) (by kernel_rfl) (by kernel_rfl) ?_ (fun a w hF hS => ?_)
      · exact obs_cons (ob_ix1 (f := (Value.int .i64)) (m := s1) Und40 hi3 hs3 (hr_s1 _ (hS.dropN 0)) rfl (fun _ => hp3)) <| obs_cons (ob_get1 (n := s1.length) (m := s1) (Value.int .i64) (0 : Int) Agg3 (fun _ hS => ⟨_, (hr_s1 _ (hS.dropN 0))⟩) (fun _ hS => rfl) (fun _ => hp3)) <| obs_cons (ob_ix1 (f := (Value.int .i64)) (m := t1) Und40 hi3 hs3 (hr_t1 _ (hS.dropN 0)) rfl (fun _ => hp4)) <| obs_cons (ob_get1 (n := t1.length) (m := t1) (Value.int .i64) (0 : Int) Agg3 (fun _ hS => ⟨_, (hr_t1 _ (hS.dropN 0))⟩) (fun _ hS => rfl) (fun _ => hp4)) <| obs_nil
      refine reg [] [] [0, 1, 5, 6, 7, 8] [pl 0 (.slice A1 s1.length c1), pl 1 (.slice A2 t1.length c2), pl 5 (.int .i64 n4), pl 6 (.int .i64 (geti s1 (w64 (n4 - 1)))), pl 7 (.int .i64 (geti t1 (w64 (n4 - 1)))), pl 8 (.int .i64 (w64 ((w64 (3 - (geti s1 (w64 (n4 - 1))))) - (geti t1 (w64 (n4 - 1))))))] hF hS Fol (by kernel_rfl) (by kernel_rfl) (by kernel_rfl) ?_ (fun a w hF hS => ?_)
      · exact obs_nil
      obtain ⟨r1, hr1, hm⟩ := call_b hm
      obtain ⟨r2, hr2, hm⟩ := call_b hm
      refine reg [⟨false, [], callFunc 91 #[.slice A1 s1.length c1, .int .i64 (w64 (n4 - 1)), .int .i64 (w64 ((w64 (3 - (geti s1 (w64 (n4 - 1))))) - (geti t1 (w64 (n4 - 1)))))], .int .i64 r1⟩, ⟨false, [], callFunc 91 #[.slice A2 t1.length c2, .int .i64 (w64 (n4 - 1)), .int .i64 (w64 ((w64 (3 - (geti s1 (w64 (n4 - 1))))) - (geti t1 (w64 (n4 - 1)))))], .int .i64 r2⟩] [none, none, none, none, some (.int .i64 r1), none, none, none, none, none, some (.int .i64 r2), none, none] [0, 1, 5, 6, 7, 9] [pl 0 (.slice A1 s1.length c1), pl 1 (.slice A2 t1.length c2), pl 5 (.int .i64 n4), pl 6 (.int .i64 (geti s1 (w64 (n4 - 1)))), pl 7 (.int .i64 (geti t1 (w64 (n4 - 1)))), pl 9 (.int .i64 (w64 ((w64 (r1 + 1)) + r2)))] hF hS Fol (by kernel_rfl) (by kernel_rfl) (by kernel_rfl) ?_ (fun a w hF hS => ?_)
      · exact obs_cons (ob_call Try.func91 (by kernel_rfl) rfl (fun _ _ hS => gameroomref_discsTo_w hr1 hS (fun _ hS => (hr_s1 _ (hS.dropN 0))) _hc_s1 rfl)) <| obs_cons (ob_call Try.func91 (by kernel_rfl) rfl (fun _ _ hS => gameroomref_discsTo_w hr2 hS (fun _ hS => (hr_t1 _ (hS.dropN 0))) _hc_t1 rfl)) <| obs_nil
      obtain ⟨r3, hr3, hm⟩ := call_b hm
      obtain ⟨hp5, hm⟩ := asrt_b hm
      obtain ⟨r4, hr4, hm⟩ := call_b hm
      refine reg [⟨false, [], callFunc 91 #[.slice A1 s1.length c1, .int .i64 (w64 (n4 - 1)), .int .i64 (geti t1 (w64 (n4 - 1)))], .int .i64 r3⟩, ⟨true, [], vS (Op.shift .shl .i64 1 .i64 (w64 (n4 - 1))), .int .i64 (shlK .i64 1 (w64 (n4 - 1)))⟩, ⟨false, [], callFunc 91 #[.slice A2 t1.length c2, .int .i64 (w64 (n4 - 1)), .int .i64 (geti s1 (w64 (n4 - 1)))], .int .i64 r4⟩] [none, none, none, none, some (.int .i64 r3), none, none, some (.int .i64 (shlK .i64 1 (w64 (n4 - 1)))), none, none, none, none, none, none, some (.int .i64 r4), none, none] [9, 10] [pl 9 (.int .i64 (w64 ((w64 (r1 + 1)) + r2))), pl 10 (.int .i64 (w64 ((w64 ((w64 (r3 + (shlK .i64 1 (w64 (n4 - 1))))) + 1)) + r4)))] hF hS Fol (by kernel_rfl) (by kernel_rfl) (by kernel_rfl) ?_ (fun a w hF hS => ?_)
      · exact obs_cons (ob_call Try.func91 (by kernel_rfl) rfl (fun _ _ hS => gameroomref_discsTo_w hr3 hS (fun _ hS => (hr_s1 _ (hS.dropN 0))) _hc_s1 rfl)) <| obs_cons (ob_shl (fun _ => hp5)) <| obs_cons (ob_call Try.func91 (by kernel_rfl) rfl (fun _ _ hS => gameroomref_discsTo_w hr4 hS (fun _ hS => (hr_t1 _ (hS.dropN 0))) _hc_t1 rfl)) <| obs_nil
      refine seq_cut (fun a w => Fr 79 [pl 9 (.int .i64 (w64 ((w64 (r1 + 1)) + r2)))] a ∧ Sep w0 B w (fs) ∧ ((gameroomref_DiscsBetween_J4 r1 r2)).bind some = some r) ?_ ?_
      · rintro a w ⟨hF, hS, hm⟩
        unfold gameroomref_DiscsBetween_J4 at hm
        refine reg [] [] [4] [pl 4 (.int .i64 (w64 ((w64 (r1 + 1)) + r2)))] hF hS Fol (by kernel_rfl) (by kernel_rfl) (by kernel_rfl) ?_ (fun a w hF hS => ?_)
        · exact obs_nil
        refine wp_ret ?_
        have hm : some (w64 ((w64 (r1 + 1)) + r2)) = some r := hm
        obtain rfl := Option.some.inj hm
        exact retV (rs := [.tmp 4]) (vs := [.int .i64 (w64 ((w64 (r1 + 1)) + r2))]) hF rfl (rv_t (by kernel_rfl) <| rv_nil) rfl ⟨rfl, hS⟩
      · refine reg [] [] [9, 10, 76] [pl 9 (.int .i64 (w64 ((w64 (r1 + 1)) + r2))), pl 10 (.int .i64 (w64 ((w64 ((w64 (r3 + (shlK .i64 1 (w64 (n4 - 1))))) + 1)) + r4))), pl 76 (.bool (decide ((w64 ((w64 ((w64 (r3 + (shlK .i64 1 (w64 (n4 - 1))))) + 1)) + r4)) < (w64 ((w64 (r1 + 1)) + r2)))))] hF hS Fol (by kernel_rfl) (by kernel_rfl) (by kernel_rfl) ?_ (fun a w hF hS => ?_)
        · exact obs_nil
        refine cond_ev (t := 76) (b := decide ((w64 ((w64 ((w64 (r3 + (shlK .i64 1 (w64 (n4 - 1))))) + 1)) + r4)) < (w64 ((w64 (r1 + 1)) + r2)))) hF (by kernel_rfl) (fun hb => ?_) (fun hb => ?_)
        · replace hm := if_t hm hb
          refine reg [] [] [4] [pl 4 (.int .i64 (w64 ((w64 ((w64 (r3 + (shlK .i64 1 (w64 (n4 - 1))))) + 1)) + r4)))] hF hS Fol (by kernel_rfl) (by kernel_rfl) (by kernel_rfl) ?_ (fun a w hF hS => ?_)
          · exact obs_nil
          refine wp_ret ?_
          refine then_r ?_
          have hm : some (w64 ((w64 ((w64 (r3 + (shlK .i64 1 (w64 (n4 - 1))))) + 1)) + r4)) = some r := hm
          obtain rfl := Option.some.inj hm
          exact retV (rs := [.tmp 4]) (vs := [.int .i64 (w64 ((w64 ((w64 (r3 + (shlK .i64 1 (w64 (n4 - 1))))) + 1)) + r4))]) hF rfl (rv_t (by kernel_rfl) <| rv_nil) rfl ⟨rfl, hS⟩
        · replace hm := if_f hm hb
          refine wp_skip ?_
          refine then_n ?_
          exact ⟨hF.weak [9] (by kernel_rfl), hS, hm⟩
    · refine reg [] [] [0, 1, 5, 31] [pl 0 (.slice A1 s1.length c1), pl 1 (.slice A2 t1.length c2), pl 5 (.int .i64 n4), pl 31 (.bool (n4 == 0))] hF hS Fol (by kernel_rfl) (by kernel_rfl) (by kernel_rfl) ?_ (fun a w hF hS => ?_)
      · exact obs_nil
      refine cond_ev (t := 31) (b := (n4 == 0)) hF (by kernel_rfl) (fun hb => ?_) (fun hb => ?_)
      · replace hm := if_t hm hb
        refine reg [] [] [4] [pl 4 (.int .i64 0)] hF hS Fol (by kernel_rfl) (by kernel_rfl) (by kernel_rfl) ?_ (fun a w hF hS => ?_)
        · exact obs_nil
        refine wp_ret ?_
        refine then_r ?_
        have hm : some 0 = some r := hm
        obtain rfl := Option.some.inj hm
        exact retV (rs := [.tmp 4]) (vs := [.int .i64 0]) hF rfl (rv_t (by kernel_rfl) <| rv_nil) rfl ⟨rfl, hS⟩
      · replace hm := if_f hm hb
        refine wp_skip ?_
        refine then_n ?_
        exact ⟨hF.weak [0, 1, 5] (by kernel_rfl), hS, hm⟩
  · refine wp_block ?_
    refine wp_loop_model (S := Int) (R := Int) (gameroomref_DiscsBetween_L1 s1 t1) (fun x => ((gameroomref_DiscsBetween_K1 s1 t1) x).bind some) r (fun (x : Int) a w => Fr 79 [pl 0 (.slice A1 s1.length c1), pl 1 (.slice A2 t1.length c2), pl 5 (.int .i64 x)] a ∧ Sep w0 B w (fs)) (assoc_b hm) ⟨hF.weak [0, 1, 5] (by kernel_rfl), hS⟩ ?_
    clear hF hS hm
    rintro nn1 n3 a w ⟨hF, hS⟩ hm
    generalize hφ1 : stK (gameroomref_DiscsBetween_L1 s1 t1) nn1 (fun x => ((gameroomref_DiscsBetween_K1 s1 t1) x).bind some) = φ1 at hm
    unfold gameroomref_DiscsBetween_L1 at hm
    dsimp only at hm
    refine seq_cut (fun a w => Fr 79 [pl 0 (.slice A1 s1.length c1), pl 1 (.slice A2 t1.length c2), pl 5 (.int .i64 n3)] a ∧ Sep w0 B w (fs) ∧ ((gameroomref_DiscsBetween_J2 n3)).bind φ1 = some r) ?_ ?_
    · rintro a w ⟨hF, hS, hm⟩
      unfold gameroomref_DiscsBetween_J2 at hm
      refine wp_block ?_
      refine reg1 [] [] [0, 1, 5] [pl 0 (.slice A1 s1.length c1), pl 1 (.slice A2 t1.length c2), pl 5 (.int .i64 (w64 (n3 - 1)))] hF hS Fol (by kernel_rfl) (by kernel_rfl) (by kernel_rfl) ?_ (fun a w hF hS => ?_)
      · exact obs_nil
      refine block_n ?_
      refine then_n ?_
      rw [← hφ1] at hm
      exact ⟨(w64 (n3 - 1)), ⟨hF.weak [0, 1, 5] (by kernel_rfl), hS⟩, hm⟩
    · obtain ⟨hp1, hm⟩ := asrt_b hm
      obtain ⟨hp2, hm⟩ := asrt_b hm
      refine reg [⟨true, [(decide ((0 : Int) < n3), true)], vS (Instr.indexAt 40 (.slice A1 s1.length c1) (.int .i64 (w64 (n3 - 1)))), .pointer (some (sAddr A1 (w64 (n3 - 1))))⟩, ⟨false, [(decide ((0 : Int) < n3), true)], vS (Instr.loadAt 3 (.pointer (some (sAddr A1 (w64 (n3 - 1)))))), .int .i64 (geti s1 (w64 (n3 - 1)))⟩, ⟨true, [(decide ((0 : Int) < n3), true)], vS (Instr.indexAt 40 (.slice A2 t1.length c2) (.int .i64 (w64 (n3 - 1)))), .pointer (some (sAddr A2 (w64 (n3 - 1))))⟩, ⟨false, [(decide ((0 : Int) < n3), true)], vS (Instr.loadAt 3 (.pointer (some (sAddr A2 (w64 (n3 - 1)))))), .int .i64 (geti t1 (w64 (n3 - 1)))⟩] [none, none, none, none, none, none, some (.pointer (some (sAddr A1 (w64 (n3 - 1))))), some (.int .i64 (geti s1 (w64 (n3 - 1)))), none, none, none, some (.pointer (some (sAddr A2 (w64 (n3 - 1))))), some (.int .i64 (geti t1 (w64 (n3 - 1)))), none, none] [0, 1, 5, 27] [pl 0 (.slice A1 s1.length c1), pl 1 (.slice A2 t1.length c2), pl 5 (.int .i64 n3), pl 27 (.bool ((decide ((0 : Int) < n3)) && ((geti s1 (w64 (n3 - 1))) == (geti t1 (w64 (n3 - 1))))))] hF hS Fol (by kernel_rfl) (by kernel_rfl) (by kernel_rfl) ?_ (fun a w hF hS => ?_)
      · exact obs_cons (ob_ix1 (f := (Value.int .i64)) (m := s1) Und40 hi3 hs3 (hr_s1 _ (hS.dropN 0)) rfl (fun hy => hp1 (hy (decide ((0 : Int) < n3), true) (by simp)))) <| obs_cons (ob_get1 (n := s1.length) (m := s1) (Value.int .i64) (0 : Int) Agg3 (fun _ hS => ⟨_, (hr_s1 _ (hS.dropN 0))⟩) (fun _ hS => rfl) (fun hy => hp1 (hy (decide ((0 : Int) < n3), true) (by simp)))) <| obs_cons (ob_ix1 (f := (Value.int .i64)) (m := t1) Und40 hi3 hs3 (hr_t1 _ (hS.dropN 0)) rfl (fun hy => hp2 (hy (decide ((0 : Int) < n3), true) (by simp)))) <| obs_cons (ob_get1 (n := t1.length) (m := t1) (Value.int .i64) (0 : Int) Agg3 (fun _ hS => ⟨_, (hr_t1 _ (hS.dropN 0))⟩) (fun _ hS => rfl) (fun hy => hp2 (hy (decide ((0 : Int) < n3), true) (by simp)))) <| obs_nil
      refine cond_ev (t := 27) (b := (decide ((0 : Int) < n3)) && ((geti s1 (w64 (n3 - 1))) == (geti t1 (w64 (n3 - 1))))) hF (by kernel_rfl) (fun hb => ?_) (fun hb => ?_)
      · replace hm := if_t hm hb
        refine wp_skip ?_
        refine then_n ?_
        exact ⟨hF.weak [0, 1, 5] (by kernel_rfl), hS, hm⟩
      · replace hm := if_f hm hb
        refine wp_exit ?_
        refine then_e (then_e (block_e (then_n ?_)))
        rw [← hφ1] at hm
        replace hm := done_b hm
        unfold gameroomref_DiscsBetween_K1 at hm
        try dsimp only at hm
        have hm : ((gameroomref_DiscsBetween_J1 s1 t1) n3).bind some = some r := hm
        exact ⟨n3, hF.weak [0, 1, 5] (by kernel_rfl), hS, hm⟩

noncomputable def gameroomref_discNumber_J3 (s1 : List Int) (n2 : Int) (i1 : Int) : Option (St (Int × Int) Int) :=
  some (.next ((w64 ((w64 (3 * n2)) + (geti s1 i1))), (w64 (i1 - 1))))

noncomputable def gameroomref_discNumber_J2 (s1 : List Int) (n2 : Int) (i1 : Int) : Option (St (Int × Int) Int) :=
  asrt (0 ≤ i1 ∧ i1 < (s1.length : Int)) <| (gameroomref_discNumber_J3 s1 n2 i1)

noncomputable def gameroomref_discNumber_J1 (n3 : Int) : Option Int :=
  some n3

noncomputable def gameroomref_discNumber_K1 : Int → Option Int :=
  fun (x : Int) => match x with | n3 => gameroomref_discNumber_J1 n3

noncomputable def gameroomref_discNumber_L1 (s1 : List Int) : (Int × Int) → Option (St (Int × Int) Int) :=
  fun (x : (Int × Int)) => match x with | (n2, i1) => if (decide ((0 : Int) ≤ i1)) then ((gameroomref_discNumber_J2 s1 n2 i1)) else (some (.done n2))

noncomputable def gameroomref_discNumber_m (s1 : List Int) : Option Int :=
  (loop (gameroomref_discNumber_L1 s1) (0, (w64 ((s1.length : Int) - 1)))).bind gameroomref_discNumber_K1

set_option maxRecDepth 100000 in
set_option maxHeartbeats 4000000 in
theorem gameroomref_discNumber_w {A1 : Option Addr} {c1 : Nat} {n1 : Nat} {s1 : List Int} {r : Int} {w0 w : World} {B : Nat} {fs : List HP} (hm : gameroomref_discNumber_m s1 = some r) (hS : Sep w0 B w (fs)) (hr_s1 : RdF w0 B fs A1 (vI s1)) (_hc_s1 : s1.length ≤ c1) (_hn_s1 : n1 = s1.length) :
    Calls Try.prog 92 #[.slice A1 n1 c1] w fun e w' => e = .returned (.int .i64 r) ∧ Sep w0 B w' (fs) := by
  obtain ⟨i3, hi3, hz3, hs3, hb3⟩ := info_parts Info3
  obtain rfl := _hn_s1
  unfold gameroomref_discNumber_m at hm
  replace hm := start_b hm
  refine enter (l := [.slice A1 s1.length c1]) (n := 20) Try.func92 rfl rfl (by simp) (fun a hF => ?_)
  refine reg [] [] [0] [pl 0 (.slice A1 s1.length c1)] hF hS Fol (by kernel_rfl) (by kernel_rfl) (by kernel_rfl) ?_ (fun a w hF hS => ?_)
  · exact obs_nil
  refine reg [] [] [0, 3] [pl 0 (.slice A1 s1.length c1), pl 3 (.int .i64 0)] hF hS Fol (by kernel_rfl) (by kernel_rfl) (by kernel_rfl) ?_ (fun a w hF hS => ?_)
  · exact obs_nil
  refine seq_cut (fun a w => ∃ (n3 : Int), Fr 20 [pl 3 (.int .i64 n3)] a ∧ Sep w0 B w (fs) ∧ (gameroomref_discNumber_J1 n3).bind some = some r) ?_ ?_
  · rintro a w ⟨n3, hF, hS, hm⟩
    unfold gameroomref_discNumber_J1 at hm
    refine reg [] [] [2] [pl 2 (.int .i64 n3)] hF hS Fol (by kernel_rfl) (by kernel_rfl) (by kernel_rfl) ?_ (fun a w hF hS => ?_)
    · exact obs_nil
    refine wp_ret ?_
    have hm : some n3 = some r := hm
    obtain rfl := Option.some.inj hm
    exact retV (rs := [.tmp 2]) (vs := [.int .i64 n3]) hF rfl (rv_t (by kernel_rfl) <| rv_nil) rfl ⟨rfl, hS⟩
  · refine reg [] [] [0, 3, 4] [pl 0 (.slice A1 s1.length c1), pl 3 (.int .i64 0), pl 4 (.int .i64 (w64 ((s1.length : Int) - 1)))] hF hS Fol (by kernel_rfl) (by kernel_rfl) (by kernel_rfl) ?_ (fun a w hF hS => ?_)
    · exact obs_nil
    refine wp_block ?_
    refine wp_loop_model (S := (Int × Int)) (R := Int) (gameroomref_discNumber_L1 s1) (fun x => (gameroomref_discNumber_K1 x).bind some) r (fun (x : (Int × Int)) a w => Fr 20 [pl 0 (.slice A1 s1.length c1), pl 3 (.int .i64 x.1), pl 4 (.int .i64 x.2)] a ∧ Sep w0 B w (fs)) (assoc_b hm) ⟨hF.weak [0, 3, 4] (by kernel_rfl), hS⟩ ?_
    clear hF hS hm
    rintro nn1 ⟨n2, i1⟩ a w ⟨hF, hS⟩ hm
    generalize hφ1 : stK (gameroomref_discNumber_L1 s1) nn1 (fun x => (gameroomref_discNumber_K1 x).bind some) = φ1 at hm
    unfold gameroomref_discNumber_L1 at hm
    dsimp only at hF hS hm
    refine seq_cut (fun a w => Fr 20 [pl 0 (.slice A1 s1.length c1), pl 3 (.int .i64 n2), pl 4 (.int .i64 i1)] a ∧ Sep w0 B w (fs) ∧ ((gameroomref_discNumber_J2 s1 n2 i1)).bind φ1 = some r) ?_ ?_
    · rintro a w ⟨hF, hS, hm⟩
      unfold gameroomref_discNumber_J2 at hm
      refine seq_cut (fun a w => Fr 20 [pl 0 (.slice A1 s1.length c1), pl 3 (.int .i64 (w64 ((w64 (3 * n2)) + (geti s1 i1)))), pl 4 (.int .i64 i1)] a ∧ Sep w0 B w (fs) ∧ ((gameroomref_discNumber_J3 s1 n2 i1)).bind φ1 = some r) ?_ ?_
      · rintro a w ⟨hF, hS, hm⟩
        unfold gameroomref_discNumber_J3 at hm
        refine reg1 [] [] [0, 3, 4] [pl 0 (.slice A1 s1.length c1), pl 3 (.int .i64 (w64 ((w64 (3 * n2)) + (geti s1 i1)))), pl 4 (.int .i64 (w64 (i1 - 1)))] hF hS Fol (by kernel_rfl) (by kernel_rfl) (by kernel_rfl) ?_ (fun a w hF hS => ?_)
        · exact obs_nil
        refine then_n ?_
        rw [← hφ1] at hm
        exact ⟨((w64 ((w64 (3 * n2)) + (geti s1 i1))), (w64 (i1 - 1))), ⟨hF.weak [0, 3, 4] (by kernel_rfl), hS⟩, hm⟩
      · refine wp_block ?_
        obtain ⟨hp1, hm⟩ := asrt_b hm
        refine reg1 [⟨true, [], vS (Instr.indexAt 40 (.slice A1 s1.length c1) (.int .i64 i1)), .pointer (some (sAddr A1 i1))⟩, ⟨false, [], vS (Instr.loadAt 3 (.pointer (some (sAddr A1 i1)))), .int .i64 (geti s1 i1)⟩] [none, none, none, none, some (.pointer (some (sAddr A1 i1))), some (.int .i64 (geti s1 i1)), none, none] [0, 3, 4] [pl 0 (.slice A1 s1.length c1), pl 3 (.int .i64 (w64 ((w64 (3 * n2)) + (geti s1 i1)))), pl 4 (.int .i64 i1)] hF hS Fol (by kernel_rfl) (by kernel_rfl) (by kernel_rfl) ?_ (fun a w hF hS => ?_)
        · exact obs_cons (ob_ix1 (f := (Value.int .i64)) (m := s1) Und40 hi3 hs3 (hr_s1 _ (hS.dropN 0)) rfl (fun _ => hp1)) <| obs_cons (ob_get1 (n := s1.length) (m := s1) (Value.int .i64) (0 : Int) Agg3 (fun _ hS => ⟨_, (hr_s1 _ (hS.dropN 0))⟩) (fun _ hS => rfl) (fun _ => hp1)) <| obs_nil
        refine block_n ?_
        refine then_n ?_
        exact ⟨hF.weak [0, 3, 4] (by kernel_rfl), hS, hm⟩
    · refine reg [] [] [0, 3, 4, 9] [pl 0 (.slice A1 s1.length c1), pl 3 (.int .i64 n2), pl 4 (.int .i64 i1), pl 9 (.bool (decide ((0 : Int) ≤ i1)))] hF hS Fol (by kernel_rfl) (by kernel_rfl) (by kernel_rfl) ?_ (fun a w hF hS => ?_)
      · exact obs_nil
      refine cond_ev (t := 9) (b := decide ((0 : Int) ≤ i1)) hF (by kernel_rfl) (fun hb => ?_) (fun hb => ?_)
      · replace hm := if_t hm hb
        refine wp_skip ?_
        refine then_n ?_
        exact ⟨hF.weak [0, 3, 4] (by kernel_rfl), hS, hm⟩
      · replace hm := if_f hm hb
        refine wp_exit ?_
        refine then_e (then_e (block_e (then_n ?_)))
        rw [← hφ1] at hm
        replace hm := done_b hm
        unfold gameroomref_discNumber_K1 at hm
        try dsimp only at hm
        have hm : (gameroomref_discNumber_J1 n2).bind some = some r := hm
        exact ⟨n2, hF.weak [3] (by kernel_rfl), hS, hm⟩

noncomputable def gameroomref_DiscsFar_J3 (all1 : Int) (i1 : Int) : Option (St (Int × Int) Int) :=
  some (.next ((w64 (3 * all1)), (w64 (i1 + 1))))

noncomputable def gameroomref_DiscsFar_J2 (all1 : Int) (i1 : Int) : Option (St (Int × Int) Int) :=
  (gameroomref_DiscsFar_J3 all1 i1)

noncomputable def gameroomref_DiscsFar_J6 (far1 : List Int) (i2 : Int) : Option (St (List Int × Int) (List Int)) :=
  some (.next ((far1.set (Int.toNat i2) (-1)), (w64 (i2 + 1))))

noncomputable def gameroomref_DiscsFar_J5 (all2 : Int) (far1 : List Int) (i2 : Int) : Option (St (List Int × Int) (List Int)) :=
  asrt (0 ≤ i2 ∧ i2 < (((Int.toNat all2) : Nat) : Int)) <| (gameroomref_DiscsFar_J6 far1 i2)

noncomputable def gameroomref_DiscsFar_L2 (all2 : Int) : (List Int × Int) → Option (St (List Int × Int) (List Int)) :=
  fun (x : (List Int × Int)) => match x with | (far1, i2) => if (decide (i2 < all2)) then ((gameroomref_DiscsFar_J5 all2 far1 i2)) else (some (.done far1))

noncomputable def gameroomref_DiscsFar_J13 (b1 : Int) (far10 : List Int) (list6 : List (List Int)) : Option (St (List Int × List (List Int) × Int) (List Int × List (List Int))) :=
  some (.next (far10, list6, (w64 (b1 + 1))))

noncomputable def gameroomref_DiscsFar_J14 (list4 : List (List Int)) (b1 : Int) (r3 : (List Int × Int)) (far9 : List Int) : Option (St (List Int × List (List Int) × Int) (List Int × List (List Int))) :=
  asrt (((list4.length : Int) : Int) + 1 ≤ bigR) <| (gameroomref_DiscsFar_J13 b1) far9 (list4 ++ [r3.1])

noncomputable def gameroomref_DiscsFar_J12 (all2 : Int) (i3 : Int) (a1 : Int) (far7 : List Int) (list4 : List (List Int)) (b1 : Int) : Option (St (List Int × List (List Int) × Int) (List Int × List (List Int))) :=
  asrt (0 ≤ i3 ∧ i3 < (list4.length : Int)) <| (gameroomref_DiscMove_m (geti2 list4 i3) a1 b1 0).bind fun r3 => ((if (r3.2 == 0) then gameroomref_discNumber_m r3.1 else some 0)).bind fun r4 => asrt ((r3.2 == 0) = true → 0 ≤ r4 ∧ r4 < (((Int.toNat all2) : Nat) : Int)) <| if ((r3.2 == 0) && (decide ((geti far7 r4) < 0))) then (asrt (0 ≤ i3 ∧ i3 < (list4.length : Int)) <| (gameroomref_discNumber_m r3.1).bind fun r5 => (gameroomref_discNumber_m (geti2 list4 i3)).bind fun r6 => asrt (0 ≤ r6 ∧ r6 < (((Int.toNat all2) : Nat) : Int)) <| asrt (0 ≤ r5 ∧ r5 < (((Int.toNat all2) : Nat) : Int)) <| (gameroomref_DiscsFar_J14 list4 b1 r3) (far7.set (Int.toNat r5) (w64 ((geti far7 r6) + 1)))) else ((gameroomref_DiscsFar_J13 b1) far7 list4)

noncomputable def gameroomref_DiscsFar_L5 (all2 : Int) (i3 : Int) (a1 : Int) : (List Int × List (List Int) × Int) → Option (St (List Int × List (List Int) × Int) (List Int × List (List Int))) :=
  fun (x : (List Int × List (List Int) × Int)) => match x with | (far7, list4, b1) => if (decide (b1 < 3)) then ((gameroomref_DiscsFar_J12 all2 i3 a1 far7 list4 b1)) else (some (.done (far7, list4)))

noncomputable def gameroomref_DiscsFar_J11 (a1 : Int) (far8 : List Int) (list5 : List (List Int)) : Option (St (List Int × List (List Int) × Int) (List Int × List (List Int))) :=
  some (.next (far8, list5, (w64 (a1 + 1))))

noncomputable def gameroomref_DiscsFar_K5 (a1 : Int) : (List Int × List (List Int)) → Option (St (List Int × List (List Int) × Int) (List Int × List (List Int))) :=
  fun (x : (List Int × List (List Int))) => match x with | (far8, list5) => (gameroomref_DiscsFar_J11 a1) far8 list5

noncomputable def gameroomref_DiscsFar_J10 (all2 : Int) (i3 : Int) (far5 : List Int) (list2 : List (List Int)) (a1 : Int) : Option (St (List Int × List (List Int) × Int) (List Int × List (List Int))) :=
  (loop (gameroomref_DiscsFar_L5 all2 i3 a1) (far5, list2, 0)).bind (gameroomref_DiscsFar_K5 a1)

noncomputable def gameroomref_DiscsFar_L4 (all2 : Int) (i3 : Int) : (List Int × List (List Int) × Int) → Option (St (List Int × List (List Int) × Int) (List Int × List (List Int))) :=
  fun (x : (List Int × List (List Int) × Int)) => match x with | (far5, list2, a1) => if (decide (a1 < 3)) then ((gameroomref_DiscsFar_J10 all2 i3 far5 list2 a1)) else (some (.done (far5, list2)))

noncomputable def gameroomref_DiscsFar_J9 (i3 : Int) (far6 : List Int) (list3 : List (List Int)) : Option (St (List Int × List (List Int) × Int) (List Int)) :=
  some (.next (far6, list3, (w64 (i3 + 1))))

noncomputable def gameroomref_DiscsFar_K4 (i3 : Int) : (List Int × List (List Int)) → Option (St (List Int × List (List Int) × Int) (List Int)) :=
  fun (x : (List Int × List (List Int))) => match x with | (far6, list3) => (gameroomref_DiscsFar_J9 i3) far6 list3

noncomputable def gameroomref_DiscsFar_J8 (all2 : Int) (far3 : List Int) (list1 : List (List Int)) (i3 : Int) : Option (St (List Int × List (List Int) × Int) (List Int)) :=
  (loop (gameroomref_DiscsFar_L4 all2 i3) (far3, list1, 0)).bind (gameroomref_DiscsFar_K4 i3)

noncomputable def gameroomref_DiscsFar_L3 (all2 : Int) : (List Int × List (List Int) × Int) → Option (St (List Int × List (List Int) × Int) (List Int)) :=
  fun (x : (List Int × List (List Int) × Int)) => match x with | (far3, list1, i3) => if (decide (i3 < (list1.length : Int))) then ((gameroomref_DiscsFar_J8 all2 far3 list1 i3)) else (some (.done far3))

noncomputable def gameroomref_DiscsFar_J7 (t1 : List Int) (all2 : Int) (far4 : List Int) : Option Int :=
  (gameroomref_discNumber_m t1).bind fun r7 => asrt (0 ≤ r7 ∧ r7 < (((Int.toNat all2) : Nat) : Int)) <| some (geti far4 r7)

noncomputable def gameroomref_DiscsFar_K3 (t1 : List Int) (all2 : Int) : (List Int) → Option Int :=
  fun (x : (List Int)) => match x with | far4 => (gameroomref_DiscsFar_J7 t1 all2) far4

noncomputable def gameroomref_DiscsFar_J4 (s1 : List Int) (t1 : List Int) (all2 : Int) (far2 : List Int) : Option Int :=
  (gameroomref_discNumber_m s1).bind fun r1 => asrt (0 ≤ r1 ∧ r1 < (((Int.toNat all2) : Nat) : Int)) <| (gameroomref_Ints_m s1).bind fun r2 => (loop (gameroomref_DiscsFar_L3 all2) ((far2.set (Int.toNat r1) 0), ([r2] : List (List Int)), 0)).bind (gameroomref_DiscsFar_K3 t1 all2)

noncomputable def gameroomref_DiscsFar_K2 (s1 : List Int) (t1 : List Int) (all2 : Int) : (List Int) → Option Int :=
  fun (x : (List Int)) => match x with | far2 => (gameroomref_DiscsFar_J4 s1 t1 all2) far2

noncomputable def gameroomref_DiscsFar_J1 (s1 : List Int) (t1 : List Int) (all2 : Int) : Option Int :=
  asrt ((0 : Int) ≤ all2 ∧ all2 ≤ bigN) <| (loop (gameroomref_DiscsFar_L2 all2) ((List.replicate (Int.toNat all2) (0 : Int)), 0)).bind (gameroomref_DiscsFar_K2 s1 t1 all2)

noncomputable def gameroomref_DiscsFar_K1 (s1 : List Int) (t1 : List Int) : Int → Option Int :=
  fun (x : Int) => match x with | all2 => (gameroomref_DiscsFar_J1 s1 t1) all2

noncomputable def gameroomref_DiscsFar_L1 (s1 : List Int) : (Int × Int) → Option (St (Int × Int) Int) :=
  fun (x : (Int × Int)) => match x with | (all1, i1) => if (decide (i1 < (s1.length : Int))) then ((gameroomref_DiscsFar_J2 all1 i1)) else (some (.done all1))

noncomputable def gameroomref_DiscsFar_m (s1 : List Int) (t1 : List Int) : Option Int :=
  (loop (gameroomref_DiscsFar_L1 s1) (1, 0)).bind (gameroomref_DiscsFar_K1 s1 t1)

set_option maxRecDepth 100000 in
set_option maxHeartbeats 4000000 in
theorem gameroomref_DiscsFar_w {A1 : Option Addr} {c1 : Nat} {n1 : Nat} {s1 : List Int} {A2 : Option Addr} {c2 : Nat} {n2 : Nat} {t1 : List Int} {r : Int} {w0 w : World} {B : Nat} {fs : List HP} (hm : gameroomref_DiscsFar_m s1 t1 = some r) (hS : Sep w0 B w (fs)) (hr_s1 : RdF w0 B fs A1 (vI s1)) (_hc_s1 : s1.length ≤ c1) (_hn_s1 : n1 = s1.length) (hr_t1 : RdF w0 B fs A2 (vI t1)) (_hc_t1 : t1.length ≤ c2) (_hn_t1 : n2 = t1.length) :
    Calls Try.prog 34 #[.slice A1 n1 c1, .slice A2 n2 c2] w fun e w' => e = .returned (.int .i64 r) ∧ Sep w0 B w' (fs) := by
  obtain ⟨i3, hi3, hz3, hs3, hb3⟩ := info_parts Info3
  obtain ⟨i40, hi40, hz40, hs40, hb40⟩ := info_parts Info40
  obtain rfl := _hn_s1
  obtain rfl := _hn_t1
  unfold gameroomref_DiscsFar_m at hm
  replace hm := start_b hm
  refine enter (l := [.slice A1 s1.length c1, .slice A2 t1.length c2]) (n := 97) Try.func34 rfl rfl (by simp) (fun a hF => ?_)
  refine reg [] [] [0, 1] [pl 0 (.slice A1 s1.length c1), pl 1 (.slice A2 t1.length c2)] hF hS Fol (by kernel_rfl) (by kernel_rfl) (by kernel_rfl) ?_ (fun a w hF hS => ?_)
  · exact obs_nil
  refine reg [] [] [0, 1, 5] [pl 0 (.slice A1 s1.length c1), pl 1 (.slice A2 t1.length c2), pl 5 (.int .i64 1)] hF hS Fol (by kernel_rfl) (by kernel_rfl) (by kernel_rfl) ?_ (fun a w hF hS => ?_)
  · exact obs_nil
  refine seq_cut (fun a w => ∃ (all2 : Int), Fr 97 [pl 0 (.slice A1 s1.length c1), pl 1 (.slice A2 t1.length c2), pl 5 (.int .i64 all2)] a ∧ Sep w0 B w (fs) ∧ ((gameroomref_DiscsFar_J1 s1 t1) all2).bind some = some r) ?_ ?_
  · rintro a w ⟨all2, hF, hS, hm⟩
    unfold gameroomref_DiscsFar_J1 at hm
    refine seqR ?_
    obtain ⟨hp1, hm⟩ := asrt_b hm
    refine at_run 1 [] [] [0, 1, 5, 23] [pl 0 (.slice A1 s1.length c1), pl 1 (.slice A2 t1.length c2), pl 5 (.int .i64 all2), pl 23 (.int .i64 all2)] hF hS (by kernel_rfl) (by kernel_rfl) ?_ (fun a w hF hS => ?_)
    · exact obs_nil
    obtain ⟨A3, c3, w, hrun, hS⟩ := run_mk1 (P := Try.prog) (t := 40) (Value.int .i64) (0 : Int) hS .i64 .i64 Und40 hi3 hz3 hs3 (by omega) rfl hp1
    have hS : Sep w0 B w (own 3 (.slice A3 (Int.toNat all2) c3) (vI (List.replicate (Int.toNat all2) (0 : Int))) :: fs) := hS
    refine at_do (d := 24) hF (by kernel_rfl) (by kernel_rfl) hrun (fun a hF => ?_)
    refine at_run 1 [] [] [0, 1, 5, 7] [pl 0 (.slice A1 s1.length c1), pl 1 (.slice A2 t1.length c2), pl 5 (.int .i64 all2), pl 7 (.slice A3 (Int.toNat all2) c3)] hF hS (by kernel_rfl) (by kernel_rfl) ?_ (fun a w hF hS => ?_)
    · exact obs_nil
    refine at_end [0, 1, 5, 7] [pl 0 (.slice A1 s1.length c1), pl 1 (.slice A2 t1.length c2), pl 5 (.int .i64 all2), pl 7 (.slice A3 (Int.toNat all2) c3)] hF rfl (by kernel_rfl) (fun hF => ?_)
    refine then_n ?_
    refine seq_cut (fun a w => ∃ (far2 : List Int), Fr 97 [pl 0 (.slice A1 s1.length c1), pl 1 (.slice A2 t1.length c2), pl 7 (.slice A3 (Int.toNat all2) c3)] a ∧ Sep w0 B w (own 3 (.slice A3 (Int.toNat all2) c3) (vI far2) :: fs) ∧ ((gameroomref_DiscsFar_J4 s1 t1 all2) far2).bind some = some r) ?_ ?_
    · rintro a w ⟨far2, hF, hS, hm⟩
      unfold gameroomref_DiscsFar_J4 at hm
      refine seqR ?_
      obtain ⟨r1, hr1, hm⟩ := call_b hm
      obtain ⟨hp3, hm⟩ := asrt_b hm
      refine at_run 4 [⟨false, [], callFunc 92 #[.slice A1 s1.length c1], .int .i64 r1⟩, ⟨true, [], vS (Instr.indexAt 40 (.slice A3 (Int.toNat all2) c3) (.int .i64 r1)), .pointer (some (sAddr A3 r1))⟩] [none, none, some (.int .i64 r1), some (.pointer (some (sAddr A3 r1)))] [0, 1, 7, 36] [pl 0 (.slice A1 s1.length c1), pl 1 (.slice A2 t1.length c2), pl 7 (.slice A3 (Int.toNat all2) c3), pl 36 (.pointer (some (sAddr A3 r1)))] hF hS (by kernel_rfl) (by kernel_rfl) ?_ (fun a w hF hS => ?_)
      · exact obs_cons (ob_call Try.func92 (by kernel_rfl) rfl (fun _ _ hS => gameroomref_discNumber_w hr1 hS (fun _ hS => (hr_s1 _ (hS.dropN 1))) _hc_s1 rfl)) <| obs_cons (ob_ix1 (f := (Value.int .i64)) (m := far2) Und40 hi3 hs3 (hS.at_ 0 rfl).rd ((hS.at_ 0 rfl).len1) (fun _ => hp3)) <| obs_nil
      obtain ⟨w, hrun, hS⟩ := run_set1 (P := Try.prog) (t := 3) (x := 0) (Value.int .i64) (hS.at_ 0 rfl) hi3 hs3 rfl rfl hp3
      refine at_skip hF (by kernel_rfl) hrun ?_
      have hS : Sep w0 B w (own 3 (.slice A3 (Int.toNat all2) c3) (vI (far2.set (Int.toNat r1) 0)) :: fs) := hS
      refine at_end [0, 1, 7] [pl 0 (.slice A1 s1.length c1), pl 1 (.slice A2 t1.length c2), pl 7 (.slice A3 (Int.toNat all2) c3)] hF rfl (by kernel_rfl) (fun hF => ?_)
      refine then_n ?_
      refine seqR ?_
      obtain ⟨r2, hr2, hm⟩ := call_b hm
      refine at_run 1 [] [] [1, 7, 37] [pl 1 (.slice A2 t1.length c2), pl 7 (.slice A3 (Int.toNat all2) c3), pl 37 (.slice A1 s1.length c1)] hF hS (by kernel_rfl) (by kernel_rfl) ?_ (fun a w hF hS => ?_)
      · exact obs_nil
      refine at_call (f := 93) (args := #[.slice A1 s1.length c1]) (d := 38) hF (by kernel_rfl) (by kernel_rfl) Try.func93 (by kernel_rfl) rfl (gameroomref_Ints_w hr2 hS (fun _ hS => (hr_s1 _ (hS.dropN 1))) _hc_s1 rfl) (fun v a w hR hF => ?_)
      clear hS
      obtain ⟨A4, c4, rfl, hS⟩ := hR
      have hS : Sep w0 B w (own 3 (.slice A4 r2.length c4) (vI r2) :: own 3 (.slice A3 (Int.toNat all2) c3) (vI (far2.set (Int.toNat r1) 0)) :: fs) := hS
      refine at_do (d := 39) (s := vS (Instr.buildSlice 125 1 #[(0, .slice A4 r2.length c4)])) (v := .slice (some ⟨w.heap.size, 0, none⟩) 1 1) (w' := w.alloc (.cells #[.slice A4 r2.length c4] 40)) hF (by kernel_rfl) (by kernel_rfl) (by kernel_rfl) (fun a hF => ?_)
      have hS : Sep w0 B (w.alloc (.cells #[.slice A4 r2.length c4] 40)) (own 40 (.slice (some (⟨w.heap.size, 0, none⟩ : Addr)) 1 1) [.slice A4 r2.length c4] :: (own 3 (.slice A4 r2.length c4) (vI r2) :: own 3 (.slice A3 (Int.toNat all2) c3) (vI (far2.set (Int.toNat r1) 0)) :: fs)) := hS.lit 40 #[.slice A4 r2.length c4] 1 rfl (by omega)
      generalize (some (⟨w.heap.size, 0, none⟩ : Addr)) = g1 at hF hS
      generalize w.alloc (.cells #[.slice A4 r2.length c4] 40) = w at hS ⊢
      have hS : Sep w0 B w (rows 40 3 (.slice g1 (([r2] : List (List Int)).length) 1) ([(A4, c4)] : List Hd) ([r2] : List (List Int)) :: own 3 (.slice A3 (Int.toNat all2) c3) (vI (far2.set (Int.toNat r1) 0)) :: fs) := hS.litRow1
      refine at_run 1 [] [] [1, 7, 9] [pl 1 (.slice A2 t1.length c2), pl 7 (.slice A3 (Int.toNat all2) c3), pl 9 (.slice g1 (([r2] : List (List Int)).length) 1)] hF hS (by kernel_rfl) (by kernel_rfl) ?_ (fun a w hF hS => ?_)
      · exact obs_nil
      refine at_end [1, 7, 9] [pl 1 (.slice A2 t1.length c2), pl 7 (.slice A3 (Int.toNat all2) c3), pl 9 (.slice g1 (([r2] : List (List Int)).length) 1)] hF rfl (by kernel_rfl) (fun hF => ?_)
      refine then_n ?_
      refine seq_cut (fun a w => ∃ (far4 : List Int), Fr 97 [pl 1 (.slice A2 t1.length c2), pl 7 (.slice A3 (Int.toNat all2) c3)] a ∧ Sep w0 B w (own 3 (.slice A3 (Int.toNat all2) c3) (vI far4) :: fs) ∧ ((gameroomref_DiscsFar_J7 t1 all2) far4).bind some = some r) ?_ ?_
      · rintro a w ⟨far4, hF, hS, hm⟩
        unfold gameroomref_DiscsFar_J7 at hm
        obtain ⟨r7, hr7, hm⟩ := call_b hm
        obtain ⟨hp10, hm⟩ := asrt_b hm
        refine reg [⟨false, [], callFunc 92 #[.slice A2 t1.length c2], .int .i64 r7⟩, ⟨true, [], vS (Instr.indexAt 40 (.slice A3 (Int.toNat all2) c3) (.int .i64 r7)), .pointer (some (sAddr A3 r7))⟩, ⟨false, [], vS (Instr.loadAt 3 (.pointer (some (sAddr A3 r7)))), .int .i64 (geti far4 r7)⟩] [none, none, some (.int .i64 r7), some (.pointer (some (sAddr A3 r7))), some (.int .i64 (geti far4 r7)), none] [4] [pl 4 (.int .i64 (geti far4 r7))] hF hS Fol (by kernel_rfl) (by kernel_rfl) (by kernel_rfl) ?_ (fun a w hF hS => ?_)
        · exact obs_cons (ob_call Try.func92 (by kernel_rfl) rfl (fun _ _ hS => gameroomref_discNumber_w hr7 hS (fun _ hS => (hr_t1 _ (hS.dropN 1))) _hc_t1 rfl)) <| obs_cons (ob_ix1 (f := (Value.int .i64)) (m := far4) Und40 hi3 hs3 (hS.at_ 0 rfl).rd ((hS.at_ 0 rfl).len1) (fun _ => hp10)) <| obs_cons (ob_get1 (n := (Int.toNat all2)) (m := far4) (Value.int .i64) (0 : Int) Agg3 (fun _ hS => ⟨_, (hS.at_ 0 rfl).rd⟩) (fun _ hS => ((hS.at_ 0 rfl).len1)) (fun _ => hp10)) <| obs_nil
        refine wp_ret ?_
        have hS := hS.pickN 1 [] (by decide)
        have hm : some (geti far4 r7) = some r := hm
        obtain rfl := Option.some.inj hm
        exact retV (rs := [.tmp 4]) (vs := [.int .i64 (geti far4 r7)]) hF rfl (rv_t (by kernel_rfl) <| rv_nil) rfl ⟨rfl, hS⟩
      · refine reg [] [] [1, 7, 9, 10] [pl 1 (.slice A2 t1.length c2), pl 7 (.slice A3 (Int.toNat all2) c3), pl 9 (.slice g1 (([r2] : List (List Int)).length) 1), pl 10 (.int .i64 0)] hF hS Fol (by kernel_rfl) (by kernel_rfl) (by kernel_rfl) ?_ (fun a w hF hS => ?_)
        · exact obs_nil
        refine wp_block ?_
        have hS := hS.pickN 2 [1, 0] (by decide)
        refine wp_loop_model (S := (List Int × List (List Int) × Int)) (R := (List Int)) (gameroomref_DiscsFar_L3 all2) (fun x => ((gameroomref_DiscsFar_K3 t1 all2) x).bind some) r (fun (x : (List Int × List (List Int) × Int)) a w => ∃ (A5 : Option Addr) (c5 : Nat) (hd1 : List Hd), Fr 97 [pl 1 (.slice A2 t1.length c2), pl 7 (.slice A3 (Int.toNat all2) c3), pl 9 (.slice A5 x.2.1.length c5), pl 10 (.int .i64 x.2.2)] a ∧ Sep w0 B w (own 3 (.slice A3 (Int.toNat all2) c3) (vI x.1) :: rows 40 3 (.slice A5 x.2.1.length c5) hd1 x.2.1 :: fs)) (assoc_b hm) ⟨g1, 1, ([(A4, c4)] : List Hd), hF.weak [1, 7, 9, 10] (by kernel_rfl), hS⟩ ?_
        clear hF hS hm
        rintro nn3 ⟨far3, list1, i3⟩ a w ⟨A5, c5, hd1, hF, hS⟩ hm
        generalize hφ3 : stK (gameroomref_DiscsFar_L3 all2) nn3 (fun x => ((gameroomref_DiscsFar_K3 t1 all2) x).bind some) = φ3 at hm
        unfold gameroomref_DiscsFar_L3 at hm
        dsimp only at hF hS hm
        refine seq_cut (fun a w => Fr 97 [pl 1 (.slice A2 t1.length c2), pl 7 (.slice A3 (Int.toNat all2) c3), pl 9 (.slice A5 list1.length c5), pl 10 (.int .i64 i3)] a ∧ Sep w0 B w (own 3 (.slice A3 (Int.toNat all2) c3) (vI far3) :: rows 40 3 (.slice A5 list1.length c5) hd1 list1 :: fs) ∧ ((gameroomref_DiscsFar_J8 all2 far3 list1 i3)).bind φ3 = some r) ?_ ?_
        · rintro a w ⟨hF, hS, hm⟩
          unfold gameroomref_DiscsFar_J8 at hm
          refine seq_cut (fun a w => ∃ (far6 : List Int) (list3 : List (List Int)) (A7 : Option Addr) (c7 : Nat) (hd3 : List Hd), Fr 97 [pl 1 (.slice A2 t1.length c2), pl 7 (.slice A3 (Int.toNat all2) c3), pl 9 (.slice A7 list3.length c7), pl 10 (.int .i64 i3)] a ∧ Sep w0 B w (own 3 (.slice A3 (Int.toNat all2) c3) (vI far6) :: rows 40 3 (.slice A7 list3.length c7) hd3 list3 :: fs) ∧ ((gameroomref_DiscsFar_J9 i3) far6 list3).bind φ3 = some r) ?_ ?_
          · rintro a w ⟨far6, list3, A7, c7, hd3, hF, hS, hm⟩
            unfold gameroomref_DiscsFar_J9 at hm
            refine reg1 [] [] [1, 7, 9, 10] [pl 1 (.slice A2 t1.length c2), pl 7 (.slice A3 (Int.toNat all2) c3), pl 9 (.slice A7 list3.length c7), pl 10 (.int .i64 (w64 (i3 + 1)))] hF hS Fol (by kernel_rfl) (by kernel_rfl) (by kernel_rfl) ?_ (fun a w hF hS => ?_)
            · exact obs_nil
            refine then_n ?_
            rw [← hφ3] at hm
            exact ⟨(far6, list3, (w64 (i3 + 1))), ⟨A7, c7, hd3, hF.weak [1, 7, 9, 10] (by kernel_rfl), hS⟩, hm⟩
          · refine wp_block ?_
            refine reg [] [] [1, 7, 9, 10, 11] [pl 1 (.slice A2 t1.length c2), pl 7 (.slice A3 (Int.toNat all2) c3), pl 9 (.slice A5 list1.length c5), pl 10 (.int .i64 i3), pl 11 (.int .i64 0)] hF hS Fol (by kernel_rfl) (by kernel_rfl) (by kernel_rfl) ?_ (fun a w hF hS => ?_)
            · exact obs_nil
            refine wp_block ?_
            refine wp_loop_model (S := (List Int × List (List Int) × Int)) (R := (List Int × List (List Int))) (gameroomref_DiscsFar_L4 all2 i3) (fun x => ((gameroomref_DiscsFar_K4 i3) x).bind φ3) r (fun (x : (List Int × List (List Int) × Int)) a w => ∃ (A6 : Option Addr) (c6 : Nat) (hd2 : List Hd), Fr 97 [pl 1 (.slice A2 t1.length c2), pl 7 (.slice A3 (Int.toNat all2) c3), pl 9 (.slice A6 x.2.1.length c6), pl 10 (.int .i64 i3), pl 11 (.int .i64 x.2.2)] a ∧ Sep w0 B w (own 3 (.slice A3 (Int.toNat all2) c3) (vI x.1) :: rows 40 3 (.slice A6 x.2.1.length c6) hd2 x.2.1 :: fs)) (assoc_b hm) ⟨A5, c5, hd1, hF.weak [1, 7, 9, 10, 11] (by kernel_rfl), hS⟩ ?_
            clear hF hS hm
            rintro nn4 ⟨far5, list2, a1⟩ a w ⟨A6, c6, hd2, hF, hS⟩ hm
            generalize hφ4 : stK (gameroomref_DiscsFar_L4 all2 i3) nn4 (fun x => ((gameroomref_DiscsFar_K4 i3) x).bind φ3) = φ4 at hm
            unfold gameroomref_DiscsFar_L4 at hm
            dsimp only at hF hS hm
            refine seq_cut (fun a w => Fr 97 [pl 1 (.slice A2 t1.length c2), pl 7 (.slice A3 (Int.toNat all2) c3), pl 9 (.slice A6 list2.length c6), pl 10 (.int .i64 i3), pl 11 (.int .i64 a1)] a ∧ Sep w0 B w (own 3 (.slice A3 (Int.toNat all2) c3) (vI far5) :: rows 40 3 (.slice A6 list2.length c6) hd2 list2 :: fs) ∧ ((gameroomref_DiscsFar_J10 all2 i3 far5 list2 a1)).bind φ4 = some r) ?_ ?_
            · rintro a w ⟨hF, hS, hm⟩
              unfold gameroomref_DiscsFar_J10 at hm
              refine seq_cut (fun a w => ∃ (far8 : List Int) (list5 : List (List Int)) (A9 : Option Addr) (c9 : Nat) (hd5 : List Hd), Fr 97 [pl 1 (.slice A2 t1.length c2), pl 7 (.slice A3 (Int.toNat all2) c3), pl 9 (.slice A9 list5.length c9), pl 10 (.int .i64 i3), pl 11 (.int .i64 a1)] a ∧ Sep w0 B w (own 3 (.slice A3 (Int.toNat all2) c3) (vI far8) :: rows 40 3 (.slice A9 list5.length c9) hd5 list5 :: fs) ∧ ((gameroomref_DiscsFar_J11 a1) far8 list5).bind φ4 = some r) ?_ ?_
              · rintro a w ⟨far8, list5, A9, c9, hd5, hF, hS, hm⟩
                unfold gameroomref_DiscsFar_J11 at hm
                refine reg1 [] [] [1, 7, 9, 10, 11] [pl 1 (.slice A2 t1.length c2), pl 7 (.slice A3 (Int.toNat all2) c3), pl 9 (.slice A9 list5.length c9), pl 10 (.int .i64 i3), pl 11 (.int .i64 (w64 (a1 + 1)))] hF hS Fol (by kernel_rfl) (by kernel_rfl) (by kernel_rfl) ?_ (fun a w hF hS => ?_)
                · exact obs_nil
                refine then_n ?_
                rw [← hφ4] at hm
                exact ⟨(far8, list5, (w64 (a1 + 1))), ⟨A9, c9, hd5, hF.weak [1, 7, 9, 10, 11] (by kernel_rfl), hS⟩, hm⟩
              · refine wp_block ?_
                refine reg [] [] [1, 7, 9, 10, 11, 12] [pl 1 (.slice A2 t1.length c2), pl 7 (.slice A3 (Int.toNat all2) c3), pl 9 (.slice A6 list2.length c6), pl 10 (.int .i64 i3), pl 11 (.int .i64 a1), pl 12 (.int .i64 0)] hF hS Fol (by kernel_rfl) (by kernel_rfl) (by kernel_rfl) ?_ (fun a w hF hS => ?_)
                · exact obs_nil
                refine wp_block ?_
                refine wp_loop_model (S := (List Int × List (List Int) × Int)) (R := (List Int × List (List Int))) (gameroomref_DiscsFar_L5 all2 i3 a1) (fun x => ((gameroomref_DiscsFar_K5 a1) x).bind φ4) r (fun (x : (List Int × List (List Int) × Int)) a w => ∃ (A8 : Option Addr) (c8 : Nat) (hd4 : List Hd), Fr 97 [pl 1 (.slice A2 t1.length c2), pl 7 (.slice A3 (Int.toNat all2) c3), pl 9 (.slice A8 x.2.1.length c8), pl 10 (.int .i64 i3), pl 11 (.int .i64 a1), pl 12 (.int .i64 x.2.2)] a ∧ Sep w0 B w (own 3 (.slice A3 (Int.toNat all2) c3) (vI x.1) :: rows 40 3 (.slice A8 x.2.1.length c8) hd4 x.2.1 :: fs)) (assoc_b hm) ⟨A6, c6, hd2, hF.weak [1, 7, 9, 10, 11, 12] (by kernel_rfl), hS⟩ ?_
                clear hF hS hm
                rintro nn5 ⟨far7, list4, b1⟩ a w ⟨A8, c8, hd4, hF, hS⟩ hm
                generalize hφ5 : stK (gameroomref_DiscsFar_L5 all2 i3 a1) nn5 (fun x => ((gameroomref_DiscsFar_K5 a1) x).bind φ4) = φ5 at hm
                unfold gameroomref_DiscsFar_L5 at hm
                dsimp only at hF hS hm
                refine seq_cut (fun a w => Fr 97 [pl 1 (.slice A2 t1.length c2), pl 7 (.slice A3 (Int.toNat all2) c3), pl 9 (.slice A8 list4.length c8), pl 10 (.int .i64 i3), pl 11 (.int .i64 a1), pl 12 (.int .i64 b1)] a ∧ Sep w0 B w (own 3 (.slice A3 (Int.toNat all2) c3) (vI far7) :: rows 40 3 (.slice A8 list4.length c8) hd4 list4 :: fs) ∧ ((gameroomref_DiscsFar_J12 all2 i3 a1 far7 list4 b1)).bind φ5 = some r) ?_ ?_
                · rintro a w ⟨hF, hS, hm⟩
                  unfold gameroomref_DiscsFar_J12 at hm
                  refine seq_cut (fun a w => ∃ (far10 : List Int) (list6 : List (List Int)) (A12 : Option Addr) (c12 : Nat) (hd6 : List Hd), Fr 97 [pl 1 (.slice A2 t1.length c2), pl 7 (.slice A3 (Int.toNat all2) c3), pl 9 (.slice A12 list6.length c12), pl 10 (.int .i64 i3), pl 11 (.int .i64 a1), pl 12 (.int .i64 b1)] a ∧ Sep w0 B w (own 3 (.slice A3 (Int.toNat all2) c3) (vI far10) :: rows 40 3 (.slice A12 list6.length c12) hd6 list6 :: fs) ∧ ((gameroomref_DiscsFar_J13 b1) far10 list6).bind φ5 = some r) ?_ ?_
                  · rintro a w ⟨far10, list6, A12, c12, hd6, hF, hS, hm⟩
                    unfold gameroomref_DiscsFar_J13 at hm
                    refine reg1 [] [] [1, 7, 9, 10, 11, 12] [pl 1 (.slice A2 t1.length c2), pl 7 (.slice A3 (Int.toNat all2) c3), pl 9 (.slice A12 list6.length c12), pl 10 (.int .i64 i3), pl 11 (.int .i64 a1), pl 12 (.int .i64 (w64 (b1 + 1)))] hF hS Fol (by kernel_rfl) (by kernel_rfl) (by kernel_rfl) ?_ (fun a w hF hS => ?_)
                    · exact obs_nil
                    refine then_n ?_
                    rw [← hφ5] at hm
                    exact ⟨(far10, list6, (w64 (b1 + 1))), ⟨A12, c12, hd6, hF.weak [1, 7, 9, 10, 11, 12] (by kernel_rfl), hS⟩, hm⟩
                  · refine wp_block ?_
                    refine seqR ?_
                    obtain ⟨hp4, hm⟩ := asrt_b hm
                    obtain ⟨r3, hr3, hm⟩ := call_b hm
                    have hb1 := rowb (n := list4.length) (hS.at_ 1 rfl).lenR hp4
                    refine at_run 7 [⟨true, [], vS (Instr.indexAt 125 (.slice A8 list4.length c8) (.int .i64 i3)), .pointer (some (sAddr A8 i3))⟩, ⟨false, [], vS (Instr.loadAt 40 (.pointer (some (sAddr A8 i3)))), .slice (hdA hd4 i3) ((geti2 list4 i3).length) (hdC hd4 i3)⟩] [none, none, some (.pointer (some (sAddr A8 i3))), some (.slice (hdA hd4 i3) ((geti2 list4 i3).length) (hdC hd4 i3)), none, none, none] [1, 7, 9, 10, 11, 12, 58, 61] [pl 1 (.slice A2 t1.length c2), pl 7 (.slice A3 (Int.toNat all2) c3), pl 9 (.slice A8 list4.length c8), pl 10 (.int .i64 i3), pl 11 (.int .i64 a1), pl 12 (.int .i64 b1), pl 58 (.slice (hdA hd4 i3) ((geti2 list4 i3).length) (hdC hd4 i3)), pl 61 (.agg #[.int .i64 a1, .int .i64 b1, .int .i64 0])] hF hS (by kernel_rfl) (by kernel_rfl) ?_ (fun a w hF hS => ?_)
                    · exact obs_cons (ob_ixRn Und125 hi40 hs40 (hS.at_ 1 rfl).rdRows (hS.at_ 1 rfl).lenR (fun _ => hp4)) <| obs_cons (ob_getR Agg40 (fun _ hS => ⟨_, (hS.at_ 1 rfl).rdRows⟩) (fun _ => hb1)) <| obs_nil
                    refine at_call (f := 35) (args := #[.slice (hdA hd4 i3) ((geti2 list4 i3).length) (hdC hd4 i3), .agg #[.int .i64 a1, .int .i64 b1, .int .i64 0]]) (d := 62) hF (by kernel_rfl) (by kernel_rfl) Try.func35 (by kernel_rfl) rfl (gameroomref_DiscMove_w hr3 hS (fun _ hS => ((hS.at_ 1 rfl).rdRows.row _ hb1).1) ((hS.at_ 1 rfl).rdRows.row _ hb1).2 rfl) (fun v a w hR hF => ?_)
                    clear hS
                    obtain ⟨A10, c10, rfl, hS⟩ := hR
                    have hS : Sep w0 B w (own 3 (.slice A10 r3.1.length c10) (vI r3.1) :: own 3 (.slice A3 (Int.toNat all2) c3) (vI far7) :: rows 40 3 (.slice A8 list4.length c8) hd4 list4 :: fs) := hS
                    refine at_run 5 [] [] [1, 7, 9, 10, 11, 12, 13, 14] [pl 1 (.slice A2 t1.length c2), pl 7 (.slice A3 (Int.toNat all2) c3), pl 9 (.slice A8 list4.length c8), pl 10 (.int .i64 i3), pl 11 (.int .i64 a1), pl 12 (.int .i64 b1), pl 13 (.slice A10 r3.1.length c10), pl 14 (.int .i64 r3.2)] hF hS (by kernel_rfl) (by kernel_rfl) ?_ (fun a w hF hS => ?_)
                    · exact obs_nil
                    refine at_end [1, 7, 9, 10, 11, 12, 13, 14] [pl 1 (.slice A2 t1.length c2), pl 7 (.slice A3 (Int.toNat all2) c3), pl 9 (.slice A8 list4.length c8), pl 10 (.int .i64 i3), pl 11 (.int .i64 a1), pl 12 (.int .i64 b1), pl 13 (.slice A10 r3.1.length c10), pl 14 (.int .i64 r3.2)] hF rfl (by kernel_rfl) (fun hF => ?_)
                    refine then_n ?_
                    obtain ⟨r4, hr4, hm⟩ := call_b hm
                    obtain ⟨hp5, hm⟩ := asrt_b hm
                    refine reg [⟨false, [((r3.2 == 0), true)], callFunc 92 #[.slice A10 r3.1.length c10], .int .i64 r4⟩, ⟨true, [((r3.2 == 0), true)], vS (Instr.indexAt 40 (.slice A3 (Int.toNat all2) c3) (.int .i64 r4)), .pointer (some (sAddr A3 r4))⟩, ⟨false, [((r3.2 == 0), true)], vS (Instr.loadAt 3 (.pointer (some (sAddr A3 r4)))), .int .i64 (geti far7 r4)⟩] [none, none, none, none, none, some (.int .i64 r4), some (.pointer (some (sAddr A3 r4))), some (.int .i64 (geti far7 r4)), none, none] [1, 7, 9, 10, 11, 12, 13, 74] [pl 1 (.slice A2 t1.length c2), pl 7 (.slice A3 (Int.toNat all2) c3), pl 9 (.slice A8 list4.length c8), pl 10 (.int .i64 i3), pl 11 (.int .i64 a1), pl 12 (.int .i64 b1), pl 13 (.slice A10 r3.1.length c10), pl 74 (.bool ((r3.2 == 0) && (decide ((geti far7 r4) < 0))))] hF hS Fol (by kernel_rfl) (by kernel_rfl) (by kernel_rfl) ?_ (fun a w hF hS => ?_)
                    · exact obs_cons (ob_call Try.func92 (by kernel_rfl) rfl (fun hy _ hS => gameroomref_discNumber_w (ite_some hr4 (by rw [show (r3.2 == 0) = true from hy ((r3.2 == 0), true) (by simp)]; try rfl)) hS (fun _ hS => (hS.at_ 0 rfl).rd) ((hS.at_ 0 rfl).cap1) rfl)) <| obs_cons (ob_ix1 (f := (Value.int .i64)) (m := far7) Und40 hi3 hs3 (hS.at_ 1 rfl).rd ((hS.at_ 1 rfl).len1) (fun hy => hp5 (hy ((r3.2 == 0), true) (by simp)))) <| obs_cons (ob_get1 (n := (Int.toNat all2)) (m := far7) (Value.int .i64) (0 : Int) Agg3 (fun _ hS => ⟨_, (hS.at_ 1 rfl).rd⟩) (fun _ hS => ((hS.at_ 1 rfl).len1)) (fun hy => hp5 (hy ((r3.2 == 0), true) (by simp)))) <| obs_nil
                    refine cond_ev (t := 74) (b := (r3.2 == 0) && (decide ((geti far7 r4) < 0))) hF (by kernel_rfl) (fun hb => ?_) (fun hb => ?_)
                    · replace hm := if_t hm hb
                      refine seq_cut (fun a w => ∃ (far9 : List Int), Fr 97 [pl 1 (.slice A2 t1.length c2), pl 7 (.slice A3 (Int.toNat all2) c3), pl 9 (.slice A8 list4.length c8), pl 10 (.int .i64 i3), pl 11 (.int .i64 a1), pl 12 (.int .i64 b1), pl 13 (.slice A10 r3.1.length c10)] a ∧ Sep w0 B w (own 3 (.slice A3 (Int.toNat all2) c3) (vI far9) :: rows 40 3 (.slice A8 list4.length c8) hd4 list4 :: own 3 (.slice A10 r3.1.length c10) (vI r3.1) :: fs) ∧ ((gameroomref_DiscsFar_J14 list4 b1 r3) far9).bind φ5 = some r) ?_ ?_
                      · rintro a w ⟨far9, hF, hS, hm⟩
                        unfold gameroomref_DiscsFar_J14 at hm
                        refine oneR ?_
                        obtain ⟨hp9, hm⟩ := asrt_b hm
                        refine at_run 2 [] [] [1, 7, 10, 11, 12, 88, 89] [pl 1 (.slice A2 t1.length c2), pl 7 (.slice A3 (Int.toNat all2) c3), pl 10 (.int .i64 i3), pl 11 (.int .i64 a1), pl 12 (.int .i64 b1), pl 88 (.slice A8 list4.length c8), pl 89 (.slice A10 r3.1.length c10)] hF hS (by kernel_rfl) (by kernel_rfl) ?_ (fun a w hF hS => ?_)
                        · exact obs_nil
                        refine at_do (d := 90) (s := vS (Instr.buildSlice 125 1 #[(0, .slice A10 r3.1.length c10)])) (v := .slice (some ⟨w.heap.size, 0, none⟩) 1 1) (w' := w.alloc (.cells #[.slice A10 r3.1.length c10] 40)) hF (by kernel_rfl) (by kernel_rfl) (by kernel_rfl) (fun a hF => ?_)
                        have hS : Sep w0 B (w.alloc (.cells #[.slice A10 r3.1.length c10] 40)) (own 40 (.slice (some (⟨w.heap.size, 0, none⟩ : Addr)) 1 1) [.slice A10 r3.1.length c10] :: (own 3 (.slice A3 (Int.toNat all2) c3) (vI far9) :: rows 40 3 (.slice A8 list4.length c8) hd4 list4 :: own 3 (.slice A10 r3.1.length c10) (vI r3.1) :: fs)) := hS.lit 40 #[.slice A10 r3.1.length c10] 1 rfl (by omega)
                        generalize (some (⟨w.heap.size, 0, none⟩ : Addr)) = g2 at hF hS
                        generalize w.alloc (.cells #[.slice A10 r3.1.length c10] 40) = w at hS ⊢
                        have hS := hS.pickN 4 [3, 0, 1, 2] (by decide)
                        have hS : Sep w0 B w (own 3 (.slice A10 r3.1.length c10) (vI r3.1) :: own 40 (.slice g2 1 1) [.slice A10 r3.1.length c10] :: own 3 (.slice A3 (Int.toNat all2) c3) (vI far9) :: rows 40 3 (.slice A8 list4.length c8) hd4 list4 :: fs) := hS
                        obtain ⟨A11, c11, w, hrun, hS⟩ := run_appRow (P := Try.prog) (t := 125) (A2 := g2) (c2 := 1) (hS.at2 2 rfl) (hS.at_ 1 rfl).rd 125 Und125 hi40 hz40 hs40 hb40 hp9
                        have hS : Sep w0 B w (own 40 (.slice g2 1 1) [.slice A10 r3.1.length c10] :: own 3 (.slice A3 (Int.toNat all2) c3) (vI far9) :: rows 40 3 (.slice A11 ((list4 ++ [r3.1]).length) c11) (hd4 ++ [(A10, c10)]) (list4 ++ [r3.1]) :: fs) := hS
                        refine at_do (d := 91) hF (by kernel_rfl) (by kernel_rfl) hrun (fun a hF => ?_)
                        refine at_run 1 [] [] [1, 7, 9, 10, 11, 12] [pl 1 (.slice A2 t1.length c2), pl 7 (.slice A3 (Int.toNat all2) c3), pl 9 (.slice A11 ((list4 ++ [r3.1]).length) c11), pl 10 (.int .i64 i3), pl 11 (.int .i64 a1), pl 12 (.int .i64 b1)] hF hS (by kernel_rfl) (by kernel_rfl) ?_ (fun a w hF hS => ?_)
                        · exact obs_nil
                        refine at_end [1, 7, 9, 10, 11, 12] [pl 1 (.slice A2 t1.length c2), pl 7 (.slice A3 (Int.toNat all2) c3), pl 9 (.slice A11 ((list4 ++ [r3.1]).length) c11), pl 10 (.int .i64 i3), pl 11 (.int .i64 a1), pl 12 (.int .i64 b1)] hF rfl (by kernel_rfl) (fun hF => ?_)
                        refine block_n ?_
                        refine then_n ?_
                        have hS := hS.pickN 3 [1, 2] (by decide)
                        exact ⟨far9, (list4 ++ [r3.1]), A11, c11, (hd4 ++ [(A10, c10)]), hF.weak [1, 7, 9, 10, 11, 12] (by kernel_rfl), hS, hm⟩
                      · obtain ⟨hp6, hm⟩ := asrt_b hm
                        obtain ⟨r5, hr5, hm⟩ := call_b hm
                        obtain ⟨r6, hr6, hm⟩ := call_b hm
                        obtain ⟨hp7, hm⟩ := asrt_b hm
                        obtain ⟨hp8, hm⟩ := asrt_b hm
                        have hb2 := rowb (n := list4.length) (hS.at_ 2 rfl).lenR hp6
                        refine regMix5 [0, 1, 3, 4, 5, 6, 7] [13] 7 #[true, true, false, true, true, true, true, true, false, false, false, false, false, false] [⟨true, [], vS (Instr.indexAt 125 (.slice A8 list4.length c8) (.int .i64 i3)), .pointer (some (sAddr A8 i3))⟩, ⟨false, [], vS (Instr.loadAt 40 (.pointer (some (sAddr A8 i3)))), .slice (hdA hd4 i3) ((geti2 list4 i3).length) (hdC hd4 i3)⟩] [none, none, none, none, none, some (.pointer (some (sAddr A8 i3))), some (.slice (hdA hd4 i3) ((geti2 list4 i3).length) (hdC hd4 i3))] [1, 7, 9, 10, 11, 12, 13, 75, 76, 78, 82] [pl 1 (.slice A2 t1.length c2), pl 7 (.slice A3 (Int.toNat all2) c3), pl 9 (.slice A8 list4.length c8), pl 10 (.int .i64 i3), pl 11 (.int .i64 a1), pl 12 (.int .i64 b1), pl 13 (.slice A10 r3.1.length c10), pl 75 (.slice A3 (Int.toNat all2) c3), pl 76 (.slice A10 r3.1.length c10), pl 78 (.slice A3 (Int.toNat all2) c3), pl 82 (.slice (hdA hd4 i3) ((geti2 list4 i3).length) (hdC hd4 i3))] hF hS Fol (by kernel_rfl) (by kernel_rfl) (by kernel_rfl) (by kernel_rfl) ?_ (fun a w hF hS => ?_)
                        · exact obs_cons (ob_ixRn Und125 hi40 hs40 (hS.at_ 2 rfl).rdRows (hS.at_ 2 rfl).lenR (fun _ => hp6)) <| obs_cons (ob_getR Agg40 (fun _ hS => ⟨_, (hS.at_ 2 rfl).rdRows⟩) (fun _ => hb2)) <| obs_nil
                        refine any_step [2] (by kernel_rfl) rfl ?_
                        refine (all_cons ?_ all_nil)
                        · refine any_op (listed' := #[true, true, true, true, true, true, true, true, false, false, false, false, false, false]) (by kernel_rfl) (by kernel_rfl) ?_
                          refine at_run 1 [⟨false, [], callFunc 92 #[.slice A10 r3.1.length c10], .int .i64 r5⟩] [some (.int .i64 r5)] [1, 7, 9, 10, 11, 12, 13, 75, 77, 78, 82] [pl 1 (.slice A2 t1.length c2), pl 7 (.slice A3 (Int.toNat all2) c3), pl 9 (.slice A8 list4.length c8), pl 10 (.int .i64 i3), pl 11 (.int .i64 a1), pl 12 (.int .i64 b1), pl 13 (.slice A10 r3.1.length c10), pl 75 (.slice A3 (Int.toNat all2) c3), pl 77 (.int .i64 r5), pl 78 (.slice A3 (Int.toNat all2) c3), pl 82 (.slice (hdA hd4 i3) ((geti2 list4 i3).length) (hdC hd4 i3))] hF hS (by kernel_rfl) (by kernel_rfl) ?_ (fun a w hF hS => ?_)
                          · exact obs_cons (ob_call Try.func92 (by kernel_rfl) rfl (fun _ _ hS => gameroomref_discNumber_w hr5 hS (fun _ hS => (hS.at_ 0 rfl).rd) ((hS.at_ 0 rfl).cap1) rfl)) <| obs_nil
                          refine any_fin rfl hS ?_
                          refine any_step [8] (by kernel_rfl) rfl ?_
                          refine (all_cons ?_ all_nil)
                          · refine any_op (listed' := #[true, true, true, true, true, true, true, true, true, false, false, false, false, false]) (by kernel_rfl) (by kernel_rfl) ?_
                            refine at_run 1 [⟨false, [], callFunc 92 #[.slice (hdA hd4 i3) ((geti2 list4 i3).length) (hdC hd4 i3)], .int .i64 r6⟩] [some (.int .i64 r6)] [1, 7, 9, 10, 11, 12, 13, 75, 77, 78, 83] [pl 1 (.slice A2 t1.length c2), pl 7 (.slice A3 (Int.toNat all2) c3), pl 9 (.slice A8 list4.length c8), pl 10 (.int .i64 i3), pl 11 (.int .i64 a1), pl 12 (.int .i64 b1), pl 13 (.slice A10 r3.1.length c10), pl 75 (.slice A3 (Int.toNat all2) c3), pl 77 (.int .i64 r5), pl 78 (.slice A3 (Int.toNat all2) c3), pl 83 (.int .i64 r6)] hF hS (by kernel_rfl) (by kernel_rfl) ?_ (fun a w hF hS => ?_)
                            · exact obs_cons (ob_call Try.func92 (by kernel_rfl) rfl (fun _ _ hS => gameroomref_discNumber_w hr6 hS (fun _ hS => ((hS.at_ 2 rfl).rdRows.row _ hb2).1) ((hS.at_ 2 rfl).rdRows.row _ hb2).2 rfl)) <| obs_nil
                            refine any_fin rfl hS ?_
                            refine any_step [9] (by kernel_rfl) rfl ?_
                            refine (all_cons ?_ all_nil)
                            · refine any_op (listed' := #[true, true, true, true, true, true, true, true, true, true, false, false, false, false]) (by kernel_rfl) (by kernel_rfl) ?_
                              refine at_runW 1 [⟨true, [], vS (Instr.indexAt 40 (.slice A3 (Int.toNat all2) c3) (.int .i64 r6)), .pointer (some (sAddr A3 r6))⟩] [some (.pointer (some (sAddr A3 r6)))] [1, 7, 9, 10, 11, 12, 13, 75, 77, 84] [pl 1 (.slice A2 t1.length c2), pl 7 (.slice A3 (Int.toNat all2) c3), pl 9 (.slice A8 list4.length c8), pl 10 (.int .i64 i3), pl 11 (.int .i64 a1), pl 12 (.int .i64 b1), pl 13 (.slice A10 r3.1.length c10), pl 75 (.slice A3 (Int.toNat all2) c3), pl 77 (.int .i64 r5), pl 84 (.pointer (some (sAddr A3 r6)))] hF hS (by kernel_rfl) (by kernel_rfl) ?_ (fun a hF => ?_)
                              · exact obs_cons (ob_ix1 (f := (Value.int .i64)) (m := far7) Und40 hi3 hs3 (hS.at_ 1 rfl).rd ((hS.at_ 1 rfl).len1) (fun _ => hp7)) <| obs_nil
                              refine any_finI rfl (fun h => h) ?_
                              refine any_step [10] (by kernel_rfl) rfl ?_
                              refine (all_cons ?_ all_nil)
                              · refine any_op (listed' := #[true, true, true, true, true, true, true, true, true, true, true, false, false, false]) (by kernel_rfl) (by kernel_rfl) ?_
                                refine at_runW 1 [⟨false, [], vS (Instr.loadAt 3 (.pointer (some (sAddr A3 r6)))), .int .i64 (geti far7 r6)⟩] [some (.int .i64 (geti far7 r6))] [1, 7, 9, 10, 11, 12, 13, 75, 77, 85] [pl 1 (.slice A2 t1.length c2), pl 7 (.slice A3 (Int.toNat all2) c3), pl 9 (.slice A8 list4.length c8), pl 10 (.int .i64 i3), pl 11 (.int .i64 a1), pl 12 (.int .i64 b1), pl 13 (.slice A10 r3.1.length c10), pl 75 (.slice A3 (Int.toNat all2) c3), pl 77 (.int .i64 r5), pl 85 (.int .i64 (geti far7 r6))] hF hS (by kernel_rfl) (by kernel_rfl) ?_ (fun a hF => ?_)
                                · exact obs_cons (ob_get1 (n := (Int.toNat all2)) (m := far7) (Value.int .i64) (0 : Int) Agg3 (fun _ hS => ⟨_, (hS.at_ 1 rfl).rd⟩) (fun _ hS => ((hS.at_ 1 rfl).len1)) (fun _ => hp7)) <| obs_nil
                                refine any_finI rfl (fun h => h) ?_
                                refine any_step [11] (by kernel_rfl) rfl ?_
                                refine (all_cons ?_ all_nil)
                                · refine any_op (listed' := #[true, true, true, true, true, true, true, true, true, true, true, true, false, false]) (by kernel_rfl) (by kernel_rfl) ?_
                                  refine at_runW 1 [] [] [1, 7, 9, 10, 11, 12, 13, 75, 77, 86] [pl 1 (.slice A2 t1.length c2), pl 7 (.slice A3 (Int.toNat all2) c3), pl 9 (.slice A8 list4.length c8), pl 10 (.int .i64 i3), pl 11 (.int .i64 a1), pl 12 (.int .i64 b1), pl 13 (.slice A10 r3.1.length c10), pl 75 (.slice A3 (Int.toNat all2) c3), pl 77 (.int .i64 r5), pl 86 (.int .i64 (w64 ((geti far7 r6) + 1)))] hF hS (by kernel_rfl) (by kernel_rfl) ?_ (fun a hF => ?_)
                                  · exact obs_nil
                                  refine any_finI rfl (fun h => h) ?_
                                  refine any_step [12] (by kernel_rfl) rfl ?_
                                  refine (all_cons ?_ all_nil)
                                  · refine any_op (listed' := #[true, true, true, true, true, true, true, true, true, true, true, true, true, false]) (by kernel_rfl) (by kernel_rfl) ?_
                                    refine at_runW 1 [⟨true, [], vS (Instr.indexAt 40 (.slice A3 (Int.toNat all2) c3) (.int .i64 r5)), .pointer (some (sAddr A3 r5))⟩] [some (.pointer (some (sAddr A3 r5)))] [1, 7, 9, 10, 11, 12, 13, 86, 87] [pl 1 (.slice A2 t1.length c2), pl 7 (.slice A3 (Int.toNat all2) c3), pl 9 (.slice A8 list4.length c8), pl 10 (.int .i64 i3), pl 11 (.int .i64 a1), pl 12 (.int .i64 b1), pl 13 (.slice A10 r3.1.length c10), pl 86 (.int .i64 (w64 ((geti far7 r6) + 1))), pl 87 (.pointer (some (sAddr A3 r5)))] hF hS (by kernel_rfl) (by kernel_rfl) ?_ (fun a hF => ?_)
                                    · exact obs_cons (ob_ix1 (f := (Value.int .i64)) (m := far7) Und40 hi3 hs3 (hS.at_ 1 rfl).rd ((hS.at_ 1 rfl).len1) (fun _ => hp8)) <| obs_nil
                                    refine any_finI rfl (fun h => h) ?_
                                    refine any_step [13] (by kernel_rfl) rfl ?_
                                    refine (all_cons ?_ all_nil)
                                    · refine any_op (listed' := #[true, true, true, true, true, true, true, true, true, true, true, true, true, true]) (by kernel_rfl) (by kernel_rfl) ?_
                                      obtain ⟨w, hrun, hS⟩ := run_set1 (P := Try.prog) (t := 3) (x := (w64 ((geti far7 r6) + 1))) (Value.int .i64) (hS.at_ 1 rfl) hi3 hs3 rfl rfl hp8
                                      refine at_skip hF (by kernel_rfl) hrun ?_
                                      have hS : Sep w0 B w (own 3 (.slice A10 r3.1.length c10) (vI r3.1) :: own 3 (.slice A3 (Int.toNat all2) c3) (vI (far7.set (Int.toNat r5) (w64 ((geti far7 r6) + 1)))) :: rows 40 3 (.slice A8 list4.length c8) hd4 list4 :: fs) := hS
                                      refine any_finE rfl (by decide) ?_
                                      refine any_end (by kernel_rfl) ?_
                                      refine np_n ?_
                                      refine then_n ?_
                                      have hS := hS.pickN 3 [1, 2, 0] (by decide)
                                      exact ⟨(far7.set (Int.toNat r5) (w64 ((geti far7 r6) + 1))), hF.weak [1, 7, 9, 10, 11, 12, 13] (by kernel_rfl), hS, hm⟩
                    · replace hm := if_f hm hb
                      refine wp_skip ?_
                      refine block_n ?_
                      refine then_n ?_
                      have hS := hS.pickN 3 [1, 2] (by decide)
                      exact ⟨far7, list4, A8, c8, hd4, hF.weak [1, 7, 9, 10, 11, 12] (by kernel_rfl), hS, hm⟩
                · refine reg [] [] [1, 7, 9, 10, 11, 12, 51] [pl 1 (.slice A2 t1.length c2), pl 7 (.slice A3 (Int.toNat all2) c3), pl 9 (.slice A8 list4.length c8), pl 10 (.int .i64 i3), pl 11 (.int .i64 a1), pl 12 (.int .i64 b1), pl 51 (.bool (decide (b1 < 3)))] hF hS Fol (by kernel_rfl) (by kernel_rfl) (by kernel_rfl) ?_ (fun a w hF hS => ?_)
                  · exact obs_nil
                  refine cond_ev (t := 51) (b := decide (b1 < 3)) hF (by kernel_rfl) (fun hb => ?_) (fun hb => ?_)
                  · replace hm := if_t hm hb
                    refine wp_skip ?_
                    refine then_n ?_
                    exact ⟨hF.weak [1, 7, 9, 10, 11, 12] (by kernel_rfl), hS, hm⟩
                  · replace hm := if_f hm hb
                    refine wp_exit ?_
                    refine then_e (then_e (block_e (block_n (then_n ?_))))
                    rw [← hφ5] at hm
                    replace hm := done_b hm
                    unfold gameroomref_DiscsFar_K5 at hm
                    try dsimp only at hm
                    have hm : ((gameroomref_DiscsFar_J11 a1) far7 list4).bind φ4 = some r := hm
                    exact ⟨far7, list4, A8, c8, hd4, hF.weak [1, 7, 9, 10, 11] (by kernel_rfl), hS, hm⟩
            · refine reg [] [] [1, 7, 9, 10, 11, 47] [pl 1 (.slice A2 t1.length c2), pl 7 (.slice A3 (Int.toNat all2) c3), pl 9 (.slice A6 list2.length c6), pl 10 (.int .i64 i3), pl 11 (.int .i64 a1), pl 47 (.bool (decide (a1 < 3)))] hF hS Fol (by kernel_rfl) (by kernel_rfl) (by kernel_rfl) ?_ (fun a w hF hS => ?_)
              · exact obs_nil
              refine cond_ev (t := 47) (b := decide (a1 < 3)) hF (by kernel_rfl) (fun hb => ?_) (fun hb => ?_)
              · replace hm := if_t hm hb
                refine wp_skip ?_
                refine then_n ?_
                exact ⟨hF.weak [1, 7, 9, 10, 11] (by kernel_rfl), hS, hm⟩
              · replace hm := if_f hm hb
                refine wp_exit ?_
                refine then_e (then_e (block_e (block_n (then_n ?_))))
                rw [← hφ4] at hm
                replace hm := done_b hm
                unfold gameroomref_DiscsFar_K4 at hm
                try dsimp only at hm
                have hm : ((gameroomref_DiscsFar_J9 i3) far5 list2).bind φ3 = some r := hm
                exact ⟨far5, list2, A6, c6, hd2, hF.weak [1, 7, 9, 10] (by kernel_rfl), hS, hm⟩
        · refine reg [] [] [1, 7, 9, 10, 43] [pl 1 (.slice A2 t1.length c2), pl 7 (.slice A3 (Int.toNat all2) c3), pl 9 (.slice A5 list1.length c5), pl 10 (.int .i64 i3), pl 43 (.bool (decide (i3 < (list1.length : Int))))] hF hS Fol (by kernel_rfl) (by kernel_rfl) (by kernel_rfl) ?_ (fun a w hF hS => ?_)
          · exact obs_nil
          refine cond_ev (t := 43) (b := decide (i3 < (list1.length : Int))) hF (by kernel_rfl) (fun hb => ?_) (fun hb => ?_)
          · replace hm := if_t hm hb
            refine wp_skip ?_
            refine then_n ?_
            exact ⟨hF.weak [1, 7, 9, 10] (by kernel_rfl), hS, hm⟩
          · replace hm := if_f hm hb
            refine wp_exit ?_
            refine then_e (then_e (block_e (then_n ?_)))
            have hS := hS.pickN 2 [0] (by decide)
            rw [← hφ3] at hm
            replace hm := done_b hm
            unfold gameroomref_DiscsFar_K3 at hm
            try dsimp only at hm
            have hm : ((gameroomref_DiscsFar_J7 t1 all2) far3).bind some = some r := hm
            exact ⟨far3, hF.weak [1, 7] (by kernel_rfl), hS, hm⟩
    · refine reg [] [] [0, 1, 5, 7, 8] [pl 0 (.slice A1 s1.length c1), pl 1 (.slice A2 t1.length c2), pl 5 (.int .i64 all2), pl 7 (.slice A3 (Int.toNat all2) c3), pl 8 (.int .i64 0)] hF hS Fol (by kernel_rfl) (by kernel_rfl) (by kernel_rfl) ?_ (fun a w hF hS => ?_)
      · exact obs_nil
      refine wp_block ?_
      refine wp_loop_model (S := (List Int × Int)) (R := (List Int)) (gameroomref_DiscsFar_L2 all2) (fun x => ((gameroomref_DiscsFar_K2 s1 t1 all2) x).bind some) r (fun (x : (List Int × Int)) a w => Fr 97 [pl 0 (.slice A1 s1.length c1), pl 1 (.slice A2 t1.length c2), pl 5 (.int .i64 all2), pl 7 (.slice A3 (Int.toNat all2) c3), pl 8 (.int .i64 x.2)] a ∧ Sep w0 B w (own 3 (.slice A3 (Int.toNat all2) c3) (vI x.1) :: fs)) (assoc_b hm) ⟨hF.weak [0, 1, 5, 7, 8] (by kernel_rfl), hS⟩ ?_
      clear hF hS hm
      rintro nn2 ⟨far1, i2⟩ a w ⟨hF, hS⟩ hm
      generalize hφ2 : stK (gameroomref_DiscsFar_L2 all2) nn2 (fun x => ((gameroomref_DiscsFar_K2 s1 t1 all2) x).bind some) = φ2 at hm
      unfold gameroomref_DiscsFar_L2 at hm
      dsimp only at hF hS hm
      refine seq_cut (fun a w => Fr 97 [pl 0 (.slice A1 s1.length c1), pl 1 (.slice A2 t1.length c2), pl 5 (.int .i64 all2), pl 7 (.slice A3 (Int.toNat all2) c3), pl 8 (.int .i64 i2)] a ∧ Sep w0 B w (own 3 (.slice A3 (Int.toNat all2) c3) (vI far1) :: fs) ∧ ((gameroomref_DiscsFar_J5 all2 far1 i2)).bind φ2 = some r) ?_ ?_
      · rintro a w ⟨hF, hS, hm⟩
        unfold gameroomref_DiscsFar_J5 at hm
        refine seq_cut (fun a w => Fr 97 [pl 0 (.slice A1 s1.length c1), pl 1 (.slice A2 t1.length c2), pl 5 (.int .i64 all2), pl 7 (.slice A3 (Int.toNat all2) c3), pl 8 (.int .i64 i2)] a ∧ Sep w0 B w (own 3 (.slice A3 (Int.toNat all2) c3) (vI (far1.set (Int.toNat i2) (-1))) :: fs) ∧ ((gameroomref_DiscsFar_J6 far1 i2)).bind φ2 = some r) ?_ ?_
        · rintro a w ⟨hF, hS, hm⟩
          unfold gameroomref_DiscsFar_J6 at hm
          refine reg1 [] [] [0, 1, 5, 7, 8] [pl 0 (.slice A1 s1.length c1), pl 1 (.slice A2 t1.length c2), pl 5 (.int .i64 all2), pl 7 (.slice A3 (Int.toNat all2) c3), pl 8 (.int .i64 (w64 (i2 + 1)))] hF hS Fol (by kernel_rfl) (by kernel_rfl) (by kernel_rfl) ?_ (fun a w hF hS => ?_)
          · exact obs_nil
          refine then_n ?_
          rw [← hφ2] at hm
          exact ⟨((far1.set (Int.toNat i2) (-1)), (w64 (i2 + 1))), ⟨hF.weak [0, 1, 5, 7, 8] (by kernel_rfl), hS⟩, hm⟩
        · refine wp_block ?_
          refine oneR ?_
          obtain ⟨hp2, hm⟩ := asrt_b hm
          refine at_run 3 [⟨true, [], vS (Instr.indexAt 40 (.slice A3 (Int.toNat all2) c3) (.int .i64 i2)), .pointer (some (sAddr A3 i2))⟩] [none, none, some (.pointer (some (sAddr A3 i2)))] [0, 1, 5, 7, 8, 32] [pl 0 (.slice A1 s1.length c1), pl 1 (.slice A2 t1.length c2), pl 5 (.int .i64 all2), pl 7 (.slice A3 (Int.toNat all2) c3), pl 8 (.int .i64 i2), pl 32 (.pointer (some (sAddr A3 i2)))] hF hS (by kernel_rfl) (by kernel_rfl) ?_ (fun a w hF hS => ?_)
          · exact obs_cons (ob_ix1 (f := (Value.int .i64)) (m := far1) Und40 hi3 hs3 (hS.at_ 0 rfl).rd ((hS.at_ 0 rfl).len1) (fun _ => hp2)) <| obs_nil
          obtain ⟨w, hrun, hS⟩ := run_set1 (P := Try.prog) (t := 3) (x := (-1)) (Value.int .i64) (hS.at_ 0 rfl) hi3 hs3 rfl rfl hp2
          refine at_skip hF (by kernel_rfl) hrun ?_
          have hS : Sep w0 B w (own 3 (.slice A3 (Int.toNat all2) c3) (vI (far1.set (Int.toNat i2) (-1))) :: fs) := hS
          refine at_end [0, 1, 5, 7, 8] [pl 0 (.slice A1 s1.length c1), pl 1 (.slice A2 t1.length c2), pl 5 (.int .i64 all2), pl 7 (.slice A3 (Int.toNat all2) c3), pl 8 (.int .i64 i2)] hF rfl (by kernel_rfl) (fun hF => ?_)
          refine block_n ?_
          refine then_n ?_
          exact ⟨hF.weak [0, 1, 5, 7, 8] (by kernel_rfl), hS, hm⟩
      · refine reg [] [] [0, 1, 5, 7, 8, 27] [pl 0 (.slice A1 s1.length c1), pl 1 (.slice A2 t1.length c2), pl 5 (.int .i64 all2), pl 7 (.slice A3 (Int.toNat all2) c3), pl 8 (.int .i64 i2), pl 27 (.bool (decide (i2 < all2)))] hF hS Fol (by kernel_rfl) (by kernel_rfl) (by kernel_rfl) ?_ (fun a w hF hS => ?_)
        · exact obs_nil
        refine cond_ev (t := 27) (b := decide (i2 < all2)) hF (by kernel_rfl) (fun hb => ?_) (fun hb => ?_)
        · replace hm := if_t hm hb
          refine wp_skip ?_
          refine then_n ?_
          exact ⟨hF.weak [0, 1, 5, 7, 8] (by kernel_rfl), hS, hm⟩
        · replace hm := if_f hm hb
          refine wp_exit ?_
          refine then_e (then_e (block_e (then_n ?_)))
          rw [← hφ2] at hm
          replace hm := done_b hm
          unfold gameroomref_DiscsFar_K2 at hm
          try dsimp only at hm
          have hm : ((gameroomref_DiscsFar_J4 s1 t1 all2) far1).bind some = some r := hm
          exact ⟨far1, hF.weak [0, 1, 7] (by kernel_rfl), hS, hm⟩
  · refine reg [] [] [0, 1, 5, 6] [pl 0 (.slice A1 s1.length c1), pl 1 (.slice A2 t1.length c2), pl 5 (.int .i64 1), pl 6 (.int .i64 0)] hF hS Fol (by kernel_rfl) (by kernel_rfl) (by kernel_rfl) ?_ (fun a w hF hS => ?_)
    · exact obs_nil
    refine wp_block ?_
    refine wp_loop_model (S := (Int × Int)) (R := Int) (gameroomref_DiscsFar_L1 s1) (fun x => ((gameroomref_DiscsFar_K1 s1 t1) x).bind some) r (fun (x : (Int × Int)) a w => Fr 97 [pl 0 (.slice A1 s1.length c1), pl 1 (.slice A2 t1.length c2), pl 5 (.int .i64 x.1), pl 6 (.int .i64 x.2)] a ∧ Sep w0 B w (fs)) (assoc_b hm) ⟨hF.weak [0, 1, 5, 6] (by kernel_rfl), hS⟩ ?_
    clear hF hS hm
    rintro nn1 ⟨all1, i1⟩ a w ⟨hF, hS⟩ hm
    generalize hφ1 : stK (gameroomref_DiscsFar_L1 s1) nn1 (fun x => ((gameroomref_DiscsFar_K1 s1 t1) x).bind some) = φ1 at hm
    unfold gameroomref_DiscsFar_L1 at hm
    dsimp only at hF hS hm
    refine seq_cut (fun a w => Fr 97 [pl 0 (.slice A1 s1.length c1), pl 1 (.slice A2 t1.length c2), pl 5 (.int .i64 all1), pl 6 (.int .i64 i1)] a ∧ Sep w0 B w (fs) ∧ ((gameroomref_DiscsFar_J2 all1 i1)).bind φ1 = some r) ?_ ?_
    · rintro a w ⟨hF, hS, hm⟩
      unfold gameroomref_DiscsFar_J2 at hm
      refine seq_cut (fun a w => Fr 97 [pl 0 (.slice A1 s1.length c1), pl 1 (.slice A2 t1.length c2), pl 5 (.int .i64 (w64 (3 * all1))), pl 6 (.int .i64 i1)] a ∧ Sep w0 B w (fs) ∧ ((gameroomref_DiscsFar_J3 all1 i1)).bind φ1 = some r) ?_ ?_
      · rintro a w ⟨hF, hS, hm⟩
        unfold gameroomref_DiscsFar_J3 at hm
        refine reg1 [] [] [0, 1, 5, 6] [pl 0 (.slice A1 s1.length c1), pl 1 (.slice A2 t1.length c2), pl 5 (.int .i64 (w64 (3 * all1))), pl 6 (.int .i64 (w64 (i1 + 1)))] hF hS Fol (by kernel_rfl) (by kernel_rfl) (by kernel_rfl) ?_ (fun a w hF hS => ?_)
        · exact obs_nil
        refine then_n ?_
        rw [← hφ1] at hm
        exact ⟨((w64 (3 * all1)), (w64 (i1 + 1))), ⟨hF.weak [0, 1, 5, 6] (by kernel_rfl), hS⟩, hm⟩
      · refine wp_block ?_
        refine reg1 [] [] [0, 1, 5, 6] [pl 0 (.slice A1 s1.length c1), pl 1 (.slice A2 t1.length c2), pl 5 (.int .i64 (w64 (3 * all1))), pl 6 (.int .i64 i1)] hF hS Fol (by kernel_rfl) (by kernel_rfl) (by kernel_rfl) ?_ (fun a w hF hS => ?_)
        · exact obs_nil
        refine block_n ?_
        refine then_n ?_
        exact ⟨hF.weak [0, 1, 5, 6] (by kernel_rfl), hS, hm⟩
    · refine reg [] [] [0, 1, 5, 6, 18] [pl 0 (.slice A1 s1.length c1), pl 1 (.slice A2 t1.length c2), pl 5 (.int .i64 all1), pl 6 (.int .i64 i1), pl 18 (.bool (decide (i1 < (s1.length : Int))))] hF hS Fol (by kernel_rfl) (by kernel_rfl) (by kernel_rfl) ?_ (fun a w hF hS => ?_)
      · exact obs_nil
      refine cond_ev (t := 18) (b := decide (i1 < (s1.length : Int))) hF (by kernel_rfl) (fun hb => ?_) (fun hb => ?_)
      · replace hm := if_t hm hb
        refine wp_skip ?_
        refine then_n ?_
        exact ⟨hF.weak [0, 1, 5, 6] (by kernel_rfl), hS, hm⟩
      · replace hm := if_f hm hb
        refine wp_exit ?_
        refine then_e (then_e (block_e (then_n ?_)))
        rw [← hφ1] at hm
        replace hm := done_b hm
        unfold gameroomref_DiscsFar_K1 at hm
        try dsimp only at hm
        have hm : ((gameroomref_DiscsFar_J1 s1 t1) all1).bind some = some r := hm
        exact ⟨all1, hF.weak [0, 1, 5] (by kernel_rfl), hS, hm⟩

noncomputable def gameroomlaw_HanoiWays_J9 (peg1 : Int) (all1 : List Int) (i1 : Int) : Option (St (List Int × Int) (List Int)) :=
  some (.next ((all1.set (Int.toNat i1) peg1), (w64 (i1 + 1))))

noncomputable def gameroomlaw_HanoiWays_J8 (s1 : List Int) (peg1 : Int) (all1 : List Int) (i1 : Int) : Option (St (List Int × Int) (List Int)) :=
  asrt (0 ≤ i1 ∧ i1 < (((Int.toNat (s1.length : Int)) : Nat) : Int)) <| (gameroomlaw_HanoiWays_J9 peg1 all1 i1)

noncomputable def gameroomlaw_HanoiWays_L1 (s1 : List Int) (peg1 : Int) : (List Int × Int) → Option (St (List Int × Int) (List Int)) :=
  fun (x : (List Int × Int)) => match x with | (all1, i1) => if (decide (i1 < (s1.length : Int))) then ((gameroomlaw_HanoiWays_J8 s1 peg1 all1 i1)) else (some (.done all1))

noncomputable def gameroomlaw_HanoiWays_J12 (i2 : Int) (now3 : List Int) : Option (St (List Int × Int) (Fl (List Int) Bool)) :=
  some (.next (now3, (w64 (i2 + 1))))

noncomputable def gameroomlaw_HanoiWays_J13 (i2 : Int) (r11 : (List Int × Int)) : Option (St (List Int × Int) (Fl (List Int) Bool)) :=
  (gameroomlaw_HanoiWays_J12 i2) r11.1

noncomputable def gameroomlaw_HanoiWays_J11 (r5 : (List (Int × Int × Int) × Int)) (now1 : List Int) (i2 : Int) : Option (St (List Int × Int) (Fl (List Int) Bool)) :=
  asrt (0 ≤ i2 ∧ i2 < (r5.1.length : Int)) <| (gameroomref_DiscMove_m now1 ((getd ((0, 0, 0) : (Int × Int × Int)) r5.1 i2).1) ((getd ((0, 0, 0) : (Int × Int × Int)) r5.1 i2).2.1) ((getd ((0, 0, 0) : (Int × Int × Int)) r5.1 i2).2.2)).bind fun r11 => asrt ((r11.2 != 0) = false → 0 ≤ i2 ∧ i2 < (r5.1.length : Int)) <| if ((r11.2 != 0) || (((getd ((0, 0, 0) : (Int × Int × Int)) r5.1 i2).2.2) != 0)) then (some (.done (.ret false))) else ((gameroomlaw_HanoiWays_J13 i2 r11))

noncomputable def gameroomlaw_HanoiWays_L2 (r5 : (List (Int × Int × Int) × Int)) : (List Int × Int) → Option (St (List Int × Int) (Fl (List Int) Bool)) :=
  fun (x : (List Int × Int)) => match x with | (now1, i2) => if (decide (i2 < (r5.1.length : Int))) then ((gameroomlaw_HanoiWays_J11 r5 now1 i2)) else (some (.done (.go now1)))

noncomputable def gameroomlaw_HanoiWays_J10 (s1 : List Int) (r5 : (List (Int × Int × Int) × Int)) (all2 : List Int) (now2 : List Int) : Option Bool :=
  ((if (r5.2 == 0) then gameroomlaw_sameInts_m now2 all2 else some false)).bind fun r12 => ((if ((r5.2 == 0) && r12) then gameroomref_DiscsBetween_m s1 all2 else some 0)).bind fun r13 => some (((r5.2 == 0) && r12) && ((r5.1.length : Int) == r13))

noncomputable def gameroomlaw_HanoiWays_K2 (s1 : List Int) (r5 : (List (Int × Int × Int) × Int)) (all2 : List Int) : (Fl (List Int) Bool) → Option Bool :=
  fun (x : (Fl (List Int) Bool)) => match x with | .go now2 => (gameroomlaw_HanoiWays_J10 s1 r5 all2) now2 | .ret x => some x

noncomputable def gameroomlaw_HanoiWays_J7 (s1 : List Int) (r5 : (List (Int × Int × Int) × Int)) (r10 : (List Int)) (all2 : List Int) : Option Bool :=
  (loop (gameroomlaw_HanoiWays_L2 r5) (r10, 0)).bind (gameroomlaw_HanoiWays_K2 s1 r5 all2)

noncomputable def gameroomlaw_HanoiWays_K1 (s1 : List Int) (r5 : (List (Int × Int × Int) × Int)) (r10 : (List Int)) : (List Int) → Option Bool :=
  fun (x : (List Int)) => match x with | all2 => (gameroomlaw_HanoiWays_J7 s1 r5 r10) all2

noncomputable def gameroomlaw_HanoiWays_J6 (s1 : List Int) (peg1 : Int) (r5 : (List (Int × Int × Int) × Int)) : Option Bool :=
  (gameroomlaw_ints_m s1).bind fun r10 => asrt ((0 : Int) ≤ (s1.length : Int) ∧ (s1.length : Int) ≤ bigN) <| (loop (gameroomlaw_HanoiWays_L1 s1 peg1) ((List.replicate (Int.toNat (s1.length : Int)) (0 : Int)), 0)).bind (gameroomlaw_HanoiWays_K1 s1 r5 r10)

noncomputable def gameroomlaw_HanoiWays_J5 (s1 : List Int) (peg1 : Int) (r5 : (List (Int × Int × Int) × Int)) : Option Bool :=
  if (decide ((10 : Int) < (s1.length : Int))) then (some ((r5.2 == 11) && ((r5.1.length : Int) == 0))) else ((gameroomlaw_HanoiWays_J6 s1 peg1 r5))

noncomputable def gameroomlaw_HanoiWays_J3 (s1 : List Int) (peg1 : Int) (r5 : (List (Int × Int × Int) × Int)) : Option Bool :=
  if ((decide (peg1 < 0)) || (decide ((2 : Int) < peg1))) then (some ((r5.2 == 5) && ((r5.1.length : Int) == 0))) else ((gameroomlaw_HanoiWays_J5 s1 peg1 r5))

noncomputable def gameroomlaw_HanoiWays_J4 (s1 : List Int) (peg1 : Int) (r3 : (Int × Int)) (r5 : (List (Int × Int × Int) × Int)) (want1 : Int) : Option Bool :=
  if ((r3.2 != 0) || (r3.1 != want1)) then (some false) else ((gameroomlaw_HanoiWays_J3 s1 peg1 r5))

noncomputable def gameroomlaw_HanoiWays_J2 (s1 : List Int) (t1 : List Int) (peg1 : Int) (r3 : (Int × Int)) (r5 : (List (Int × Int × Int) × Int)) (other1 : Int) : Option Bool :=
  if (other1 != 0) then (if ((r3.2 != other1) || (r3.1 != 0)) then (some false) else ((gameroomlaw_HanoiWays_J3 s1 peg1 r5))) else ((gameroomref_DiscsBetween_m s1 t1).bind fun r8 => if (decide ((s1.length : Int) ≤ 6)) then ((gameroomref_DiscsFar_m s1 t1).bind fun r9 => (gameroomlaw_HanoiWays_J4 s1 peg1 r3 r5) r9) else ((gameroomlaw_HanoiWays_J4 s1 peg1 r3 r5) r8))

noncomputable def gameroomlaw_HanoiWays_J1 (s1 : List Int) (t1 : List Int) (peg1 : Int) (r3 : (Int × Int)) (r5 : (List (Int × Int × Int) × Int)) : Option Bool :=
  (gameroomref_DiscsMay_m t1).bind fun r7 => if ((r7 == 0) && ((s1.length : Int) != (t1.length : Int))) then ((gameroomlaw_HanoiWays_J2 s1 t1 peg1 r3 r5) 11) else ((gameroomlaw_HanoiWays_J2 s1 t1 peg1 r3 r5) r7)

noncomputable def gameroomlaw_HanoiWays_m (s1 : List Int) (t1 : List Int) (peg1 : Int) : Option Bool :=
  (gameroomlaw_ints_m s1).bind fun r1 => (gameroomlaw_ints_m t1).bind fun r2 => (hanoi_Far_m r1 r2).bind fun r3 => (gameroomlaw_ints_m s1).bind fun r4 => (hanoi_Way_m r4 peg1).bind fun r5 => (gameroomref_DiscsMay_m s1).bind fun r6 => if (r6 != 0) then (some ((((r3.2 == r6) && (r5.2 == r6)) && (r3.1 == 0)) && ((r5.1.length : Int) == 0))) else ((gameroomlaw_HanoiWays_J1 s1 t1 peg1 r3 r5))

set_option maxRecDepth 100000 in
set_option maxHeartbeats 4000000 in
theorem gameroomlaw_HanoiWays_w {A1 : Option Addr} {c1 : Nat} {n1 : Nat} {s1 : List Int} {A2 : Option Addr} {c2 : Nat} {n2 : Nat} {t1 : List Int} {peg1 : Int} {r : Bool} {w0 w : World} {B : Nat} {fs : List HP} (hm : gameroomlaw_HanoiWays_m s1 t1 peg1 = some r) (hS : Sep w0 B w (fs)) (hr_s1 : RdF w0 B fs A1 (vI s1)) (_hc_s1 : s1.length ≤ c1) (_hn_s1 : n1 = s1.length) (hr_t1 : RdF w0 B fs A2 (vI t1)) (_hc_t1 : t1.length ≤ c2) (_hn_t1 : n2 = t1.length) :
    Calls Try.prog 5 #[.slice A1 n1 c1, .slice A2 n2 c2, .int .i64 peg1] w fun e w' => e = .returned (.bool r) ∧ Sep w0 B w' (fs) := by
  obtain ⟨i3, hi3, hz3, hs3, hb3⟩ := info_parts Info3
  obtain ⟨i52, hi52, hz52, hs52, hb52⟩ := info_parts Info52
  obtain rfl := _hn_s1
  obtain rfl := _hn_t1
  unfold gameroomlaw_HanoiWays_m at hm
  replace hm := start_b hm
  refine enter (l := [.slice A1 s1.length c1, .slice A2 t1.length c2, .int .i64 peg1]) (n := 171) Try.func5 rfl rfl (by simp) (fun a hF => ?_)
  refine reg [] [] [0, 1, 2] [pl 0 (.slice A1 s1.length c1), pl 1 (.slice A2 t1.length c2), pl 2 (.int .i64 peg1)] hF hS Fol (by kernel_rfl) (by kernel_rfl) (by kernel_rfl) ?_ (fun a w hF hS => ?_)
  · exact obs_nil
  refine seqR ?_
  obtain ⟨r1, hr1, hm⟩ := call_b hm
  obtain ⟨r2, hr2, hm⟩ := call_b hm
  obtain ⟨r3, hr3, hm⟩ := call_b hm
  refine at_run 1 [] [] [0, 1, 2, 21] [pl 0 (.slice A1 s1.length c1), pl 1 (.slice A2 t1.length c2), pl 2 (.int .i64 peg1), pl 21 (.slice A1 s1.length c1)] hF hS (by kernel_rfl) (by kernel_rfl) ?_ (fun a w hF hS => ?_)
  · exact obs_nil
  refine at_call (f := 30) (args := #[.slice A1 s1.length c1]) (d := 22) hF (by kernel_rfl) (by kernel_rfl) Try.func30 (by kernel_rfl) rfl (gameroomlaw_ints_w hr1 hS (fun _ hS => (hr_s1 _ (hS.dropN 0))) _hc_s1 rfl) (fun v a w hR hF => ?_)
  clear hS
  obtain ⟨A3, c3, rfl, hS⟩ := hR
  have hS : Sep w0 B w (own 3 (.slice A3 r1.length c3) (vI r1) :: fs) := hS
  refine at_run 1 [] [] [0, 1, 2, 22, 23] [pl 0 (.slice A1 s1.length c1), pl 1 (.slice A2 t1.length c2), pl 2 (.int .i64 peg1), pl 22 (.slice A3 r1.length c3), pl 23 (.slice A2 t1.length c2)] hF hS (by kernel_rfl) (by kernel_rfl) ?_ (fun a w hF hS => ?_)
  · exact obs_nil
  refine at_call (f := 30) (args := #[.slice A2 t1.length c2]) (d := 24) hF (by kernel_rfl) (by kernel_rfl) Try.func30 (by kernel_rfl) rfl (gameroomlaw_ints_w hr2 hS (fun _ hS => (hr_t1 _ (hS.dropN 1))) _hc_t1 rfl) (fun v a w hR hF => ?_)
  clear hS
  obtain ⟨A4, c4, rfl, hS⟩ := hR
  have hS : Sep w0 B w (own 3 (.slice A4 r2.length c4) (vI r2) :: own 3 (.slice A3 r1.length c3) (vI r1) :: fs) := hS
  refine at_run 6 [⟨false, [], callFunc 29 #[.slice A3 r1.length c3, .slice A4 r2.length c4], .tuple #[.int .i64 r3.1, .int .i64 r3.2]⟩] [some (.tuple #[.int .i64 r3.1, .int .i64 r3.2]), none, none, none, none, none] [0, 1, 2, 7, 8] [pl 0 (.slice A1 s1.length c1), pl 1 (.slice A2 t1.length c2), pl 2 (.int .i64 peg1), pl 7 (.int .i64 r3.1), pl 8 (.int .i64 r3.2)] hF hS (by kernel_rfl) (by kernel_rfl) ?_ (fun a w hF hS => ?_)
  · exact obs_cons (ob_call Try.func29 (by kernel_rfl) rfl (fun _ _ hS => hanoi_Far_w hr3 hS (fun _ hS => (hS.at_ 1 rfl).rd) ((hS.at_ 1 rfl).cap1) rfl (fun _ hS => (hS.at_ 0 rfl).rd) ((hS.at_ 0 rfl).cap1) rfl)) <| obs_nil
  refine at_end [0, 1, 2, 7, 8] [pl 0 (.slice A1 s1.length c1), pl 1 (.slice A2 t1.length c2), pl 2 (.int .i64 peg1), pl 7 (.int .i64 r3.1), pl 8 (.int .i64 r3.2)] hF rfl (by kernel_rfl) (fun hF => ?_)
  refine then_n ?_
  refine seqR ?_
  obtain ⟨r4, hr4, hm⟩ := call_b hm
  obtain ⟨r5, hr5, hm⟩ := call_b hm
  refine at_run 1 [] [] [0, 1, 2, 7, 8, 29] [pl 0 (.slice A1 s1.length c1), pl 1 (.slice A2 t1.length c2), pl 2 (.int .i64 peg1), pl 7 (.int .i64 r3.1), pl 8 (.int .i64 r3.2), pl 29 (.slice A1 s1.length c1)] hF hS (by kernel_rfl) (by kernel_rfl) ?_ (fun a w hF hS => ?_)
  · exact obs_nil
  refine at_call (f := 30) (args := #[.slice A1 s1.length c1]) (d := 30) hF (by kernel_rfl) (by kernel_rfl) Try.func30 (by kernel_rfl) rfl (gameroomlaw_ints_w hr4 hS (fun _ hS => (hr_s1 _ (hS.dropN 2))) _hc_s1 rfl) (fun v a w hR hF => ?_)
  clear hS
  obtain ⟨A5, c5, rfl, hS⟩ := hR
  have hS : Sep w0 B w (own 3 (.slice A5 r4.length c5) (vI r4) :: own 3 (.slice A4 r2.length c4) (vI r2) :: own 3 (.slice A3 r1.length c3) (vI r1) :: fs) := hS
  refine at_run 1 [] [] [0, 1, 2, 7, 8, 30, 31] [pl 0 (.slice A1 s1.length c1), pl 1 (.slice A2 t1.length c2), pl 2 (.int .i64 peg1), pl 7 (.int .i64 r3.1), pl 8 (.int .i64 r3.2), pl 30 (.slice A5 r4.length c5), pl 31 (.int .i64 peg1)] hF hS (by kernel_rfl) (by kernel_rfl) ?_ (fun a w hF hS => ?_)
  · exact obs_nil
  refine at_call (f := 31) (args := #[.slice A5 r4.length c5, .int .i64 peg1]) (d := 32) hF (by kernel_rfl) (by kernel_rfl) Try.func31 (by kernel_rfl) rfl (hanoi_Way_w hr5 hS (fun _ hS => (hS.at_ 0 rfl).rd) ((hS.at_ 0 rfl).cap1) rfl) (fun v a w hR hF => ?_)
  clear hS
  obtain ⟨A6, c6, rfl, hS⟩ := hR
  have hS : Sep w0 B w (ownK 52 3 A6 r5.1.length c6 (List.flatMap enc52 r5.1) :: own 3 (.slice A5 r4.length c5) (vI r4) :: own 3 (.slice A4 r2.length c4) (vI r2) :: own 3 (.slice A3 r1.length c3) (vI r1) :: fs) := hS
  refine at_run 5 [] [] [0, 1, 2, 7, 8, 9, 10] [pl 0 (.slice A1 s1.length c1), pl 1 (.slice A2 t1.length c2), pl 2 (.int .i64 peg1), pl 7 (.int .i64 r3.1), pl 8 (.int .i64 r3.2), pl 9 (.slice A6 r5.1.length c6), pl 10 (.int .i64 r5.2)] hF hS (by kernel_rfl) (by kernel_rfl) ?_ (fun a w hF hS => ?_)
  · exact obs_nil
  refine at_end [0, 1, 2, 7, 8, 9, 10] [pl 0 (.slice A1 s1.length c1), pl 1 (.slice A2 t1.length c2), pl 2 (.int .i64 peg1), pl 7 (.int .i64 r3.1), pl 8 (.int .i64 r3.2), pl 9 (.slice A6 r5.1.length c6), pl 10 (.int .i64 r5.2)] hF rfl (by kernel_rfl) (fun hF => ?_)
  refine then_n ?_
  obtain ⟨r6, hr6, hm⟩ := call_b hm
  refine reg [⟨false, [], callFunc 32 #[.slice A1 s1.length c1], .int .i64 r6⟩] [none, some (.int .i64 r6), none] [0, 1, 2, 7, 8, 9, 10, 11] [pl 0 (.slice A1 s1.length c1), pl 1 (.slice A2 t1.length c2), pl 2 (.int .i64 peg1), pl 7 (.int .i64 r3.1), pl 8 (.int .i64 r3.2), pl 9 (.slice A6 r5.1.length c6), pl 10 (.int .i64 r5.2), pl 11 (.int .i64 r6)] hF hS Fol (by kernel_rfl) (by kernel_rfl) (by kernel_rfl) ?_ (fun a w hF hS => ?_)
  · exact obs_cons (ob_call Try.func32 (by kernel_rfl) rfl (fun _ _ hS => gameroomref_DiscsMay_w hr6 hS (fun _ hS => (hr_s1 _ (hS.dropN 4))) _hc_s1 rfl)) <| obs_nil
  refine seq_cut (fun a w => Fr 171 [pl 0 (.slice A1 s1.length c1), pl 1 (.slice A2 t1.length c2), pl 2 (.int .i64 peg1), pl 7 (.int .i64 r3.1), pl 8 (.int .i64 r3.2), pl 9 (.slice A6 r5.1.length c6), pl 10 (.int .i64 r5.2)] a ∧ Sep w0 B w (ownK 52 3 A6 r5.1.length c6 (List.flatMap enc52 r5.1) :: fs) ∧ ((gameroomlaw_HanoiWays_J1 s1 t1 peg1 r3 r5)).bind some = some r) ?_ ?_
  · rintro a w ⟨hF, hS, hm⟩
    unfold gameroomlaw_HanoiWays_J1 at hm
    obtain ⟨r7, hr7, hm⟩ := call_b hm
    refine reg [⟨false, [], callFunc 32 #[.slice A2 t1.length c2], .int .i64 r7⟩] [none, some (.int .i64 r7), none] [0, 1, 2, 7, 8, 9, 10, 12] [pl 0 (.slice A1 s1.length c1), pl 1 (.slice A2 t1.length c2), pl 2 (.int .i64 peg1), pl 7 (.int .i64 r3.1), pl 8 (.int .i64 r3.2), pl 9 (.slice A6 r5.1.length c6), pl 10 (.int .i64 r5.2), pl 12 (.int .i64 r7)] hF hS Fol (by kernel_rfl) (by kernel_rfl) (by kernel_rfl) ?_ (fun a w hF hS => ?_)
    · exact obs_cons (ob_call Try.func32 (by kernel_rfl) rfl (fun _ _ hS => gameroomref_DiscsMay_w hr7 hS (fun _ hS => (hr_t1 _ (hS.dropN 1))) _hc_t1 rfl)) <| obs_nil
    refine seq_cut (fun a w => ∃ (other1 : Int), Fr 171 [pl 0 (.slice A1 s1.length c1), pl 1 (.slice A2 t1.length c2), pl 2 (.int .i64 peg1), pl 7 (.int .i64 r3.1), pl 8 (.int .i64 r3.2), pl 9 (.slice A6 r5.1.length c6), pl 10 (.int .i64 r5.2), pl 12 (.int .i64 other1)] a ∧ Sep w0 B w (ownK 52 3 A6 r5.1.length c6 (List.flatMap enc52 r5.1) :: fs) ∧ ((gameroomlaw_HanoiWays_J2 s1 t1 peg1 r3 r5) other1).bind some = some r) ?_ ?_
    · rintro a w ⟨other1, hF, hS, hm⟩
      unfold gameroomlaw_HanoiWays_J2 at hm
      refine seq_cut (fun a w => Fr 171 [pl 0 (.slice A1 s1.length c1), pl 2 (.int .i64 peg1), pl 9 (.slice A6 r5.1.length c6), pl 10 (.int .i64 r5.2)] a ∧ Sep w0 B w (ownK 52 3 A6 r5.1.length c6 (List.flatMap enc52 r5.1) :: fs) ∧ ((gameroomlaw_HanoiWays_J3 s1 peg1 r5)).bind some = some r) ?_ ?_
      · rintro a w ⟨hF, hS, hm⟩
        unfold gameroomlaw_HanoiWays_J3 at hm
        refine seq_cut (fun a w => Fr 171 [pl 0 (.slice A1 s1.length c1), pl 2 (.int .i64 peg1), pl 9 (.slice A6 r5.1.length c6), pl 10 (.int .i64 r5.2)] a ∧ Sep w0 B w (ownK 52 3 A6 r5.1.length c6 (List.flatMap enc52 r5.1) :: fs) ∧ ((gameroomlaw_HanoiWays_J5 s1 peg1 r5)).bind some = some r) ?_ ?_
        · rintro a w ⟨hF, hS, hm⟩
          unfold gameroomlaw_HanoiWays_J5 at hm
          refine seq_cut (fun a w => Fr 171 [pl 0 (.slice A1 s1.length c1), pl 2 (.int .i64 peg1), pl 9 (.slice A6 r5.1.length c6), pl 10 (.int .i64 r5.2)] a ∧ Sep w0 B w (ownK 52 3 A6 r5.1.length c6 (List.flatMap enc52 r5.1) :: fs) ∧ ((gameroomlaw_HanoiWays_J6 s1 peg1 r5)).bind some = some r) ?_ ?_
          · rintro a w ⟨hF, hS, hm⟩
            unfold gameroomlaw_HanoiWays_J6 at hm
            refine seqR ?_
            obtain ⟨r10, hr10, hm⟩ := call_b hm
            refine at_run 1 [] [] [0, 2, 9, 10, 115] [pl 0 (.slice A1 s1.length c1), pl 2 (.int .i64 peg1), pl 9 (.slice A6 r5.1.length c6), pl 10 (.int .i64 r5.2), pl 115 (.slice A1 s1.length c1)] hF hS (by kernel_rfl) (by kernel_rfl) ?_ (fun a w hF hS => ?_)
            · exact obs_nil
            refine at_call (f := 30) (args := #[.slice A1 s1.length c1]) (d := 116) hF (by kernel_rfl) (by kernel_rfl) Try.func30 (by kernel_rfl) rfl (gameroomlaw_ints_w hr10 hS (fun _ hS => (hr_s1 _ (hS.dropN 1))) _hc_s1 rfl) (fun v a w hR hF => ?_)
            clear hS
            obtain ⟨A7, c7, rfl, hS⟩ := hR
            have hS : Sep w0 B w (own 3 (.slice A7 r10.length c7) (vI r10) :: ownK 52 3 A6 r5.1.length c6 (List.flatMap enc52 r5.1) :: fs) := hS
            refine at_run 1 [] [] [0, 2, 9, 10, 14] [pl 0 (.slice A1 s1.length c1), pl 2 (.int .i64 peg1), pl 9 (.slice A6 r5.1.length c6), pl 10 (.int .i64 r5.2), pl 14 (.slice A7 r10.length c7)] hF hS (by kernel_rfl) (by kernel_rfl) ?_ (fun a w hF hS => ?_)
            · exact obs_nil
            refine at_end [0, 2, 9, 10, 14] [pl 0 (.slice A1 s1.length c1), pl 2 (.int .i64 peg1), pl 9 (.slice A6 r5.1.length c6), pl 10 (.int .i64 r5.2), pl 14 (.slice A7 r10.length c7)] hF rfl (by kernel_rfl) (fun hF => ?_)
            refine then_n ?_
            refine seqR ?_
            obtain ⟨hp1, hm⟩ := asrt_b hm
            refine at_run 2 [] [] [0, 2, 9, 10, 14, 118] [pl 0 (.slice A1 s1.length c1), pl 2 (.int .i64 peg1), pl 9 (.slice A6 r5.1.length c6), pl 10 (.int .i64 r5.2), pl 14 (.slice A7 r10.length c7), pl 118 (.int .i64 (s1.length : Int))] hF hS (by kernel_rfl) (by kernel_rfl) ?_ (fun a w hF hS => ?_)
            · exact obs_nil
            obtain ⟨A8, c8, w, hrun, hS⟩ := run_mk1 (P := Try.prog) (t := 40) (Value.int .i64) (0 : Int) hS .i64 .i64 Und40 hi3 hz3 hs3 (by omega) rfl hp1
            have hS : Sep w0 B w (own 3 (.slice A8 (Int.toNat (s1.length : Int)) c8) (vI (List.replicate (Int.toNat (s1.length : Int)) (0 : Int))) :: own 3 (.slice A7 r10.length c7) (vI r10) :: ownK 52 3 A6 r5.1.length c6 (List.flatMap enc52 r5.1) :: fs) := hS
            refine at_do (d := 119) hF (by kernel_rfl) (by kernel_rfl) hrun (fun a hF => ?_)
            refine at_run 1 [] [] [0, 2, 9, 10, 14, 15] [pl 0 (.slice A1 s1.length c1), pl 2 (.int .i64 peg1), pl 9 (.slice A6 r5.1.length c6), pl 10 (.int .i64 r5.2), pl 14 (.slice A7 r10.length c7), pl 15 (.slice A8 (Int.toNat (s1.length : Int)) c8)] hF hS (by kernel_rfl) (by kernel_rfl) ?_ (fun a w hF hS => ?_)
            · exact obs_nil
            refine at_end [0, 2, 9, 10, 14, 15] [pl 0 (.slice A1 s1.length c1), pl 2 (.int .i64 peg1), pl 9 (.slice A6 r5.1.length c6), pl 10 (.int .i64 r5.2), pl 14 (.slice A7 r10.length c7), pl 15 (.slice A8 (Int.toNat (s1.length : Int)) c8)] hF rfl (by kernel_rfl) (fun hF => ?_)
            refine then_n ?_
            refine seq_cut (fun a w => ∃ (all2 : List Int), Fr 171 [pl 0 (.slice A1 s1.length c1), pl 9 (.slice A6 r5.1.length c6), pl 10 (.int .i64 r5.2), pl 14 (.slice A7 r10.length c7), pl 15 (.slice A8 (Int.toNat (s1.length : Int)) c8)] a ∧ Sep w0 B w (ownK 52 3 A6 r5.1.length c6 (List.flatMap enc52 r5.1) :: own 3 (.slice A7 r10.length c7) (vI r10) :: own 3 (.slice A8 (Int.toNat (s1.length : Int)) c8) (vI all2) :: fs) ∧ ((gameroomlaw_HanoiWays_J7 s1 r5 r10) all2).bind some = some r) ?_ ?_
            · rintro a w ⟨all2, hF, hS, hm⟩
              unfold gameroomlaw_HanoiWays_J7 at hm
              refine seq_cut (fun a w => ∃ (now2 : List Int) (A10 : Option Addr) (c10 : Nat), Fr 171 [pl 0 (.slice A1 s1.length c1), pl 9 (.slice A6 r5.1.length c6), pl 10 (.int .i64 r5.2), pl 14 (.slice A10 now2.length c10), pl 15 (.slice A8 (Int.toNat (s1.length : Int)) c8)] a ∧ Sep w0 B w (ownK 52 3 A6 r5.1.length c6 (List.flatMap enc52 r5.1) :: own 3 (.slice A10 now2.length c10) (vI now2) :: own 3 (.slice A8 (Int.toNat (s1.length : Int)) c8) (vI all2) :: fs) ∧ ((gameroomlaw_HanoiWays_J10 s1 r5 all2) now2).bind some = some r) ?_ ?_
              · rintro a w ⟨now2, A10, c10, hF, hS, hm⟩
                unfold gameroomlaw_HanoiWays_J10 at hm
                obtain ⟨r12, hr12, hm⟩ := call_b hm
                obtain ⟨r13, hr13, hm⟩ := call_b hm
                refine reg [⟨false, [((r5.2 == 0), true)], callFunc 36 #[.slice A10 now2.length c10, .slice A8 (Int.toNat (s1.length : Int)) c8], .bool r12⟩, ⟨false, [((r5.2 == 0) && r12, true)], callFunc 33 #[.slice A1 s1.length c1, .slice A8 (Int.toNat (s1.length : Int)) c8], .int .i64 r13⟩] [none, none, none, none, none, some (.bool r12), none, none, none, none, none, none, some (.int .i64 r13), none, none, none] [6] [pl 6 (.bool (((r5.2 == 0) && r12) && ((r5.1.length : Int) == r13)))] hF hS Fol (by kernel_rfl) (by kernel_rfl) (by kernel_rfl) ?_ (fun a w hF hS => ?_)
                · exact obs_cons (ob_call Try.func36 (by kernel_rfl) rfl (fun hy _ hS => gameroomlaw_sameInts_w (ite_some hr12 (by rw [show (r5.2 == 0) = true from hy ((r5.2 == 0), true) (by simp)]; try rfl)) hS (fun _ hS => (hS.at_ 1 rfl).rd) ((hS.at_ 1 rfl).cap1) rfl (fun _ hS => (hS.at_ 2 rfl).rd) ((hS.at_ 2 rfl).cap1) ((hS.at_ 2 rfl).len1))) <| obs_cons (ob_call Try.func33 (by kernel_rfl) rfl (fun hy _ hS => gameroomref_DiscsBetween_w (ite_some hr13 (by rw [show ((r5.2 == 0) && r12) = true from hy ((r5.2 == 0) && r12, true) (by simp)]; try rfl)) hS (fun _ hS => (hr_s1 _ (hS.dropN 3))) _hc_s1 rfl (fun _ hS => (hS.at_ 2 rfl).rd) ((hS.at_ 2 rfl).cap1) ((hS.at_ 2 rfl).len1))) <| obs_nil
                refine wp_ret ?_
                have hS := hS.pickN 3 [] (by decide)
                have hm : some (((r5.2 == 0) && r12) && ((r5.1.length : Int) == r13)) = some r := hm
                obtain rfl := Option.some.inj hm
                exact retV (rs := [.tmp 6]) (vs := [.bool (((r5.2 == 0) && r12) && ((r5.1.length : Int) == r13))]) hF rfl (rv_t (by kernel_rfl) <| rv_nil) rfl ⟨rfl, hS⟩
              · refine reg [] [] [0, 9, 10, 14, 15, 17] [pl 0 (.slice A1 s1.length c1), pl 9 (.slice A6 r5.1.length c6), pl 10 (.int .i64 r5.2), pl 14 (.slice A7 r10.length c7), pl 15 (.slice A8 (Int.toNat (s1.length : Int)) c8), pl 17 (.int .i64 0)] hF hS Fol (by kernel_rfl) (by kernel_rfl) (by kernel_rfl) ?_ (fun a w hF hS => ?_)
                · exact obs_nil
                refine wp_block ?_
                refine wp_loop_model (S := (List Int × Int)) (R := (Fl (List Int) Bool)) (gameroomlaw_HanoiWays_L2 r5) (fun x => ((gameroomlaw_HanoiWays_K2 s1 r5 all2) x).bind some) r (fun (x : (List Int × Int)) a w => ∃ (A9 : Option Addr) (c9 : Nat), Fr 171 [pl 0 (.slice A1 s1.length c1), pl 9 (.slice A6 r5.1.length c6), pl 10 (.int .i64 r5.2), pl 14 (.slice A9 x.1.length c9), pl 15 (.slice A8 (Int.toNat (s1.length : Int)) c8), pl 17 (.int .i64 x.2)] a ∧ Sep w0 B w (ownK 52 3 A6 r5.1.length c6 (List.flatMap enc52 r5.1) :: own 3 (.slice A9 x.1.length c9) (vI x.1) :: own 3 (.slice A8 (Int.toNat (s1.length : Int)) c8) (vI all2) :: fs)) (assoc_b hm) ⟨A7, c7, hF.weak [0, 9, 10, 14, 15, 17] (by kernel_rfl), hS⟩ ?_
                clear hF hS hm
                rintro nn2 ⟨now1, i2⟩ a w ⟨A9, c9, hF, hS⟩ hm
                generalize hφ2 : stK (gameroomlaw_HanoiWays_L2 r5) nn2 (fun x => ((gameroomlaw_HanoiWays_K2 s1 r5 all2) x).bind some) = φ2 at hm
                unfold gameroomlaw_HanoiWays_L2 at hm
                dsimp only at hF hS hm
                refine seq_cut (fun a w => Fr 171 [pl 0 (.slice A1 s1.length c1), pl 9 (.slice A6 r5.1.length c6), pl 10 (.int .i64 r5.2), pl 14 (.slice A9 now1.length c9), pl 15 (.slice A8 (Int.toNat (s1.length : Int)) c8), pl 17 (.int .i64 i2)] a ∧ Sep w0 B w (ownK 52 3 A6 r5.1.length c6 (List.flatMap enc52 r5.1) :: own 3 (.slice A9 now1.length c9) (vI now1) :: own 3 (.slice A8 (Int.toNat (s1.length : Int)) c8) (vI all2) :: fs) ∧ ((gameroomlaw_HanoiWays_J11 r5 now1 i2)).bind φ2 = some r) ?_ ?_
                · rintro a w ⟨hF, hS, hm⟩
                  unfold gameroomlaw_HanoiWays_J11 at hm
                  refine seq_cut (fun a w => ∃ (now3 : List Int) (A12 : Option Addr) (c12 : Nat), Fr 171 [pl 0 (.slice A1 s1.length c1), pl 9 (.slice A6 r5.1.length c6), pl 10 (.int .i64 r5.2), pl 14 (.slice A12 now3.length c12), pl 15 (.slice A8 (Int.toNat (s1.length : Int)) c8), pl 17 (.int .i64 i2)] a ∧ Sep w0 B w (ownK 52 3 A6 r5.1.length c6 (List.flatMap enc52 r5.1) :: own 3 (.slice A12 now3.length c12) (vI now3) :: own 3 (.slice A8 (Int.toNat (s1.length : Int)) c8) (vI all2) :: fs) ∧ ((gameroomlaw_HanoiWays_J12 i2) now3).bind φ2 = some r) ?_ ?_
                  · rintro a w ⟨now3, A12, c12, hF, hS, hm⟩
                    unfold gameroomlaw_HanoiWays_J12 at hm
                    refine reg1 [] [] [0, 9, 10, 14, 15, 17] [pl 0 (.slice A1 s1.length c1), pl 9 (.slice A6 r5.1.length c6), pl 10 (.int .i64 r5.2), pl 14 (.slice A12 now3.length c12), pl 15 (.slice A8 (Int.toNat (s1.length : Int)) c8), pl 17 (.int .i64 (w64 (i2 + 1)))] hF hS Fol (by kernel_rfl) (by kernel_rfl) (by kernel_rfl) ?_ (fun a w hF hS => ?_)
                    · exact obs_nil
                    refine then_n ?_
                    rw [← hφ2] at hm
                    exact ⟨(now3, (w64 (i2 + 1))), ⟨A12, c12, hF.weak [0, 9, 10, 14, 15, 17] (by kernel_rfl), hS⟩, hm⟩
                  · refine wp_block ?_
                    refine seqR ?_
                    obtain ⟨hp3, hm⟩ := asrt_b hm
                    obtain ⟨r11, hr11, hm⟩ := call_b hm
                    refine at_run 5 [⟨true, [], vS (Instr.indexAt 44 (.slice A6 r5.1.length c6) (.int .i64 i2)), .pointer (some (sAddrK A6 3 i2))⟩, ⟨false, [], vS (Instr.loadAt 52 (.pointer (some (sAddrK A6 3 i2)))), .agg #[.int .i64 ((getd ((0, 0, 0) : (Int × Int × Int)) r5.1 i2).1), .int .i64 ((getd ((0, 0, 0) : (Int × Int × Int)) r5.1 i2).2.1), .int .i64 ((getd ((0, 0, 0) : (Int × Int × Int)) r5.1 i2).2.2)]⟩] [none, none, none, some (.pointer (some (sAddrK A6 3 i2))), some (.agg #[.int .i64 ((getd ((0, 0, 0) : (Int × Int × Int)) r5.1 i2).1), .int .i64 ((getd ((0, 0, 0) : (Int × Int × Int)) r5.1 i2).2.1), .int .i64 ((getd ((0, 0, 0) : (Int × Int × Int)) r5.1 i2).2.2)])] [0, 9, 10, 15, 17, 137, 141] [pl 0 (.slice A1 s1.length c1), pl 9 (.slice A6 r5.1.length c6), pl 10 (.int .i64 r5.2), pl 15 (.slice A8 (Int.toNat (s1.length : Int)) c8), pl 17 (.int .i64 i2), pl 137 (.slice A9 now1.length c9), pl 141 (.agg #[.int .i64 ((getd ((0, 0, 0) : (Int × Int × Int)) r5.1 i2).1), .int .i64 ((getd ((0, 0, 0) : (Int × Int × Int)) r5.1 i2).2.1), .int .i64 ((getd ((0, 0, 0) : (Int × Int × Int)) r5.1 i2).2.2)])] hF hS (by kernel_rfl) (by kernel_rfl) ?_ (fun a w hF hS => ?_)
                    · exact obs_cons (ob_ixK (m := r5.1) encK52 Und44 hi52 hs52 (hS.at_ 0 rfl).rdK rfl (fun _ => hp3)) <| obs_cons (ob_getK (n := r5.1.length) (m := r5.1) encK52 ((0, 0, 0) : (Int × Int × Int)) (by kernel_rfl) (by kernel_rfl) (fun _ hS => ⟨_, (hS.at_ 0 rfl).rdK⟩) (fun _ hS => rfl) (fun _ => hp3)) <| obs_nil
                    refine at_call (f := 35) (args := #[.slice A9 now1.length c9, .agg #[.int .i64 ((getd ((0, 0, 0) : (Int × Int × Int)) r5.1 i2).1), .int .i64 ((getd ((0, 0, 0) : (Int × Int × Int)) r5.1 i2).2.1), .int .i64 ((getd ((0, 0, 0) : (Int × Int × Int)) r5.1 i2).2.2)]]) (d := 142) hF (by kernel_rfl) (by kernel_rfl) Try.func35 (by kernel_rfl) rfl (gameroomref_DiscMove_w hr11 hS (fun _ hS => (hS.at_ 1 rfl).rd) ((hS.at_ 1 rfl).cap1) rfl) (fun v a w hR hF => ?_)
                    clear hS
                    obtain ⟨A11, c11, rfl, hS⟩ := hR
                    have hS : Sep w0 B w (own 3 (.slice A11 r11.1.length c11) (vI r11.1) :: ownK 52 3 A6 r5.1.length c6 (List.flatMap enc52 r5.1) :: own 3 (.slice A9 now1.length c9) (vI now1) :: own 3 (.slice A8 (Int.toNat (s1.length : Int)) c8) (vI all2) :: fs) := hS
                    refine at_run 5 [] [] [0, 9, 10, 15, 17, 18, 19] [pl 0 (.slice A1 s1.length c1), pl 9 (.slice A6 r5.1.length c6), pl 10 (.int .i64 r5.2), pl 15 (.slice A8 (Int.toNat (s1.length : Int)) c8), pl 17 (.int .i64 i2), pl 18 (.slice A11 r11.1.length c11), pl 19 (.int .i64 r11.2)] hF hS (by kernel_rfl) (by kernel_rfl) ?_ (fun a w hF hS => ?_)
                    · exact obs_nil
                    refine at_end [0, 9, 10, 15, 17, 18, 19] [pl 0 (.slice A1 s1.length c1), pl 9 (.slice A6 r5.1.length c6), pl 10 (.int .i64 r5.2), pl 15 (.slice A8 (Int.toNat (s1.length : Int)) c8), pl 17 (.int .i64 i2), pl 18 (.slice A11 r11.1.length c11), pl 19 (.int .i64 r11.2)] hF rfl (by kernel_rfl) (fun hF => ?_)
                    refine then_n ?_
                    refine seq_cut (fun a w => Fr 171 [pl 0 (.slice A1 s1.length c1), pl 9 (.slice A6 r5.1.length c6), pl 10 (.int .i64 r5.2), pl 15 (.slice A8 (Int.toNat (s1.length : Int)) c8), pl 17 (.int .i64 i2), pl 18 (.slice A11 r11.1.length c11)] a ∧ Sep w0 B w (ownK 52 3 A6 r5.1.length c6 (List.flatMap enc52 r5.1) :: own 3 (.slice A8 (Int.toNat (s1.length : Int)) c8) (vI all2) :: own 3 (.slice A11 r11.1.length c11) (vI r11.1) :: fs) ∧ ((gameroomlaw_HanoiWays_J13 i2 r11)).bind φ2 = some r) ?_ ?_
                    · rintro a w ⟨hF, hS, hm⟩
                      unfold gameroomlaw_HanoiWays_J13 at hm
                      refine reg1 [] [] [0, 9, 10, 14, 15, 17] [pl 0 (.slice A1 s1.length c1), pl 9 (.slice A6 r5.1.length c6), pl 10 (.int .i64 r5.2), pl 14 (.slice A11 r11.1.length c11), pl 15 (.slice A8 (Int.toNat (s1.length : Int)) c8), pl 17 (.int .i64 i2)] hF hS Fol (by kernel_rfl) (by kernel_rfl) (by kernel_rfl) ?_ (fun a w hF hS => ?_)
                      · exact obs_nil
                      refine block_n ?_
                      refine then_n ?_
                      have hS := hS.pickN 3 [0, 2, 1] (by decide)
                      exact ⟨r11.1, A11, c11, hF.weak [0, 9, 10, 14, 15, 17] (by kernel_rfl), hS, hm⟩
                    · obtain ⟨hp4, hm⟩ := asrt_b hm
                      refine reg [⟨true, [((r11.2 != 0), false)], vS (Instr.indexAt 44 (.slice A6 r5.1.length c6) (.int .i64 i2)), .pointer (some (sAddrK A6 3 i2))⟩, ⟨false, [((r11.2 != 0), false)], vS (Instr.loadAt 3 (.pointer (some (Addr.add (sAddrK A6 3 i2) 2)))), .int .i64 ((getd ((0, 0, 0) : (Int × Int × Int)) r5.1 i2).2.2)⟩] [none, none, none, none, none, some (.pointer (some (sAddrK A6 3 i2))), none, some (.int .i64 ((getd ((0, 0, 0) : (Int × Int × Int)) r5.1 i2).2.2)), none, none] [0, 9, 10, 15, 17, 18, 154] [pl 0 (.slice A1 s1.length c1), pl 9 (.slice A6 r5.1.length c6), pl 10 (.int .i64 r5.2), pl 15 (.slice A8 (Int.toNat (s1.length : Int)) c8), pl 17 (.int .i64 i2), pl 18 (.slice A11 r11.1.length c11), pl 154 (.bool ((r11.2 != 0) || (((getd ((0, 0, 0) : (Int × Int × Int)) r5.1 i2).2.2) != 0)))] hF hS Fol (by kernel_rfl) (by kernel_rfl) (by kernel_rfl) ?_ (fun a w hF hS => ?_)
                      · exact obs_cons (ob_ixK (m := r5.1) encK52 Und44 hi52 hs52 (hS.at_ 1 rfl).rdK rfl (fun hy => hp4 (hy ((r11.2 != 0), false) (by simp)))) <| obs_cons (ob_getF (n := r5.1.length) (m := r5.1) (j := 2) encK52 ((0, 0, 0) : (Int × Int × Int)) Agg3 (fun _ hS => ⟨_, (hS.at_ 1 rfl).rdK⟩) (fun _ hS => rfl) (fun hy => hp4 (hy ((r11.2 != 0), false) (by simp))) (by decide) rfl) <| obs_nil
                      refine cond_ev (t := 154) (b := (r11.2 != 0) || (((getd ((0, 0, 0) : (Int × Int × Int)) r5.1 i2).2.2) != 0)) hF (by kernel_rfl) (fun hb => ?_) (fun hb => ?_)
                      · replace hm := if_t hm hb
                        refine reg [] [] [6] [pl 6 (.bool false)] hF hS Fol (by kernel_rfl) (by kernel_rfl) (by kernel_rfl) ?_ (fun a w hF hS => ?_)
                        · exact obs_nil
                        refine wp_ret ?_
                        refine then_r (block_r (then_r (then_r (block_r (then_r ?_)))))
                        rw [← hφ2] at hm
                        replace hm := done_b hm
                        unfold gameroomlaw_HanoiWays_K2 at hm
                        try dsimp only at hm
                        have hS := hS.pickN 4 [] (by decide)
                        have hm : some false = some r := hm
                        obtain rfl := Option.some.inj hm
                        exact retV (rs := [.tmp 6]) (vs := [.bool false]) hF rfl (rv_t (by kernel_rfl) <| rv_nil) rfl ⟨rfl, hS⟩
                      · replace hm := if_f hm hb
                        refine wp_skip ?_
                        refine then_n ?_
                        have hS := hS.pickN 4 [1, 3, 0] (by decide)
                        exact ⟨hF.weak [0, 9, 10, 15, 17, 18] (by kernel_rfl), hS, hm⟩
                · refine reg [] [] [0, 9, 10, 14, 15, 17, 133] [pl 0 (.slice A1 s1.length c1), pl 9 (.slice A6 r5.1.length c6), pl 10 (.int .i64 r5.2), pl 14 (.slice A9 now1.length c9), pl 15 (.slice A8 (Int.toNat (s1.length : Int)) c8), pl 17 (.int .i64 i2), pl 133 (.bool (decide (i2 < (r5.1.length : Int))))] hF hS Fol (by kernel_rfl) (by kernel_rfl) (by kernel_rfl) ?_ (fun a w hF hS => ?_)
                  · exact obs_nil
                  refine cond_ev (t := 133) (b := decide (i2 < (r5.1.length : Int))) hF (by kernel_rfl) (fun hb => ?_) (fun hb => ?_)
                  · replace hm := if_t hm hb
                    refine wp_skip ?_
                    refine then_n ?_
                    exact ⟨hF.weak [0, 9, 10, 14, 15, 17] (by kernel_rfl), hS, hm⟩
                  · replace hm := if_f hm hb
                    refine wp_exit ?_
                    refine then_e (then_e (block_e (then_n ?_)))
                    rw [← hφ2] at hm
                    replace hm := done_b hm
                    unfold gameroomlaw_HanoiWays_K2 at hm
                    try dsimp only at hm
                    have hm : ((gameroomlaw_HanoiWays_J10 s1 r5 all2) now1).bind some = some r := hm
                    exact ⟨now1, A9, c9, hF.weak [0, 9, 10, 14, 15] (by kernel_rfl), hS, hm⟩
            · refine reg [] [] [0, 2, 9, 10, 14, 15, 16] [pl 0 (.slice A1 s1.length c1), pl 2 (.int .i64 peg1), pl 9 (.slice A6 r5.1.length c6), pl 10 (.int .i64 r5.2), pl 14 (.slice A7 r10.length c7), pl 15 (.slice A8 (Int.toNat (s1.length : Int)) c8), pl 16 (.int .i64 0)] hF hS Fol (by kernel_rfl) (by kernel_rfl) (by kernel_rfl) ?_ (fun a w hF hS => ?_)
              · exact obs_nil
              refine wp_block ?_
              have hS := hS.pickN 3 [2, 1, 0] (by decide)
              refine wp_loop_model (S := (List Int × Int)) (R := (List Int)) (gameroomlaw_HanoiWays_L1 s1 peg1) (fun x => ((gameroomlaw_HanoiWays_K1 s1 r5 r10) x).bind some) r (fun (x : (List Int × Int)) a w => Fr 171 [pl 0 (.slice A1 s1.length c1), pl 2 (.int .i64 peg1), pl 9 (.slice A6 r5.1.length c6), pl 10 (.int .i64 r5.2), pl 14 (.slice A7 r10.length c7), pl 15 (.slice A8 (Int.toNat (s1.length : Int)) c8), pl 16 (.int .i64 x.2)] a ∧ Sep w0 B w (ownK 52 3 A6 r5.1.length c6 (List.flatMap enc52 r5.1) :: own 3 (.slice A7 r10.length c7) (vI r10) :: own 3 (.slice A8 (Int.toNat (s1.length : Int)) c8) (vI x.1) :: fs)) (assoc_b hm) ⟨hF.weak [0, 2, 9, 10, 14, 15, 16] (by kernel_rfl), hS⟩ ?_
              clear hF hS hm
              rintro nn1 ⟨all1, i1⟩ a w ⟨hF, hS⟩ hm
              generalize hφ1 : stK (gameroomlaw_HanoiWays_L1 s1 peg1) nn1 (fun x => ((gameroomlaw_HanoiWays_K1 s1 r5 r10) x).bind some) = φ1 at hm
              unfold gameroomlaw_HanoiWays_L1 at hm
              dsimp only at hF hS hm
              refine seq_cut (fun a w => Fr 171 [pl 0 (.slice A1 s1.length c1), pl 2 (.int .i64 peg1), pl 9 (.slice A6 r5.1.length c6), pl 10 (.int .i64 r5.2), pl 14 (.slice A7 r10.length c7), pl 15 (.slice A8 (Int.toNat (s1.length : Int)) c8), pl 16 (.int .i64 i1)] a ∧ Sep w0 B w (ownK 52 3 A6 r5.1.length c6 (List.flatMap enc52 r5.1) :: own 3 (.slice A7 r10.length c7) (vI r10) :: own 3 (.slice A8 (Int.toNat (s1.length : Int)) c8) (vI all1) :: fs) ∧ ((gameroomlaw_HanoiWays_J8 s1 peg1 all1 i1)).bind φ1 = some r) ?_ ?_
              · rintro a w ⟨hF, hS, hm⟩
                unfold gameroomlaw_HanoiWays_J8 at hm
                refine seq_cut (fun a w => Fr 171 [pl 0 (.slice A1 s1.length c1), pl 2 (.int .i64 peg1), pl 9 (.slice A6 r5.1.length c6), pl 10 (.int .i64 r5.2), pl 14 (.slice A7 r10.length c7), pl 15 (.slice A8 (Int.toNat (s1.length : Int)) c8), pl 16 (.int .i64 i1)] a ∧ Sep w0 B w (ownK 52 3 A6 r5.1.length c6 (List.flatMap enc52 r5.1) :: own 3 (.slice A7 r10.length c7) (vI r10) :: own 3 (.slice A8 (Int.toNat (s1.length : Int)) c8) (vI (all1.set (Int.toNat i1) peg1)) :: fs) ∧ ((gameroomlaw_HanoiWays_J9 peg1 all1 i1)).bind φ1 = some r) ?_ ?_
                · rintro a w ⟨hF, hS, hm⟩
                  unfold gameroomlaw_HanoiWays_J9 at hm
                  refine reg1 [] [] [0, 2, 9, 10, 14, 15, 16] [pl 0 (.slice A1 s1.length c1), pl 2 (.int .i64 peg1), pl 9 (.slice A6 r5.1.length c6), pl 10 (.int .i64 r5.2), pl 14 (.slice A7 r10.length c7), pl 15 (.slice A8 (Int.toNat (s1.length : Int)) c8), pl 16 (.int .i64 (w64 (i1 + 1)))] hF hS Fol (by kernel_rfl) (by kernel_rfl) (by kernel_rfl) ?_ (fun a w hF hS => ?_)
                  · exact obs_nil
                  refine then_n ?_
                  rw [← hφ1] at hm
                  exact ⟨((all1.set (Int.toNat i1) peg1), (w64 (i1 + 1))), ⟨hF.weak [0, 2, 9, 10, 14, 15, 16] (by kernel_rfl), hS⟩, hm⟩
                · refine wp_block ?_
                  refine oneR ?_
                  obtain ⟨hp2, hm⟩ := asrt_b hm
                  refine at_run 4 [⟨true, [], vS (Instr.indexAt 40 (.slice A8 (Int.toNat (s1.length : Int)) c8) (.int .i64 i1)), .pointer (some (sAddr A8 i1))⟩] [none, none, none, some (.pointer (some (sAddr A8 i1)))] [0, 2, 9, 10, 14, 15, 16, 128, 129] [pl 0 (.slice A1 s1.length c1), pl 2 (.int .i64 peg1), pl 9 (.slice A6 r5.1.length c6), pl 10 (.int .i64 r5.2), pl 14 (.slice A7 r10.length c7), pl 15 (.slice A8 (Int.toNat (s1.length : Int)) c8), pl 16 (.int .i64 i1), pl 128 (.int .i64 peg1), pl 129 (.pointer (some (sAddr A8 i1)))] hF hS (by kernel_rfl) (by kernel_rfl) ?_ (fun a w hF hS => ?_)
                  · exact obs_cons (ob_ix1 (f := (Value.int .i64)) (m := all1) Und40 hi3 hs3 (hS.at_ 2 rfl).rd ((hS.at_ 2 rfl).len1) (fun _ => hp2)) <| obs_nil
                  obtain ⟨w, hrun, hS⟩ := run_set1 (P := Try.prog) (t := 3) (x := peg1) (Value.int .i64) (hS.at_ 2 rfl) hi3 hs3 rfl rfl hp2
                  refine at_skip hF (by kernel_rfl) hrun ?_
                  have hS : Sep w0 B w (ownK 52 3 A6 r5.1.length c6 (List.flatMap enc52 r5.1) :: own 3 (.slice A7 r10.length c7) (vI r10) :: own 3 (.slice A8 (Int.toNat (s1.length : Int)) c8) (vI (all1.set (Int.toNat i1) peg1)) :: fs) := hS
                  refine at_end [0, 2, 9, 10, 14, 15, 16] [pl 0 (.slice A1 s1.length c1), pl 2 (.int .i64 peg1), pl 9 (.slice A6 r5.1.length c6), pl 10 (.int .i64 r5.2), pl 14 (.slice A7 r10.length c7), pl 15 (.slice A8 (Int.toNat (s1.length : Int)) c8), pl 16 (.int .i64 i1)] hF rfl (by kernel_rfl) (fun hF => ?_)
                  refine block_n ?_
                  refine then_n ?_
                  exact ⟨hF.weak [0, 2, 9, 10, 14, 15, 16] (by kernel_rfl), hS, hm⟩
              · refine reg [] [] [0, 2, 9, 10, 14, 15, 16, 123] [pl 0 (.slice A1 s1.length c1), pl 2 (.int .i64 peg1), pl 9 (.slice A6 r5.1.length c6), pl 10 (.int .i64 r5.2), pl 14 (.slice A7 r10.length c7), pl 15 (.slice A8 (Int.toNat (s1.length : Int)) c8), pl 16 (.int .i64 i1), pl 123 (.bool (decide (i1 < (s1.length : Int))))] hF hS Fol (by kernel_rfl) (by kernel_rfl) (by kernel_rfl) ?_ (fun a w hF hS => ?_)
                · exact obs_nil
                refine cond_ev (t := 123) (b := decide (i1 < (s1.length : Int))) hF (by kernel_rfl) (fun hb => ?_) (fun hb => ?_)
                · replace hm := if_t hm hb
                  refine wp_skip ?_
                  refine then_n ?_
                  exact ⟨hF.weak [0, 2, 9, 10, 14, 15, 16] (by kernel_rfl), hS, hm⟩
                · replace hm := if_f hm hb
                  refine wp_exit ?_
                  refine then_e (then_e (block_e (then_n ?_)))
                  rw [← hφ1] at hm
                  replace hm := done_b hm
                  unfold gameroomlaw_HanoiWays_K1 at hm
                  try dsimp only at hm
                  have hm : ((gameroomlaw_HanoiWays_J7 s1 r5 r10) all1).bind some = some r := hm
                  exact ⟨all1, hF.weak [0, 9, 10, 14, 15] (by kernel_rfl), hS, hm⟩
          · refine reg [] [] [0, 2, 9, 10, 107] [pl 0 (.slice A1 s1.length c1), pl 2 (.int .i64 peg1), pl 9 (.slice A6 r5.1.length c6), pl 10 (.int .i64 r5.2), pl 107 (.bool (decide ((10 : Int) < (s1.length : Int))))] hF hS Fol (by kernel_rfl) (by kernel_rfl) (by kernel_rfl) ?_ (fun a w hF hS => ?_)
            · exact obs_nil
            refine cond_ev (t := 107) (b := decide ((10 : Int) < (s1.length : Int))) hF (by kernel_rfl) (fun hb => ?_) (fun hb => ?_)
            · replace hm := if_t hm hb
              refine reg [] [] [6] [pl 6 (.bool ((r5.2 == 11) && ((r5.1.length : Int) == 0)))] hF hS Fol (by kernel_rfl) (by kernel_rfl) (by kernel_rfl) ?_ (fun a w hF hS => ?_)
              · exact obs_nil
              refine wp_ret ?_
              refine then_r ?_
              have hS := hS.pickN 1 [] (by decide)
              have hm : some ((r5.2 == 11) && ((r5.1.length : Int) == 0)) = some r := hm
              obtain rfl := Option.some.inj hm
              exact retV (rs := [.tmp 6]) (vs := [.bool ((r5.2 == 11) && ((r5.1.length : Int) == 0))]) hF rfl (rv_t (by kernel_rfl) <| rv_nil) rfl ⟨rfl, hS⟩
            · replace hm := if_f hm hb
              refine wp_skip ?_
              refine then_n ?_
              exact ⟨hF.weak [0, 2, 9, 10] (by kernel_rfl), hS, hm⟩
        · refine reg [] [] [0, 2, 9, 10, 97] [pl 0 (.slice A1 s1.length c1), pl 2 (.int .i64 peg1), pl 9 (.slice A6 r5.1.length c6), pl 10 (.int .i64 r5.2), pl 97 (.bool ((decide (peg1 < 0)) || (decide ((2 : Int) < peg1))))] hF hS Fol (by kernel_rfl) (by kernel_rfl) (by kernel_rfl) ?_ (fun a w hF hS => ?_)
          · exact obs_nil
          refine cond_ev (t := 97) (b := (decide (peg1 < 0)) || (decide ((2 : Int) < peg1))) hF (by kernel_rfl) (fun hb => ?_) (fun hb => ?_)
          · replace hm := if_t hm hb
            refine reg [] [] [6] [pl 6 (.bool ((r5.2 == 5) && ((r5.1.length : Int) == 0)))] hF hS Fol (by kernel_rfl) (by kernel_rfl) (by kernel_rfl) ?_ (fun a w hF hS => ?_)
            · exact obs_nil
            refine wp_ret ?_
            refine then_r ?_
            have hS := hS.pickN 1 [] (by decide)
            have hm : some ((r5.2 == 5) && ((r5.1.length : Int) == 0)) = some r := hm
            obtain rfl := Option.some.inj hm
            exact retV (rs := [.tmp 6]) (vs := [.bool ((r5.2 == 5) && ((r5.1.length : Int) == 0))]) hF rfl (rv_t (by kernel_rfl) <| rv_nil) rfl ⟨rfl, hS⟩
          · replace hm := if_f hm hb
            refine wp_skip ?_
            refine then_n ?_
            exact ⟨hF.weak [0, 2, 9, 10] (by kernel_rfl), hS, hm⟩
      · refine reg [] [] [0, 1, 2, 7, 8, 9, 10, 12, 68] [pl 0 (.slice A1 s1.length c1), pl 1 (.slice A2 t1.length c2), pl 2 (.int .i64 peg1), pl 7 (.int .i64 r3.1), pl 8 (.int .i64 r3.2), pl 9 (.slice A6 r5.1.length c6), pl 10 (.int .i64 r5.2), pl 12 (.int .i64 other1), pl 68 (.bool (other1 != 0))] hF hS Fol (by kernel_rfl) (by kernel_rfl) (by kernel_rfl) ?_ (fun a w hF hS => ?_)
        · exact obs_nil
        refine cond_ev (t := 68) (b := (other1 != 0)) hF (by kernel_rfl) (fun hb => ?_) (fun hb => ?_)
        · replace hm := if_t hm hb
          refine reg [] [] [0, 2, 9, 10, 75] [pl 0 (.slice A1 s1.length c1), pl 2 (.int .i64 peg1), pl 9 (.slice A6 r5.1.length c6), pl 10 (.int .i64 r5.2), pl 75 (.bool ((r3.2 != other1) || (r3.1 != 0)))] hF hS Fol (by kernel_rfl) (by kernel_rfl) (by kernel_rfl) ?_ (fun a w hF hS => ?_)
          · exact obs_nil
          refine cond_ev (t := 75) (b := (r3.2 != other1) || (r3.1 != 0)) hF (by kernel_rfl) (fun hb => ?_) (fun hb => ?_)
          · replace hm := if_t hm hb
            refine reg [] [] [6] [pl 6 (.bool false)] hF hS Fol (by kernel_rfl) (by kernel_rfl) (by kernel_rfl) ?_ (fun a w hF hS => ?_)
            · exact obs_nil
            refine wp_ret ?_
            refine then_r ?_
            have hS := hS.pickN 1 [] (by decide)
            have hm : some false = some r := hm
            obtain rfl := Option.some.inj hm
            exact retV (rs := [.tmp 6]) (vs := [.bool false]) hF rfl (rv_t (by kernel_rfl) <| rv_nil) rfl ⟨rfl, hS⟩
          · replace hm := if_f hm hb
            refine wp_skip ?_
            refine then_n ?_
            exact ⟨hF.weak [0, 2, 9, 10] (by kernel_rfl), hS, hm⟩
        · replace hm := if_f hm hb
          obtain ⟨r8, hr8, hm⟩ := call_b hm
          refine reg [⟨false, [], callFunc 33 #[.slice A1 s1.length c1, .slice A2 t1.length c2], .int .i64 r8⟩] [none, none, some (.int .i64 r8), none] [0, 1, 2, 7, 8, 9, 10, 13] [pl 0 (.slice A1 s1.length c1), pl 1 (.slice A2 t1.length c2), pl 2 (.int .i64 peg1), pl 7 (.int .i64 r3.1), pl 8 (.int .i64 r3.2), pl 9 (.slice A6 r5.1.length c6), pl 10 (.int .i64 r5.2), pl 13 (.int .i64 r8)] hF hS Fol (by kernel_rfl) (by kernel_rfl) (by kernel_rfl) ?_ (fun a w hF hS => ?_)
          · exact obs_cons (ob_call Try.func33 (by kernel_rfl) rfl (fun _ _ hS => gameroomref_DiscsBetween_w hr8 hS (fun _ hS => (hr_s1 _ (hS.dropN 1))) _hc_s1 rfl (fun _ hS => (hr_t1 _ (hS.dropN 1))) _hc_t1 rfl)) <| obs_nil
          refine seq_cut (fun a w => ∃ (want1 : Int), Fr 171 [pl 0 (.slice A1 s1.length c1), pl 2 (.int .i64 peg1), pl 7 (.int .i64 r3.1), pl 8 (.int .i64 r3.2), pl 9 (.slice A6 r5.1.length c6), pl 10 (.int .i64 r5.2), pl 13 (.int .i64 want1)] a ∧ Sep w0 B w (ownK 52 3 A6 r5.1.length c6 (List.flatMap enc52 r5.1) :: fs) ∧ ((gameroomlaw_HanoiWays_J4 s1 peg1 r3 r5) want1).bind some = some r) ?_ ?_
          · rintro a w ⟨want1, hF, hS, hm⟩
            unfold gameroomlaw_HanoiWays_J4 at hm
            refine reg [] [] [0, 2, 9, 10, 91] [pl 0 (.slice A1 s1.length c1), pl 2 (.int .i64 peg1), pl 9 (.slice A6 r5.1.length c6), pl 10 (.int .i64 r5.2), pl 91 (.bool ((r3.2 != 0) || (r3.1 != want1)))] hF hS Fol (by kernel_rfl) (by kernel_rfl) (by kernel_rfl) ?_ (fun a w hF hS => ?_)
            · exact obs_nil
            refine cond_ev (t := 91) (b := (r3.2 != 0) || (r3.1 != want1)) hF (by kernel_rfl) (fun hb => ?_) (fun hb => ?_)
            · replace hm := if_t hm hb
              refine reg [] [] [6] [pl 6 (.bool false)] hF hS Fol (by kernel_rfl) (by kernel_rfl) (by kernel_rfl) ?_ (fun a w hF hS => ?_)
              · exact obs_nil
              refine wp_ret ?_
              refine then_r ?_
              have hS := hS.pickN 1 [] (by decide)
              have hm : some false = some r := hm
              obtain rfl := Option.some.inj hm
              exact retV (rs := [.tmp 6]) (vs := [.bool false]) hF rfl (rv_t (by kernel_rfl) <| rv_nil) rfl ⟨rfl, hS⟩
            · replace hm := if_f hm hb
              refine wp_skip ?_
              refine then_n ?_
              exact ⟨hF.weak [0, 2, 9, 10] (by kernel_rfl), hS, hm⟩
          · refine reg [] [] [0, 1, 2, 7, 8, 9, 10, 13, 81] [pl 0 (.slice A1 s1.length c1), pl 1 (.slice A2 t1.length c2), pl 2 (.int .i64 peg1), pl 7 (.int .i64 r3.1), pl 8 (.int .i64 r3.2), pl 9 (.slice A6 r5.1.length c6), pl 10 (.int .i64 r5.2), pl 13 (.int .i64 r8), pl 81 (.bool (decide ((s1.length : Int) ≤ 6)))] hF hS Fol (by kernel_rfl) (by kernel_rfl) (by kernel_rfl) ?_ (fun a w hF hS => ?_)
            · exact obs_nil
            refine cond_ev (t := 81) (b := decide ((s1.length : Int) ≤ 6)) hF (by kernel_rfl) (fun hb => ?_) (fun hb => ?_)
            · replace hm := if_t hm hb
              obtain ⟨r9, hr9, hm⟩ := call_b hm
              refine reg1 [⟨false, [], callFunc 34 #[.slice A1 s1.length c1, .slice A2 t1.length c2], .int .i64 r9⟩] [none, none, some (.int .i64 r9), none] [0, 2, 7, 8, 9, 10, 13] [pl 0 (.slice A1 s1.length c1), pl 2 (.int .i64 peg1), pl 7 (.int .i64 r3.1), pl 8 (.int .i64 r3.2), pl 9 (.slice A6 r5.1.length c6), pl 10 (.int .i64 r5.2), pl 13 (.int .i64 r9)] hF hS Fol (by kernel_rfl) (by kernel_rfl) (by kernel_rfl) ?_ (fun a w hF hS => ?_)
              · exact obs_cons (ob_call Try.func34 (by kernel_rfl) rfl (fun _ _ hS => gameroomref_DiscsFar_w hr9 hS (fun _ hS => (hr_s1 _ (hS.dropN 1))) _hc_s1 rfl (fun _ hS => (hr_t1 _ (hS.dropN 1))) _hc_t1 rfl)) <| obs_nil
              refine then_n ?_
              exact ⟨r9, hF.weak [0, 2, 7, 8, 9, 10, 13] (by kernel_rfl), hS, hm⟩
            · replace hm := if_f hm hb
              refine wp_skip ?_
              refine then_n ?_
              exact ⟨r8, hF.weak [0, 2, 7, 8, 9, 10, 13] (by kernel_rfl), hS, hm⟩
    · refine reg [] [] [0, 1, 2, 7, 8, 9, 10, 12, 66] [pl 0 (.slice A1 s1.length c1), pl 1 (.slice A2 t1.length c2), pl 2 (.int .i64 peg1), pl 7 (.int .i64 r3.1), pl 8 (.int .i64 r3.2), pl 9 (.slice A6 r5.1.length c6), pl 10 (.int .i64 r5.2), pl 12 (.int .i64 r7), pl 66 (.bool ((r7 == 0) && ((s1.length : Int) != (t1.length : Int))))] hF hS Fol (by kernel_rfl) (by kernel_rfl) (by kernel_rfl) ?_ (fun a w hF hS => ?_)
      · exact obs_nil
      refine cond_ev (t := 66) (b := (r7 == 0) && ((s1.length : Int) != (t1.length : Int))) hF (by kernel_rfl) (fun hb => ?_) (fun hb => ?_)
      · replace hm := if_t hm hb
        refine reg1 [] [] [0, 1, 2, 7, 8, 9, 10, 12] [pl 0 (.slice A1 s1.length c1), pl 1 (.slice A2 t1.length c2), pl 2 (.int .i64 peg1), pl 7 (.int .i64 r3.1), pl 8 (.int .i64 r3.2), pl 9 (.slice A6 r5.1.length c6), pl 10 (.int .i64 r5.2), pl 12 (.int .i64 11)] hF hS Fol (by kernel_rfl) (by kernel_rfl) (by kernel_rfl) ?_ (fun a w hF hS => ?_)
        · exact obs_nil
        refine then_n ?_
        exact ⟨11, hF.weak [0, 1, 2, 7, 8, 9, 10, 12] (by kernel_rfl), hS, hm⟩
      · replace hm := if_f hm hb
        refine wp_skip ?_
        refine then_n ?_
        exact ⟨r7, hF.weak [0, 1, 2, 7, 8, 9, 10, 12] (by kernel_rfl), hS, hm⟩
  · refine reg [] [] [0, 1, 2, 7, 8, 9, 10, 11, 38] [pl 0 (.slice A1 s1.length c1), pl 1 (.slice A2 t1.length c2), pl 2 (.int .i64 peg1), pl 7 (.int .i64 r3.1), pl 8 (.int .i64 r3.2), pl 9 (.slice A6 r5.1.length c6), pl 10 (.int .i64 r5.2), pl 11 (.int .i64 r6), pl 38 (.bool (r6 != 0))] hF hS Fol (by kernel_rfl) (by kernel_rfl) (by kernel_rfl) ?_ (fun a w hF hS => ?_)
    · exact obs_nil
    refine cond_ev (t := 38) (b := (r6 != 0)) hF (by kernel_rfl) (fun hb => ?_) (fun hb => ?_)
    · replace hm := if_t hm hb
      refine reg [] [] [6] [pl 6 (.bool ((((r3.2 == r6) && (r5.2 == r6)) && (r3.1 == 0)) && ((r5.1.length : Int) == 0)))] hF hS Fol (by kernel_rfl) (by kernel_rfl) (by kernel_rfl) ?_ (fun a w hF hS => ?_)
      · exact obs_nil
      refine wp_ret ?_
      refine then_r ?_
      have hS := hS.pickN 4 [] (by decide)
      have hm : some ((((r3.2 == r6) && (r5.2 == r6)) && (r3.1 == 0)) && ((r5.1.length : Int) == 0)) = some r := hm
      obtain rfl := Option.some.inj hm
      exact retV (rs := [.tmp 6]) (vs := [.bool ((((r3.2 == r6) && (r5.2 == r6)) && (r3.1 == 0)) && ((r5.1.length : Int) == 0))]) hF rfl (rv_t (by kernel_rfl) <| rv_nil) rfl ⟨rfl, hS⟩
    · replace hm := if_f hm hb
      refine wp_skip ?_
      refine then_n ?_
      have hS := hS.pickN 4 [0] (by decide)
      exact ⟨hF.weak [0, 1, 2, 7, 8, 9, 10] (by kernel_rfl), hS, hm⟩

end Go.Proofs.Ytbmhcapeikebgaa
