/-
  Models and walks, printed by our own program (wip/gen).
-/
import Derived.Test.YtogecbgngnjhgaaFB
import Derived.Test.YtogecbgngnjhgaaFM
namespace Go.Proofs.Ytogecbgngnjhgaa
open Go Go.GL Go.RowKit




noncomputable def gameroomlaw_ints_m (l1 : List Int) : Option (List Int) :=
  asrt ((0 : Int) + (l1.length : Int) ≤ bigN) <| some ([] ++ l1)

set_option maxRecDepth 100000 in
set_option maxHeartbeats 4000000 in
theorem gameroomlaw_ints_w {A1 : Option Addr} {c1 : Nat} {n1 : Nat} {l1 : List Int} {r : (List Int)} {w0 w : World} {B : Nat} {fs : List HP} (hm : gameroomlaw_ints_m l1 = some r) (hS : Sep w0 B w (fs)) (hr_l1 : RdF w0 B fs A1 (vI l1)) (_hc_l1 : l1.length ≤ c1) (_hn_l1 : n1 = l1.length) :
    Calls Try.prog 40 #[.slice A1 n1 c1] w fun e w' => ∃ v, e = .returned v ∧ ∃ (A3 : Option Addr) (c3 : Nat), v = .slice A3 r.length c3 ∧ Sep w0 B w' (own 3 (.slice A3 r.length c3) (vI r) :: fs) := by
  obtain ⟨i3, hi3, hz3, hs3, hb3⟩ := info_parts Info3
  obtain rfl := _hn_l1
  unfold gameroomlaw_ints_m at hm
  replace hm := start_b hm
  refine enter (l := [.slice A1 l1.length c1]) (n := 5) Try.func40 rfl rfl (by simp) (fun a hF => ?_)
  refine reg [] [] [0] [pl 0 (.slice A1 l1.length c1)] hF hS Fol (by kernel_rfl) (by kernel_rfl) (by kernel_rfl) ?_ (fun a w hF hS => ?_)
  · exact obs_nil
  refine seqR ?_
  obtain ⟨hp1, hm⟩ := asrt_b hm
  refine at_run 1 [] [] [3] [pl 3 (.slice A1 l1.length c1)] hF hS (by kernel_rfl) (by kernel_rfl) ?_ (fun a w hF hS => ?_)
  · exact obs_nil
  have hS : Sep w0 B w (own 3 (.slice none 0 0) (vI ([] : List Int)) :: fs) := hS.nil 3
  obtain ⟨A2, c2, w, hrun, hS⟩ := run_app1 (P := Try.prog) (t := 22) (m := ([] : List Int)) (ys := l1) (A2 := A1) (m2 := l1.length) (c2 := c1) (Value.int .i64) (0 : Int) (hS.at_ 0 rfl) (hr_l1 _ (hS.dropN 1)) rfl 22 Und22 hi3 hz3 hs3 (by omega) rfl (fun _ => rfl) hp1
  have hS : Sep w0 B w (own 3 (.slice A2 (([] ++ l1).length) c2) (vI ([] ++ l1)) :: fs) := hS
  refine at_do (d := 4) hF (by kernel_rfl) (by kernel_rfl) hrun (fun a hF => ?_)
  refine at_run 1 [] [] [2] [pl 2 (.slice A2 (([] ++ l1).length) c2)] hF hS (by kernel_rfl) (by kernel_rfl) ?_ (fun a w hF hS => ?_)
  · exact obs_nil
  refine at_end [2] [pl 2 (.slice A2 (([] ++ l1).length) c2)] hF rfl (by kernel_rfl) (fun hF => ?_)
  refine then_n ?_
  refine wp_ret ?_
  have hm : some ([] ++ l1) = some r := hm
  obtain rfl := Option.some.inj hm
  exact retV (rs := [.tmp 2]) (vs := [.slice A2 (([] ++ l1).length) c2]) hF rfl (rv_t (by kernel_rfl) <| rv_nil) rfl ⟨_, rfl, A2, c2, rfl, hS⟩

noncomputable def nono_checkLine_1_m (c1 : Int) : Option Bool :=
  some ((decide (c1 < (-1))) || (decide ((1 : Int) < c1)))

set_option maxRecDepth 100000 in
set_option maxHeartbeats 4000000 in
theorem nono_checkLine_1_w {c1 : Int} {r : Bool} {w0 w : World} {B : Nat} {fs : List HP} (hm : nono_checkLine_1_m c1 = some r) (hS : Sep w0 B w (fs)) :
    Calls Try.prog 120 #[.int .i64 c1] w fun e w' => e = .returned (.bool r) ∧ Sep w0 B w' (fs) := by
  unfold nono_checkLine_1_m at hm
  replace hm := start_b hm
  refine enter (l := [.int .i64 c1]) (n := 9) Try.func120 rfl rfl (by simp) (fun a hF => ?_)
  refine reg [] [] [0] [pl 0 (.int .i64 c1)] hF hS Fol (by kernel_rfl) (by kernel_rfl) (by kernel_rfl) ?_ (fun a w hF hS => ?_)
  · exact obs_nil
  refine reg [] [] [2] [pl 2 (.bool ((decide (c1 < (-1))) || (decide ((1 : Int) < c1))))] hF hS Fol (by kernel_rfl) (by kernel_rfl) (by kernel_rfl) ?_ (fun a w hF hS => ?_)
  · exact obs_nil
  refine wp_ret ?_
  have hm : some ((decide (c1 < (-1))) || (decide ((1 : Int) < c1))) = some r := hm
  obtain rfl := Option.some.inj hm
  exact retV (rs := [.tmp 2]) (vs := [.bool ((decide (c1 < (-1))) || (decide ((1 : Int) < c1)))]) hF rfl (rv_t (by kernel_rfl) <| rv_nil) rfl ⟨rfl, hS⟩

noncomputable def slices_IndexFunc_J3 (z1 : Int) : Option (St Int (Fl Unit Int)) :=
  some (.next (w64 (z1 + 1)))

noncomputable def slices_IndexFunc_J2 (s1 : List Int) (z1 : Int) : Option (St Int (Fl Unit Int)) :=
  asrt (0 ≤ z1 ∧ z1 < (s1.length : Int)) <| (nono_checkLine_1_m (geti s1 z1)).bind fun r1 => if r1 then (some (.done (.ret z1))) else ((slices_IndexFunc_J3 z1))

noncomputable def slices_IndexFunc_J1 : Option Int :=
  some (-1)

noncomputable def slices_IndexFunc_K1 : (Fl Unit Int) → Option Int :=
  fun (x : (Fl Unit Int)) => match x with | .go _ => slices_IndexFunc_J1 | .ret x => some x

noncomputable def slices_IndexFunc_L1 (s1 : List Int) : Int → Option (St Int (Fl Unit Int)) :=
  fun (x : Int) => match x with | z1 => if (decide (z1 < (s1.length : Int))) then ((slices_IndexFunc_J2 s1 z1)) else (some (.done (.go ())))

noncomputable def slices_IndexFunc_m (s1 : List Int) : Option Int :=
  (loop (slices_IndexFunc_L1 s1) 0).bind slices_IndexFunc_K1

set_option maxRecDepth 100000 in
set_option maxHeartbeats 4000000 in
theorem slices_IndexFunc_w {A1 : Option Addr} {c1 : Nat} {n1 : Nat} {s1 : List Int} {r : Int} {w0 w : World} {B : Nat} {fs : List HP} (hm : slices_IndexFunc_m s1 = some r) (hS : Sep w0 B w (fs)) (hr_s1 : RdF w0 B fs A1 (vI s1)) (_hc_s1 : s1.length ≤ c1) (_hn_s1 : n1 = s1.length) :
    Calls Try.prog 123 #[.slice A1 n1 c1, .func (.func 120) #[] #[]] w fun e w' => e = .returned (.int .i64 r) ∧ Sep w0 B w' (fs) := by
  obtain ⟨i3, hi3, hz3, hs3, hb3⟩ := info_parts Info3
  obtain rfl := _hn_s1
  unfold slices_IndexFunc_m at hm
  replace hm := start_b hm
  refine enter (l := [.slice A1 s1.length c1, .func (.func 120) #[] #[]]) (n := 19) Try.func123 rfl rfl (by simp) (fun a hF => ?_)
  refine reg [] [] [0, 1] [pl 0 (.slice A1 s1.length c1), pl 1 (.func (.func 120) #[] #[])] hF hS Fol (by kernel_rfl) (by kernel_rfl) (by kernel_rfl) ?_ (fun a w hF hS => ?_)
  · exact obs_nil
  refine seq_cut (fun a w => Fr 19 [] a ∧ Sep w0 B w (fs) ∧ (slices_IndexFunc_J1).bind some = some r) ?_ ?_
  · rintro a w ⟨hF, hS, hm⟩
    unfold slices_IndexFunc_J1 at hm
    refine reg [] [] [4] [pl 4 (.int .i64 (-1))] hF hS Fol (by kernel_rfl) (by kernel_rfl) (by kernel_rfl) ?_ (fun a w hF hS => ?_)
    · exact obs_nil
    refine wp_ret ?_
    have hm : some (-1) = some r := hm
    obtain rfl := Option.some.inj hm
    exact retV (rs := [.tmp 4]) (vs := [.int .i64 (-1)]) hF rfl (rv_t (by kernel_rfl) <| rv_nil) rfl ⟨rfl, hS⟩
  · refine reg [] [] [0, 1, 7, 8] [pl 0 (.slice A1 s1.length c1), pl 1 (.func (.func 120) #[] #[]), pl 7 (.int .i64 (s1.length : Int)), pl 8 (.int .i64 0)] hF hS Fol (by kernel_rfl) (by kernel_rfl) (by kernel_rfl) ?_ (fun a w hF hS => ?_)
    · exact obs_nil
    refine wp_block ?_
    refine wp_loop_model (S := Int) (R := (Fl Unit Int)) (slices_IndexFunc_L1 s1) (fun x => (slices_IndexFunc_K1 x).bind some) r (fun (x : Int) a w => Fr 19 [pl 0 (.slice A1 s1.length c1), pl 1 (.func (.func 120) #[] #[]), pl 7 (.int .i64 (s1.length : Int)), pl 8 (.int .i64 x)] a ∧ Sep w0 B w (fs)) (assoc_b hm) ⟨hF.weak [0, 1, 7, 8] (by kernel_rfl), hS⟩ ?_
    clear hF hS hm
    rintro nn1 z1 a w ⟨hF, hS⟩ hm
    generalize hφ1 : stK (slices_IndexFunc_L1 s1) nn1 (fun x => (slices_IndexFunc_K1 x).bind some) = φ1 at hm
    unfold slices_IndexFunc_L1 at hm
    dsimp only at hm
    refine reg [] [] [0, 1, 7, 8, 9] [pl 0 (.slice A1 s1.length c1), pl 1 (.func (.func 120) #[] #[]), pl 7 (.int .i64 (s1.length : Int)), pl 8 (.int .i64 z1), pl 9 (.bool (decide (z1 < (s1.length : Int))))] hF hS Fol (by kernel_rfl) (by kernel_rfl) (by kernel_rfl) ?_ (fun a w hF hS => ?_)
    · exact obs_nil
    refine seq_cut (fun a w => Fr 19 [pl 0 (.slice A1 s1.length c1), pl 1 (.func (.func 120) #[] #[]), pl 7 (.int .i64 (s1.length : Int)), pl 8 (.int .i64 z1)] a ∧ Sep w0 B w (fs) ∧ ((slices_IndexFunc_J2 s1 z1)).bind φ1 = some r) ?_ ?_
    · rintro a w ⟨hF, hS, hm⟩
      unfold slices_IndexFunc_J2 at hm
      refine seq_cut (fun a w => Fr 19 [pl 0 (.slice A1 s1.length c1), pl 1 (.func (.func 120) #[] #[]), pl 7 (.int .i64 (s1.length : Int)), pl 8 (.int .i64 z1)] a ∧ Sep w0 B w (fs) ∧ ((slices_IndexFunc_J3 z1)).bind φ1 = some r) ?_ ?_
      · rintro a w ⟨hF, hS, hm⟩
        unfold slices_IndexFunc_J3 at hm
        refine reg1 [] [] [0, 1, 7, 8] [pl 0 (.slice A1 s1.length c1), pl 1 (.func (.func 120) #[] #[]), pl 7 (.int .i64 (s1.length : Int)), pl 8 (.int .i64 (w64 (z1 + 1)))] hF hS Fol (by kernel_rfl) (by kernel_rfl) (by kernel_rfl) ?_ (fun a w hF hS => ?_)
        · exact obs_nil
        refine then_n ?_
        rw [← hφ1] at hm
        exact ⟨(w64 (z1 + 1)), ⟨hF.weak [0, 1, 7, 8] (by kernel_rfl), hS⟩, hm⟩
      · refine wp_block ?_
        refine reg [] [] [0, 1, 5, 7, 8] [pl 0 (.slice A1 s1.length c1), pl 1 (.func (.func 120) #[] #[]), pl 5 (.int .i64 z1), pl 7 (.int .i64 (s1.length : Int)), pl 8 (.int .i64 z1)] hF hS Fol (by kernel_rfl) (by kernel_rfl) (by kernel_rfl) ?_ (fun a w hF hS => ?_)
        · exact obs_nil
        obtain ⟨hp1, hm⟩ := asrt_b hm
        obtain ⟨r1, hr1, hm⟩ := call_b hm
        refine reg [⟨true, [], vS (Instr.indexAt 22 (.slice A1 s1.length c1) (.int .i64 z1)), .pointer (some (sAddr A1 z1))⟩, ⟨false, [], vS (Instr.loadAt 3 (.pointer (some (sAddr A1 z1)))), .int .i64 (geti s1 z1)⟩, ⟨false, [], callFunc 120 #[.int .i64 (geti s1 z1)], .bool r1⟩] [none, none, none, some (.pointer (some (sAddr A1 z1))), some (.int .i64 (geti s1 z1)), some (.bool r1)] [0, 1, 5, 7, 8, 16] [pl 0 (.slice A1 s1.length c1), pl 1 (.func (.func 120) #[] #[]), pl 5 (.int .i64 z1), pl 7 (.int .i64 (s1.length : Int)), pl 8 (.int .i64 z1), pl 16 (.bool r1)] hF hS Fol (by kernel_rfl) (by kernel_rfl) (by kernel_rfl) ?_ (fun a w hF hS => ?_)
        · exact obs_cons (ob_ix1 (f := (Value.int .i64)) (m := s1) Und22 hi3 hs3 (hr_s1 _ (hS.dropN 0)) rfl (fun _ => hp1)) <| obs_cons (ob_get1 (n := s1.length) (m := s1) (Value.int .i64) (0 : Int) Agg3 (fun _ hS => ⟨_, (hr_s1 _ (hS.dropN 0))⟩) (fun _ hS => rfl) (fun _ => hp1)) <| obs_cons (ob_call Try.func120 (by kernel_rfl) rfl (fun _ _ hS => nono_checkLine_1_w hr1 hS )) <| obs_nil
        refine cond_ev (t := 16) (b := r1) hF (by kernel_rfl) (fun hb => ?_) (fun hb => ?_)
        · replace hm := if_t hm hb
          refine reg [] [] [4] [pl 4 (.int .i64 z1)] hF hS Fol (by kernel_rfl) (by kernel_rfl) (by kernel_rfl) ?_ (fun a w hF hS => ?_)
          · exact obs_nil
          refine wp_ret ?_
          refine block_r (then_r (then_r (block_r (then_r ?_))))
          rw [← hφ1] at hm
          replace hm := done_b hm
          unfold slices_IndexFunc_K1 at hm
          try dsimp only at hm
          have hm : some z1 = some r := hm
          obtain rfl := Option.some.inj hm
          exact retV (rs := [.tmp 4]) (vs := [.int .i64 z1]) hF rfl (rv_t (by kernel_rfl) <| rv_nil) rfl ⟨rfl, hS⟩
        · replace hm := if_f hm hb
          refine wp_skip ?_
          refine block_n ?_
          refine then_n ?_
          exact ⟨hF.weak [0, 1, 7, 8] (by kernel_rfl), hS, hm⟩
    · refine cond_ev (t := 9) (b := decide (z1 < (s1.length : Int))) hF (by kernel_rfl) (fun hb => ?_) (fun hb => ?_)
      · replace hm := if_t hm hb
        refine wp_skip ?_
        refine then_n ?_
        exact ⟨hF.weak [0, 1, 7, 8] (by kernel_rfl), hS, hm⟩
      · replace hm := if_f hm hb
        refine wp_exit ?_
        refine then_e (then_e (block_e (then_n ?_)))
        rw [← hφ1] at hm
        replace hm := done_b hm
        unfold slices_IndexFunc_K1 at hm
        try dsimp only at hm
        have hm : (slices_IndexFunc_J1).bind some = some r := hm
        exact ⟨hF.weak [] (by kernel_rfl), hS, hm⟩

noncomputable def slices_ContainsFunc_m (s1 : List Int) : Option Bool :=
  (slices_IndexFunc_m s1).bind fun r1 => some (decide ((0 : Int) ≤ r1))

set_option maxRecDepth 100000 in
set_option maxHeartbeats 4000000 in
theorem slices_ContainsFunc_w {A1 : Option Addr} {c1 : Nat} {n1 : Nat} {s1 : List Int} {r : Bool} {w0 w : World} {B : Nat} {fs : List HP} (hm : slices_ContainsFunc_m s1 = some r) (hS : Sep w0 B w (fs)) (hr_s1 : RdF w0 B fs A1 (vI s1)) (_hc_s1 : s1.length ≤ c1) (_hn_s1 : n1 = s1.length) :
    Calls Try.prog 94 #[.slice A1 n1 c1, .func (.func 120) #[] #[]] w fun e w' => e = .returned (.bool r) ∧ Sep w0 B w' (fs) := by
  obtain ⟨i3, hi3, hz3, hs3, hb3⟩ := info_parts Info3
  obtain rfl := _hn_s1
  unfold slices_ContainsFunc_m at hm
  replace hm := start_b hm
  refine enter (l := [.slice A1 s1.length c1, .func (.func 120) #[] #[]]) (n := 9) Try.func94 rfl rfl (by simp) (fun a hF => ?_)
  refine reg [] [] [0, 1] [pl 0 (.slice A1 s1.length c1), pl 1 (.func (.func 120) #[] #[])] hF hS Fol (by kernel_rfl) (by kernel_rfl) (by kernel_rfl) ?_ (fun a w hF hS => ?_)
  · exact obs_nil
  obtain ⟨r1, hr1, hm⟩ := call_b hm
  refine reg [⟨false, [], callFunc 123 #[.slice A1 s1.length c1, .func (.func 120) #[] #[]], .int .i64 r1⟩] [none, none, some (.int .i64 r1), none, none] [4] [pl 4 (.bool (decide ((0 : Int) ≤ r1)))] hF hS Fol (by kernel_rfl) (by kernel_rfl) (by kernel_rfl) ?_ (fun a w hF hS => ?_)
  · exact obs_cons (ob_call Try.func123 (by kernel_rfl) rfl (fun _ _ hS => slices_IndexFunc_w hr1 hS (fun _ hS => (hr_s1 _ (hS.dropN 0))) _hc_s1 rfl)) <| obs_nil
  refine wp_ret ?_
  have hm : some (decide ((0 : Int) ≤ r1)) = some r := hm
  obtain rfl := Option.some.inj hm
  exact retV (rs := [.tmp 4]) (vs := [.bool (decide ((0 : Int) ≤ r1))]) hF rfl (rv_t (by kernel_rfl) <| rv_nil) rfl ⟨rfl, hS⟩

noncomputable def nono_checkLine_J1 : Option Int :=
  some 0

noncomputable def nono_checkLine_m (line1 : List Int) : Option Int :=
  if (decide ((20 : Int) < (line1.length : Int))) then (some 2) else ((slices_ContainsFunc_m line1).bind fun r1 => if r1 then (some 3) else (nono_checkLine_J1))

set_option maxRecDepth 100000 in
set_option maxHeartbeats 4000000 in
theorem nono_checkLine_w {A1 : Option Addr} {c1 : Nat} {n1 : Nat} {line1 : List Int} {r : Int} {w0 w : World} {B : Nat} {fs : List HP} (hm : nono_checkLine_m line1 = some r) (hS : Sep w0 B w (fs)) (hr_line1 : RdF w0 B fs A1 (vI line1)) (_hc_line1 : line1.length ≤ c1) (_hn_line1 : n1 = line1.length) :
    Calls Try.prog 84 #[.slice A1 n1 c1] w fun e w' => e = .returned (.int .i64 r) ∧ Sep w0 B w' (fs) := by
  obtain ⟨i3, hi3, hz3, hs3, hb3⟩ := info_parts Info3
  obtain rfl := _hn_line1
  unfold nono_checkLine_m at hm
  replace hm := start_b hm
  refine enter (l := [.slice A1 line1.length c1]) (n := 10) Try.func84 rfl rfl (by simp) (fun a hF => ?_)
  refine reg [] [] [0] [pl 0 (.slice A1 line1.length c1)] hF hS Fol (by kernel_rfl) (by kernel_rfl) (by kernel_rfl) ?_ (fun a w hF hS => ?_)
  · exact obs_nil
  refine seq_cut (fun a w => Fr 10 [] a ∧ Sep w0 B w (fs) ∧ (nono_checkLine_J1).bind some = some r) ?_ ?_
  · rintro a w ⟨hF, hS, hm⟩
    unfold nono_checkLine_J1 at hm
    refine reg [] [] [2] [pl 2 (.int .i64 0)] hF hS Fol (by kernel_rfl) (by kernel_rfl) (by kernel_rfl) ?_ (fun a w hF hS => ?_)
    · exact obs_nil
    refine wp_ret ?_
    have hm : some 0 = some r := hm
    obtain rfl := Option.some.inj hm
    exact retV (rs := [.tmp 2]) (vs := [.int .i64 0]) hF rfl (rv_t (by kernel_rfl) <| rv_nil) rfl ⟨rfl, hS⟩
  · refine wp_block ?_
    refine reg [] [] [0, 3] [pl 0 (.slice A1 line1.length c1), pl 3 (.bool (decide ((20 : Int) < (line1.length : Int))))] hF hS Fol (by kernel_rfl) (by kernel_rfl) (by kernel_rfl) ?_ (fun a w hF hS => ?_)
    · exact obs_nil
    refine cond_ev (t := 3) (b := decide ((20 : Int) < (line1.length : Int))) hF (by kernel_rfl) (fun hb => ?_) (fun hb => ?_)
    · replace hm := if_t hm hb
      refine reg [] [] [2] [pl 2 (.int .i64 2)] hF hS Fol (by kernel_rfl) (by kernel_rfl) (by kernel_rfl) ?_ (fun a w hF hS => ?_)
      · exact obs_nil
      refine wp_ret ?_
      refine block_r (then_r ?_)
      have hm : some 2 = some r := hm
      obtain rfl := Option.some.inj hm
      exact retV (rs := [.tmp 2]) (vs := [.int .i64 2]) hF rfl (rv_t (by kernel_rfl) <| rv_nil) rfl ⟨rfl, hS⟩
    · replace hm := if_f hm hb
      obtain ⟨r1, hr1, hm⟩ := call_b hm
      refine reg [⟨false, [], callFunc 94 #[.slice A1 line1.length c1, .func (.func 120) #[] #[]], .bool r1⟩] [none, some (.bool r1), none] [7] [pl 7 (.bool r1)] hF hS Fol (by kernel_rfl) (by kernel_rfl) (by kernel_rfl) ?_ (fun a w hF hS => ?_)
      · exact obs_cons (ob_call Try.func94 (by kernel_rfl) rfl (fun _ _ hS => slices_ContainsFunc_w hr1 hS (fun _ hS => (hr_line1 _ (hS.dropN 0))) _hc_line1 rfl)) <| obs_nil
      refine cond_ev (t := 7) (b := r1) hF (by kernel_rfl) (fun hb => ?_) (fun hb => ?_)
      · replace hm := if_t hm hb
        refine reg [] [] [2] [pl 2 (.int .i64 3)] hF hS Fol (by kernel_rfl) (by kernel_rfl) (by kernel_rfl) ?_ (fun a w hF hS => ?_)
        · exact obs_nil
        refine wp_ret ?_
        refine block_r (then_r ?_)
        have hm : some 3 = some r := hm
        obtain rfl := Option.some.inj hm
        exact retV (rs := [.tmp 2]) (vs := [.int .i64 3]) hF rfl (rv_t (by kernel_rfl) <| rv_nil) rfl ⟨rfl, hS⟩
      · replace hm := if_f hm hb
        refine wp_skip ?_
        refine block_n ?_
        refine then_n ?_
        exact ⟨hF.weak [] (by kernel_rfl), hS, hm⟩

noncomputable def slices_Index_J3 (z1 : Int) : Option (St Int (Fl Unit Int)) :=
  some (.next (w64 (z1 + 1)))

noncomputable def slices_Index_J2 (s1 : List Int) (v1 : Int) (z1 : Int) : Option (St Int (Fl Unit Int)) :=
  asrt (0 ≤ z1 ∧ z1 < (s1.length : Int)) <| if (v1 == (geti s1 z1)) then (some (.done (.ret z1))) else ((slices_Index_J3 z1))

noncomputable def slices_Index_J1 : Option Int :=
  some (-1)

noncomputable def slices_Index_K1 : (Fl Unit Int) → Option Int :=
  fun (x : (Fl Unit Int)) => match x with | .go _ => slices_Index_J1 | .ret x => some x

noncomputable def slices_Index_L1 (s1 : List Int) (v1 : Int) : Int → Option (St Int (Fl Unit Int)) :=
  fun (x : Int) => match x with | z1 => if (decide (z1 < (s1.length : Int))) then ((slices_Index_J2 s1 v1 z1)) else (some (.done (.go ())))

noncomputable def slices_Index_m (s1 : List Int) (v1 : Int) : Option Int :=
  (loop (slices_Index_L1 s1 v1) 0).bind slices_Index_K1

set_option maxRecDepth 100000 in
set_option maxHeartbeats 4000000 in
theorem slices_Index_w {A1 : Option Addr} {c1 : Nat} {n1 : Nat} {s1 : List Int} {v1 : Int} {r : Int} {w0 w : World} {B : Nat} {fs : List HP} (hm : slices_Index_m s1 v1 = some r) (hS : Sep w0 B w (fs)) (hr_s1 : RdF w0 B fs A1 (vI s1)) (_hc_s1 : s1.length ≤ c1) (_hn_s1 : n1 = s1.length) :
    Calls Try.prog 103 #[.slice A1 n1 c1, .int .i64 v1] w fun e w' => e = .returned (.int .i64 r) ∧ Sep w0 B w' (fs) := by
  obtain ⟨i3, hi3, hz3, hs3, hb3⟩ := info_parts Info3
  obtain rfl := _hn_s1
  unfold slices_Index_m at hm
  replace hm := start_b hm
  refine enter (l := [.slice A1 s1.length c1, .int .i64 v1]) (n := 19) Try.func103 rfl rfl (by simp) (fun a hF => ?_)
  refine reg [] [] [0, 1] [pl 0 (.slice A1 s1.length c1), pl 1 (.int .i64 v1)] hF hS Fol (by kernel_rfl) (by kernel_rfl) (by kernel_rfl) ?_ (fun a w hF hS => ?_)
  · exact obs_nil
  refine seq_cut (fun a w => Fr 19 [] a ∧ Sep w0 B w (fs) ∧ (slices_Index_J1).bind some = some r) ?_ ?_
  · rintro a w ⟨hF, hS, hm⟩
    unfold slices_Index_J1 at hm
    refine reg [] [] [4] [pl 4 (.int .i64 (-1))] hF hS Fol (by kernel_rfl) (by kernel_rfl) (by kernel_rfl) ?_ (fun a w hF hS => ?_)
    · exact obs_nil
    refine wp_ret ?_
    have hm : some (-1) = some r := hm
    obtain rfl := Option.some.inj hm
    exact retV (rs := [.tmp 4]) (vs := [.int .i64 (-1)]) hF rfl (rv_t (by kernel_rfl) <| rv_nil) rfl ⟨rfl, hS⟩
  · refine reg [] [] [0, 1, 7, 8] [pl 0 (.slice A1 s1.length c1), pl 1 (.int .i64 v1), pl 7 (.int .i64 (s1.length : Int)), pl 8 (.int .i64 0)] hF hS Fol (by kernel_rfl) (by kernel_rfl) (by kernel_rfl) ?_ (fun a w hF hS => ?_)
    · exact obs_nil
    refine wp_block ?_
    refine wp_loop_model (S := Int) (R := (Fl Unit Int)) (slices_Index_L1 s1 v1) (fun x => (slices_Index_K1 x).bind some) r (fun (x : Int) a w => Fr 19 [pl 0 (.slice A1 s1.length c1), pl 1 (.int .i64 v1), pl 7 (.int .i64 (s1.length : Int)), pl 8 (.int .i64 x)] a ∧ Sep w0 B w (fs)) (assoc_b hm) ⟨hF.weak [0, 1, 7, 8] (by kernel_rfl), hS⟩ ?_
    clear hF hS hm
    rintro nn1 z1 a w ⟨hF, hS⟩ hm
    generalize hφ1 : stK (slices_Index_L1 s1 v1) nn1 (fun x => (slices_Index_K1 x).bind some) = φ1 at hm
    unfold slices_Index_L1 at hm
    dsimp only at hm
    refine reg [] [] [0, 1, 7, 8, 9] [pl 0 (.slice A1 s1.length c1), pl 1 (.int .i64 v1), pl 7 (.int .i64 (s1.length : Int)), pl 8 (.int .i64 z1), pl 9 (.bool (decide (z1 < (s1.length : Int))))] hF hS Fol (by kernel_rfl) (by kernel_rfl) (by kernel_rfl) ?_ (fun a w hF hS => ?_)
    · exact obs_nil
    refine seq_cut (fun a w => Fr 19 [pl 0 (.slice A1 s1.length c1), pl 1 (.int .i64 v1), pl 7 (.int .i64 (s1.length : Int)), pl 8 (.int .i64 z1)] a ∧ Sep w0 B w (fs) ∧ ((slices_Index_J2 s1 v1 z1)).bind φ1 = some r) ?_ ?_
    · rintro a w ⟨hF, hS, hm⟩
      unfold slices_Index_J2 at hm
      refine seq_cut (fun a w => Fr 19 [pl 0 (.slice A1 s1.length c1), pl 1 (.int .i64 v1), pl 7 (.int .i64 (s1.length : Int)), pl 8 (.int .i64 z1)] a ∧ Sep w0 B w (fs) ∧ ((slices_Index_J3 z1)).bind φ1 = some r) ?_ ?_
      · rintro a w ⟨hF, hS, hm⟩
        unfold slices_Index_J3 at hm
        refine reg1 [] [] [0, 1, 7, 8] [pl 0 (.slice A1 s1.length c1), pl 1 (.int .i64 v1), pl 7 (.int .i64 (s1.length : Int)), pl 8 (.int .i64 (w64 (z1 + 1)))] hF hS Fol (by kernel_rfl) (by kernel_rfl) (by kernel_rfl) ?_ (fun a w hF hS => ?_)
        · exact obs_nil
        refine then_n ?_
        rw [← hφ1] at hm
        exact ⟨(w64 (z1 + 1)), ⟨hF.weak [0, 1, 7, 8] (by kernel_rfl), hS⟩, hm⟩
      · refine wp_block ?_
        refine reg [] [] [0, 1, 5, 7, 8] [pl 0 (.slice A1 s1.length c1), pl 1 (.int .i64 v1), pl 5 (.int .i64 z1), pl 7 (.int .i64 (s1.length : Int)), pl 8 (.int .i64 z1)] hF hS Fol (by kernel_rfl) (by kernel_rfl) (by kernel_rfl) ?_ (fun a w hF hS => ?_)
        · exact obs_nil
        obtain ⟨hp1, hm⟩ := asrt_b hm
        refine reg [⟨true, [], vS (Instr.indexAt 22 (.slice A1 s1.length c1) (.int .i64 z1)), .pointer (some (sAddr A1 z1))⟩, ⟨false, [], vS (Instr.loadAt 3 (.pointer (some (sAddr A1 z1)))), .int .i64 (geti s1 z1)⟩] [none, none, none, some (.pointer (some (sAddr A1 z1))), some (.int .i64 (geti s1 z1)), none] [0, 1, 5, 7, 8, 16] [pl 0 (.slice A1 s1.length c1), pl 1 (.int .i64 v1), pl 5 (.int .i64 z1), pl 7 (.int .i64 (s1.length : Int)), pl 8 (.int .i64 z1), pl 16 (.bool (v1 == (geti s1 z1)))] hF hS Fol (by kernel_rfl) (by kernel_rfl) (by kernel_rfl) ?_ (fun a w hF hS => ?_)
        · exact obs_cons (ob_ix1 (f := (Value.int .i64)) (m := s1) Und22 hi3 hs3 (hr_s1 _ (hS.dropN 0)) rfl (fun _ => hp1)) <| obs_cons (ob_get1 (n := s1.length) (m := s1) (Value.int .i64) (0 : Int) Agg3 (fun _ hS => ⟨_, (hr_s1 _ (hS.dropN 0))⟩) (fun _ hS => rfl) (fun _ => hp1)) <| obs_nil
        refine cond_ev (t := 16) (b := (v1 == (geti s1 z1))) hF (by kernel_rfl) (fun hb => ?_) (fun hb => ?_)
        · replace hm := if_t hm hb
          refine reg [] [] [4] [pl 4 (.int .i64 z1)] hF hS Fol (by kernel_rfl) (by kernel_rfl) (by kernel_rfl) ?_ (fun a w hF hS => ?_)
          · exact obs_nil
          refine wp_ret ?_
          refine block_r (then_r (then_r (block_r (then_r ?_))))
          rw [← hφ1] at hm
          replace hm := done_b hm
          unfold slices_Index_K1 at hm
          try dsimp only at hm
          have hm : some z1 = some r := hm
          obtain rfl := Option.some.inj hm
          exact retV (rs := [.tmp 4]) (vs := [.int .i64 z1]) hF rfl (rv_t (by kernel_rfl) <| rv_nil) rfl ⟨rfl, hS⟩
        · replace hm := if_f hm hb
          refine wp_skip ?_
          refine block_n ?_
          refine then_n ?_
          exact ⟨hF.weak [0, 1, 7, 8] (by kernel_rfl), hS, hm⟩
    · refine cond_ev (t := 9) (b := decide (z1 < (s1.length : Int))) hF (by kernel_rfl) (fun hb => ?_) (fun hb => ?_)
      · replace hm := if_t hm hb
        refine wp_skip ?_
        refine then_n ?_
        exact ⟨hF.weak [0, 1, 7, 8] (by kernel_rfl), hS, hm⟩
      · replace hm := if_f hm hb
        refine wp_exit ?_
        refine then_e (then_e (block_e (then_n ?_)))
        rw [← hφ1] at hm
        replace hm := done_b hm
        unfold slices_Index_K1 at hm
        try dsimp only at hm
        have hm : (slices_Index_J1).bind some = some r := hm
        exact ⟨hF.weak [] (by kernel_rfl), hS, hm⟩

noncomputable def slices_Contains_m (s1 : List Int) (v1 : Int) : Option Bool :=
  (slices_Index_m s1 v1).bind fun r1 => some (decide ((0 : Int) ≤ r1))

set_option maxRecDepth 100000 in
set_option maxHeartbeats 4000000 in
theorem slices_Contains_w {A1 : Option Addr} {c1 : Nat} {n1 : Nat} {s1 : List Int} {v1 : Int} {r : Bool} {w0 w : World} {B : Nat} {fs : List HP} (hm : slices_Contains_m s1 v1 = some r) (hS : Sep w0 B w (fs)) (hr_s1 : RdF w0 B fs A1 (vI s1)) (_hc_s1 : s1.length ≤ c1) (_hn_s1 : n1 = s1.length) :
    Calls Try.prog 85 #[.slice A1 n1 c1, .int .i64 v1] w fun e w' => e = .returned (.bool r) ∧ Sep w0 B w' (fs) := by
  obtain ⟨i3, hi3, hz3, hs3, hb3⟩ := info_parts Info3
  obtain rfl := _hn_s1
  unfold slices_Contains_m at hm
  replace hm := start_b hm
  refine enter (l := [.slice A1 s1.length c1, .int .i64 v1]) (n := 9) Try.func85 rfl rfl (by simp) (fun a hF => ?_)
  refine reg [] [] [0, 1] [pl 0 (.slice A1 s1.length c1), pl 1 (.int .i64 v1)] hF hS Fol (by kernel_rfl) (by kernel_rfl) (by kernel_rfl) ?_ (fun a w hF hS => ?_)
  · exact obs_nil
  obtain ⟨r1, hr1, hm⟩ := call_b hm
  refine reg [⟨false, [], callFunc 103 #[.slice A1 s1.length c1, .int .i64 v1], .int .i64 r1⟩] [none, none, some (.int .i64 r1), none, none] [4] [pl 4 (.bool (decide ((0 : Int) ≤ r1)))] hF hS Fol (by kernel_rfl) (by kernel_rfl) (by kernel_rfl) ?_ (fun a w hF hS => ?_)
  · exact obs_cons (ob_call Try.func103 (by kernel_rfl) rfl (fun _ _ hS => slices_Index_w hr1 hS (fun _ hS => (hr_s1 _ (hS.dropN 0))) _hc_s1 rfl)) <| obs_nil
  refine wp_ret ?_
  have hm : some (decide ((0 : Int) ≤ r1)) = some r := hm
  obtain rfl := Option.some.inj hm
  exact retV (rs := [.tmp 4]) (vs := [.bool (decide ((0 : Int) ≤ r1))]) hF rfl (rv_t (by kernel_rfl) <| rv_nil) rfl ⟨rfl, hS⟩

noncomputable def nono_clue_J3 (z1 : Int) (l3 : List Int) : Option (St (List Int × Int) (List Int)) :=
  some (.next (l3, (w64 (z1 + 1))))

noncomputable def nono_clue_J2 (line1 : List Int) (l1 : List Int) (z1 : Int) : Option (St (List Int × Int) (List Int)) :=
  asrt (0 ≤ z1 ∧ z1 < (line1.length : Int)) <| if ((geti line1 z1) == 0) then ((nono_clue_J3 z1) l1) else (asrt ((decide ((0 : Int) < z1)) = true → 0 ≤ (w64 (z1 - 1)) ∧ (w64 (z1 - 1)) < (line1.length : Int)) <| if ((decide ((0 : Int) < z1)) && ((geti line1 (w64 (z1 - 1))) == 1)) then (asrt (0 ≤ (w64 ((l1.length : Int) - 1)) ∧ (w64 ((l1.length : Int) - 1)) < (l1.length : Int)) <| asrt (0 ≤ (w64 ((l1.length : Int) - 1)) ∧ (w64 ((l1.length : Int) - 1)) < (l1.length : Int)) <| (nono_clue_J3 z1) (l1.set (Int.toNat (w64 ((l1.length : Int) - 1))) (w64 ((geti l1 (w64 ((l1.length : Int) - 1))) + 1)))) else (asrt ((l1.length : Int) + 1 ≤ bigN) <| (nono_clue_J3 z1) (l1 ++ ([1] : List Int))))

noncomputable def nono_clue_J1 (l2 : List Int) : Option (List Int) :=
  some l2

noncomputable def nono_clue_K1 : (List Int) → Option (List Int) :=
  fun (x : (List Int)) => match x with | l2 => nono_clue_J1 l2

noncomputable def nono_clue_L1 (line1 : List Int) : (List Int × Int) → Option (St (List Int × Int) (List Int)) :=
  fun (x : (List Int × Int)) => match x with | (l1, z1) => if (decide (z1 < (line1.length : Int))) then ((nono_clue_J2 line1 l1 z1)) else (some (.done l1))

noncomputable def nono_clue_m (line1 : List Int) : Option (List Int) :=
  (loop (nono_clue_L1 line1) (([] : List Int), 0)).bind nono_clue_K1

set_option maxRecDepth 100000 in
set_option maxHeartbeats 4000000 in
theorem nono_clue_w {A1 : Option Addr} {c1 : Nat} {n1 : Nat} {line1 : List Int} {r : (List Int)} {w0 w : World} {B : Nat} {fs : List HP} (hm : nono_clue_m line1 = some r) (hS : Sep w0 B w (fs)) (hr_line1 : RdF w0 B fs A1 (vI line1)) (_hc_line1 : line1.length ≤ c1) (_hn_line1 : n1 = line1.length) :
    Calls Try.prog 86 #[.slice A1 n1 c1] w fun e w' => ∃ v, e = .returned v ∧ ∃ (A6 : Option Addr) (c6 : Nat), v = .slice A6 r.length c6 ∧ Sep w0 B w' (own 3 (.slice A6 r.length c6) (vI r) :: fs) := by
  obtain ⟨i3, hi3, hz3, hs3, hb3⟩ := info_parts Info3
  obtain rfl := _hn_line1
  unfold nono_clue_m at hm
  replace hm := start_b hm
  refine enter (l := [.slice A1 line1.length c1]) (n := 40) Try.func86 rfl rfl (by simp) (fun a hF => ?_)
  refine reg [] [] [0] [pl 0 (.slice A1 line1.length c1)] hF hS Fol (by kernel_rfl) (by kernel_rfl) (by kernel_rfl) ?_ (fun a w hF hS => ?_)
  · exact obs_nil
  refine reg [] [] [0, 3] [pl 0 (.slice A1 line1.length c1), pl 3 (.slice none 0 0)] hF hS Fol (by kernel_rfl) (by kernel_rfl) (by kernel_rfl) ?_ (fun a w hF hS => ?_)
  · exact obs_nil
  refine seq_cut (fun a w => ∃ (l2 : List Int) (A3 : Option Addr) (c3 : Nat), Fr 40 [pl 3 (.slice A3 l2.length c3)] a ∧ Sep w0 B w (own 3 (.slice A3 l2.length c3) (vI l2) :: fs) ∧ (nono_clue_J1 l2).bind some = some r) ?_ ?_
  · rintro a w ⟨l2, A3, c3, hF, hS, hm⟩
    unfold nono_clue_J1 at hm
    refine reg [] [] [2] [pl 2 (.slice A3 l2.length c3)] hF hS Fol (by kernel_rfl) (by kernel_rfl) (by kernel_rfl) ?_ (fun a w hF hS => ?_)
    · exact obs_nil
    refine wp_ret ?_
    have hm : some l2 = some r := hm
    obtain rfl := Option.some.inj hm
    exact retV (rs := [.tmp 2]) (vs := [.slice A3 l2.length c3]) hF rfl (rv_t (by kernel_rfl) <| rv_nil) rfl ⟨_, rfl, A3, c3, rfl, hS⟩
  · refine reg [] [] [0, 3, 6, 7, 8] [pl 0 (.slice A1 line1.length c1), pl 3 (.slice none 0 0), pl 6 (.slice A1 line1.length c1), pl 7 (.int .i64 (line1.length : Int)), pl 8 (.int .i64 0)] hF hS Fol (by kernel_rfl) (by kernel_rfl) (by kernel_rfl) ?_ (fun a w hF hS => ?_)
    · exact obs_nil
    refine wp_block ?_
    have hS : Sep w0 B w (own 3 (.slice none 0 0) (vI ([] : List Int)) :: fs) := hS.nil 3
    have hl1 := (hS.at_ 0 rfl).len1
    have hS := (hS.at_ 0 rfl).reN hl1
    have hS : Sep w0 B w (own 3 (.slice none (([] : List Int).length) 0) (vI ([] : List Int)) :: fs) := hS
    have hF := hF.cast (t := 3) (v := .slice none 0 0) (v' := .slice none (([] : List Int).length) 0) rfl rfl (congrArg (fun k => Value.slice none k 0) hl1)
    refine wp_loop_model (S := (List Int × Int)) (R := (List Int)) (nono_clue_L1 line1) (fun x => (nono_clue_K1 x).bind some) r (fun (x : (List Int × Int)) a w => ∃ (A2 : Option Addr) (c2 : Nat), Fr 40 [pl 0 (.slice A1 line1.length c1), pl 3 (.slice A2 x.1.length c2), pl 6 (.slice A1 line1.length c1), pl 7 (.int .i64 (line1.length : Int)), pl 8 (.int .i64 x.2)] a ∧ Sep w0 B w (own 3 (.slice A2 x.1.length c2) (vI x.1) :: fs)) (assoc_b hm) ⟨none, 0, hF.weak [0, 3, 6, 7, 8] (by kernel_rfl), hS⟩ ?_
    clear hF hS hm
    rintro nn1 ⟨l1, z1⟩ a w ⟨A2, c2, hF, hS⟩ hm
    generalize hφ1 : stK (nono_clue_L1 line1) nn1 (fun x => (nono_clue_K1 x).bind some) = φ1 at hm
    unfold nono_clue_L1 at hm
    dsimp only at hF hS hm
    refine reg [] [] [0, 3, 6, 7, 8, 9] [pl 0 (.slice A1 line1.length c1), pl 3 (.slice A2 l1.length c2), pl 6 (.slice A1 line1.length c1), pl 7 (.int .i64 (line1.length : Int)), pl 8 (.int .i64 z1), pl 9 (.bool (decide (z1 < (line1.length : Int))))] hF hS Fol (by kernel_rfl) (by kernel_rfl) (by kernel_rfl) ?_ (fun a w hF hS => ?_)
    · exact obs_nil
    refine seq_cut (fun a w => Fr 40 [pl 0 (.slice A1 line1.length c1), pl 3 (.slice A2 l1.length c2), pl 6 (.slice A1 line1.length c1), pl 7 (.int .i64 (line1.length : Int)), pl 8 (.int .i64 z1)] a ∧ Sep w0 B w (own 3 (.slice A2 l1.length c2) (vI l1) :: fs) ∧ ((nono_clue_J2 line1 l1 z1)).bind φ1 = some r) ?_ ?_
    · rintro a w ⟨hF, hS, hm⟩
      unfold nono_clue_J2 at hm
      refine seq_cut (fun a w => ∃ (l3 : List Int) (A4 : Option Addr) (c4 : Nat), Fr 40 [pl 0 (.slice A1 line1.length c1), pl 3 (.slice A4 l3.length c4), pl 6 (.slice A1 line1.length c1), pl 7 (.int .i64 (line1.length : Int)), pl 8 (.int .i64 z1)] a ∧ Sep w0 B w (own 3 (.slice A4 l3.length c4) (vI l3) :: fs) ∧ ((nono_clue_J3 z1) l3).bind φ1 = some r) ?_ ?_
      · rintro a w ⟨l3, A4, c4, hF, hS, hm⟩
        unfold nono_clue_J3 at hm
        refine reg1 [] [] [0, 3, 6, 7, 8] [pl 0 (.slice A1 line1.length c1), pl 3 (.slice A4 l3.length c4), pl 6 (.slice A1 line1.length c1), pl 7 (.int .i64 (line1.length : Int)), pl 8 (.int .i64 (w64 (z1 + 1)))] hF hS Fol (by kernel_rfl) (by kernel_rfl) (by kernel_rfl) ?_ (fun a w hF hS => ?_)
        · exact obs_nil
        refine then_n ?_
        rw [← hφ1] at hm
        exact ⟨(l3, (w64 (z1 + 1))), ⟨A4, c4, hF.weak [0, 3, 6, 7, 8] (by kernel_rfl), hS⟩, hm⟩
      · refine wp_block ?_
        obtain ⟨hp1, hm⟩ := asrt_b hm
        refine reg [⟨true, [], vS (Instr.indexAt 22 (.slice A1 line1.length c1) (.int .i64 z1)), .pointer (some (sAddr A1 z1))⟩, ⟨false, [], vS (Instr.loadAt 3 (.pointer (some (sAddr A1 z1)))), .int .i64 (geti line1 z1)⟩] [none, some (.pointer (some (sAddr A1 z1))), some (.int .i64 (geti line1 z1)), none, none] [0, 3, 4, 5, 6, 7, 8] [pl 0 (.slice A1 line1.length c1), pl 3 (.slice A2 l1.length c2), pl 4 (.int .i64 z1), pl 5 (.int .i64 (geti line1 z1)), pl 6 (.slice A1 line1.length c1), pl 7 (.int .i64 (line1.length : Int)), pl 8 (.int .i64 z1)] hF hS Fol (by kernel_rfl) (by kernel_rfl) (by kernel_rfl) ?_ (fun a w hF hS => ?_)
        · exact obs_cons (ob_ix1 (f := (Value.int .i64)) (m := line1) Und22 hi3 hs3 (hr_line1 _ (hS.dropN 1)) rfl (fun _ => hp1)) <| obs_cons (ob_get1 (n := line1.length) (m := line1) (Value.int .i64) (0 : Int) Agg3 (fun _ hS => ⟨_, (hr_line1 _ (hS.dropN 1))⟩) (fun _ hS => rfl) (fun _ => hp1)) <| obs_nil
        refine wp_block ?_
        refine reg [] [] [0, 3, 4, 6, 7, 8, 16] [pl 0 (.slice A1 line1.length c1), pl 3 (.slice A2 l1.length c2), pl 4 (.int .i64 z1), pl 6 (.slice A1 line1.length c1), pl 7 (.int .i64 (line1.length : Int)), pl 8 (.int .i64 z1), pl 16 (.bool ((geti line1 z1) == 0))] hF hS Fol (by kernel_rfl) (by kernel_rfl) (by kernel_rfl) ?_ (fun a w hF hS => ?_)
        · exact obs_nil
        refine cond_ev (t := 16) (b := ((geti line1 z1) == 0)) hF (by kernel_rfl) (fun hb => ?_) (fun hb => ?_)
        · replace hm := if_t hm hb
          refine wp_skip ?_
          refine block_n ?_
          refine block_n ?_
          refine then_n ?_
          exact ⟨l1, A2, c2, hF.weak [0, 3, 6, 7, 8] (by kernel_rfl), hS, hm⟩
        · replace hm := if_f hm hb
          obtain ⟨hp2, hm⟩ := asrt_b hm
          refine reg [⟨true, [(decide ((0 : Int) < z1), true)], vS (Instr.indexAt 22 (.slice A1 line1.length c1) (.int .i64 (w64 (z1 - 1)))), .pointer (some (sAddr A1 (w64 (z1 - 1))))⟩, ⟨false, [(decide ((0 : Int) < z1), true)], vS (Instr.loadAt 3 (.pointer (some (sAddr A1 (w64 (z1 - 1)))))), .int .i64 (geti line1 (w64 (z1 - 1)))⟩] [none, none, none, none, none, none, some (.pointer (some (sAddr A1 (w64 (z1 - 1))))), some (.int .i64 (geti line1 (w64 (z1 - 1)))), none, none, none] [0, 3, 6, 7, 8, 19] [pl 0 (.slice A1 line1.length c1), pl 3 (.slice A2 l1.length c2), pl 6 (.slice A1 line1.length c1), pl 7 (.int .i64 (line1.length : Int)), pl 8 (.int .i64 z1), pl 19 (.bool ((decide ((0 : Int) < z1)) && ((geti line1 (w64 (z1 - 1))) == 1)))] hF hS Fol (by kernel_rfl) (by kernel_rfl) (by kernel_rfl) ?_ (fun a w hF hS => ?_)
          · exact obs_cons (ob_ix1 (f := (Value.int .i64)) (m := line1) Und22 hi3 hs3 (hr_line1 _ (hS.dropN 1)) rfl (fun hy => hp2 (hy (decide ((0 : Int) < z1), true) (by simp)))) <| obs_cons (ob_get1 (n := line1.length) (m := line1) (Value.int .i64) (0 : Int) Agg3 (fun _ hS => ⟨_, (hr_line1 _ (hS.dropN 1))⟩) (fun _ hS => rfl) (fun hy => hp2 (hy (decide ((0 : Int) < z1), true) (by simp)))) <| obs_nil
          refine cond_ev (t := 19) (b := (decide ((0 : Int) < z1)) && ((geti line1 (w64 (z1 - 1))) == 1)) hF (by kernel_rfl) (fun hb => ?_) (fun hb => ?_)
          · replace hm := if_t hm hb
            refine oneR ?_
            obtain ⟨hp3, hm⟩ := asrt_b hm
            obtain ⟨hp4, hm⟩ := asrt_b hm
            refine at_run 8 [⟨true, [], vS (Instr.indexAt 22 (.slice A2 l1.length c2) (.int .i64 (w64 ((l1.length : Int) - 1)))), .pointer (some (sAddr A2 (w64 ((l1.length : Int) - 1))))⟩, ⟨false, [], vS (Instr.loadAt 3 (.pointer (some (sAddr A2 (w64 ((l1.length : Int) - 1)))))), .int .i64 (geti l1 (w64 ((l1.length : Int) - 1)))⟩, ⟨true, [], vS (Instr.indexAt 22 (.slice A2 l1.length c2) (.int .i64 (w64 ((l1.length : Int) - 1)))), .pointer (some (sAddr A2 (w64 ((l1.length : Int) - 1))))⟩] [none, none, none, none, some (.pointer (some (sAddr A2 (w64 ((l1.length : Int) - 1))))), some (.int .i64 (geti l1 (w64 ((l1.length : Int) - 1)))), none, some (.pointer (some (sAddr A2 (w64 ((l1.length : Int) - 1)))))] [0, 3, 6, 7, 8, 36, 37] [pl 0 (.slice A1 line1.length c1), pl 3 (.slice A2 l1.length c2), pl 6 (.slice A1 line1.length c1), pl 7 (.int .i64 (line1.length : Int)), pl 8 (.int .i64 z1), pl 36 (.int .i64 (w64 ((geti l1 (w64 ((l1.length : Int) - 1))) + 1))), pl 37 (.pointer (some (sAddr A2 (w64 ((l1.length : Int) - 1)))))] hF hS (by kernel_rfl) (by kernel_rfl) ?_ (fun a w hF hS => ?_)
            · exact obs_cons (ob_ix1 (f := (Value.int .i64)) (m := l1) Und22 hi3 hs3 (hS.at_ 0 rfl).rd rfl (fun _ => hp3)) <| obs_cons (ob_get1 (n := l1.length) (m := l1) (Value.int .i64) (0 : Int) Agg3 (fun _ hS => ⟨_, (hS.at_ 0 rfl).rd⟩) (fun _ hS => rfl) (fun _ => hp3)) <| obs_cons (ob_ix1 (f := (Value.int .i64)) (m := l1) Und22 hi3 hs3 (hS.at_ 0 rfl).rd rfl (fun _ => hp4)) <| obs_nil
            obtain ⟨w, hrun, hS⟩ := run_set1 (P := Try.prog) (t := 3) (x := (w64 ((geti l1 (w64 ((l1.length : Int) - 1))) + 1))) (Value.int .i64) (hS.at_ 0 rfl) hi3 hs3 rfl rfl hp4
            refine at_skip hF (by kernel_rfl) hrun ?_
            have hS : Sep w0 B w (own 3 (.slice A2 l1.length c2) (vI (l1.set (Int.toNat (w64 ((l1.length : Int) - 1))) (w64 ((geti l1 (w64 ((l1.length : Int) - 1))) + 1)))) :: fs) := hS
            refine at_end [0, 3, 6, 7, 8] [pl 0 (.slice A1 line1.length c1), pl 3 (.slice A2 l1.length c2), pl 6 (.slice A1 line1.length c1), pl 7 (.int .i64 (line1.length : Int)), pl 8 (.int .i64 z1)] hF rfl (by kernel_rfl) (fun hF => ?_)
            refine block_n ?_
            refine block_n ?_
            refine then_n ?_
            have hl2 := (hS.at_ 0 rfl).len1
            have hS := (hS.at_ 0 rfl).reN hl2
            have hS : Sep w0 B w (own 3 (.slice A2 ((l1.set (Int.toNat (w64 ((l1.length : Int) - 1))) (w64 ((geti l1 (w64 ((l1.length : Int) - 1))) + 1))).length) c2) (vI (l1.set (Int.toNat (w64 ((l1.length : Int) - 1))) (w64 ((geti l1 (w64 ((l1.length : Int) - 1))) + 1)))) :: fs) := hS
            have hF := hF.cast (t := 3) (v := .slice A2 l1.length c2) (v' := .slice A2 ((l1.set (Int.toNat (w64 ((l1.length : Int) - 1))) (w64 ((geti l1 (w64 ((l1.length : Int) - 1))) + 1))).length) c2) rfl rfl (congrArg (fun k => Value.slice A2 k c2) hl2)
            exact ⟨(l1.set (Int.toNat (w64 ((l1.length : Int) - 1))) (w64 ((geti l1 (w64 ((l1.length : Int) - 1))) + 1))), A2, c2, hF.weak [0, 3, 6, 7, 8] (by kernel_rfl), hS, hm⟩
          · replace hm := if_f hm hb
            refine oneR ?_
            obtain ⟨hp5, hm⟩ := asrt_b hm
            refine at_run 1 [] [] [0, 6, 7, 8, 13] [pl 0 (.slice A1 line1.length c1), pl 6 (.slice A1 line1.length c1), pl 7 (.int .i64 (line1.length : Int)), pl 8 (.int .i64 z1), pl 13 (.slice A2 l1.length c2)] hF hS (by kernel_rfl) (by kernel_rfl) ?_ (fun a w hF hS => ?_)
            · exact obs_nil
            refine at_do (d := 14) (s := vS (Instr.buildSlice 22 1 #[(0, .int .i64 1)])) (v := .slice (some ⟨w.heap.size, 0, none⟩) 1 1) (w' := w.alloc (.cells #[.int .i64 1] 3)) hF (by kernel_rfl) (by kernel_rfl) (by kernel_rfl) (fun a hF => ?_)
            have hS : Sep w0 B (w.alloc (.cells #[.int .i64 1] 3)) (own 3 (.slice (some (⟨w.heap.size, 0, none⟩ : Addr)) 1 1) (vI ([1] : List Int)) :: (own 3 (.slice A2 l1.length c2) (vI l1) :: fs)) := hS.lit 3 #[.int .i64 1] 1 rfl (by omega)
            generalize (some (⟨w.heap.size, 0, none⟩ : Addr)) = g1 at hF hS
            generalize w.alloc (.cells #[.int .i64 1] 3) = w at hS ⊢
            obtain ⟨A5, c5, w, hrun, hS⟩ := run_app1 (P := Try.prog) (t := 22) (m := l1) (ys := ([1] : List Int)) (A2 := g1) (m2 := 1) (c2 := 1) (Value.int .i64) (0 : Int) (hS.at_ 1 rfl) (hS.at_ 0 rfl).rd ((hS.at_ 0 rfl).len1) 22 Und22 hi3 hz3 hs3 (by omega) rfl (fun _ => rfl) hp5
            have hS : Sep w0 B w (own 3 (.slice g1 1 1) (vI ([1] : List Int)) :: own 3 (.slice A5 ((l1 ++ ([1] : List Int)).length) c5) (vI (l1 ++ ([1] : List Int))) :: fs) := hS
            refine at_do (d := 15) hF (by kernel_rfl) (by kernel_rfl) hrun (fun a hF => ?_)
            refine at_run 1 [] [] [0, 3, 6, 7, 8] [pl 0 (.slice A1 line1.length c1), pl 3 (.slice A5 ((l1 ++ ([1] : List Int)).length) c5), pl 6 (.slice A1 line1.length c1), pl 7 (.int .i64 (line1.length : Int)), pl 8 (.int .i64 z1)] hF hS (by kernel_rfl) (by kernel_rfl) ?_ (fun a w hF hS => ?_)
            · exact obs_nil
            refine at_end [0, 3, 6, 7, 8] [pl 0 (.slice A1 line1.length c1), pl 3 (.slice A5 ((l1 ++ ([1] : List Int)).length) c5), pl 6 (.slice A1 line1.length c1), pl 7 (.int .i64 (line1.length : Int)), pl 8 (.int .i64 z1)] hF rfl (by kernel_rfl) (fun hF => ?_)
            refine block_n ?_
            refine block_n ?_
            refine then_n ?_
            have hS := hS.pickN 2 [1] (by decide)
            exact ⟨(l1 ++ ([1] : List Int)), A5, c5, hF.weak [0, 3, 6, 7, 8] (by kernel_rfl), hS, hm⟩
    · refine cond_ev (t := 9) (b := decide (z1 < (line1.length : Int))) hF (by kernel_rfl) (fun hb => ?_) (fun hb => ?_)
      · replace hm := if_t hm hb
        refine wp_skip ?_
        refine then_n ?_
        exact ⟨hF.weak [0, 3, 6, 7, 8] (by kernel_rfl), hS, hm⟩
      · replace hm := if_f hm hb
        refine wp_exit ?_
        refine then_e (then_e (block_e (then_n ?_)))
        rw [← hφ1] at hm
        replace hm := done_b hm
        unfold nono_clue_K1 at hm
        try dsimp only at hm
        have hm : (nono_clue_J1 l1).bind some = some r := hm
        exact ⟨l1, A2, c2, hF.weak [3] (by kernel_rfl), hS, hm⟩

noncomputable def nono_Clue_J2 (line1 : List Int) : Option (List Int × Int) :=
  (nono_clue_m line1).bind fun r3 => some (r3, 0)

noncomputable def nono_Clue_J1 (line1 : List Int) : Option (List Int × Int) :=
  (slices_Contains_m line1 (-1)).bind fun r2 => if r2 then (some (([] : List Int), 10)) else ((nono_Clue_J2 line1))

noncomputable def nono_Clue_m (line1 : List Int) : Option (List Int × Int) :=
  (nono_checkLine_m line1).bind fun r1 => if (r1 != 0) then (some (([] : List Int), r1)) else ((nono_Clue_J1 line1))

set_option maxRecDepth 100000 in
set_option maxHeartbeats 4000000 in
theorem nono_Clue_w {A1 : Option Addr} {c1 : Nat} {n1 : Nat} {line1 : List Int} {r : (List Int × Int)} {w0 w : World} {B : Nat} {fs : List HP} (hm : nono_Clue_m line1 = some r) (hS : Sep w0 B w (fs)) (hr_line1 : RdF w0 B fs A1 (vI line1)) (_hc_line1 : line1.length ≤ c1) (_hn_line1 : n1 = line1.length) :
    Calls Try.prog 39 #[.slice A1 n1 c1] w fun e w' => ∃ v, e = .returned v ∧ ∃ (A3 : Option Addr) (c3 : Nat), v = .tuple #[.slice A3 r.1.length c3, .int .i64 r.2] ∧ Sep w0 B w' (own 3 (.slice A3 r.1.length c3) (vI r.1) :: fs) := by
  obtain ⟨i3, hi3, hz3, hs3, hb3⟩ := info_parts Info3
  obtain rfl := _hn_line1
  unfold nono_Clue_m at hm
  replace hm := start_b hm
  refine enter (l := [.slice A1 line1.length c1]) (n := 14) Try.func39 rfl rfl (by simp) (fun a hF => ?_)
  refine reg [] [] [0] [pl 0 (.slice A1 line1.length c1)] hF hS Fol (by kernel_rfl) (by kernel_rfl) (by kernel_rfl) ?_ (fun a w hF hS => ?_)
  · exact obs_nil
  refine seq_cut (fun a w => Fr 14 [pl 0 (.slice A1 line1.length c1)] a ∧ Sep w0 B w (fs) ∧ ((nono_Clue_J1 line1)).bind some = some r) ?_ ?_
  · rintro a w ⟨hF, hS, hm⟩
    unfold nono_Clue_J1 at hm
    refine seq_cut (fun a w => Fr 14 [pl 0 (.slice A1 line1.length c1)] a ∧ Sep w0 B w (fs) ∧ ((nono_Clue_J2 line1)).bind some = some r) ?_ ?_
    · rintro a w ⟨hF, hS, hm⟩
      unfold nono_Clue_J2 at hm
      refine seqR ?_
      obtain ⟨r3, hr3, hm⟩ := call_b hm
      refine at_run 1 [] [] [12] [pl 12 (.slice A1 line1.length c1)] hF hS (by kernel_rfl) (by kernel_rfl) ?_ (fun a w hF hS => ?_)
      · exact obs_nil
      refine at_call (f := 86) (args := #[.slice A1 line1.length c1]) (d := 13) hF (by kernel_rfl) (by kernel_rfl) Try.func86 (by kernel_rfl) rfl (nono_clue_w hr3 hS (fun _ hS => (hr_line1 _ (hS.dropN 0))) _hc_line1 rfl) (fun v a w hR hF => ?_)
      clear hS
      obtain ⟨A2, c2, rfl, hS⟩ := hR
      have hS : Sep w0 B w (own 3 (.slice A2 r3.length c2) (vI r3) :: fs) := hS
      refine at_run 2 [] [] [2, 3] [pl 2 (.slice A2 r3.length c2), pl 3 (.int .i64 0)] hF hS (by kernel_rfl) (by kernel_rfl) ?_ (fun a w hF hS => ?_)
      · exact obs_nil
      refine at_end [2, 3] [pl 2 (.slice A2 r3.length c2), pl 3 (.int .i64 0)] hF rfl (by kernel_rfl) (fun hF => ?_)
      refine then_n ?_
      refine wp_ret ?_
      have hm : some (r3, 0) = some r := hm
      obtain rfl := Option.some.inj hm
      exact retV (rs := [.tmp 2, .tmp 3]) (vs := [.slice A2 r3.length c2, .int .i64 0]) hF rfl (rv_t (by kernel_rfl) <| rv_t (by kernel_rfl) <| rv_nil) rfl ⟨_, rfl, A2, c2, rfl, hS⟩
    · obtain ⟨r2, hr2, hm⟩ := call_b hm
      refine reg [⟨false, [], callFunc 85 #[.slice A1 line1.length c1, .int .i64 (-1)], .bool r2⟩] [none, some (.bool r2)] [0, 11] [pl 0 (.slice A1 line1.length c1), pl 11 (.bool r2)] hF hS Fol (by kernel_rfl) (by kernel_rfl) (by kernel_rfl) ?_ (fun a w hF hS => ?_)
      · exact obs_cons (ob_call Try.func85 (by kernel_rfl) rfl (fun _ _ hS => slices_Contains_w hr2 hS (fun _ hS => (hr_line1 _ (hS.dropN 0))) _hc_line1 rfl)) <| obs_nil
      refine cond_ev (t := 11) (b := r2) hF (by kernel_rfl) (fun hb => ?_) (fun hb => ?_)
      · replace hm := if_t hm hb
        refine reg [] [] [2, 3] [pl 2 (.slice none 0 0), pl 3 (.int .i64 10)] hF hS Fol (by kernel_rfl) (by kernel_rfl) (by kernel_rfl) ?_ (fun a w hF hS => ?_)
        · exact obs_nil
        refine wp_ret ?_
        refine then_r ?_
        have hS : Sep w0 B w (own 3 (.slice none 0 0) (vI ([] : List Int)) :: fs) := hS.nil 3
        have hl2 := (hS.at_ 0 rfl).len1
        have hS := (hS.at_ 0 rfl).reN hl2
        have hS : Sep w0 B w (own 3 (.slice none (([] : List Int).length) 0) (vI ([] : List Int)) :: fs) := hS
        have hm : some (([] : List Int), 10) = some r := hm
        obtain rfl := Option.some.inj hm
        exact retV (rs := [.tmp 2, .tmp 3]) (vs := [.slice none (([] : List Int).length) 0, .int .i64 10]) hF rfl (rv_t (by kernel_rfl) <| rv_t (by kernel_rfl) <| rv_nil) rfl ⟨_, rfl, none, 0, rfl, hS⟩
      · replace hm := if_f hm hb
        refine wp_skip ?_
        refine then_n ?_
        exact ⟨hF.weak [0] (by kernel_rfl), hS, hm⟩
  · obtain ⟨r1, hr1, hm⟩ := call_b hm
    refine reg [⟨false, [], callFunc 84 #[.slice A1 line1.length c1], .int .i64 r1⟩] [none, some (.int .i64 r1), none] [0, 4] [pl 0 (.slice A1 line1.length c1), pl 4 (.int .i64 r1)] hF hS Fol (by kernel_rfl) (by kernel_rfl) (by kernel_rfl) ?_ (fun a w hF hS => ?_)
    · exact obs_cons (ob_call Try.func84 (by kernel_rfl) rfl (fun _ _ hS => nono_checkLine_w hr1 hS (fun _ hS => (hr_line1 _ (hS.dropN 0))) _hc_line1 rfl)) <| obs_nil
    refine reg [] [] [0, 4, 8] [pl 0 (.slice A1 line1.length c1), pl 4 (.int .i64 r1), pl 8 (.bool (r1 != 0))] hF hS Fol (by kernel_rfl) (by kernel_rfl) (by kernel_rfl) ?_ (fun a w hF hS => ?_)
    · exact obs_nil
    refine cond_ev (t := 8) (b := (r1 != 0)) hF (by kernel_rfl) (fun hb => ?_) (fun hb => ?_)
    · replace hm := if_t hm hb
      refine reg [] [] [2, 3] [pl 2 (.slice none 0 0), pl 3 (.int .i64 r1)] hF hS Fol (by kernel_rfl) (by kernel_rfl) (by kernel_rfl) ?_ (fun a w hF hS => ?_)
      · exact obs_nil
      refine wp_ret ?_
      refine then_r ?_
      have hS : Sep w0 B w (own 3 (.slice none 0 0) (vI ([] : List Int)) :: fs) := hS.nil 3
      have hl1 := (hS.at_ 0 rfl).len1
      have hS := (hS.at_ 0 rfl).reN hl1
      have hS : Sep w0 B w (own 3 (.slice none (([] : List Int).length) 0) (vI ([] : List Int)) :: fs) := hS
      have hm : some (([] : List Int), r1) = some r := hm
      obtain rfl := Option.some.inj hm
      exact retV (rs := [.tmp 2, .tmp 3]) (vs := [.slice none (([] : List Int).length) 0, .int .i64 r1]) hF rfl (rv_t (by kernel_rfl) <| rv_t (by kernel_rfl) <| rv_nil) rfl ⟨_, rfl, none, 0, rfl, hS⟩
    · replace hm := if_f hm hb
      refine wp_skip ?_
      refine then_n ?_
      exact ⟨hF.weak [0] (by kernel_rfl), hS, hm⟩

noncomputable def nono_strange_m (n1 : Int) : Option Bool :=
  some ((decide (n1 < 1)) || (decide ((20 : Int) < n1)))

set_option maxRecDepth 100000 in
set_option maxHeartbeats 4000000 in
theorem nono_strange_w {n1 : Int} {r : Bool} {w0 w : World} {B : Nat} {fs : List HP} (hm : nono_strange_m n1 = some r) (hS : Sep w0 B w (fs)) :
    Calls Try.prog 121 #[.int .i64 n1] w fun e w' => e = .returned (.bool r) ∧ Sep w0 B w' (fs) := by
  unfold nono_strange_m at hm
  replace hm := start_b hm
  refine enter (l := [.int .i64 n1]) (n := 9) Try.func121 rfl rfl (by simp) (fun a hF => ?_)
  refine reg [] [] [0] [pl 0 (.int .i64 n1)] hF hS Fol (by kernel_rfl) (by kernel_rfl) (by kernel_rfl) ?_ (fun a w hF hS => ?_)
  · exact obs_nil
  refine reg [] [] [2] [pl 2 (.bool ((decide (n1 < 1)) || (decide ((20 : Int) < n1))))] hF hS Fol (by kernel_rfl) (by kernel_rfl) (by kernel_rfl) ?_ (fun a w hF hS => ?_)
  · exact obs_nil
  refine wp_ret ?_
  have hm : some ((decide (n1 < 1)) || (decide ((20 : Int) < n1))) = some r := hm
  obtain rfl := Option.some.inj hm
  exact retV (rs := [.tmp 2]) (vs := [.bool ((decide (n1 < 1)) || (decide ((20 : Int) < n1)))]) hF rfl (rv_t (by kernel_rfl) <| rv_nil) rfl ⟨rfl, hS⟩

noncomputable def slices_IndexFunc_2_J3 (z1 : Int) : Option (St Int (Fl Unit Int)) :=
  some (.next (w64 (z1 + 1)))

noncomputable def slices_IndexFunc_2_J2 (s1 : List Int) (z1 : Int) : Option (St Int (Fl Unit Int)) :=
  asrt (0 ≤ z1 ∧ z1 < (s1.length : Int)) <| (nono_strange_m (geti s1 z1)).bind fun r1 => if r1 then (some (.done (.ret z1))) else ((slices_IndexFunc_2_J3 z1))

noncomputable def slices_IndexFunc_2_J1 : Option Int :=
  some (-1)

noncomputable def slices_IndexFunc_2_K1 : (Fl Unit Int) → Option Int :=
  fun (x : (Fl Unit Int)) => match x with | .go _ => slices_IndexFunc_2_J1 | .ret x => some x

noncomputable def slices_IndexFunc_2_L1 (s1 : List Int) : Int → Option (St Int (Fl Unit Int)) :=
  fun (x : Int) => match x with | z1 => if (decide (z1 < (s1.length : Int))) then ((slices_IndexFunc_2_J2 s1 z1)) else (some (.done (.go ())))

noncomputable def slices_IndexFunc_2_m (s1 : List Int) : Option Int :=
  (loop (slices_IndexFunc_2_L1 s1) 0).bind slices_IndexFunc_2_K1

set_option maxRecDepth 100000 in
set_option maxHeartbeats 4000000 in
theorem slices_IndexFunc_2_w {A1 : Option Addr} {c1 : Nat} {n1 : Nat} {s1 : List Int} {r : Int} {w0 w : World} {B : Nat} {fs : List HP} (hm : slices_IndexFunc_2_m s1 = some r) (hS : Sep w0 B w (fs)) (hr_s1 : RdF w0 B fs A1 (vI s1)) (_hc_s1 : s1.length ≤ c1) (_hn_s1 : n1 = s1.length) :
    Calls Try.prog 123 #[.slice A1 n1 c1, .func (.func 121) #[] #[]] w fun e w' => e = .returned (.int .i64 r) ∧ Sep w0 B w' (fs) := by
  obtain ⟨i3, hi3, hz3, hs3, hb3⟩ := info_parts Info3
  obtain rfl := _hn_s1
  unfold slices_IndexFunc_2_m at hm
  replace hm := start_b hm
  refine enter (l := [.slice A1 s1.length c1, .func (.func 121) #[] #[]]) (n := 19) Try.func123 rfl rfl (by simp) (fun a hF => ?_)
  refine reg [] [] [0, 1] [pl 0 (.slice A1 s1.length c1), pl 1 (.func (.func 121) #[] #[])] hF hS Fol (by kernel_rfl) (by kernel_rfl) (by kernel_rfl) ?_ (fun a w hF hS => ?_)
  · exact obs_nil
  refine seq_cut (fun a w => Fr 19 [] a ∧ Sep w0 B w (fs) ∧ (slices_IndexFunc_2_J1).bind some = some r) ?_ ?_
  · rintro a w ⟨hF, hS, hm⟩
    unfold slices_IndexFunc_2_J1 at hm
    refine reg [] [] [4] [pl 4 (.int .i64 (-1))] hF hS Fol (by kernel_rfl) (by kernel_rfl) (by kernel_rfl) ?_ (fun a w hF hS => ?_)
    · exact obs_nil
    refine wp_ret ?_
    have hm : some (-1) = some r := hm
    obtain rfl := Option.some.inj hm
    exact retV (rs := [.tmp 4]) (vs := [.int .i64 (-1)]) hF rfl (rv_t (by kernel_rfl) <| rv_nil) rfl ⟨rfl, hS⟩
  · refine reg [] [] [0, 1, 7, 8] [pl 0 (.slice A1 s1.length c1), pl 1 (.func (.func 121) #[] #[]), pl 7 (.int .i64 (s1.length : Int)), pl 8 (.int .i64 0)] hF hS Fol (by kernel_rfl) (by kernel_rfl) (by kernel_rfl) ?_ (fun a w hF hS => ?_)
    · exact obs_nil
    refine wp_block ?_
    refine wp_loop_model (S := Int) (R := (Fl Unit Int)) (slices_IndexFunc_2_L1 s1) (fun x => (slices_IndexFunc_2_K1 x).bind some) r (fun (x : Int) a w => Fr 19 [pl 0 (.slice A1 s1.length c1), pl 1 (.func (.func 121) #[] #[]), pl 7 (.int .i64 (s1.length : Int)), pl 8 (.int .i64 x)] a ∧ Sep w0 B w (fs)) (assoc_b hm) ⟨hF.weak [0, 1, 7, 8] (by kernel_rfl), hS⟩ ?_
    clear hF hS hm
    rintro nn1 z1 a w ⟨hF, hS⟩ hm
    generalize hφ1 : stK (slices_IndexFunc_2_L1 s1) nn1 (fun x => (slices_IndexFunc_2_K1 x).bind some) = φ1 at hm
    unfold slices_IndexFunc_2_L1 at hm
    dsimp only at hm
    refine reg [] [] [0, 1, 7, 8, 9] [pl 0 (.slice A1 s1.length c1), pl 1 (.func (.func 121) #[] #[]), pl 7 (.int .i64 (s1.length : Int)), pl 8 (.int .i64 z1), pl 9 (.bool (decide (z1 < (s1.length : Int))))] hF hS Fol (by kernel_rfl) (by kernel_rfl) (by kernel_rfl) ?_ (fun a w hF hS => ?_)
    · exact obs_nil
    refine seq_cut (fun a w => Fr 19 [pl 0 (.slice A1 s1.length c1), pl 1 (.func (.func 121) #[] #[]), pl 7 (.int .i64 (s1.length : Int)), pl 8 (.int .i64 z1)] a ∧ Sep w0 B w (fs) ∧ ((slices_IndexFunc_2_J2 s1 z1)).bind φ1 = some r) ?_ ?_
    · rintro a w ⟨hF, hS, hm⟩
      unfold slices_IndexFunc_2_J2 at hm
      refine seq_cut (fun a w => Fr 19 [pl 0 (.slice A1 s1.length c1), pl 1 (.func (.func 121) #[] #[]), pl 7 (.int .i64 (s1.length : Int)), pl 8 (.int .i64 z1)] a ∧ Sep w0 B w (fs) ∧ ((slices_IndexFunc_2_J3 z1)).bind φ1 = some r) ?_ ?_
      · rintro a w ⟨hF, hS, hm⟩
        unfold slices_IndexFunc_2_J3 at hm
        refine reg1 [] [] [0, 1, 7, 8] [pl 0 (.slice A1 s1.length c1), pl 1 (.func (.func 121) #[] #[]), pl 7 (.int .i64 (s1.length : Int)), pl 8 (.int .i64 (w64 (z1 + 1)))] hF hS Fol (by kernel_rfl) (by kernel_rfl) (by kernel_rfl) ?_ (fun a w hF hS => ?_)
        · exact obs_nil
        refine then_n ?_
        rw [← hφ1] at hm
        exact ⟨(w64 (z1 + 1)), ⟨hF.weak [0, 1, 7, 8] (by kernel_rfl), hS⟩, hm⟩
      · refine wp_block ?_
        refine reg [] [] [0, 1, 5, 7, 8] [pl 0 (.slice A1 s1.length c1), pl 1 (.func (.func 121) #[] #[]), pl 5 (.int .i64 z1), pl 7 (.int .i64 (s1.length : Int)), pl 8 (.int .i64 z1)] hF hS Fol (by kernel_rfl) (by kernel_rfl) (by kernel_rfl) ?_ (fun a w hF hS => ?_)
        · exact obs_nil
        obtain ⟨hp1, hm⟩ := asrt_b hm
        obtain ⟨r1, hr1, hm⟩ := call_b hm
        refine reg [⟨true, [], vS (Instr.indexAt 22 (.slice A1 s1.length c1) (.int .i64 z1)), .pointer (some (sAddr A1 z1))⟩, ⟨false, [], vS (Instr.loadAt 3 (.pointer (some (sAddr A1 z1)))), .int .i64 (geti s1 z1)⟩, ⟨false, [], callFunc 121 #[.int .i64 (geti s1 z1)], .bool r1⟩] [none, none, none, some (.pointer (some (sAddr A1 z1))), some (.int .i64 (geti s1 z1)), some (.bool r1)] [0, 1, 5, 7, 8, 16] [pl 0 (.slice A1 s1.length c1), pl 1 (.func (.func 121) #[] #[]), pl 5 (.int .i64 z1), pl 7 (.int .i64 (s1.length : Int)), pl 8 (.int .i64 z1), pl 16 (.bool r1)] hF hS Fol (by kernel_rfl) (by kernel_rfl) (by kernel_rfl) ?_ (fun a w hF hS => ?_)
        · exact obs_cons (ob_ix1 (f := (Value.int .i64)) (m := s1) Und22 hi3 hs3 (hr_s1 _ (hS.dropN 0)) rfl (fun _ => hp1)) <| obs_cons (ob_get1 (n := s1.length) (m := s1) (Value.int .i64) (0 : Int) Agg3 (fun _ hS => ⟨_, (hr_s1 _ (hS.dropN 0))⟩) (fun _ hS => rfl) (fun _ => hp1)) <| obs_cons (ob_call Try.func121 (by kernel_rfl) rfl (fun _ _ hS => nono_strange_w hr1 hS )) <| obs_nil
        refine cond_ev (t := 16) (b := r1) hF (by kernel_rfl) (fun hb => ?_) (fun hb => ?_)
        · replace hm := if_t hm hb
          refine reg [] [] [4] [pl 4 (.int .i64 z1)] hF hS Fol (by kernel_rfl) (by kernel_rfl) (by kernel_rfl) ?_ (fun a w hF hS => ?_)
          · exact obs_nil
          refine wp_ret ?_
          refine block_r (then_r (then_r (block_r (then_r ?_))))
          rw [← hφ1] at hm
          replace hm := done_b hm
          unfold slices_IndexFunc_2_K1 at hm
          try dsimp only at hm
          have hm : some z1 = some r := hm
          obtain rfl := Option.some.inj hm
          exact retV (rs := [.tmp 4]) (vs := [.int .i64 z1]) hF rfl (rv_t (by kernel_rfl) <| rv_nil) rfl ⟨rfl, hS⟩
        · replace hm := if_f hm hb
          refine wp_skip ?_
          refine block_n ?_
          refine then_n ?_
          exact ⟨hF.weak [0, 1, 7, 8] (by kernel_rfl), hS, hm⟩
    · refine cond_ev (t := 9) (b := decide (z1 < (s1.length : Int))) hF (by kernel_rfl) (fun hb => ?_) (fun hb => ?_)
      · replace hm := if_t hm hb
        refine wp_skip ?_
        refine then_n ?_
        exact ⟨hF.weak [0, 1, 7, 8] (by kernel_rfl), hS, hm⟩
      · replace hm := if_f hm hb
        refine wp_exit ?_
        refine then_e (then_e (block_e (then_n ?_)))
        rw [← hφ1] at hm
        replace hm := done_b hm
        unfold slices_IndexFunc_2_K1 at hm
        try dsimp only at hm
        have hm : (slices_IndexFunc_2_J1).bind some = some r := hm
        exact ⟨hF.weak [] (by kernel_rfl), hS, hm⟩

noncomputable def slices_ContainsFunc_2_m (s1 : List Int) : Option Bool :=
  (slices_IndexFunc_2_m s1).bind fun r1 => some (decide ((0 : Int) ≤ r1))

set_option maxRecDepth 100000 in
set_option maxHeartbeats 4000000 in
theorem slices_ContainsFunc_2_w {A1 : Option Addr} {c1 : Nat} {n1 : Nat} {s1 : List Int} {r : Bool} {w0 w : World} {B : Nat} {fs : List HP} (hm : slices_ContainsFunc_2_m s1 = some r) (hS : Sep w0 B w (fs)) (hr_s1 : RdF w0 B fs A1 (vI s1)) (_hc_s1 : s1.length ≤ c1) (_hn_s1 : n1 = s1.length) :
    Calls Try.prog 94 #[.slice A1 n1 c1, .func (.func 121) #[] #[]] w fun e w' => e = .returned (.bool r) ∧ Sep w0 B w' (fs) := by
  obtain ⟨i3, hi3, hz3, hs3, hb3⟩ := info_parts Info3
  obtain rfl := _hn_s1
  unfold slices_ContainsFunc_2_m at hm
  replace hm := start_b hm
  refine enter (l := [.slice A1 s1.length c1, .func (.func 121) #[] #[]]) (n := 9) Try.func94 rfl rfl (by simp) (fun a hF => ?_)
  refine reg [] [] [0, 1] [pl 0 (.slice A1 s1.length c1), pl 1 (.func (.func 121) #[] #[])] hF hS Fol (by kernel_rfl) (by kernel_rfl) (by kernel_rfl) ?_ (fun a w hF hS => ?_)
  · exact obs_nil
  obtain ⟨r1, hr1, hm⟩ := call_b hm
  refine reg [⟨false, [], callFunc 123 #[.slice A1 s1.length c1, .func (.func 121) #[] #[]], .int .i64 r1⟩] [none, none, some (.int .i64 r1), none, none] [4] [pl 4 (.bool (decide ((0 : Int) ≤ r1)))] hF hS Fol (by kernel_rfl) (by kernel_rfl) (by kernel_rfl) ?_ (fun a w hF hS => ?_)
  · exact obs_cons (ob_call Try.func123 (by kernel_rfl) rfl (fun _ _ hS => slices_IndexFunc_2_w hr1 hS (fun _ hS => (hr_s1 _ (hS.dropN 0))) _hc_s1 rfl)) <| obs_nil
  refine wp_ret ?_
  have hm : some (decide ((0 : Int) ≤ r1)) = some r := hm
  obtain rfl := Option.some.inj hm
  exact retV (rs := [.tmp 4]) (vs := [.bool (decide ((0 : Int) ≤ r1))]) hF rfl (rv_t (by kernel_rfl) <| rv_nil) rfl ⟨rfl, hS⟩

noncomputable def nono_check_J2 : Option Int :=
  some 0

noncomputable def nono_check_J1 (clue1 : List Int) : Option Int :=
  (slices_ContainsFunc_2_m clue1).bind fun r2 => if r2 then (some 4) else (nono_check_J2)

noncomputable def nono_check_m (line1 : List Int) (clue1 : List Int) : Option Int :=
  (nono_checkLine_m line1).bind fun r1 => if (r1 != 0) then (some r1) else ((nono_check_J1 clue1))

set_option maxRecDepth 100000 in
set_option maxHeartbeats 4000000 in
theorem nono_check_w {A1 : Option Addr} {c1 : Nat} {n1 : Nat} {line1 : List Int} {A2 : Option Addr} {c2 : Nat} {n2 : Nat} {clue1 : List Int} {r : Int} {w0 w : World} {B : Nat} {fs : List HP} (hm : nono_check_m line1 clue1 = some r) (hS : Sep w0 B w (fs)) (hr_line1 : RdF w0 B fs A1 (vI line1)) (_hc_line1 : line1.length ≤ c1) (_hn_line1 : n1 = line1.length) (hr_clue1 : RdF w0 B fs A2 (vI clue1)) (_hc_clue1 : clue1.length ≤ c2) (_hn_clue1 : n2 = clue1.length) :
    Calls Try.prog 87 #[.slice A1 n1 c1, .slice A2 n2 c2] w fun e w' => e = .returned (.int .i64 r) ∧ Sep w0 B w' (fs) := by
  obtain ⟨i3, hi3, hz3, hs3, hb3⟩ := info_parts Info3
  obtain rfl := _hn_line1
  obtain rfl := _hn_clue1
  unfold nono_check_m at hm
  replace hm := start_b hm
  refine enter (l := [.slice A1 line1.length c1, .slice A2 clue1.length c2]) (n := 13) Try.func87 rfl rfl (by simp) (fun a hF => ?_)
  refine reg [] [] [0, 1] [pl 0 (.slice A1 line1.length c1), pl 1 (.slice A2 clue1.length c2)] hF hS Fol (by kernel_rfl) (by kernel_rfl) (by kernel_rfl) ?_ (fun a w hF hS => ?_)
  · exact obs_nil
  refine seq_cut (fun a w => Fr 13 [pl 1 (.slice A2 clue1.length c2)] a ∧ Sep w0 B w (fs) ∧ ((nono_check_J1 clue1)).bind some = some r) ?_ ?_
  · rintro a w ⟨hF, hS, hm⟩
    unfold nono_check_J1 at hm
    refine seq_cut (fun a w => Fr 13 [] a ∧ Sep w0 B w (fs) ∧ (nono_check_J2).bind some = some r) ?_ ?_
    · rintro a w ⟨hF, hS, hm⟩
      unfold nono_check_J2 at hm
      refine reg [] [] [4] [pl 4 (.int .i64 0)] hF hS Fol (by kernel_rfl) (by kernel_rfl) (by kernel_rfl) ?_ (fun a w hF hS => ?_)
      · exact obs_nil
      refine wp_ret ?_
      have hm : some 0 = some r := hm
      obtain rfl := Option.some.inj hm
      exact retV (rs := [.tmp 4]) (vs := [.int .i64 0]) hF rfl (rv_t (by kernel_rfl) <| rv_nil) rfl ⟨rfl, hS⟩
    · obtain ⟨r2, hr2, hm⟩ := call_b hm
      refine reg [⟨false, [], callFunc 94 #[.slice A2 clue1.length c2, .func (.func 121) #[] #[]], .bool r2⟩] [none, some (.bool r2)] [12] [pl 12 (.bool r2)] hF hS Fol (by kernel_rfl) (by kernel_rfl) (by kernel_rfl) ?_ (fun a w hF hS => ?_)
      · exact obs_cons (ob_call Try.func94 (by kernel_rfl) rfl (fun _ _ hS => slices_ContainsFunc_2_w hr2 hS (fun _ hS => (hr_clue1 _ (hS.dropN 0))) _hc_clue1 rfl)) <| obs_nil
      refine cond_ev (t := 12) (b := r2) hF (by kernel_rfl) (fun hb => ?_) (fun hb => ?_)
      · replace hm := if_t hm hb
        refine reg [] [] [4] [pl 4 (.int .i64 4)] hF hS Fol (by kernel_rfl) (by kernel_rfl) (by kernel_rfl) ?_ (fun a w hF hS => ?_)
        · exact obs_nil
        refine wp_ret ?_
        refine then_r ?_
        have hm : some 4 = some r := hm
        obtain rfl := Option.some.inj hm
        exact retV (rs := [.tmp 4]) (vs := [.int .i64 4]) hF rfl (rv_t (by kernel_rfl) <| rv_nil) rfl ⟨rfl, hS⟩
      · replace hm := if_f hm hb
        refine wp_skip ?_
        refine then_n ?_
        exact ⟨hF.weak [] (by kernel_rfl), hS, hm⟩
  · obtain ⟨r1, hr1, hm⟩ := call_b hm
    refine reg [⟨false, [], callFunc 84 #[.slice A1 line1.length c1], .int .i64 r1⟩] [none, some (.int .i64 r1), none] [1, 5] [pl 1 (.slice A2 clue1.length c2), pl 5 (.int .i64 r1)] hF hS Fol (by kernel_rfl) (by kernel_rfl) (by kernel_rfl) ?_ (fun a w hF hS => ?_)
    · exact obs_cons (ob_call Try.func84 (by kernel_rfl) rfl (fun _ _ hS => nono_checkLine_w hr1 hS (fun _ hS => (hr_line1 _ (hS.dropN 0))) _hc_line1 rfl)) <| obs_nil
    refine reg [] [] [1, 5, 9] [pl 1 (.slice A2 clue1.length c2), pl 5 (.int .i64 r1), pl 9 (.bool (r1 != 0))] hF hS Fol (by kernel_rfl) (by kernel_rfl) (by kernel_rfl) ?_ (fun a w hF hS => ?_)
    · exact obs_nil
    refine cond_ev (t := 9) (b := (r1 != 0)) hF (by kernel_rfl) (fun hb => ?_) (fun hb => ?_)
    · replace hm := if_t hm hb
      refine reg [] [] [4] [pl 4 (.int .i64 r1)] hF hS Fol (by kernel_rfl) (by kernel_rfl) (by kernel_rfl) ?_ (fun a w hF hS => ?_)
      · exact obs_nil
      refine wp_ret ?_
      refine then_r ?_
      have hm : some r1 = some r := hm
      obtain rfl := Option.some.inj hm
      exact retV (rs := [.tmp 4]) (vs := [.int .i64 r1]) hF rfl (rv_t (by kernel_rfl) <| rv_nil) rfl ⟨rfl, hS⟩
    · replace hm := if_f hm hb
      refine wp_skip ?_
      refine then_n ?_
      exact ⟨hF.weak [1] (by kernel_rfl), hS, hm⟩

noncomputable def nono_filler_fits_m (f_line1 : List Int) (f_clue1 : List Int) (f_known1 : List ((Int × Int) × Int)) (at1 : Int) (long1 : Int) : Option Bool :=
  asrt ((decide ((w64 (at1 + long1)) ≤ (f_line1.length : Int))) = true → 0 ≤ at1 ∧ at1 ≤ (w64 (at1 + long1)) ∧ (w64 (at1 + long1)) ≤ (f_line1.length : Int)) <| ((if (decide ((w64 (at1 + long1)) ≤ (f_line1.length : Int))) then slices_Contains_m (cut f_line1 at1 (w64 (at1 + long1))) 0 else some false)).bind fun r1 => asrt (((w64 (at1 + long1)) == (f_line1.length : Int)) = false → ((decide ((w64 (at1 + long1)) ≤ (f_line1.length : Int))) && (!r1)) = true → 0 ≤ (w64 (at1 + long1)) ∧ (w64 (at1 + long1)) < (f_line1.length : Int)) <| some (((decide ((w64 (at1 + long1)) ≤ (f_line1.length : Int))) && (!r1)) && (((w64 (at1 + long1)) == (f_line1.length : Int)) || ((geti f_line1 (w64 (at1 + long1))) != 1)))

set_option maxRecDepth 100000 in
set_option maxHeartbeats 4000000 in
theorem nono_filler_fits_w {g1 : Nat} {A1 : Option Addr} {c1 : Nat} {n1 : Nat} {f_line1 : List Int} {A2 : Option Addr} {c2 : Nat} {n2 : Nat} {f_clue1 : List Int} {g2 : Nat} {f_known1 : List ((Int × Int) × Int)} {at1 : Int} {long1 : Int} {r : Bool} {w0 w : World} {B : Nat} {fs : List HP} (hm : nono_filler_fits_m f_line1 f_clue1 f_known1 at1 long1 = some r) (hS : Sep w0 B w (blk g1 136 #[.slice A1 n1 c1, .slice A2 n2 c2, .map (some g2)] :: mapH kf139 (Value.int .i64) g2 f_known1 :: fs)) (hr_f_line1 : RdF w0 B fs A1 (vI f_line1)) (_hc_f_line1 : f_line1.length ≤ c1) (_hn_f_line1 : n1 = f_line1.length) (hr_f_clue1 : RdF w0 B fs A2 (vI f_clue1)) (_hc_f_clue1 : f_clue1.length ≤ c2) (_hn_f_clue1 : n2 = f_clue1.length) :
    Calls Try.prog 134 #[.pointer (some ⟨g1, 0, none⟩), .int .i64 at1, .int .i64 long1] w fun e w' => e = .returned (.bool r) ∧ Sep w0 B w' (blk g1 136 #[.slice A1 n1 c1, .slice A2 n2 c2, .map (some g2)] :: mapH kf139 (Value.int .i64) g2 f_known1 :: fs) := by
  obtain ⟨i3, hi3, hz3, hs3, hb3⟩ := info_parts Info3
  obtain rfl := _hn_f_line1
  obtain rfl := _hn_f_clue1
  unfold nono_filler_fits_m at hm
  replace hm := start_b hm
  refine enter (l := [.pointer (some ⟨g1, 0, none⟩), .int .i64 at1, .int .i64 long1]) (n := 48) Try.func134 rfl rfl (by simp) (fun a hF => ?_)
  refine reg [] [] [0, 1, 2] [pl 0 (.pointer (some ⟨g1, 0, none⟩)), pl 1 (.int .i64 at1), pl 2 (.int .i64 long1)] hF hS Fol (by kernel_rfl) (by kernel_rfl) (by kernel_rfl) ?_ (fun a w hF hS => ?_)
  · exact obs_nil
  refine reg [] [] [0, 1, 7] [pl 0 (.pointer (some ⟨g1, 0, none⟩)), pl 1 (.int .i64 at1), pl 7 (.int .i64 (w64 (at1 + long1)))] hF hS Fol (by kernel_rfl) (by kernel_rfl) (by kernel_rfl) ?_ (fun a w hF hS => ?_)
  · exact obs_nil
  obtain ⟨hp1, hm⟩ := asrt_b hm
  obtain ⟨r1, hr1, hm⟩ := call_b hm
  obtain ⟨hp2, hm⟩ := asrt_b hm
  refine reg [⟨false, [], vS (Instr.loadAt 22 (.pointer (some ⟨g1, 0, none⟩))), .slice A1 f_line1.length c1⟩, ⟨false, [(decide ((w64 (at1 + long1)) ≤ (f_line1.length : Int)), true)], vS (Instr.loadAt 22 (.pointer (some ⟨g1, 0, none⟩))), .slice A1 f_line1.length c1⟩, ⟨true, [(decide ((w64 (at1 + long1)) ≤ (f_line1.length : Int)), true)], vS (Instr.sliceAt 22 (.slice A1 f_line1.length c1) (some (.int .i64 at1)) (some (.int .i64 (w64 (at1 + long1)))) none), .slice (cutAddr A1 c1 at1) ((cut f_line1 at1 (w64 (at1 + long1))).length) (c1 - Int.toNat at1)⟩, ⟨false, [(decide ((w64 (at1 + long1)) ≤ (f_line1.length : Int)), true)], callFunc 85 #[.slice (cutAddr A1 c1 at1) ((cut f_line1 at1 (w64 (at1 + long1))).length) (c1 - Int.toNat at1), .int .i64 0], .bool r1⟩, ⟨false, [((decide ((w64 (at1 + long1)) ≤ (f_line1.length : Int))) && (!r1), true)], vS (Instr.loadAt 22 (.pointer (some ⟨g1, 0, none⟩))), .slice A1 f_line1.length c1⟩, ⟨false, [(((w64 (at1 + long1)) == (f_line1.length : Int)), false), ((decide ((w64 (at1 + long1)) ≤ (f_line1.length : Int))) && (!r1), true)], vS (Instr.loadAt 22 (.pointer (some ⟨g1, 0, none⟩))), .slice A1 f_line1.length c1⟩, ⟨true, [(((w64 (at1 + long1)) == (f_line1.length : Int)), false), ((decide ((w64 (at1 + long1)) ≤ (f_line1.length : Int))) && (!r1), true)], vS (Instr.indexAt 22 (.slice A1 f_line1.length c1) (.int .i64 (w64 (at1 + long1)))), .pointer (some (sAddr A1 (w64 (at1 + long1))))⟩, ⟨false, [(((w64 (at1 + long1)) == (f_line1.length : Int)), false), ((decide ((w64 (at1 + long1)) ≤ (f_line1.length : Int))) && (!r1), true)], vS (Instr.loadAt 3 (.pointer (some (sAddr A1 (w64 (at1 + long1)))))), .int .i64 (geti f_line1 (w64 (at1 + long1)))⟩] [none, none, none, none, some (.slice A1 f_line1.length c1), none, none, none, none, none, none, some (.slice A1 f_line1.length c1), none, none, some (.slice (cutAddr A1 c1 at1) ((cut f_line1 at1 (w64 (at1 + long1))).length) (c1 - Int.toNat at1)), some (.bool r1), none, none, none, none, none, none, none, some (.slice A1 f_line1.length c1), none, none, none, none, none, none, some (.slice A1 f_line1.length c1), none, some (.pointer (some (sAddr A1 (w64 (at1 + long1))))), some (.int .i64 (geti f_line1 (w64 (at1 + long1)))), none, none, none, none] [6] [pl 6 (.bool (((decide ((w64 (at1 + long1)) ≤ (f_line1.length : Int))) && (!r1)) && (((w64 (at1 + long1)) == (f_line1.length : Int)) || ((geti f_line1 (w64 (at1 + long1))) != 1))))] hF hS Fol (by kernel_rfl) (by kernel_rfl) (by kernel_rfl) ?_ (fun a w hF hS => ?_)
  · exact obs_cons (ob_load Agg22 (fun _ _ hS => (hS.at_ 0 rfl).cell rfl)) <| obs_cons (ob_load Agg22 (fun _ _ hS => (hS.at_ 0 rfl).cell rfl)) <| obs_cons (ob_cutn (l := f_line1) (k := .i64) (k' := .i64) Und22 hi3 hs3 rfl (.inl rfl) (.inl rfl) (fun hy => hp1 (hy (decide ((w64 (at1 + long1)) ≤ (f_line1.length : Int)), true) (by simp))) _hc_f_line1) <| obs_cons (ob_call Try.func85 (by kernel_rfl) rfl (fun hy _ hS => slices_Contains_w (ite_some hr1 (by rw [show (decide ((w64 (at1 + long1)) ≤ (f_line1.length : Int))) = true from hy (decide ((w64 (at1 + long1)) ≤ (f_line1.length : Int)), true) (by simp)]; try rfl)) hS (fun _ hS => (Rd.cutF (hr_f_line1 _ (hS.dropN 2)) (hp1 (hy (decide ((w64 (at1 + long1)) ≤ (f_line1.length : Int)), true) (by simp))) _hc_f_line1)) (cap_cut (hp1 (hy (decide ((w64 (at1 + long1)) ≤ (f_line1.length : Int)), true) (by simp))) _hc_f_line1) rfl)) <| obs_cons (ob_load Agg22 (fun _ _ hS => (hS.at_ 0 rfl).cell rfl)) <| obs_cons (ob_load Agg22 (fun _ _ hS => (hS.at_ 0 rfl).cell rfl)) <| obs_cons (ob_ix1 (f := (Value.int .i64)) (m := f_line1) Und22 hi3 hs3 (hr_f_line1 _ (hS.dropN 2)) rfl (fun hy => hp2 (hy (((w64 (at1 + long1)) == (f_line1.length : Int)), false) (by simp)) (hy ((decide ((w64 (at1 + long1)) ≤ (f_line1.length : Int))) && (!r1), true) (by simp)))) <| obs_cons (ob_get1 (n := f_line1.length) (m := f_line1) (Value.int .i64) (0 : Int) Agg3 (fun _ hS => ⟨_, (hr_f_line1 _ (hS.dropN 2))⟩) (fun _ hS => rfl) (fun hy => hp2 (hy (((w64 (at1 + long1)) == (f_line1.length : Int)), false) (by simp)) (hy ((decide ((w64 (at1 + long1)) ≤ (f_line1.length : Int))) && (!r1), true) (by simp)))) <| obs_nil
  refine wp_ret ?_
  have hm : some (((decide ((w64 (at1 + long1)) ≤ (f_line1.length : Int))) && (!r1)) && (((w64 (at1 + long1)) == (f_line1.length : Int)) || ((geti f_line1 (w64 (at1 + long1))) != 1))) = some r := hm
  obtain rfl := Option.some.inj hm
  exact retV (rs := [.tmp 6]) (vs := [.bool (((decide ((w64 (at1 + long1)) ≤ (f_line1.length : Int))) && (!r1)) && (((w64 (at1 + long1)) == (f_line1.length : Int)) || ((geti f_line1 (w64 (at1 + long1))) != 1)))]) hF rfl (rv_t (by kernel_rfl) <| rv_nil) rfl ⟨rfl, hS⟩

noncomputable def nono_filler_ways_J2 (f_known1 : List ((Int × Int) × Int)) : Option (Int × List ((Int × Int) × Int)) :=
  some (0, f_known1)

noncomputable def nono_filler_ways_J5 (s1 : Int) (s2 : Int) (f3 : List ((Int × Int) × Int)) (n4 : Int) : Option (Int × List ((Int × Int) × Int)) :=
  some (n4, (mput (s1, s2) n4 f3))

noncomputable def nono_filler_ways_J4 (rec_nono_filler_ways : List Int → List Int → List ((Int × Int) × Int) → Int → Int → Option (Int × List ((Int × Int) × Int))) (f_line1 : List Int) (f_clue1 : List Int) (s1 : Int) (s2 : Int) (f2 : List ((Int × Int) × Int)) (n3 : Int) : Option (Int × List ((Int × Int) × Int)) :=
  if (decide (s2 < (f_clue1.length : Int))) then (asrt (0 ≤ s2 ∧ s2 < (f_clue1.length : Int)) <| (nono_filler_fits_m f_line1 f_clue1 f2 s1 (geti f_clue1 s2)).bind fun r2 => if r2 then ((rec_nono_filler_ways f_line1 f_clue1 f2 (w64 ((w64 (s1 + (geti f_clue1 s2))) + 1)) (w64 (s2 + 1))).bind fun r3 => (nono_filler_ways_J5 s1 s2) r3.2 (w64 (n3 + r3.1))) else ((nono_filler_ways_J5 s1 s2) f2 n3)) else ((nono_filler_ways_J5 s1 s2) f2 n3)

noncomputable def nono_filler_ways_J3 (rec_nono_filler_ways : List Int → List Int → List ((Int × Int) × Int) → Int → Int → Option (Int × List ((Int × Int) × Int))) (f_line1 : List Int) (f_clue1 : List Int) (f_known1 : List ((Int × Int) × Int)) (s1 : Int) (s2 : Int) : Option (Int × List ((Int × Int) × Int)) :=
  asrt (0 ≤ s1 ∧ s1 < (f_line1.length : Int)) <| if ((geti f_line1 s1) != 1) then ((rec_nono_filler_ways f_line1 f_clue1 f_known1 (w64 (s1 + 1)) s2).bind fun r1 => (nono_filler_ways_J4 rec_nono_filler_ways f_line1 f_clue1 s1 s2) r1.2 r1.1) else ((nono_filler_ways_J4 rec_nono_filler_ways f_line1 f_clue1 s1 s2) f_known1 0)

noncomputable def nono_filler_ways_J1 (rec_nono_filler_ways : List Int → List Int → List ((Int × Int) × Int) → Int → Int → Option (Int × List ((Int × Int) × Int))) (f_line1 : List Int) (f_clue1 : List Int) (f_known1 : List ((Int × Int) × Int)) (s1 : Int) (s2 : Int) : Option (Int × List ((Int × Int) × Int)) :=
  if (mhas (s1, s2) f_known1) then (some ((mget (0 : Int) (s1, s2) f_known1), f_known1)) else ((nono_filler_ways_J3 rec_nono_filler_ways f_line1 f_clue1 f_known1 s1 s2))

noncomputable def nono_filler_ways_B (rec_nono_filler_ways : List Int → List Int → List ((Int × Int) × Int) → Int → Int → Option (Int × List ((Int × Int) × Int))) (f_line1 : List Int) (f_clue1 : List Int) (f_known1 : List ((Int × Int) × Int)) (s1 : Int) (s2 : Int) : Option (Int × List ((Int × Int) × Int)) :=
  if (decide ((f_line1.length : Int) ≤ s1)) then (if (s2 == (f_clue1.length : Int)) then (some (1, f_known1)) else ((nono_filler_ways_J2 f_known1))) else ((nono_filler_ways_J1 rec_nono_filler_ways f_line1 f_clue1 f_known1 s1 s2))

noncomputable def nono_filler_ways_mF : Nat → List Int → List Int → List ((Int × Int) × Int) → Int → Int → Option (Int × List ((Int × Int) × Int))
  | 0 => fun _ _ _ _ _ => none
  | n + 1 => fun f_line1 f_clue1 f_known1 s1 s2 => nono_filler_ways_B (nono_filler_ways_mF n) f_line1 f_clue1 f_known1 s1 s2

noncomputable def nono_filler_ways_m (f_line1 : List Int) (f_clue1 : List Int) (f_known1 : List ((Int × Int) × Int)) (s1 : Int) (s2 : Int) : Option (Int × List ((Int × Int) × Int)) :=
  recM fun n => nono_filler_ways_mF n f_line1 f_clue1 f_known1 s1 s2

set_option maxRecDepth 100000 in
set_option maxHeartbeats 4000000 in
theorem nono_filler_ways_wB {rec_nono_filler_ways : List Int → List Int → List ((Int × Int) × Int) → Int → Int → Option (Int × List ((Int × Int) × Int))} (ih_nono_filler_ways : ∀ {g1 : Nat} {A1 : Option Addr} {c1 : Nat} {n1 : Nat} {f_line1 : List Int} {A2 : Option Addr} {c2 : Nat} {n2 : Nat} {f_clue1 : List Int} {g2 : Nat} {f_known1 : List ((Int × Int) × Int)} {s1 : Int} {s2 : Int} {r : (Int × List ((Int × Int) × Int))} {w0 w : World} {B : Nat} {fs : List HP} (_ : rec_nono_filler_ways f_line1 f_clue1 f_known1 s1 s2 = some r) (_ : Sep w0 B w (blk g1 136 #[.slice A1 n1 c1, .slice A2 n2 c2, .map (some g2)] :: mapH kf139 (Value.int .i64) g2 f_known1 :: fs)) (hr_f_line1 : RdF w0 B fs A1 (vI f_line1)) (_hc_f_line1 : f_line1.length ≤ c1) (_hn_f_line1 : n1 = f_line1.length) (hr_f_clue1 : RdF w0 B fs A2 (vI f_clue1)) (_hc_f_clue1 : f_clue1.length ≤ c2) (_hn_f_clue1 : n2 = f_clue1.length), Calls Try.prog 122 #[.pointer (some ⟨g1, 0, none⟩), .agg #[.int .i64 s1, .int .i64 s2]] w fun e w' => ∃ v, e = .returned v ∧ v = .int .i64 r.1 ∧ Sep w0 B w' (blk g1 136 #[.slice A1 n1 c1, .slice A2 n2 c2, .map (some g2)] :: mapH kf139 (Value.int .i64) g2 r.2 :: fs)) {g1 : Nat} {A1 : Option Addr} {c1 : Nat} {n1 : Nat} {f_line1 : List Int} {A2 : Option Addr} {c2 : Nat} {n2 : Nat} {f_clue1 : List Int} {g2 : Nat} {f_known1 : List ((Int × Int) × Int)} {s1 : Int} {s2 : Int} {r : (Int × List ((Int × Int) × Int))} {w0 w : World} {B : Nat} {fs : List HP} (hm : nono_filler_ways_B rec_nono_filler_ways f_line1 f_clue1 f_known1 s1 s2 = some r) (hS : Sep w0 B w (blk g1 136 #[.slice A1 n1 c1, .slice A2 n2 c2, .map (some g2)] :: mapH kf139 (Value.int .i64) g2 f_known1 :: fs)) (hr_f_line1 : RdF w0 B fs A1 (vI f_line1)) (_hc_f_line1 : f_line1.length ≤ c1) (_hn_f_line1 : n1 = f_line1.length) (hr_f_clue1 : RdF w0 B fs A2 (vI f_clue1)) (_hc_f_clue1 : f_clue1.length ≤ c2) (_hn_f_clue1 : n2 = f_clue1.length) :
    Calls Try.prog 122 #[.pointer (some ⟨g1, 0, none⟩), .agg #[.int .i64 s1, .int .i64 s2]] w fun e w' => ∃ v, e = .returned v ∧ v = .int .i64 r.1 ∧ Sep w0 B w' (blk g1 136 #[.slice A1 n1 c1, .slice A2 n2 c2, .map (some g2)] :: mapH kf139 (Value.int .i64) g2 r.2 :: fs) := by
  obtain ⟨i3, hi3, hz3, hs3, hb3⟩ := info_parts Info3
  obtain rfl := _hn_f_line1
  obtain rfl := _hn_f_clue1
  unfold nono_filler_ways_B at hm
  replace hm := start_b hm
  refine enter (l := [.pointer (some ⟨g1, 0, none⟩), .agg #[.int .i64 s1, .int .i64 s2]]) (n := 94) Try.func122 rfl rfl (by simp) (fun a hF => ?_)
  refine seqR ?_
  refine at_do (d := 3) (s := vS (Instr.box 139 (.agg #[.int .i64 s1, .int .i64 s2]))) (v := .pointer (some ⟨w.heap.size, 0, none⟩)) (w' := w.alloc (.cells #[.int .i64 s1, .int .i64 s2] 139)) hF (by kernel_rfl) (by kernel_rfl) (by kernel_rfl) (fun a hF => ?_)
  have hS : Sep w0 B (w.alloc (.cells #[.int .i64 s1, .int .i64 s2] 139)) (blk w.heap.size 139 #[.int .i64 s1, .int .i64 s2] :: (blk g1 136 #[.slice A1 f_line1.length c1, .slice A2 f_clue1.length c2, .map (some g2)] :: mapH kf139 (Value.int .i64) g2 f_known1 :: fs)) := hS.box 139 #[.int .i64 s1, .int .i64 s2]
  generalize w.heap.size = g3 at hF hS
  generalize w.alloc (.cells #[.int .i64 s1, .int .i64 s2] 139) = w at hS ⊢
  refine at_run 1 [] [] [0, 3] [pl 0 (.pointer (some ⟨g1, 0, none⟩)), pl 3 (.pointer (some ⟨g3, 0, none⟩))] hF hS (by kernel_rfl) (by kernel_rfl) ?_ (fun a w hF hS => ?_)
  · exact obs_nil
  refine at_end [0, 3] [pl 0 (.pointer (some ⟨g1, 0, none⟩)), pl 3 (.pointer (some ⟨g3, 0, none⟩))] hF rfl (by kernel_rfl) (fun hF => ?_)
  refine then_n ?_
  refine seq_cut (fun a w => Fr 94 [pl 0 (.pointer (some ⟨g1, 0, none⟩)), pl 3 (.pointer (some ⟨g3, 0, none⟩))] a ∧ Sep w0 B w (blk g1 136 #[.slice A1 f_line1.length c1, .slice A2 f_clue1.length c2, .map (some g2)] :: mapH kf139 (Value.int .i64) g2 f_known1 :: blk g3 139 #[.int .i64 s1, .int .i64 s2] :: fs) ∧ ((nono_filler_ways_J1 rec_nono_filler_ways f_line1 f_clue1 f_known1 s1 s2)).bind some = some r) ?_ ?_
  · rintro a w ⟨hF, hS, hm⟩
    unfold nono_filler_ways_J1 at hm
    refine seq_cut (fun a w => Fr 94 [pl 0 (.pointer (some ⟨g1, 0, none⟩)), pl 3 (.pointer (some ⟨g3, 0, none⟩))] a ∧ Sep w0 B w (blk g1 136 #[.slice A1 f_line1.length c1, .slice A2 f_clue1.length c2, .map (some g2)] :: mapH kf139 (Value.int .i64) g2 f_known1 :: blk g3 139 #[.int .i64 s1, .int .i64 s2] :: fs) ∧ ((nono_filler_ways_J3 rec_nono_filler_ways f_line1 f_clue1 f_known1 s1 s2)).bind some = some r) ?_ ?_
    · rintro a w ⟨hF, hS, hm⟩
      unfold nono_filler_ways_J3 at hm
      refine reg [] [] [0, 3, 7] [pl 0 (.pointer (some ⟨g1, 0, none⟩)), pl 3 (.pointer (some ⟨g3, 0, none⟩)), pl 7 (.int .i64 0)] hF hS Fol (by kernel_rfl) (by kernel_rfl) (by kernel_rfl) ?_ (fun a w hF hS => ?_)
      · exact obs_nil
      refine seq_cut (fun a w => ∃ (f2 : List ((Int × Int) × Int)) (n3 : Int), Fr 94 [pl 0 (.pointer (some ⟨g1, 0, none⟩)), pl 3 (.pointer (some ⟨g3, 0, none⟩)), pl 7 (.int .i64 n3)] a ∧ Sep w0 B w (blk g1 136 #[.slice A1 f_line1.length c1, .slice A2 f_clue1.length c2, .map (some g2)] :: mapH kf139 (Value.int .i64) g2 f2 :: blk g3 139 #[.int .i64 s1, .int .i64 s2] :: fs) ∧ ((nono_filler_ways_J4 rec_nono_filler_ways f_line1 f_clue1 s1 s2) f2 n3).bind some = some r) ?_ ?_
      · rintro a w ⟨f2, n3, hF, hS, hm⟩
        unfold nono_filler_ways_J4 at hm
        refine seq_cut (fun a w => ∃ (f3 : List ((Int × Int) × Int)) (n4 : Int), Fr 94 [pl 0 (.pointer (some ⟨g1, 0, none⟩)), pl 3 (.pointer (some ⟨g3, 0, none⟩)), pl 7 (.int .i64 n4)] a ∧ Sep w0 B w (blk g1 136 #[.slice A1 f_line1.length c1, .slice A2 f_clue1.length c2, .map (some g2)] :: mapH kf139 (Value.int .i64) g2 f3 :: blk g3 139 #[.int .i64 s1, .int .i64 s2] :: fs) ∧ ((nono_filler_ways_J5 s1 s2) f3 n4).bind some = some r) ?_ ?_
        · rintro a w ⟨f3, n4, hF, hS, hm⟩
          unfold nono_filler_ways_J5 at hm
          refine wp_seq ?_
          refine regMix4 [0, 1, 2, 3, 4, 5] [6] [⟨false, [], vS (Instr.loadAt 134 (.pointer (some ⟨g1, 2, none⟩))), .map (some g2)⟩, ⟨false, [], vS (Instr.loadAt 139 (.pointer (some ⟨g3, 0, none⟩))), .agg #[.int .i64 s1, .int .i64 s2]⟩] [none, none, none, some (.map (some g2)), some (.agg #[.int .i64 s1, .int .i64 s2]), none] [7, 90, 91, 92] [pl 7 (.int .i64 n4), pl 90 (.map (some g2)), pl 91 (.agg #[.int .i64 s1, .int .i64 s2]), pl 92 (.int .i64 n4)] hF hS Fol (by kernel_rfl) (by kernel_rfl) (by kernel_rfl) (by kernel_rfl) (by kernel_rfl) ?_ (fun a w hF hS => ?_)
          · exact obs_cons (ob_load Agg134 (fun _ _ hS => (hS.at_ 0 rfl).cell rfl)) <| obs_cons (ob_loadA (cs := #[.int .i64 s1, .int .i64 s2]) (by kernel_rfl) (by kernel_rfl) (fun _ _ hS => (hS.at_ 2 rfl).cellsAt 0 (by rfl))) <| obs_nil
          obtain ⟨w, hrun, hS⟩ := run_mput (P := Try.prog) (t := 134) (vf := (Value.int .i64)) MK139 UndM134 (s1, s2) n4 (hS.at_ 1 rfl)
          refine at_skip hF (by kernel_rfl) hrun ?_
          have hS : Sep w0 B w (blk g1 136 #[.slice A1 f_line1.length c1, .slice A2 f_clue1.length c2, .map (some g2)] :: mapH kf139 (Value.int .i64) g2 (mput (s1, s2) n4 f3) :: blk g3 139 #[.int .i64 s1, .int .i64 s2] :: fs) := hS
          refine at_end [7] [pl 7 (.int .i64 n4)] hF rfl (by kernel_rfl) (fun hF => ?_)
          refine np_n ?_
          refine then_n ?_
          refine reg [] [] [4] [pl 4 (.int .i64 n4)] hF hS Fol (by kernel_rfl) (by kernel_rfl) (by kernel_rfl) ?_ (fun a w hF hS => ?_)
          · exact obs_nil
          refine wp_ret ?_
          have hS := hS.pickN 3 [0, 1] (by decide)
          have hm : some (n4, (mput (s1, s2) n4 f3)) = some r := hm
          obtain rfl := Option.some.inj hm
          exact retV (rs := [.tmp 4]) (vs := [.int .i64 n4]) hF rfl (rv_t (by kernel_rfl) <| rv_nil) rfl ⟨_, rfl, rfl, hS⟩
        · refine reg [⟨false, [], vS (Instr.loadAt 3 (.pointer (some ⟨g3, 1, none⟩))), .int .i64 s2⟩, ⟨false, [], vS (Instr.loadAt 22 (.pointer (some ⟨g1, 1, none⟩))), .slice A2 f_clue1.length c2⟩] [none, some (.int .i64 s2), none, none, none, some (.slice A2 f_clue1.length c2), none, none] [0, 3, 7, 60] [pl 0 (.pointer (some ⟨g1, 0, none⟩)), pl 3 (.pointer (some ⟨g3, 0, none⟩)), pl 7 (.int .i64 n3), pl 60 (.bool (decide (s2 < (f_clue1.length : Int))))] hF hS Fol (by kernel_rfl) (by kernel_rfl) (by kernel_rfl) ?_ (fun a w hF hS => ?_)
          · exact obs_cons (ob_load Agg3 (fun _ _ hS => (hS.at_ 2 rfl).cell rfl)) <| obs_cons (ob_load Agg22 (fun _ _ hS => (hS.at_ 0 rfl).cell rfl)) <| obs_nil
          refine cond_ev (t := 60) (b := decide (s2 < (f_clue1.length : Int))) hF (by kernel_rfl) (fun hb => ?_) (fun hb => ?_)
          · replace hm := if_t hm hb
            obtain ⟨hp2, hm⟩ := asrt_b hm
            refine reg [⟨false, [], vS (Instr.loadAt 22 (.pointer (some ⟨g1, 1, none⟩))), .slice A2 f_clue1.length c2⟩, ⟨false, [], vS (Instr.loadAt 3 (.pointer (some ⟨g3, 1, none⟩))), .int .i64 s2⟩, ⟨true, [], vS (Instr.indexAt 22 (.slice A2 f_clue1.length c2) (.int .i64 s2)), .pointer (some (sAddr A2 s2))⟩, ⟨false, [], vS (Instr.loadAt 3 (.pointer (some (sAddr A2 s2)))), .int .i64 (geti f_clue1 s2)⟩] [none, none, none, some (.slice A2 f_clue1.length c2), none, some (.int .i64 s2), some (.pointer (some (sAddr A2 s2))), some (.int .i64 (geti f_clue1 s2)), none] [0, 3, 7, 8] [pl 0 (.pointer (some ⟨g1, 0, none⟩)), pl 3 (.pointer (some ⟨g3, 0, none⟩)), pl 7 (.int .i64 n3), pl 8 (.int .i64 (geti f_clue1 s2))] hF hS Fol (by kernel_rfl) (by kernel_rfl) (by kernel_rfl) ?_ (fun a w hF hS => ?_)
            · exact obs_cons (ob_load Agg22 (fun _ _ hS => (hS.at_ 0 rfl).cell rfl)) <| obs_cons (ob_load Agg3 (fun _ _ hS => (hS.at_ 2 rfl).cell rfl)) <| obs_cons (ob_ix1 (f := (Value.int .i64)) (m := f_clue1) Und22 hi3 hs3 (hr_f_clue1 _ (hS.dropN 3)) rfl (fun _ => hp2)) <| obs_cons (ob_get1 (n := f_clue1.length) (m := f_clue1) (Value.int .i64) (0 : Int) Agg3 (fun _ hS => ⟨_, (hr_f_clue1 _ (hS.dropN 3))⟩) (fun _ hS => rfl) (fun _ => hp2)) <| obs_nil
            obtain ⟨r2, hr2, hm⟩ := call_b hm
            refine reg [⟨false, [], vS (Instr.loadAt 3 (.pointer (some ⟨g3, 0, none⟩))), .int .i64 s1⟩, ⟨false, [], callFunc 134 #[.pointer (some ⟨g1, 0, none⟩), .int .i64 s1, .int .i64 (geti f_clue1 s2)], .bool r2⟩] [none, none, some (.int .i64 s1), none, some (.bool r2)] [0, 3, 7, 8, 73] [pl 0 (.pointer (some ⟨g1, 0, none⟩)), pl 3 (.pointer (some ⟨g3, 0, none⟩)), pl 7 (.int .i64 n3), pl 8 (.int .i64 (geti f_clue1 s2)), pl 73 (.bool r2)] hF hS Fol (by kernel_rfl) (by kernel_rfl) (by kernel_rfl) ?_ (fun a w hF hS => ?_)
            · exact obs_cons (ob_load Agg3 (fun _ _ hS => (hS.at_ 2 rfl).cell rfl)) <| obs_cons (ob_call Try.func134 (by kernel_rfl) rfl (fun _ _ hS => nono_filler_fits_w hr2 hS (fun _ hS => (hr_f_line1 _ (hS.dropN 1))) _hc_f_line1 rfl (fun _ hS => (hr_f_clue1 _ (hS.dropN 1))) _hc_f_clue1 rfl)) <| obs_nil
            refine cond_ev (t := 73) (b := r2) hF (by kernel_rfl) (fun hb => ?_) (fun hb => ?_)
            · replace hm := if_t hm hb
              refine oneR ?_
              obtain ⟨r3, hr3, hm⟩ := call_b hm
              refine at_run 11 [⟨false, [], vS (Instr.loadAt 3 (.pointer (some ⟨g3, 0, none⟩))), .int .i64 s1⟩, ⟨false, [], vS (Instr.loadAt 3 (.pointer (some ⟨g3, 1, none⟩))), .int .i64 s2⟩] [none, none, none, some (.int .i64 s1), none, none, none, none, some (.int .i64 s2), none, none] [0, 3, 74, 75, 84] [pl 0 (.pointer (some ⟨g1, 0, none⟩)), pl 3 (.pointer (some ⟨g3, 0, none⟩)), pl 74 (.int .i64 n3), pl 75 (.pointer (some ⟨g1, 0, none⟩)), pl 84 (.agg #[.int .i64 (w64 ((w64 (s1 + (geti f_clue1 s2))) + 1)), .int .i64 (w64 (s2 + 1))])] hF hS (by kernel_rfl) (by kernel_rfl) ?_ (fun a w hF hS => ?_)
              · exact obs_cons (ob_load Agg3 (fun _ _ hS => (hS.at_ 2 rfl).cell rfl)) <| obs_cons (ob_load Agg3 (fun _ _ hS => (hS.at_ 2 rfl).cell rfl)) <| obs_nil
              refine at_call (f := 122) (args := #[.pointer (some ⟨g1, 0, none⟩), .agg #[.int .i64 (w64 ((w64 (s1 + (geti f_clue1 s2))) + 1)), .int .i64 (w64 (s2 + 1))]]) (d := 85) hF (by kernel_rfl) (by kernel_rfl) Try.func122 (by kernel_rfl) rfl (ih_nono_filler_ways hr3 hS (fun _ hS => (hr_f_line1 _ (hS.dropN 1))) _hc_f_line1 rfl (fun _ hS => (hr_f_clue1 _ (hS.dropN 1))) _hc_f_clue1 rfl) (fun v a w hR hF => ?_)
              clear hS
              obtain ⟨rfl, hS⟩ := hR
              have hS : Sep w0 B w (blk g1 136 #[.slice A1 f_line1.length c1, .slice A2 f_clue1.length c2, .map (some g2)] :: mapH kf139 (Value.int .i64) g2 r3.2 :: blk g3 139 #[.int .i64 s1, .int .i64 s2] :: fs) := hS
              refine at_run 2 [] [] [0, 3, 7] [pl 0 (.pointer (some ⟨g1, 0, none⟩)), pl 3 (.pointer (some ⟨g3, 0, none⟩)), pl 7 (.int .i64 (w64 (n3 + r3.1)))] hF hS (by kernel_rfl) (by kernel_rfl) ?_ (fun a w hF hS => ?_)
              · exact obs_nil
              refine at_end [0, 3, 7] [pl 0 (.pointer (some ⟨g1, 0, none⟩)), pl 3 (.pointer (some ⟨g3, 0, none⟩)), pl 7 (.int .i64 (w64 (n3 + r3.1)))] hF rfl (by kernel_rfl) (fun hF => ?_)
              refine then_n ?_
              exact ⟨r3.2, (w64 (n3 + r3.1)), hF.weak [0, 3, 7] (by kernel_rfl), hS, hm⟩
            · replace hm := if_f hm hb
              refine wp_skip ?_
              refine then_n ?_
              exact ⟨f2, n3, hF.weak [0, 3, 7] (by kernel_rfl), hS, hm⟩
          · replace hm := if_f hm hb
            refine wp_skip ?_
            refine then_n ?_
            exact ⟨f2, n3, hF.weak [0, 3, 7] (by kernel_rfl), hS, hm⟩
      · obtain ⟨hp1, hm⟩ := asrt_b hm
        refine reg [⟨false, [], vS (Instr.loadAt 22 (.pointer (some ⟨g1, 0, none⟩))), .slice A1 f_line1.length c1⟩, ⟨false, [], vS (Instr.loadAt 3 (.pointer (some ⟨g3, 0, none⟩))), .int .i64 s1⟩, ⟨true, [], vS (Instr.indexAt 22 (.slice A1 f_line1.length c1) (.int .i64 s1)), .pointer (some (sAddr A1 s1))⟩, ⟨false, [], vS (Instr.loadAt 3 (.pointer (some (sAddr A1 s1)))), .int .i64 (geti f_line1 s1)⟩] [none, none, none, some (.slice A1 f_line1.length c1), none, some (.int .i64 s1), some (.pointer (some (sAddr A1 s1))), some (.int .i64 (geti f_line1 s1)), none] [0, 3, 7, 44] [pl 0 (.pointer (some ⟨g1, 0, none⟩)), pl 3 (.pointer (some ⟨g3, 0, none⟩)), pl 7 (.int .i64 0), pl 44 (.bool ((geti f_line1 s1) != 1))] hF hS Fol (by kernel_rfl) (by kernel_rfl) (by kernel_rfl) ?_ (fun a w hF hS => ?_)
        · exact obs_cons (ob_load Agg22 (fun _ _ hS => (hS.at_ 0 rfl).cell rfl)) <| obs_cons (ob_load Agg3 (fun _ _ hS => (hS.at_ 2 rfl).cell rfl)) <| obs_cons (ob_ix1 (f := (Value.int .i64)) (m := f_line1) Und22 hi3 hs3 (hr_f_line1 _ (hS.dropN 3)) rfl (fun _ => hp1)) <| obs_cons (ob_get1 (n := f_line1.length) (m := f_line1) (Value.int .i64) (0 : Int) Agg3 (fun _ hS => ⟨_, (hr_f_line1 _ (hS.dropN 3))⟩) (fun _ hS => rfl) (fun _ => hp1)) <| obs_nil
        refine cond_ev (t := 44) (b := ((geti f_line1 s1) != 1)) hF (by kernel_rfl) (fun hb => ?_) (fun hb => ?_)
        · replace hm := if_t hm hb
          refine oneR ?_
          obtain ⟨r1, hr1, hm⟩ := call_b hm
          refine at_run 7 [⟨false, [], vS (Instr.loadAt 3 (.pointer (some ⟨g3, 0, none⟩))), .int .i64 s1⟩, ⟨false, [], vS (Instr.loadAt 3 (.pointer (some ⟨g3, 1, none⟩))), .int .i64 s2⟩] [none, none, some (.int .i64 s1), none, none, some (.int .i64 s2), none] [0, 3, 45, 51] [pl 0 (.pointer (some ⟨g1, 0, none⟩)), pl 3 (.pointer (some ⟨g3, 0, none⟩)), pl 45 (.pointer (some ⟨g1, 0, none⟩)), pl 51 (.agg #[.int .i64 (w64 (s1 + 1)), .int .i64 s2])] hF hS (by kernel_rfl) (by kernel_rfl) ?_ (fun a w hF hS => ?_)
          · exact obs_cons (ob_load Agg3 (fun _ _ hS => (hS.at_ 2 rfl).cell rfl)) <| obs_cons (ob_load Agg3 (fun _ _ hS => (hS.at_ 2 rfl).cell rfl)) <| obs_nil
          refine at_call (f := 122) (args := #[.pointer (some ⟨g1, 0, none⟩), .agg #[.int .i64 (w64 (s1 + 1)), .int .i64 s2]]) (d := 52) hF (by kernel_rfl) (by kernel_rfl) Try.func122 (by kernel_rfl) rfl (ih_nono_filler_ways hr1 hS (fun _ hS => (hr_f_line1 _ (hS.dropN 1))) _hc_f_line1 rfl (fun _ hS => (hr_f_clue1 _ (hS.dropN 1))) _hc_f_clue1 rfl) (fun v a w hR hF => ?_)
          clear hS
          obtain ⟨rfl, hS⟩ := hR
          have hS : Sep w0 B w (blk g1 136 #[.slice A1 f_line1.length c1, .slice A2 f_clue1.length c2, .map (some g2)] :: mapH kf139 (Value.int .i64) g2 r1.2 :: blk g3 139 #[.int .i64 s1, .int .i64 s2] :: fs) := hS
          refine at_run 1 [] [] [0, 3, 7] [pl 0 (.pointer (some ⟨g1, 0, none⟩)), pl 3 (.pointer (some ⟨g3, 0, none⟩)), pl 7 (.int .i64 r1.1)] hF hS (by kernel_rfl) (by kernel_rfl) ?_ (fun a w hF hS => ?_)
          · exact obs_nil
          refine at_end [0, 3, 7] [pl 0 (.pointer (some ⟨g1, 0, none⟩)), pl 3 (.pointer (some ⟨g3, 0, none⟩)), pl 7 (.int .i64 r1.1)] hF rfl (by kernel_rfl) (fun hF => ?_)
          refine then_n ?_
          exact ⟨r1.2, r1.1, hF.weak [0, 3, 7] (by kernel_rfl), hS, hm⟩
        · replace hm := if_f hm hb
          refine wp_skip ?_
          refine then_n ?_
          exact ⟨f_known1, 0, hF.weak [0, 3, 7] (by kernel_rfl), hS, hm⟩
    · refine reg [⟨false, [], vS (Instr.loadAt 134 (.pointer (some ⟨g1, 2, none⟩))), .map (some g2)⟩, ⟨false, [], vS (Instr.loadAt 139 (.pointer (some ⟨g3, 0, none⟩))), .agg #[.int .i64 s1, .int .i64 s2]⟩, ⟨false, [], vS (Instr.lookup 134 (.map (some g2)) (.agg #[.int .i64 s1, .int .i64 s2]) true), .tuple #[.int .i64 (mget (0 : Int) (s1, s2) f_known1), .bool (mhas (s1, s2) f_known1)]⟩] [none, none, none, some (.map (some g2)), some (.agg #[.int .i64 s1, .int .i64 s2]), some (.tuple #[.int .i64 (mget (0 : Int) (s1, s2) f_known1), .bool (mhas (s1, s2) f_known1)]), none, none, none, none, none] [0, 3, 5, 6] [pl 0 (.pointer (some ⟨g1, 0, none⟩)), pl 3 (.pointer (some ⟨g3, 0, none⟩)), pl 5 (.int .i64 (mget (0 : Int) (s1, s2) f_known1)), pl 6 (.bool (mhas (s1, s2) f_known1))] hF hS Fol (by kernel_rfl) (by kernel_rfl) (by kernel_rfl) ?_ (fun a w hF hS => ?_)
      · exact obs_cons (ob_load Agg134 (fun _ _ hS => (hS.at_ 0 rfl).cell rfl)) <| obs_cons (ob_loadA (cs := #[.int .i64 s1, .int .i64 s2]) (by kernel_rfl) (by kernel_rfl) (fun _ _ hS => (hS.at_ 2 rfl).cellsAt 0 (by rfl))) <| obs_cons (ob_look2 (k := (s1, s2)) (m := f_known1) MK139 UndM134 (z := (0 : Int)) MZ3 (fun _ hS => ⟨_, _, _, _, hS.at_ 1 rfl⟩)) <| obs_nil
      refine reg [] [] [0, 3, 5, 34] [pl 0 (.pointer (some ⟨g1, 0, none⟩)), pl 3 (.pointer (some ⟨g3, 0, none⟩)), pl 5 (.int .i64 (mget (0 : Int) (s1, s2) f_known1)), pl 34 (.bool (mhas (s1, s2) f_known1))] hF hS Fol (by kernel_rfl) (by kernel_rfl) (by kernel_rfl) ?_ (fun a w hF hS => ?_)
      · exact obs_nil
      refine cond_ev (t := 34) (b := (mhas (s1, s2) f_known1)) hF (by kernel_rfl) (fun hb => ?_) (fun hb => ?_)
      · replace hm := if_t hm hb
        refine reg [] [] [4] [pl 4 (.int .i64 (mget (0 : Int) (s1, s2) f_known1))] hF hS Fol (by kernel_rfl) (by kernel_rfl) (by kernel_rfl) ?_ (fun a w hF hS => ?_)
        · exact obs_nil
        refine wp_ret ?_
        refine then_r ?_
        have hS := hS.pickN 3 [0, 1] (by decide)
        have hm : some ((mget (0 : Int) (s1, s2) f_known1), f_known1) = some r := hm
        obtain rfl := Option.some.inj hm
        exact retV (rs := [.tmp 4]) (vs := [.int .i64 (mget (0 : Int) (s1, s2) f_known1)]) hF rfl (rv_t (by kernel_rfl) <| rv_nil) rfl ⟨_, rfl, rfl, hS⟩
      · replace hm := if_f hm hb
        refine wp_skip ?_
        refine then_n ?_
        exact ⟨hF.weak [0, 3] (by kernel_rfl), hS, hm⟩
  · refine reg [⟨false, [], vS (Instr.loadAt 3 (.pointer (some ⟨g3, 0, none⟩))), .int .i64 s1⟩, ⟨false, [], vS (Instr.loadAt 22 (.pointer (some ⟨g1, 0, none⟩))), .slice A1 f_line1.length c1⟩] [none, some (.int .i64 s1), none, none, none, some (.slice A1 f_line1.length c1), none, none] [0, 3, 16] [pl 0 (.pointer (some ⟨g1, 0, none⟩)), pl 3 (.pointer (some ⟨g3, 0, none⟩)), pl 16 (.bool (decide ((f_line1.length : Int) ≤ s1)))] hF hS Fol (by kernel_rfl) (by kernel_rfl) (by kernel_rfl) ?_ (fun a w hF hS => ?_)
    · exact obs_cons (ob_load Agg3 (fun _ _ hS => (hS.at_ 0 rfl).cell rfl)) <| obs_cons (ob_load Agg22 (fun _ _ hS => (hS.at_ 1 rfl).cell rfl)) <| obs_nil
    refine cond_ev (t := 16) (b := decide ((f_line1.length : Int) ≤ s1)) hF (by kernel_rfl) (fun hb => ?_) (fun hb => ?_)
    · replace hm := if_t hm hb
      refine seq_cut (fun a w => Fr 94 [] a ∧ Sep w0 B w (blk g1 136 #[.slice A1 f_line1.length c1, .slice A2 f_clue1.length c2, .map (some g2)] :: mapH kf139 (Value.int .i64) g2 f_known1 :: fs) ∧ ((nono_filler_ways_J2 f_known1)).bind some = some r) ?_ ?_
      · rintro a w ⟨hF, hS, hm⟩
        unfold nono_filler_ways_J2 at hm
        refine reg [] [] [4] [pl 4 (.int .i64 0)] hF hS Fol (by kernel_rfl) (by kernel_rfl) (by kernel_rfl) ?_ (fun a w hF hS => ?_)
        · exact obs_nil
        refine wp_ret ?_
        refine then_r ?_
        have hm : some (0, f_known1) = some r := hm
        obtain rfl := Option.some.inj hm
        exact retV (rs := [.tmp 4]) (vs := [.int .i64 0]) hF rfl (rv_t (by kernel_rfl) <| rv_nil) rfl ⟨_, rfl, rfl, hS⟩
      · refine reg [⟨false, [], vS (Instr.loadAt 3 (.pointer (some ⟨g3, 1, none⟩))), .int .i64 s2⟩, ⟨false, [], vS (Instr.loadAt 22 (.pointer (some ⟨g1, 1, none⟩))), .slice A2 f_clue1.length c2⟩] [none, some (.int .i64 s2), none, none, none, some (.slice A2 f_clue1.length c2), none, none] [24] [pl 24 (.bool (s2 == (f_clue1.length : Int)))] hF hS Fol (by kernel_rfl) (by kernel_rfl) (by kernel_rfl) ?_ (fun a w hF hS => ?_)
        · exact obs_cons (ob_load Agg3 (fun _ _ hS => (hS.at_ 0 rfl).cell rfl)) <| obs_cons (ob_load Agg22 (fun _ _ hS => (hS.at_ 1 rfl).cell rfl)) <| obs_nil
        refine cond_ev (t := 24) (b := (s2 == (f_clue1.length : Int))) hF (by kernel_rfl) (fun hb => ?_) (fun hb => ?_)
        · replace hm := if_t hm hb
          refine reg [] [] [4] [pl 4 (.int .i64 1)] hF hS Fol (by kernel_rfl) (by kernel_rfl) (by kernel_rfl) ?_ (fun a w hF hS => ?_)
          · exact obs_nil
          refine wp_ret ?_
          refine then_r (then_r ?_)
          have hS := hS.pickN 3 [1, 2] (by decide)
          have hm : some (1, f_known1) = some r := hm
          obtain rfl := Option.some.inj hm
          exact retV (rs := [.tmp 4]) (vs := [.int .i64 1]) hF rfl (rv_t (by kernel_rfl) <| rv_nil) rfl ⟨_, rfl, rfl, hS⟩
        · replace hm := if_f hm hb
          refine wp_skip ?_
          refine then_n ?_
          have hS := hS.pickN 3 [1, 2] (by decide)
          exact ⟨hF.weak [] (by kernel_rfl), hS, hm⟩
    · replace hm := if_f hm hb
      refine wp_skip ?_
      refine then_n ?_
      have hS := hS.pickN 3 [1, 2, 0] (by decide)
      exact ⟨hF.weak [0, 3] (by kernel_rfl), hS, hm⟩

theorem nono_filler_ways_w {g1 : Nat} {A1 : Option Addr} {c1 : Nat} {n1 : Nat} {f_line1 : List Int} {A2 : Option Addr} {c2 : Nat} {n2 : Nat} {f_clue1 : List Int} {g2 : Nat} {f_known1 : List ((Int × Int) × Int)} {s1 : Int} {s2 : Int} {r : (Int × List ((Int × Int) × Int))} {w0 w : World} {B : Nat} {fs : List HP} (hm : nono_filler_ways_m f_line1 f_clue1 f_known1 s1 s2 = some r) (hS : Sep w0 B w (blk g1 136 #[.slice A1 n1 c1, .slice A2 n2 c2, .map (some g2)] :: mapH kf139 (Value.int .i64) g2 f_known1 :: fs)) (hr_f_line1 : RdF w0 B fs A1 (vI f_line1)) (_hc_f_line1 : f_line1.length ≤ c1) (_hn_f_line1 : n1 = f_line1.length) (hr_f_clue1 : RdF w0 B fs A2 (vI f_clue1)) (_hc_f_clue1 : f_clue1.length ≤ c2) (_hn_f_clue1 : n2 = f_clue1.length) :
    Calls Try.prog 122 #[.pointer (some ⟨g1, 0, none⟩), .agg #[.int .i64 s1, .int .i64 s2]] w fun e w' => ∃ v, e = .returned v ∧ v = .int .i64 r.1 ∧ Sep w0 B w' (blk g1 136 #[.slice A1 n1 c1, .slice A2 n2 c2, .map (some g2)] :: mapH kf139 (Value.int .i64) g2 r.2 :: fs) := by
  have key : ∀ (n : Nat) {g1 : Nat} {A1 : Option Addr} {c1 : Nat} {n1 : Nat} {f_line1 : List Int} {A2 : Option Addr} {c2 : Nat} {n2 : Nat} {f_clue1 : List Int} {g2 : Nat} {f_known1 : List ((Int × Int) × Int)} {s1 : Int} {s2 : Int} {r : (Int × List ((Int × Int) × Int))} {w0 w : World} {B : Nat} {fs : List HP} (_ : nono_filler_ways_mF n f_line1 f_clue1 f_known1 s1 s2 = some r) (_ : Sep w0 B w (blk g1 136 #[.slice A1 n1 c1, .slice A2 n2 c2, .map (some g2)] :: mapH kf139 (Value.int .i64) g2 f_known1 :: fs)) (hr_f_line1 : RdF w0 B fs A1 (vI f_line1)) (_hc_f_line1 : f_line1.length ≤ c1) (_hn_f_line1 : n1 = f_line1.length) (hr_f_clue1 : RdF w0 B fs A2 (vI f_clue1)) (_hc_f_clue1 : f_clue1.length ≤ c2) (_hn_f_clue1 : n2 = f_clue1.length), Calls Try.prog 122 #[.pointer (some ⟨g1, 0, none⟩), .agg #[.int .i64 s1, .int .i64 s2]] w fun e w' => ∃ v, e = .returned v ∧ v = .int .i64 r.1 ∧ Sep w0 B w' (blk g1 136 #[.slice A1 n1 c1, .slice A2 n2 c2, .map (some g2)] :: mapH kf139 (Value.int .i64) g2 r.2 :: fs) := by
    intro n
    induction n with
    | zero => intros; rename_i hm0 _ _ _ _ _ _ _; cases hm0
    | succ n ih => intros; rename_i hm0 hS0 h0 h1 h2 h3 h4 h5; exact nono_filler_ways_wB (rec_nono_filler_ways := nono_filler_ways_mF n) (fun hm hS h0 h1 h2 h3 h4 h5 => ih hm hS h0 h1 h2 h3 h4 h5) hm0 hS0 h0 h1 h2 h3 h4 h5
  obtain ⟨n, hn⟩ := recM_some hm
  exact key n hn hS hr_f_line1 _hc_f_line1 _hn_f_line1 hr_f_clue1 _hc_f_clue1 _hn_f_clue1

theorem nono_filler_ways_J4_le_nono_filler_ways {rec_nono_filler_ways1 rec_nono_filler_ways2 : List Int → List Int → List ((Int × Int) × Int) → Int → Int → Option (Int × List ((Int × Int) × Int))} (h_rec_nono_filler_ways : ∀ a0 a1 a2 a3 a4, Le (rec_nono_filler_ways1 a0 a1 a2 a3 a4) (rec_nono_filler_ways2 a0 a1 a2 a3 a4)) (f_line1 : List Int) (f_clue1 : List Int) (s1 : Int) (s2 : Int) (f2 : List ((Int × Int) × Int)) (n3 : Int) : Le (nono_filler_ways_J4 rec_nono_filler_ways1 f_line1 f_clue1 s1 s2 f2 n3) (nono_filler_ways_J4 rec_nono_filler_ways2 f_line1 f_clue1 s1 s2 f2 n3) := by
  unfold nono_filler_ways_J4
  repeat' (first | with_reducible exact Le.refl _ | with_reducible exact h_rec_nono_filler_ways _ _ _ _ _ | refine Le.asrt ?_ | refine Le.ite ?_ ?_ | refine Le.bind ?_ (fun _ => ?_) | refine Le.loop2 (fun _ => ?_) | refine Le.elim2 (fun _ => ?_) (fun _ => ?_))

theorem nono_filler_ways_J3_le_nono_filler_ways {rec_nono_filler_ways1 rec_nono_filler_ways2 : List Int → List Int → List ((Int × Int) × Int) → Int → Int → Option (Int × List ((Int × Int) × Int))} (h_rec_nono_filler_ways : ∀ a0 a1 a2 a3 a4, Le (rec_nono_filler_ways1 a0 a1 a2 a3 a4) (rec_nono_filler_ways2 a0 a1 a2 a3 a4)) (f_line1 : List Int) (f_clue1 : List Int) (f_known1 : List ((Int × Int) × Int)) (s1 : Int) (s2 : Int) : Le (nono_filler_ways_J3 rec_nono_filler_ways1 f_line1 f_clue1 f_known1 s1 s2) (nono_filler_ways_J3 rec_nono_filler_ways2 f_line1 f_clue1 f_known1 s1 s2) := by
  unfold nono_filler_ways_J3
  repeat' (first | with_reducible exact Le.refl _ | with_reducible exact h_rec_nono_filler_ways _ _ _ _ _ | with_reducible exact nono_filler_ways_J4_le_nono_filler_ways h_rec_nono_filler_ways _ _ _ _ _ _ | refine Le.asrt ?_ | refine Le.ite ?_ ?_ | refine Le.bind ?_ (fun _ => ?_) | refine Le.loop2 (fun _ => ?_) | refine Le.elim2 (fun _ => ?_) (fun _ => ?_))

theorem nono_filler_ways_J1_le_nono_filler_ways {rec_nono_filler_ways1 rec_nono_filler_ways2 : List Int → List Int → List ((Int × Int) × Int) → Int → Int → Option (Int × List ((Int × Int) × Int))} (h_rec_nono_filler_ways : ∀ a0 a1 a2 a3 a4, Le (rec_nono_filler_ways1 a0 a1 a2 a3 a4) (rec_nono_filler_ways2 a0 a1 a2 a3 a4)) (f_line1 : List Int) (f_clue1 : List Int) (f_known1 : List ((Int × Int) × Int)) (s1 : Int) (s2 : Int) : Le (nono_filler_ways_J1 rec_nono_filler_ways1 f_line1 f_clue1 f_known1 s1 s2) (nono_filler_ways_J1 rec_nono_filler_ways2 f_line1 f_clue1 f_known1 s1 s2) := by
  unfold nono_filler_ways_J1
  repeat' (first | with_reducible exact Le.refl _ | with_reducible exact h_rec_nono_filler_ways _ _ _ _ _ | with_reducible exact nono_filler_ways_J3_le_nono_filler_ways h_rec_nono_filler_ways _ _ _ _ _ | refine Le.asrt ?_ | refine Le.ite ?_ ?_ | refine Le.bind ?_ (fun _ => ?_) | refine Le.loop2 (fun _ => ?_) | refine Le.elim2 (fun _ => ?_) (fun _ => ?_))

theorem nono_filler_ways_B_le {rec_nono_filler_ways1 rec_nono_filler_ways2 : List Int → List Int → List ((Int × Int) × Int) → Int → Int → Option (Int × List ((Int × Int) × Int))} (h_rec_nono_filler_ways : ∀ a0 a1 a2 a3 a4, Le (rec_nono_filler_ways1 a0 a1 a2 a3 a4) (rec_nono_filler_ways2 a0 a1 a2 a3 a4)) (f_line1 : List Int) (f_clue1 : List Int) (f_known1 : List ((Int × Int) × Int)) (s1 : Int) (s2 : Int) : Le (nono_filler_ways_B rec_nono_filler_ways1 f_line1 f_clue1 f_known1 s1 s2) (nono_filler_ways_B rec_nono_filler_ways2 f_line1 f_clue1 f_known1 s1 s2) := by
  unfold nono_filler_ways_B
  repeat' (first | with_reducible exact Le.refl _ | with_reducible exact h_rec_nono_filler_ways _ _ _ _ _ | with_reducible exact nono_filler_ways_J1_le_nono_filler_ways h_rec_nono_filler_ways _ _ _ _ _ | refine Le.asrt ?_ | refine Le.ite ?_ ?_ | refine Le.bind ?_ (fun _ => ?_) | refine Le.loop2 (fun _ => ?_) | refine Le.elim2 (fun _ => ?_) (fun _ => ?_))

theorem nono_filler_ways_mF_le : ∀ (n : Nat) (f_line1 : List Int) (f_clue1 : List Int) (f_known1 : List ((Int × Int) × Int)) (s1 : Int) (s2 : Int), Le (nono_filler_ways_mF n f_line1 f_clue1 f_known1 s1 s2) (nono_filler_ways_mF (n + 1) f_line1 f_clue1 f_known1 s1 s2)
  | 0, _, _, _, _, _ => fun _ h => by cases h
  | n + 1, _, _, _, _, _ => nono_filler_ways_B_le (fun a0 a1 a2 a3 a4 => nono_filler_ways_mF_le n a0 a1 a2 a3 a4) _ _ _ _ _

theorem nono_filler_ways_m_of (N : Nat) (f_line1 : List Int) (f_clue1 : List Int) (f_known1 : List ((Int × Int) × Int)) (s1 : Int) (s2 : Int) {r : (Int × List ((Int × Int) × Int))} (h : nono_filler_ways_mF N f_line1 f_clue1 f_known1 s1 s2 = some r) : nono_filler_ways_m f_line1 f_clue1 f_known1 s1 s2 = some r :=
  recM_mono (fun n => nono_filler_ways_mF_le n _ _ _ _ _) h

noncomputable def nono_ways_m (line1 : List Int) (clue1 : List Int) : Option Int :=
  (nono_filler_ways_m line1 clue1 ([] : List ((Int × Int) × Int)) 0 0).bind fun r1 => some r1.1

set_option maxRecDepth 100000 in
set_option maxHeartbeats 4000000 in
theorem nono_ways_w {A1 : Option Addr} {c1 : Nat} {n1 : Nat} {line1 : List Int} {A2 : Option Addr} {c2 : Nat} {n2 : Nat} {clue1 : List Int} {r : Int} {w0 w : World} {B : Nat} {fs : List HP} (hm : nono_ways_m line1 clue1 = some r) (hS : Sep w0 B w (fs)) (hr_line1 : RdF w0 B fs A1 (vI line1)) (_hc_line1 : line1.length ≤ c1) (_hn_line1 : n1 = line1.length) (hr_clue1 : RdF w0 B fs A2 (vI clue1)) (_hc_clue1 : clue1.length ≤ c2) (_hn_clue1 : n2 = clue1.length) :
    Calls Try.prog 88 #[.slice A1 n1 c1, .slice A2 n2 c2] w fun e w' => e = .returned (.int .i64 r) ∧ Sep w0 B w' (fs) := by
  obtain ⟨i3, hi3, hz3, hs3, hb3⟩ := info_parts Info3
  obtain rfl := _hn_line1
  obtain rfl := _hn_clue1
  unfold nono_ways_m at hm
  replace hm := start_b hm
  refine enter (l := [.slice A1 line1.length c1, .slice A2 clue1.length c2]) (n := 12) Try.func88 rfl rfl (by simp) (fun a hF => ?_)
  refine reg [] [] [0, 1] [pl 0 (.slice A1 line1.length c1), pl 1 (.slice A2 clue1.length c2)] hF hS Fol (by kernel_rfl) (by kernel_rfl) (by kernel_rfl) ?_ (fun a w hF hS => ?_)
  · exact obs_nil
  refine seqR ?_
  refine at_run 2 [] [] [6, 7] [pl 6 (.slice A1 line1.length c1), pl 7 (.slice A2 clue1.length c2)] hF hS (by kernel_rfl) (by kernel_rfl) ?_ (fun a w hF hS => ?_)
  · exact obs_nil
  refine at_do (d := 8) (s := vS (Instr.makeMap 134 none)) (v := .map (some w.heap.size)) (w' := w.alloc (.map #[] 0)) hF (by kernel_rfl) (by kernel_rfl) (by kernel_rfl) (fun a hF => ?_)
  have hS : Sep w0 B (w.alloc (.map #[] 0)) (mapH kf139 (Value.int .i64) w.heap.size ([] : List ((Int × Int) × Int)) :: (fs)) := hS.mapNew _ _
  generalize w.heap.size = g1 at hF hS
  generalize w.alloc (.map #[] 0) = w at hS ⊢
  refine at_run 1 [] [] [9] [pl 9 (.agg #[.slice A1 line1.length c1, .slice A2 clue1.length c2, .map (some g1)])] hF hS (by kernel_rfl) (by kernel_rfl) ?_ (fun a w hF hS => ?_)
  · exact obs_nil
  refine at_do (d := 5) (s := vS (Instr.alloc 136 true (.tuple #[]))) (v := .pointer (some ⟨w.heap.size, 0, none⟩)) (w' := w.alloc (.cells #[.slice none 0 0, .slice none 0 0, .map none] 136)) hF (by kernel_rfl) (by kernel_rfl) (by kernel_rfl) (fun a hF => ?_)
  have hS : Sep w0 B (w.alloc (.cells #[.slice none 0 0, .slice none 0 0, .map none] 136)) (blk w.heap.size 136 #[.slice none 0 0, .slice none 0 0, .map none] :: (mapH kf139 (Value.int .i64) g1 ([] : List ((Int × Int) × Int)) :: fs)) := hS.box 136 #[.slice none 0 0, .slice none 0 0, .map none]
  generalize w.heap.size = g2 at hF hS
  generalize w.alloc (.cells #[.slice none 0 0, .slice none 0 0, .map none] 136) = w at hS ⊢
  obtain ⟨w, hrun, hS⟩ := run_putA (P := Try.prog) (t := 136) (us := #[.slice A1 line1.length c1, .slice A2 clue1.length c2, .map (some g1)]) (o := 0) (hS.at_ 0 rfl) (by kernel_rfl) (all_one (by kernel_rfl)) (Nat.le_of_ble_eq_true (by kernel_rfl))
  refine at_skip hF (by kernel_rfl) hrun ?_
  have hS : Sep w0 B w (blk g2 136 #[.slice A1 line1.length c1, .slice A2 clue1.length c2, .map (some g1)] :: mapH kf139 (Value.int .i64) g1 ([] : List ((Int × Int) × Int)) :: fs) := hS
  refine at_end [5] [pl 5 (.pointer (some ⟨g2, 0, none⟩))] hF rfl (by kernel_rfl) (fun hF => ?_)
  refine then_n ?_
  refine seqR ?_
  obtain ⟨r1, hr1, hm⟩ := call_b hm
  refine at_run 1 [] [] [5, 10] [pl 5 (.pointer (some ⟨g2, 0, none⟩)), pl 10 (.agg #[.int .i64 0, .int .i64 0])] hF hS (by kernel_rfl) (by kernel_rfl) ?_ (fun a w hF hS => ?_)
  · exact obs_nil
  refine at_call (f := 122) (args := #[.pointer (some ⟨g2, 0, none⟩), .agg #[.int .i64 0, .int .i64 0]]) (d := 11) hF (by kernel_rfl) (by kernel_rfl) Try.func122 (by kernel_rfl) rfl (nono_filler_ways_w hr1 hS (fun _ hS => (hr_line1 _ (hS.dropN 0))) _hc_line1 rfl (fun _ hS => (hr_clue1 _ (hS.dropN 0))) _hc_clue1 rfl) (fun v a w hR hF => ?_)
  clear hS
  obtain ⟨rfl, hS⟩ := hR
  have hS : Sep w0 B w (blk g2 136 #[.slice A1 line1.length c1, .slice A2 clue1.length c2, .map (some g1)] :: mapH kf139 (Value.int .i64) g1 r1.2 :: fs) := hS
  refine at_run 1 [] [] [4] [pl 4 (.int .i64 r1.1)] hF hS (by kernel_rfl) (by kernel_rfl) ?_ (fun a w hF hS => ?_)
  · exact obs_nil
  refine at_end [4] [pl 4 (.int .i64 r1.1)] hF rfl (by kernel_rfl) (fun hF => ?_)
  refine then_n ?_
  refine wp_ret ?_
  have hS := hS.pickN 2 [] (by decide)
  have hm : some r1.1 = some r := hm
  obtain rfl := Option.some.inj hm
  exact retV (rs := [.tmp 4]) (vs := [.int .i64 r1.1]) hF rfl (rv_t (by kernel_rfl) <| rv_nil) rfl ⟨rfl, hS⟩

noncomputable def nono_Ways_J1 (line1 : List Int) (clue1 : List Int) : Option (Int × Int) :=
  (nono_ways_m line1 clue1).bind fun r2 => some (r2, 0)

noncomputable def nono_Ways_m (line1 : List Int) (clue1 : List Int) : Option (Int × Int) :=
  (nono_check_m line1 clue1).bind fun r1 => if (r1 != 0) then (some (0, r1)) else ((nono_Ways_J1 line1 clue1))

set_option maxRecDepth 100000 in
set_option maxHeartbeats 4000000 in
theorem nono_Ways_w {A1 : Option Addr} {c1 : Nat} {n1 : Nat} {line1 : List Int} {A2 : Option Addr} {c2 : Nat} {n2 : Nat} {clue1 : List Int} {r : (Int × Int)} {w0 w : World} {B : Nat} {fs : List HP} (hm : nono_Ways_m line1 clue1 = some r) (hS : Sep w0 B w (fs)) (hr_line1 : RdF w0 B fs A1 (vI line1)) (_hc_line1 : line1.length ≤ c1) (_hn_line1 : n1 = line1.length) (hr_clue1 : RdF w0 B fs A2 (vI clue1)) (_hc_clue1 : clue1.length ≤ c2) (_hn_clue1 : n2 = clue1.length) :
    Calls Try.prog 41 #[.slice A1 n1 c1, .slice A2 n2 c2] w fun e w' => e = .returned (.tuple #[.int .i64 r.1, .int .i64 r.2]) ∧ Sep w0 B w' (fs) := by
  obtain ⟨i3, hi3, hz3, hs3, hb3⟩ := info_parts Info3
  obtain rfl := _hn_line1
  obtain rfl := _hn_clue1
  unfold nono_Ways_m at hm
  replace hm := start_b hm
  refine enter (l := [.slice A1 line1.length c1, .slice A2 clue1.length c2]) (n := 16) Try.func41 rfl rfl (by simp) (fun a hF => ?_)
  refine reg [] [] [0, 1] [pl 0 (.slice A1 line1.length c1), pl 1 (.slice A2 clue1.length c2)] hF hS Fol (by kernel_rfl) (by kernel_rfl) (by kernel_rfl) ?_ (fun a w hF hS => ?_)
  · exact obs_nil
  refine seq_cut (fun a w => Fr 16 [pl 0 (.slice A1 line1.length c1), pl 1 (.slice A2 clue1.length c2)] a ∧ Sep w0 B w (fs) ∧ ((nono_Ways_J1 line1 clue1)).bind some = some r) ?_ ?_
  · rintro a w ⟨hF, hS, hm⟩
    unfold nono_Ways_J1 at hm
    obtain ⟨r2, hr2, hm⟩ := call_b hm
    refine reg [⟨false, [], callFunc 88 #[.slice A1 line1.length c1, .slice A2 clue1.length c2], .int .i64 r2⟩] [none, none, some (.int .i64 r2), none, none] [4, 5] [pl 4 (.int .i64 r2), pl 5 (.int .i64 0)] hF hS Fol (by kernel_rfl) (by kernel_rfl) (by kernel_rfl) ?_ (fun a w hF hS => ?_)
    · exact obs_cons (ob_call Try.func88 (by kernel_rfl) rfl (fun _ _ hS => nono_ways_w hr2 hS (fun _ hS => (hr_line1 _ (hS.dropN 0))) _hc_line1 rfl (fun _ hS => (hr_clue1 _ (hS.dropN 0))) _hc_clue1 rfl)) <| obs_nil
    refine wp_ret ?_
    have hm : some (r2, 0) = some r := hm
    obtain rfl := Option.some.inj hm
    exact retV (rs := [.tmp 4, .tmp 5]) (vs := [.int .i64 r2, .int .i64 0]) hF rfl (rv_t (by kernel_rfl) <| rv_t (by kernel_rfl) <| rv_nil) rfl ⟨rfl, hS⟩
  · obtain ⟨r1, hr1, hm⟩ := call_b hm
    refine reg [⟨false, [], callFunc 87 #[.slice A1 line1.length c1, .slice A2 clue1.length c2], .int .i64 r1⟩] [none, none, some (.int .i64 r1), none] [0, 1, 6] [pl 0 (.slice A1 line1.length c1), pl 1 (.slice A2 clue1.length c2), pl 6 (.int .i64 r1)] hF hS Fol (by kernel_rfl) (by kernel_rfl) (by kernel_rfl) ?_ (fun a w hF hS => ?_)
    · exact obs_cons (ob_call Try.func87 (by kernel_rfl) rfl (fun _ _ hS => nono_check_w hr1 hS (fun _ hS => (hr_line1 _ (hS.dropN 0))) _hc_line1 rfl (fun _ hS => (hr_clue1 _ (hS.dropN 0))) _hc_clue1 rfl)) <| obs_nil
    refine reg [] [] [0, 1, 6, 11] [pl 0 (.slice A1 line1.length c1), pl 1 (.slice A2 clue1.length c2), pl 6 (.int .i64 r1), pl 11 (.bool (r1 != 0))] hF hS Fol (by kernel_rfl) (by kernel_rfl) (by kernel_rfl) ?_ (fun a w hF hS => ?_)
    · exact obs_nil
    refine cond_ev (t := 11) (b := (r1 != 0)) hF (by kernel_rfl) (fun hb => ?_) (fun hb => ?_)
    · replace hm := if_t hm hb
      refine reg [] [] [4, 5] [pl 4 (.int .i64 0), pl 5 (.int .i64 r1)] hF hS Fol (by kernel_rfl) (by kernel_rfl) (by kernel_rfl) ?_ (fun a w hF hS => ?_)
      · exact obs_nil
      refine wp_ret ?_
      refine then_r ?_
      have hm : some (0, r1) = some r := hm
      obtain rfl := Option.some.inj hm
      exact retV (rs := [.tmp 4, .tmp 5]) (vs := [.int .i64 0, .int .i64 r1]) hF rfl (rv_t (by kernel_rfl) <| rv_t (by kernel_rfl) <| rv_nil) rfl ⟨rfl, hS⟩
    · replace hm := if_f hm hb
      refine wp_skip ?_
      refine then_n ?_
      exact ⟨hF.weak [0, 1] (by kernel_rfl), hS, hm⟩

noncomputable def slices_Clone_J1 (s1 : List Int) : Option (List Int) :=
  asrt ((0 : Int) + (s1.length : Int) ≤ bigN) <| some (([] : List Int) ++ s1)

noncomputable def slices_Clone_m (s1 : List Int) : Option (List Int) :=
  (slices_Clone_J1 s1)

set_option maxRecDepth 100000 in
set_option maxHeartbeats 4000000 in
theorem slices_Clone_w {A1 : Option Addr} {c1 : Nat} {n1 : Nat} {s1 : List Int} {r : (List Int)} {w0 w : World} {B : Nat} {fs : List HP} (hm : slices_Clone_m s1 = some r) (hS : Sep w0 B w (fs)) (hr_s1 : RdF w0 B fs A1 (vI s1)) (_hc_s1 : s1.length ≤ c1) (_hn_s1 : n1 = s1.length) :
    Calls Try.prog 113 #[.slice A1 n1 c1] w fun e w' => ∃ v, e = .returned v ∧ ∃ (A3 : Option Addr) (c3 : Nat), v = .slice A3 r.length c3 ∧ Sep w0 B w' (own 3 (.slice A3 r.length c3) (vI r) :: fs) := by
  obtain ⟨i3, hi3, hz3, hs3, hb3⟩ := info_parts Info3
  obtain rfl := _hn_s1
  unfold slices_Clone_m at hm
  replace hm := start_b hm
  refine enter (l := [.slice A1 s1.length c1]) (n := 8) Try.func113 rfl rfl (by simp) (fun a hF => ?_)
  refine reg [] [] [0] [pl 0 (.slice A1 s1.length c1)] hF hS Fol (by kernel_rfl) (by kernel_rfl) (by kernel_rfl) ?_ (fun a w hF hS => ?_)
  · exact obs_nil
  refine seq_cut (fun a w => Fr 8 [pl 0 (.slice A1 s1.length c1)] a ∧ Sep w0 B w (fs) ∧ ((slices_Clone_J1 s1)).bind some = some r) ?_ ?_
  · rintro a w ⟨hF, hS, hm⟩
    unfold slices_Clone_J1 at hm
    refine seqR ?_
    obtain ⟨hp1, hm⟩ := asrt_b hm
    refine at_do (d := 5) (s := vS (Instr.buildSlice 22 0 #[])) (v := .slice (some ⟨w.heap.size, 0, none⟩) 0 0) (w' := w.alloc (.cells #[] 3)) hF (by kernel_rfl) (by kernel_rfl) (by kernel_rfl) (fun a hF => ?_)
    have hS : Sep w0 B (w.alloc (.cells #[] 3)) (own 3 (.slice (some (⟨w.heap.size, 0, none⟩ : Addr)) 0 0) (vI ([] : List Int)) :: (fs)) := hS.lit 3 #[] 0 rfl (by omega)
    generalize (some (⟨w.heap.size, 0, none⟩ : Addr)) = g1 at hF hS
    generalize w.alloc (.cells #[] 3) = w at hS ⊢
    refine at_run 1 [] [] [5, 6] [pl 5 (.slice g1 0 0), pl 6 (.slice A1 s1.length c1)] hF hS (by kernel_rfl) (by kernel_rfl) ?_ (fun a w hF hS => ?_)
    · exact obs_nil
    obtain ⟨A2, c2, w, hrun, hS⟩ := run_app1 (P := Try.prog) (t := 22) (m := ([] : List Int)) (ys := s1) (A2 := A1) (m2 := s1.length) (c2 := c1) (Value.int .i64) (0 : Int) (hS.at_ 0 rfl) (hr_s1 _ (hS.dropN 1)) rfl 22 Und22 hi3 hz3 hs3 (by omega) rfl (fun _ => rfl) hp1
    have hS : Sep w0 B w (own 3 (.slice A2 ((([] : List Int) ++ s1).length) c2) (vI (([] : List Int) ++ s1)) :: fs) := hS
    refine at_do (d := 7) hF (by kernel_rfl) (by kernel_rfl) hrun (fun a hF => ?_)
    refine at_run 1 [] [] [2] [pl 2 (.slice A2 ((([] : List Int) ++ s1).length) c2)] hF hS (by kernel_rfl) (by kernel_rfl) ?_ (fun a w hF hS => ?_)
    · exact obs_nil
    refine at_end [2] [pl 2 (.slice A2 ((([] : List Int) ++ s1).length) c2)] hF rfl (by kernel_rfl) (fun hF => ?_)
    refine then_n ?_
    refine wp_ret ?_
    have hm : some (([] : List Int) ++ s1) = some r := hm
    obtain rfl := Option.some.inj hm
    exact retV (rs := [.tmp 2]) (vs := [.slice A2 ((([] : List Int) ++ s1).length) c2]) hF rfl (rv_t (by kernel_rfl) <| rv_nil) rfl ⟨_, rfl, A2, c2, rfl, hS⟩
  · refine reg [⟨true, [], vS (binOp .eql 22 (.slice A1 s1.length c1) (.slice none 0 0)), .bool A1.isNone⟩] [none, some (.bool A1.isNone)] [0, 4] [pl 0 (.slice A1 s1.length c1), pl 4 (.bool A1.isNone)] hF hS Fol (by kernel_rfl) (by kernel_rfl) (by kernel_rfl) ?_ (fun a w hF hS => ?_)
    · exact obs_cons (ob_isnil Und22 rfl) <| obs_nil
    refine cond_ev (t := 4) (b := A1.isNone) hF (by kernel_rfl) (fun hb => ?_) (fun hb => ?_)
    · have hA9 := Option.isNone_iff_eq_none.1 hb
      have hnil9 : s1 = [] := by have h9 := (hr_s1 _ (hS.dropN 0)); rw [hA9] at h9; exact h9.none_nil
      have hm : (some ([] : List Int)).bind some = some r := by rw [hnil9] at hm; simpa [asrt, bigN, slices_Clone_J1] using hm
      refine reg [] [] [2] [pl 2 (.slice none 0 0)] hF hS Fol (by kernel_rfl) (by kernel_rfl) (by kernel_rfl) ?_ (fun a w hF hS => ?_)
      · exact obs_nil
      refine wp_ret ?_
      refine then_r ?_
      have hS : Sep w0 B w (own 3 (.slice none 0 0) (vI ([] : List Int)) :: fs) := hS.nil 3
      have hl1 := (hS.at_ 0 rfl).len1
      have hS := (hS.at_ 0 rfl).reN hl1
      have hS : Sep w0 B w (own 3 (.slice none (([] : List Int).length) 0) (vI ([] : List Int)) :: fs) := hS
      have hm : some ([] : List Int) = some r := hm
      obtain rfl := Option.some.inj hm
      exact retV (rs := [.tmp 2]) (vs := [.slice none (([] : List Int).length) 0]) hF rfl (rv_t (by kernel_rfl) <| rv_nil) rfl ⟨_, rfl, none, 0, rfl, hS⟩
    · refine wp_skip ?_
      refine then_n ?_
      exact ⟨hF.weak [0] (by kernel_rfl), hS, hm⟩

noncomputable def nono_sure_J3 (z1 : Int) (line3 : List Int) (out3 : List Int) : Option (St (List Int × List Int × Int) (List Int)) :=
  some (.next (line3, out3, (w64 (z1 + 1))))

noncomputable def nono_sure_J5 (r2 : (List Int)) (line2 : List Int) (z1 : Int) (out4 : List Int) : Option (St (List Int × List Int × Int) (List Int)) :=
  asrt (0 ≤ z1 ∧ z1 < (r2.length : Int)) <| (nono_sure_J3 z1) ((line2.set (Int.toNat z1) 1).set (Int.toNat z1) (-1)) out4

noncomputable def nono_sure_J4 (clue1 : List Int) (r1 : Int) (r2 : (List Int)) (r3 : (List Int)) (line2 : List Int) (out1 : List Int) (z1 : Int) : Option (St (List Int × List Int × Int) (List Int)) :=
  asrt (0 ≤ z1 ∧ z1 < (r2.length : Int)) <| (nono_ways_m (line2.set (Int.toNat z1) 1) clue1).bind fun r4 => if (r4 == r1) then (asrt (0 ≤ z1 ∧ z1 < (r3.length : Int)) <| (nono_sure_J5 r2 line2 z1) (out1.set (Int.toNat z1) 1)) else (if (r4 == 0) then (asrt (0 ≤ z1 ∧ z1 < (r3.length : Int)) <| (nono_sure_J5 r2 line2 z1) (out1.set (Int.toNat z1) 0)) else ((nono_sure_J5 r2 line2 z1) out1))

noncomputable def nono_sure_J2 (clue1 : List Int) (r1 : Int) (r2 : (List Int)) (r3 : (List Int)) (line2 : List Int) (out1 : List Int) (z1 : Int) : Option (St (List Int × List Int × Int) (List Int)) :=
  asrt (0 ≤ z1 ∧ z1 < (r2.length : Int)) <| if ((decide ((0 : Int) ≤ (geti line2 z1))) || (r1 == 0)) then ((nono_sure_J3 z1) line2 out1) else ((nono_sure_J4 clue1 r1 r2 r3 line2 out1 z1))

noncomputable def nono_sure_J1 (r1 : Int) (out2 : List Int) : Option (List Int × Bool) :=
  some (out2, (decide ((0 : Int) < r1)))

noncomputable def nono_sure_K1 (r1 : Int) : (List Int) → Option (List Int × Bool) :=
  fun (x : (List Int)) => match x with | out2 => (nono_sure_J1 r1) out2

noncomputable def nono_sure_L1 (clue1 : List Int) (r1 : Int) (r2 : (List Int)) (r3 : (List Int)) : (List Int × List Int × Int) → Option (St (List Int × List Int × Int) (List Int)) :=
  fun (x : (List Int × List Int × Int)) => match x with | (line2, out1, z1) => if (decide (z1 < (r2.length : Int))) then ((nono_sure_J2 clue1 r1 r2 r3 line2 out1 z1)) else (some (.done out1))

noncomputable def nono_sure_m (line1 : List Int) (clue1 : List Int) : Option (List Int × Bool) :=
  (nono_ways_m line1 clue1).bind fun r1 => (slices_Clone_m line1).bind fun r2 => (slices_Clone_m r2).bind fun r3 => (loop (nono_sure_L1 clue1 r1 r2 r3) (r2, r3, 0)).bind (nono_sure_K1 r1)

set_option maxRecDepth 100000 in
set_option maxHeartbeats 4000000 in
theorem nono_sure_w {A1 : Option Addr} {c1 : Nat} {n1 : Nat} {line1 : List Int} {A2 : Option Addr} {c2 : Nat} {n2 : Nat} {clue1 : List Int} {r : (List Int × Bool)} {w0 w : World} {B : Nat} {fs : List HP} (hm : nono_sure_m line1 clue1 = some r) (hS : Sep w0 B w (fs)) (hr_line1 : RdF w0 B fs A1 (vI line1)) (_hc_line1 : line1.length ≤ c1) (_hn_line1 : n1 = line1.length) (hr_clue1 : RdF w0 B fs A2 (vI clue1)) (_hc_clue1 : clue1.length ≤ c2) (_hn_clue1 : n2 = clue1.length) :
    Calls Try.prog 89 #[.slice A1 n1 c1, .slice A2 n2 c2] w fun e w' => ∃ v, e = .returned v ∧ ∃ (A5 : Option Addr) (c5 : Nat), v = .tuple #[.slice A5 r.1.length c5, .bool r.2] ∧ Sep w0 B w' (own 3 (.slice A5 r.1.length c5) (vI r.1) :: fs) := by
  obtain ⟨i3, hi3, hz3, hs3, hb3⟩ := info_parts Info3
  obtain rfl := _hn_line1
  obtain rfl := _hn_clue1
  unfold nono_sure_m at hm
  replace hm := start_b hm
  refine enter (l := [.slice A1 line1.length c1, .slice A2 clue1.length c2]) (n := 54) Try.func89 rfl rfl (by simp) (fun a hF => ?_)
  refine reg [] [] [0, 1] [pl 0 (.slice A1 line1.length c1), pl 1 (.slice A2 clue1.length c2)] hF hS Fol (by kernel_rfl) (by kernel_rfl) (by kernel_rfl) ?_ (fun a w hF hS => ?_)
  · exact obs_nil
  obtain ⟨r1, hr1, hm⟩ := call_b hm
  refine reg [⟨false, [], callFunc 88 #[.slice A1 line1.length c1, .slice A2 clue1.length c2], .int .i64 r1⟩] [none, none, some (.int .i64 r1), none] [0, 1, 6] [pl 0 (.slice A1 line1.length c1), pl 1 (.slice A2 clue1.length c2), pl 6 (.int .i64 r1)] hF hS Fol (by kernel_rfl) (by kernel_rfl) (by kernel_rfl) ?_ (fun a w hF hS => ?_)
  · exact obs_cons (ob_call Try.func88 (by kernel_rfl) rfl (fun _ _ hS => nono_ways_w hr1 hS (fun _ hS => (hr_line1 _ (hS.dropN 0))) _hc_line1 rfl (fun _ hS => (hr_clue1 _ (hS.dropN 0))) _hc_clue1 rfl)) <| obs_nil
  refine seqR ?_
  obtain ⟨r2, hr2, hm⟩ := call_b hm
  refine at_run 1 [] [] [1, 6, 13] [pl 1 (.slice A2 clue1.length c2), pl 6 (.int .i64 r1), pl 13 (.slice A1 line1.length c1)] hF hS (by kernel_rfl) (by kernel_rfl) ?_ (fun a w hF hS => ?_)
  · exact obs_nil
  refine at_call (f := 113) (args := #[.slice A1 line1.length c1]) (d := 14) hF (by kernel_rfl) (by kernel_rfl) Try.func113 (by kernel_rfl) rfl (slices_Clone_w hr2 hS (fun _ hS => (hr_line1 _ (hS.dropN 0))) _hc_line1 rfl) (fun v a w hR hF => ?_)
  clear hS
  obtain ⟨A3, c3, rfl, hS⟩ := hR
  have hS : Sep w0 B w (own 3 (.slice A3 r2.length c3) (vI r2) :: fs) := hS
  refine at_run 1 [] [] [0, 1, 6] [pl 0 (.slice A3 r2.length c3), pl 1 (.slice A2 clue1.length c2), pl 6 (.int .i64 r1)] hF hS (by kernel_rfl) (by kernel_rfl) ?_ (fun a w hF hS => ?_)
  · exact obs_nil
  refine at_end [0, 1, 6] [pl 0 (.slice A3 r2.length c3), pl 1 (.slice A2 clue1.length c2), pl 6 (.int .i64 r1)] hF rfl (by kernel_rfl) (fun hF => ?_)
  refine then_n ?_
  refine seqR ?_
  obtain ⟨r3, hr3, hm⟩ := call_b hm
  refine at_run 1 [] [] [0, 1, 6, 15] [pl 0 (.slice A3 r2.length c3), pl 1 (.slice A2 clue1.length c2), pl 6 (.int .i64 r1), pl 15 (.slice A3 r2.length c3)] hF hS (by kernel_rfl) (by kernel_rfl) ?_ (fun a w hF hS => ?_)
  · exact obs_nil
  refine at_call (f := 113) (args := #[.slice A3 r2.length c3]) (d := 16) hF (by kernel_rfl) (by kernel_rfl) Try.func113 (by kernel_rfl) rfl (slices_Clone_w hr3 hS (fun _ hS => (hS.at_ 0 rfl).rd) ((hS.at_ 0 rfl).cap1) rfl) (fun v a w hR hF => ?_)
  clear hS
  obtain ⟨A4, c4, rfl, hS⟩ := hR
  have hS : Sep w0 B w (own 3 (.slice A4 r3.length c4) (vI r3) :: own 3 (.slice A3 r2.length c3) (vI r2) :: fs) := hS
  refine at_run 1 [] [] [0, 1, 6, 7] [pl 0 (.slice A3 r2.length c3), pl 1 (.slice A2 clue1.length c2), pl 6 (.int .i64 r1), pl 7 (.slice A4 r3.length c4)] hF hS (by kernel_rfl) (by kernel_rfl) ?_ (fun a w hF hS => ?_)
  · exact obs_nil
  refine at_end [0, 1, 6, 7] [pl 0 (.slice A3 r2.length c3), pl 1 (.slice A2 clue1.length c2), pl 6 (.int .i64 r1), pl 7 (.slice A4 r3.length c4)] hF rfl (by kernel_rfl) (fun hF => ?_)
  refine then_n ?_
  refine seq_cut (fun a w => ∃ (out2 : List Int), Fr 54 [pl 6 (.int .i64 r1), pl 7 (.slice A4 r3.length c4)] a ∧ Sep w0 B w (own 3 (.slice A4 r3.length c4) (vI out2) :: fs) ∧ ((nono_sure_J1 r1) out2).bind some = some r) ?_ ?_
  · rintro a w ⟨out2, hF, hS, hm⟩
    unfold nono_sure_J1 at hm
    refine reg [] [] [4, 5] [pl 4 (.slice A4 r3.length c4), pl 5 (.bool (decide ((0 : Int) < r1)))] hF hS Fol (by kernel_rfl) (by kernel_rfl) (by kernel_rfl) ?_ (fun a w hF hS => ?_)
    · exact obs_nil
    refine wp_ret ?_
    have hl1 := (hS.at_ 0 rfl).len1
    have hS := (hS.at_ 0 rfl).reN hl1
    have hS : Sep w0 B w (own 3 (.slice A4 out2.length c4) (vI out2) :: fs) := hS
    have hF := hF.cast (t := 4) (v := .slice A4 r3.length c4) (v' := .slice A4 out2.length c4) rfl rfl (congrArg (fun k => Value.slice A4 k c4) hl1)
    have hm : some (out2, (decide ((0 : Int) < r1))) = some r := hm
    obtain rfl := Option.some.inj hm
    exact retV (rs := [.tmp 4, .tmp 5]) (vs := [.slice A4 out2.length c4, .bool (decide ((0 : Int) < r1))]) hF rfl (rv_t (by kernel_rfl) <| rv_t (by kernel_rfl) <| rv_nil) rfl ⟨_, rfl, A4, c4, rfl, hS⟩
  · refine reg [] [] [0, 1, 6, 7, 17, 18, 19] [pl 0 (.slice A3 r2.length c3), pl 1 (.slice A2 clue1.length c2), pl 6 (.int .i64 r1), pl 7 (.slice A4 r3.length c4), pl 17 (.slice A3 r2.length c3), pl 18 (.int .i64 (r2.length : Int)), pl 19 (.int .i64 0)] hF hS Fol (by kernel_rfl) (by kernel_rfl) (by kernel_rfl) ?_ (fun a w hF hS => ?_)
    · exact obs_nil
    refine wp_block ?_
    have hS := hS.pickN 2 [1, 0] (by decide)
    refine wp_loop_model (S := (List Int × List Int × Int)) (R := (List Int)) (nono_sure_L1 clue1 r1 r2 r3) (fun x => ((nono_sure_K1 r1) x).bind some) r (fun (x : (List Int × List Int × Int)) a w => Fr 54 [pl 0 (.slice A3 r2.length c3), pl 1 (.slice A2 clue1.length c2), pl 6 (.int .i64 r1), pl 7 (.slice A4 r3.length c4), pl 17 (.slice A3 r2.length c3), pl 18 (.int .i64 (r2.length : Int)), pl 19 (.int .i64 x.2.2)] a ∧ Sep w0 B w (own 3 (.slice A3 r2.length c3) (vI x.1) :: own 3 (.slice A4 r3.length c4) (vI x.2.1) :: fs)) (assoc_b hm) ⟨hF.weak [0, 1, 6, 7, 17, 18, 19] (by kernel_rfl), hS⟩ ?_
    clear hF hS hm
    rintro nn1 ⟨line2, out1, z1⟩ a w ⟨hF, hS⟩ hm
    generalize hφ1 : stK (nono_sure_L1 clue1 r1 r2 r3) nn1 (fun x => ((nono_sure_K1 r1) x).bind some) = φ1 at hm
    unfold nono_sure_L1 at hm
    dsimp only at hF hS hm
    refine reg [] [] [0, 1, 6, 7, 17, 18, 19, 20] [pl 0 (.slice A3 r2.length c3), pl 1 (.slice A2 clue1.length c2), pl 6 (.int .i64 r1), pl 7 (.slice A4 r3.length c4), pl 17 (.slice A3 r2.length c3), pl 18 (.int .i64 (r2.length : Int)), pl 19 (.int .i64 z1), pl 20 (.bool (decide (z1 < (r2.length : Int))))] hF hS Fol (by kernel_rfl) (by kernel_rfl) (by kernel_rfl) ?_ (fun a w hF hS => ?_)
    · exact obs_nil
    refine seq_cut (fun a w => Fr 54 [pl 0 (.slice A3 r2.length c3), pl 1 (.slice A2 clue1.length c2), pl 6 (.int .i64 r1), pl 7 (.slice A4 r3.length c4), pl 17 (.slice A3 r2.length c3), pl 18 (.int .i64 (r2.length : Int)), pl 19 (.int .i64 z1)] a ∧ Sep w0 B w (own 3 (.slice A3 r2.length c3) (vI line2) :: own 3 (.slice A4 r3.length c4) (vI out1) :: fs) ∧ ((nono_sure_J2 clue1 r1 r2 r3 line2 out1 z1)).bind φ1 = some r) ?_ ?_
    · rintro a w ⟨hF, hS, hm⟩
      unfold nono_sure_J2 at hm
      refine seq_cut (fun a w => ∃ (line3 : List Int) (out3 : List Int), Fr 54 [pl 0 (.slice A3 r2.length c3), pl 1 (.slice A2 clue1.length c2), pl 6 (.int .i64 r1), pl 7 (.slice A4 r3.length c4), pl 17 (.slice A3 r2.length c3), pl 18 (.int .i64 (r2.length : Int)), pl 19 (.int .i64 z1)] a ∧ Sep w0 B w (own 3 (.slice A3 r2.length c3) (vI line3) :: own 3 (.slice A4 r3.length c4) (vI out3) :: fs) ∧ ((nono_sure_J3 z1) line3 out3).bind φ1 = some r) ?_ ?_
      · rintro a w ⟨line3, out3, hF, hS, hm⟩
        unfold nono_sure_J3 at hm
        refine reg1 [] [] [0, 1, 6, 7, 17, 18, 19] [pl 0 (.slice A3 r2.length c3), pl 1 (.slice A2 clue1.length c2), pl 6 (.int .i64 r1), pl 7 (.slice A4 r3.length c4), pl 17 (.slice A3 r2.length c3), pl 18 (.int .i64 (r2.length : Int)), pl 19 (.int .i64 (w64 (z1 + 1)))] hF hS Fol (by kernel_rfl) (by kernel_rfl) (by kernel_rfl) ?_ (fun a w hF hS => ?_)
        · exact obs_nil
        refine then_n ?_
        rw [← hφ1] at hm
        exact ⟨(line3, out3, (w64 (z1 + 1))), ⟨hF.weak [0, 1, 6, 7, 17, 18, 19] (by kernel_rfl), hS⟩, hm⟩
      · refine wp_block ?_
        obtain ⟨hp1, hm⟩ := asrt_b hm
        refine reg [⟨true, [], vS (Instr.indexAt 22 (.slice A3 r2.length c3) (.int .i64 z1)), .pointer (some (sAddr A3 z1))⟩, ⟨false, [], vS (Instr.loadAt 3 (.pointer (some (sAddr A3 z1)))), .int .i64 (geti line2 z1)⟩] [none, some (.pointer (some (sAddr A3 z1))), some (.int .i64 (geti line2 z1)), none, none] [0, 1, 6, 7, 8, 9, 17, 18, 19] [pl 0 (.slice A3 r2.length c3), pl 1 (.slice A2 clue1.length c2), pl 6 (.int .i64 r1), pl 7 (.slice A4 r3.length c4), pl 8 (.int .i64 z1), pl 9 (.int .i64 (geti line2 z1)), pl 17 (.slice A3 r2.length c3), pl 18 (.int .i64 (r2.length : Int)), pl 19 (.int .i64 z1)] hF hS Fol (by kernel_rfl) (by kernel_rfl) (by kernel_rfl) ?_ (fun a w hF hS => ?_)
        · exact obs_cons (ob_ix1 (f := (Value.int .i64)) (m := line2) Und22 hi3 hs3 (hS.at_ 0 rfl).rd ((hS.at_ 0 rfl).len1) (fun _ => hp1)) <| obs_cons (ob_get1 (n := r2.length) (m := line2) (Value.int .i64) (0 : Int) Agg3 (fun _ hS => ⟨_, (hS.at_ 0 rfl).rd⟩) (fun _ hS => ((hS.at_ 0 rfl).len1)) (fun _ => hp1)) <| obs_nil
        refine seq_cut (fun a w => Fr 54 [pl 0 (.slice A3 r2.length c3), pl 1 (.slice A2 clue1.length c2), pl 6 (.int .i64 r1), pl 7 (.slice A4 r3.length c4), pl 8 (.int .i64 z1), pl 17 (.slice A3 r2.length c3), pl 18 (.int .i64 (r2.length : Int)), pl 19 (.int .i64 z1)] a ∧ Sep w0 B w (own 3 (.slice A3 r2.length c3) (vI line2) :: own 3 (.slice A4 r3.length c4) (vI out1) :: fs) ∧ ((nono_sure_J4 clue1 r1 r2 r3 line2 out1 z1)).bind φ1 = some r) ?_ ?_
        · rintro a w ⟨hF, hS, hm⟩
          unfold nono_sure_J4 at hm
          refine seqR ?_
          obtain ⟨hp2, hm⟩ := asrt_b hm
          refine at_run 3 [⟨true, [], vS (Instr.indexAt 22 (.slice A3 r2.length c3) (.int .i64 z1)), .pointer (some (sAddr A3 z1))⟩] [none, none, some (.pointer (some (sAddr A3 z1)))] [0, 1, 6, 7, 8, 17, 18, 19, 32] [pl 0 (.slice A3 r2.length c3), pl 1 (.slice A2 clue1.length c2), pl 6 (.int .i64 r1), pl 7 (.slice A4 r3.length c4), pl 8 (.int .i64 z1), pl 17 (.slice A3 r2.length c3), pl 18 (.int .i64 (r2.length : Int)), pl 19 (.int .i64 z1), pl 32 (.pointer (some (sAddr A3 z1)))] hF hS (by kernel_rfl) (by kernel_rfl) ?_ (fun a w hF hS => ?_)
          · exact obs_cons (ob_ix1 (f := (Value.int .i64)) (m := line2) Und22 hi3 hs3 (hS.at_ 0 rfl).rd ((hS.at_ 0 rfl).len1) (fun _ => hp2)) <| obs_nil
          obtain ⟨w, hrun, hS⟩ := run_set1 (P := Try.prog) (t := 3) (x := 1) (Value.int .i64) (hS.at_ 0 rfl) hi3 hs3 rfl rfl hp2
          refine at_skip hF (by kernel_rfl) hrun ?_
          have hS : Sep w0 B w (own 3 (.slice A3 r2.length c3) (vI (line2.set (Int.toNat z1) 1)) :: own 3 (.slice A4 r3.length c4) (vI out1) :: fs) := hS
          refine at_end [0, 1, 6, 7, 8, 17, 18, 19] [pl 0 (.slice A3 r2.length c3), pl 1 (.slice A2 clue1.length c2), pl 6 (.int .i64 r1), pl 7 (.slice A4 r3.length c4), pl 8 (.int .i64 z1), pl 17 (.slice A3 r2.length c3), pl 18 (.int .i64 (r2.length : Int)), pl 19 (.int .i64 z1)] hF rfl (by kernel_rfl) (fun hF => ?_)
          refine then_n ?_
          refine seq_cut (fun a w => ∃ (out4 : List Int), Fr 54 [pl 0 (.slice A3 r2.length c3), pl 1 (.slice A2 clue1.length c2), pl 6 (.int .i64 r1), pl 7 (.slice A4 r3.length c4), pl 8 (.int .i64 z1), pl 17 (.slice A3 r2.length c3), pl 18 (.int .i64 (r2.length : Int)), pl 19 (.int .i64 z1)] a ∧ Sep w0 B w (own 3 (.slice A3 r2.length c3) (vI (line2.set (Int.toNat z1) 1)) :: own 3 (.slice A4 r3.length c4) (vI out4) :: fs) ∧ ((nono_sure_J5 r2 line2 z1) out4).bind φ1 = some r) ?_ ?_
          · rintro a w ⟨out4, hF, hS, hm⟩
            unfold nono_sure_J5 at hm
            refine oneR ?_
            obtain ⟨hp5, hm⟩ := asrt_b hm
            refine at_run 3 [⟨true, [], vS (Instr.indexAt 22 (.slice A3 r2.length c3) (.int .i64 z1)), .pointer (some (sAddr A3 z1))⟩] [none, none, some (.pointer (some (sAddr A3 z1)))] [0, 1, 6, 7, 17, 18, 19, 49] [pl 0 (.slice A3 r2.length c3), pl 1 (.slice A2 clue1.length c2), pl 6 (.int .i64 r1), pl 7 (.slice A4 r3.length c4), pl 17 (.slice A3 r2.length c3), pl 18 (.int .i64 (r2.length : Int)), pl 19 (.int .i64 z1), pl 49 (.pointer (some (sAddr A3 z1)))] hF hS (by kernel_rfl) (by kernel_rfl) ?_ (fun a w hF hS => ?_)
            · exact obs_cons (ob_ix1 (f := (Value.int .i64)) (m := (line2.set (Int.toNat z1) 1)) Und22 hi3 hs3 (hS.at_ 0 rfl).rd ((hS.at_ 0 rfl).len1) (fun _ => hp5)) <| obs_nil
            obtain ⟨w, hrun, hS⟩ := run_set1 (P := Try.prog) (t := 3) (x := (-1)) (Value.int .i64) (hS.at_ 0 rfl) hi3 hs3 rfl rfl hp5
            refine at_skip hF (by kernel_rfl) hrun ?_
            have hS : Sep w0 B w (own 3 (.slice A3 r2.length c3) (vI ((line2.set (Int.toNat z1) 1).set (Int.toNat z1) (-1))) :: own 3 (.slice A4 r3.length c4) (vI out4) :: fs) := hS
            refine at_end [0, 1, 6, 7, 17, 18, 19] [pl 0 (.slice A3 r2.length c3), pl 1 (.slice A2 clue1.length c2), pl 6 (.int .i64 r1), pl 7 (.slice A4 r3.length c4), pl 17 (.slice A3 r2.length c3), pl 18 (.int .i64 (r2.length : Int)), pl 19 (.int .i64 z1)] hF rfl (by kernel_rfl) (fun hF => ?_)
            refine block_n ?_
            refine then_n ?_
            exact ⟨((line2.set (Int.toNat z1) 1).set (Int.toNat z1) (-1)), out4, hF.weak [0, 1, 6, 7, 17, 18, 19] (by kernel_rfl), hS, hm⟩
          · obtain ⟨r4, hr4, hm⟩ := call_b hm
            refine reg [⟨false, [], callFunc 88 #[.slice A3 r2.length c3, .slice A2 clue1.length c2], .int .i64 r4⟩] [none, none, some (.int .i64 r4)] [0, 1, 6, 7, 8, 17, 18, 19, 35] [pl 0 (.slice A3 r2.length c3), pl 1 (.slice A2 clue1.length c2), pl 6 (.int .i64 r1), pl 7 (.slice A4 r3.length c4), pl 8 (.int .i64 z1), pl 17 (.slice A3 r2.length c3), pl 18 (.int .i64 (r2.length : Int)), pl 19 (.int .i64 z1), pl 35 (.int .i64 r4)] hF hS Fol (by kernel_rfl) (by kernel_rfl) (by kernel_rfl) ?_ (fun a w hF hS => ?_)
            · exact obs_cons (ob_call Try.func88 (by kernel_rfl) rfl (fun _ _ hS => nono_ways_w hr4 hS (fun _ hS => (hS.at_ 0 rfl).rd) ((hS.at_ 0 rfl).cap1) ((hS.at_ 0 rfl).len1) (fun _ hS => (hr_clue1 _ (hS.dropN 2))) _hc_clue1 rfl)) <| obs_nil
            refine wp_block ?_
            refine reg [] [] [0, 1, 6, 7, 8, 17, 18, 19, 35, 36] [pl 0 (.slice A3 r2.length c3), pl 1 (.slice A2 clue1.length c2), pl 6 (.int .i64 r1), pl 7 (.slice A4 r3.length c4), pl 8 (.int .i64 z1), pl 17 (.slice A3 r2.length c3), pl 18 (.int .i64 (r2.length : Int)), pl 19 (.int .i64 z1), pl 35 (.int .i64 r4), pl 36 (.bool (r4 == r1))] hF hS Fol (by kernel_rfl) (by kernel_rfl) (by kernel_rfl) ?_ (fun a w hF hS => ?_)
            · exact obs_nil
            refine cond_ev (t := 36) (b := (r4 == r1)) hF (by kernel_rfl) (fun hb => ?_) (fun hb => ?_)
            · replace hm := if_t hm hb
              refine oneR ?_
              obtain ⟨hp3, hm⟩ := asrt_b hm
              refine at_run 3 [⟨true, [], vS (Instr.indexAt 22 (.slice A4 r3.length c4) (.int .i64 z1)), .pointer (some (sAddr A4 z1))⟩] [none, none, some (.pointer (some (sAddr A4 z1)))] [0, 1, 6, 7, 8, 17, 18, 19, 41] [pl 0 (.slice A3 r2.length c3), pl 1 (.slice A2 clue1.length c2), pl 6 (.int .i64 r1), pl 7 (.slice A4 r3.length c4), pl 8 (.int .i64 z1), pl 17 (.slice A3 r2.length c3), pl 18 (.int .i64 (r2.length : Int)), pl 19 (.int .i64 z1), pl 41 (.pointer (some (sAddr A4 z1)))] hF hS (by kernel_rfl) (by kernel_rfl) ?_ (fun a w hF hS => ?_)
              · exact obs_cons (ob_ix1 (f := (Value.int .i64)) (m := out1) Und22 hi3 hs3 (hS.at_ 1 rfl).rd ((hS.at_ 1 rfl).len1) (fun _ => hp3)) <| obs_nil
              obtain ⟨w, hrun, hS⟩ := run_set1 (P := Try.prog) (t := 3) (x := 1) (Value.int .i64) (hS.at_ 1 rfl) hi3 hs3 rfl rfl hp3
              refine at_skip hF (by kernel_rfl) hrun ?_
              have hS : Sep w0 B w (own 3 (.slice A3 r2.length c3) (vI (line2.set (Int.toNat z1) 1)) :: own 3 (.slice A4 r3.length c4) (vI (out1.set (Int.toNat z1) 1)) :: fs) := hS
              refine at_end [0, 1, 6, 7, 8, 17, 18, 19] [pl 0 (.slice A3 r2.length c3), pl 1 (.slice A2 clue1.length c2), pl 6 (.int .i64 r1), pl 7 (.slice A4 r3.length c4), pl 8 (.int .i64 z1), pl 17 (.slice A3 r2.length c3), pl 18 (.int .i64 (r2.length : Int)), pl 19 (.int .i64 z1)] hF rfl (by kernel_rfl) (fun hF => ?_)
              refine block_n ?_
              refine then_n ?_
              exact ⟨(out1.set (Int.toNat z1) 1), hF.weak [0, 1, 6, 7, 8, 17, 18, 19] (by kernel_rfl), hS, hm⟩
            · replace hm := if_f hm hb
              refine reg [] [] [0, 1, 6, 7, 8, 17, 18, 19, 42] [pl 0 (.slice A3 r2.length c3), pl 1 (.slice A2 clue1.length c2), pl 6 (.int .i64 r1), pl 7 (.slice A4 r3.length c4), pl 8 (.int .i64 z1), pl 17 (.slice A3 r2.length c3), pl 18 (.int .i64 (r2.length : Int)), pl 19 (.int .i64 z1), pl 42 (.bool (r4 == 0))] hF hS Fol (by kernel_rfl) (by kernel_rfl) (by kernel_rfl) ?_ (fun a w hF hS => ?_)
              · exact obs_nil
              refine cond_ev (t := 42) (b := (r4 == 0)) hF (by kernel_rfl) (fun hb => ?_) (fun hb => ?_)
              · replace hm := if_t hm hb
                refine oneR ?_
                obtain ⟨hp4, hm⟩ := asrt_b hm
                refine at_run 3 [⟨true, [], vS (Instr.indexAt 22 (.slice A4 r3.length c4) (.int .i64 z1)), .pointer (some (sAddr A4 z1))⟩] [none, none, some (.pointer (some (sAddr A4 z1)))] [0, 1, 6, 7, 8, 17, 18, 19, 46] [pl 0 (.slice A3 r2.length c3), pl 1 (.slice A2 clue1.length c2), pl 6 (.int .i64 r1), pl 7 (.slice A4 r3.length c4), pl 8 (.int .i64 z1), pl 17 (.slice A3 r2.length c3), pl 18 (.int .i64 (r2.length : Int)), pl 19 (.int .i64 z1), pl 46 (.pointer (some (sAddr A4 z1)))] hF hS (by kernel_rfl) (by kernel_rfl) ?_ (fun a w hF hS => ?_)
                · exact obs_cons (ob_ix1 (f := (Value.int .i64)) (m := out1) Und22 hi3 hs3 (hS.at_ 1 rfl).rd ((hS.at_ 1 rfl).len1) (fun _ => hp4)) <| obs_nil
                obtain ⟨w, hrun, hS⟩ := run_set1 (P := Try.prog) (t := 3) (x := 0) (Value.int .i64) (hS.at_ 1 rfl) hi3 hs3 rfl rfl hp4
                refine at_skip hF (by kernel_rfl) hrun ?_
                have hS : Sep w0 B w (own 3 (.slice A3 r2.length c3) (vI (line2.set (Int.toNat z1) 1)) :: own 3 (.slice A4 r3.length c4) (vI (out1.set (Int.toNat z1) 0)) :: fs) := hS
                refine at_end [0, 1, 6, 7, 8, 17, 18, 19] [pl 0 (.slice A3 r2.length c3), pl 1 (.slice A2 clue1.length c2), pl 6 (.int .i64 r1), pl 7 (.slice A4 r3.length c4), pl 8 (.int .i64 z1), pl 17 (.slice A3 r2.length c3), pl 18 (.int .i64 (r2.length : Int)), pl 19 (.int .i64 z1)] hF rfl (by kernel_rfl) (fun hF => ?_)
                refine block_n ?_
                refine then_n ?_
                exact ⟨(out1.set (Int.toNat z1) 0), hF.weak [0, 1, 6, 7, 8, 17, 18, 19] (by kernel_rfl), hS, hm⟩
              · replace hm := if_f hm hb
                refine wp_skip ?_
                refine block_n ?_
                refine then_n ?_
                exact ⟨out1, hF.weak [0, 1, 6, 7, 8, 17, 18, 19] (by kernel_rfl), hS, hm⟩
        · refine reg [] [] [0, 1, 6, 7, 8, 17, 18, 19, 29] [pl 0 (.slice A3 r2.length c3), pl 1 (.slice A2 clue1.length c2), pl 6 (.int .i64 r1), pl 7 (.slice A4 r3.length c4), pl 8 (.int .i64 z1), pl 17 (.slice A3 r2.length c3), pl 18 (.int .i64 (r2.length : Int)), pl 19 (.int .i64 z1), pl 29 (.bool ((decide ((0 : Int) ≤ (geti line2 z1))) || (r1 == 0)))] hF hS Fol (by kernel_rfl) (by kernel_rfl) (by kernel_rfl) ?_ (fun a w hF hS => ?_)
          · exact obs_nil
          refine cond_ev (t := 29) (b := (decide ((0 : Int) ≤ (geti line2 z1))) || (r1 == 0)) hF (by kernel_rfl) (fun hb => ?_) (fun hb => ?_)
          · replace hm := if_t hm hb
            refine wp_exit ?_
            refine then_e (block_e (then_n ?_))
            exact ⟨line2, out1, hF.weak [0, 1, 6, 7, 17, 18, 19] (by kernel_rfl), hS, hm⟩
          · replace hm := if_f hm hb
            refine wp_skip ?_
            refine then_n ?_
            exact ⟨hF.weak [0, 1, 6, 7, 8, 17, 18, 19] (by kernel_rfl), hS, hm⟩
    · refine cond_ev (t := 20) (b := decide (z1 < (r2.length : Int))) hF (by kernel_rfl) (fun hb => ?_) (fun hb => ?_)
      · replace hm := if_t hm hb
        refine wp_skip ?_
        refine then_n ?_
        exact ⟨hF.weak [0, 1, 6, 7, 17, 18, 19] (by kernel_rfl), hS, hm⟩
      · replace hm := if_f hm hb
        refine wp_exit ?_
        refine then_e (then_e (block_e (then_n ?_)))
        have hS := hS.pickN 2 [1] (by decide)
        rw [← hφ1] at hm
        replace hm := done_b hm
        unfold nono_sure_K1 at hm
        try dsimp only at hm
        have hm : ((nono_sure_J1 r1) out1).bind some = some r := hm
        exact ⟨out1, hF.weak [6, 7] (by kernel_rfl), hS, hm⟩

noncomputable def nono_Sure_J2 (r2 : (List Int × Bool)) : Option (List Int × Int) :=
  some (r2.1, 0)

noncomputable def nono_Sure_J1 (line1 : List Int) (clue1 : List Int) : Option (List Int × Int) :=
  (nono_sure_m line1 clue1).bind fun r2 => if (!r2.2) then (some (([] : List Int), 10)) else ((nono_Sure_J2 r2))

noncomputable def nono_Sure_m (line1 : List Int) (clue1 : List Int) : Option (List Int × Int) :=
  (nono_check_m line1 clue1).bind fun r1 => if (r1 != 0) then (some (([] : List Int), r1)) else ((nono_Sure_J1 line1 clue1))

set_option maxRecDepth 100000 in
set_option maxHeartbeats 4000000 in
theorem nono_Sure_w {A1 : Option Addr} {c1 : Nat} {n1 : Nat} {line1 : List Int} {A2 : Option Addr} {c2 : Nat} {n2 : Nat} {clue1 : List Int} {r : (List Int × Int)} {w0 w : World} {B : Nat} {fs : List HP} (hm : nono_Sure_m line1 clue1 = some r) (hS : Sep w0 B w (fs)) (hr_line1 : RdF w0 B fs A1 (vI line1)) (_hc_line1 : line1.length ≤ c1) (_hn_line1 : n1 = line1.length) (hr_clue1 : RdF w0 B fs A2 (vI clue1)) (_hc_clue1 : clue1.length ≤ c2) (_hn_clue1 : n2 = clue1.length) :
    Calls Try.prog 42 #[.slice A1 n1 c1, .slice A2 n2 c2] w fun e w' => ∃ v, e = .returned v ∧ ∃ (A4 : Option Addr) (c4 : Nat), v = .tuple #[.slice A4 r.1.length c4, .int .i64 r.2] ∧ Sep w0 B w' (own 3 (.slice A4 r.1.length c4) (vI r.1) :: fs) := by
  obtain ⟨i3, hi3, hz3, hs3, hb3⟩ := info_parts Info3
  obtain rfl := _hn_line1
  obtain rfl := _hn_clue1
  unfold nono_Sure_m at hm
  replace hm := start_b hm
  refine enter (l := [.slice A1 line1.length c1, .slice A2 clue1.length c2]) (n := 24) Try.func42 rfl rfl (by simp) (fun a hF => ?_)
  refine reg [] [] [0, 1] [pl 0 (.slice A1 line1.length c1), pl 1 (.slice A2 clue1.length c2)] hF hS Fol (by kernel_rfl) (by kernel_rfl) (by kernel_rfl) ?_ (fun a w hF hS => ?_)
  · exact obs_nil
  refine seq_cut (fun a w => Fr 24 [pl 0 (.slice A1 line1.length c1), pl 1 (.slice A2 clue1.length c2)] a ∧ Sep w0 B w (fs) ∧ ((nono_Sure_J1 line1 clue1)).bind some = some r) ?_ ?_
  · rintro a w ⟨hF, hS, hm⟩
    unfold nono_Sure_J1 at hm
    refine seqR ?_
    obtain ⟨r2, hr2, hm⟩ := call_b hm
    refine at_run 2 [] [] [16, 17] [pl 16 (.slice A1 line1.length c1), pl 17 (.slice A2 clue1.length c2)] hF hS (by kernel_rfl) (by kernel_rfl) ?_ (fun a w hF hS => ?_)
    · exact obs_nil
    refine at_call (f := 89) (args := #[.slice A1 line1.length c1, .slice A2 clue1.length c2]) (d := 18) hF (by kernel_rfl) (by kernel_rfl) Try.func89 (by kernel_rfl) rfl (nono_sure_w hr2 hS (fun _ hS => (hr_line1 _ (hS.dropN 0))) _hc_line1 rfl (fun _ hS => (hr_clue1 _ (hS.dropN 0))) _hc_clue1 rfl) (fun v a w hR hF => ?_)
    clear hS
    obtain ⟨A3, c3, rfl, hS⟩ := hR
    have hS : Sep w0 B w (own 3 (.slice A3 r2.1.length c3) (vI r2.1) :: fs) := hS
    refine at_run 5 [] [] [7, 8] [pl 7 (.slice A3 r2.1.length c3), pl 8 (.bool r2.2)] hF hS (by kernel_rfl) (by kernel_rfl) ?_ (fun a w hF hS => ?_)
    · exact obs_nil
    refine at_end [7, 8] [pl 7 (.slice A3 r2.1.length c3), pl 8 (.bool r2.2)] hF rfl (by kernel_rfl) (fun hF => ?_)
    refine then_n ?_
    refine seq_cut (fun a w => Fr 24 [pl 7 (.slice A3 r2.1.length c3)] a ∧ Sep w0 B w (own 3 (.slice A3 r2.1.length c3) (vI r2.1) :: fs) ∧ ((nono_Sure_J2 r2)).bind some = some r) ?_ ?_
    · rintro a w ⟨hF, hS, hm⟩
      unfold nono_Sure_J2 at hm
      refine reg [] [] [4, 5] [pl 4 (.slice A3 r2.1.length c3), pl 5 (.int .i64 0)] hF hS Fol (by kernel_rfl) (by kernel_rfl) (by kernel_rfl) ?_ (fun a w hF hS => ?_)
      · exact obs_nil
      refine wp_ret ?_
      have hm : some (r2.1, 0) = some r := hm
      obtain rfl := Option.some.inj hm
      exact retV (rs := [.tmp 4, .tmp 5]) (vs := [.slice A3 r2.1.length c3, .int .i64 0]) hF rfl (rv_t (by kernel_rfl) <| rv_t (by kernel_rfl) <| rv_nil) rfl ⟨_, rfl, A3, c3, rfl, hS⟩
    · refine reg [] [] [7, 22] [pl 7 (.slice A3 r2.1.length c3), pl 22 (.bool (!r2.2))] hF hS Fol (by kernel_rfl) (by kernel_rfl) (by kernel_rfl) ?_ (fun a w hF hS => ?_)
      · exact obs_nil
      refine cond_ev (t := 22) (b := !r2.2) hF (by kernel_rfl) (fun hb => ?_) (fun hb => ?_)
      · replace hm := if_t hm hb
        refine reg [] [] [4, 5] [pl 4 (.slice none 0 0), pl 5 (.int .i64 10)] hF hS Fol (by kernel_rfl) (by kernel_rfl) (by kernel_rfl) ?_ (fun a w hF hS => ?_)
        · exact obs_nil
        refine wp_ret ?_
        refine then_r ?_
        have hS : Sep w0 B w (own 3 (.slice none 0 0) (vI ([] : List Int)) :: own 3 (.slice A3 r2.1.length c3) (vI r2.1) :: fs) := hS.nil 3
        have hl2 := (hS.at_ 0 rfl).len1
        have hS := (hS.at_ 0 rfl).reN hl2
        have hS : Sep w0 B w (own 3 (.slice none (([] : List Int).length) 0) (vI ([] : List Int)) :: own 3 (.slice A3 r2.1.length c3) (vI r2.1) :: fs) := hS
        have hS := hS.pickN 2 [0] (by decide)
        have hm : some (([] : List Int), 10) = some r := hm
        obtain rfl := Option.some.inj hm
        exact retV (rs := [.tmp 4, .tmp 5]) (vs := [.slice none (([] : List Int).length) 0, .int .i64 10]) hF rfl (rv_t (by kernel_rfl) <| rv_t (by kernel_rfl) <| rv_nil) rfl ⟨_, rfl, none, 0, rfl, hS⟩
      · replace hm := if_f hm hb
        refine wp_skip ?_
        refine then_n ?_
        exact ⟨hF.weak [7] (by kernel_rfl), hS, hm⟩
  · obtain ⟨r1, hr1, hm⟩ := call_b hm
    refine reg [⟨false, [], callFunc 87 #[.slice A1 line1.length c1, .slice A2 clue1.length c2], .int .i64 r1⟩] [none, none, some (.int .i64 r1), none] [0, 1, 6] [pl 0 (.slice A1 line1.length c1), pl 1 (.slice A2 clue1.length c2), pl 6 (.int .i64 r1)] hF hS Fol (by kernel_rfl) (by kernel_rfl) (by kernel_rfl) ?_ (fun a w hF hS => ?_)
    · exact obs_cons (ob_call Try.func87 (by kernel_rfl) rfl (fun _ _ hS => nono_check_w hr1 hS (fun _ hS => (hr_line1 _ (hS.dropN 0))) _hc_line1 rfl (fun _ hS => (hr_clue1 _ (hS.dropN 0))) _hc_clue1 rfl)) <| obs_nil
    refine reg [] [] [0, 1, 6, 13] [pl 0 (.slice A1 line1.length c1), pl 1 (.slice A2 clue1.length c2), pl 6 (.int .i64 r1), pl 13 (.bool (r1 != 0))] hF hS Fol (by kernel_rfl) (by kernel_rfl) (by kernel_rfl) ?_ (fun a w hF hS => ?_)
    · exact obs_nil
    refine cond_ev (t := 13) (b := (r1 != 0)) hF (by kernel_rfl) (fun hb => ?_) (fun hb => ?_)
    · replace hm := if_t hm hb
      refine reg [] [] [4, 5] [pl 4 (.slice none 0 0), pl 5 (.int .i64 r1)] hF hS Fol (by kernel_rfl) (by kernel_rfl) (by kernel_rfl) ?_ (fun a w hF hS => ?_)
      · exact obs_nil
      refine wp_ret ?_
      refine then_r ?_
      have hS : Sep w0 B w (own 3 (.slice none 0 0) (vI ([] : List Int)) :: fs) := hS.nil 3
      have hl1 := (hS.at_ 0 rfl).len1
      have hS := (hS.at_ 0 rfl).reN hl1
      have hS : Sep w0 B w (own 3 (.slice none (([] : List Int).length) 0) (vI ([] : List Int)) :: fs) := hS
      have hm : some (([] : List Int), r1) = some r := hm
      obtain rfl := Option.some.inj hm
      exact retV (rs := [.tmp 4, .tmp 5]) (vs := [.slice none (([] : List Int).length) 0, .int .i64 r1]) hF rfl (rv_t (by kernel_rfl) <| rv_t (by kernel_rfl) <| rv_nil) rfl ⟨_, rfl, none, 0, rfl, hS⟩
    · replace hm := if_f hm hb
      refine wp_skip ?_
      refine then_n ?_
      exact ⟨hF.weak [0, 1] (by kernel_rfl), hS, hm⟩

noncomputable def gameroomref_within_m (n1 : Int) (low1 : Int) (high1 : Int) : Option Bool :=
  some ((decide (low1 ≤ n1)) && (decide (n1 ≤ high1)))

set_option maxRecDepth 100000 in
set_option maxHeartbeats 4000000 in
theorem gameroomref_within_w {n1 : Int} {low1 : Int} {high1 : Int} {r : Bool} {w0 w : World} {B : Nat} {fs : List HP} (hm : gameroomref_within_m n1 low1 high1 = some r) (hS : Sep w0 B w (fs)) :
    Calls Try.prog 64 #[.int .i64 n1, .int .i64 low1, .int .i64 high1] w fun e w' => e = .returned (.bool r) ∧ Sep w0 B w' (fs) := by
  unfold gameroomref_within_m at hm
  replace hm := start_b hm
  refine enter (l := [.int .i64 n1, .int .i64 low1, .int .i64 high1]) (n := 15) Try.func64 rfl rfl (by simp) (fun a hF => ?_)
  refine reg [] [] [0, 1, 2] [pl 0 (.int .i64 n1), pl 1 (.int .i64 low1), pl 2 (.int .i64 high1)] hF hS Fol (by kernel_rfl) (by kernel_rfl) (by kernel_rfl) ?_ (fun a w hF hS => ?_)
  · exact obs_nil
  refine reg [] [] [6] [pl 6 (.bool ((decide (low1 ≤ n1)) && (decide (n1 ≤ high1))))] hF hS Fol (by kernel_rfl) (by kernel_rfl) (by kernel_rfl) ?_ (fun a w hF hS => ?_)
  · exact obs_nil
  refine wp_ret ?_
  have hm : some ((decide (low1 ≤ n1)) && (decide (n1 ≤ high1))) = some r := hm
  obtain rfl := Option.some.inj hm
  exact retV (rs := [.tmp 6]) (vs := [.bool ((decide (low1 ≤ n1)) && (decide (n1 ≤ high1)))]) hF rfl (rv_t (by kernel_rfl) <| rv_nil) rfl ⟨rfl, hS⟩

noncomputable def gameroomref_LineMay_J4 (i1 : Int) : Option (St Int (Fl Unit Int)) :=
  some (.next (w64 (i1 + 1)))

noncomputable def gameroomref_LineMay_J3 (line1 : List Int) (i1 : Int) : Option (St Int (Fl Unit Int)) :=
  asrt (0 ≤ i1 ∧ i1 < (line1.length : Int)) <| (gameroomref_within_m (geti line1 i1) (-1) 1).bind fun r1 => if (!r1) then (some (.done (.ret 3))) else ((gameroomref_LineMay_J4 i1))

noncomputable def gameroomref_LineMay_J2 : Option Int :=
  some 0

noncomputable def gameroomref_LineMay_K1 : (Fl Unit Int) → Option Int :=
  fun (x : (Fl Unit Int)) => match x with | .go _ => gameroomref_LineMay_J2 | .ret x => some x

noncomputable def gameroomref_LineMay_L1 (line1 : List Int) : Int → Option (St Int (Fl Unit Int)) :=
  fun (x : Int) => match x with | i1 => if (decide (i1 < (line1.length : Int))) then ((gameroomref_LineMay_J3 line1 i1)) else (some (.done (.go ())))

noncomputable def gameroomref_LineMay_J1 (line1 : List Int) : Option Int :=
  (loop (gameroomref_LineMay_L1 line1) 0).bind gameroomref_LineMay_K1

noncomputable def gameroomref_LineMay_m (line1 : List Int) : Option Int :=
  if (decide ((20 : Int) < (line1.length : Int))) then (some 2) else ((gameroomref_LineMay_J1 line1))

set_option maxRecDepth 100000 in
set_option maxHeartbeats 4000000 in
theorem gameroomref_LineMay_w {A1 : Option Addr} {c1 : Nat} {n1 : Nat} {line1 : List Int} {r : Int} {w0 w : World} {B : Nat} {fs : List HP} (hm : gameroomref_LineMay_m line1 = some r) (hS : Sep w0 B w (fs)) (hr_line1 : RdF w0 B fs A1 (vI line1)) (_hc_line1 : line1.length ≤ c1) (_hn_line1 : n1 = line1.length) :
    Calls Try.prog 43 #[.slice A1 n1 c1] w fun e w' => e = .returned (.int .i64 r) ∧ Sep w0 B w' (fs) := by
  obtain ⟨i3, hi3, hz3, hs3, hb3⟩ := info_parts Info3
  obtain rfl := _hn_line1
  unfold gameroomref_LineMay_m at hm
  replace hm := start_b hm
  refine enter (l := [.slice A1 line1.length c1]) (n := 19) Try.func43 rfl rfl (by simp) (fun a hF => ?_)
  refine reg [] [] [0] [pl 0 (.slice A1 line1.length c1)] hF hS Fol (by kernel_rfl) (by kernel_rfl) (by kernel_rfl) ?_ (fun a w hF hS => ?_)
  · exact obs_nil
  refine seq_cut (fun a w => Fr 19 [pl 0 (.slice A1 line1.length c1)] a ∧ Sep w0 B w (fs) ∧ ((gameroomref_LineMay_J1 line1)).bind some = some r) ?_ ?_
  · rintro a w ⟨hF, hS, hm⟩
    unfold gameroomref_LineMay_J1 at hm
    refine seq_cut (fun a w => Fr 19 [] a ∧ Sep w0 B w (fs) ∧ (gameroomref_LineMay_J2).bind some = some r) ?_ ?_
    · rintro a w ⟨hF, hS, hm⟩
      unfold gameroomref_LineMay_J2 at hm
      refine reg [] [] [2] [pl 2 (.int .i64 0)] hF hS Fol (by kernel_rfl) (by kernel_rfl) (by kernel_rfl) ?_ (fun a w hF hS => ?_)
      · exact obs_nil
      refine wp_ret ?_
      have hm : some 0 = some r := hm
      obtain rfl := Option.some.inj hm
      exact retV (rs := [.tmp 2]) (vs := [.int .i64 0]) hF rfl (rv_t (by kernel_rfl) <| rv_nil) rfl ⟨rfl, hS⟩
    · refine reg [] [] [0, 3] [pl 0 (.slice A1 line1.length c1), pl 3 (.int .i64 0)] hF hS Fol (by kernel_rfl) (by kernel_rfl) (by kernel_rfl) ?_ (fun a w hF hS => ?_)
      · exact obs_nil
      refine wp_block ?_
      refine wp_loop_model (S := Int) (R := (Fl Unit Int)) (gameroomref_LineMay_L1 line1) (fun x => (gameroomref_LineMay_K1 x).bind some) r (fun (x : Int) a w => Fr 19 [pl 0 (.slice A1 line1.length c1), pl 3 (.int .i64 x)] a ∧ Sep w0 B w (fs)) (assoc_b hm) ⟨hF.weak [0, 3] (by kernel_rfl), hS⟩ ?_
      clear hF hS hm
      rintro nn1 i1 a w ⟨hF, hS⟩ hm
      generalize hφ1 : stK (gameroomref_LineMay_L1 line1) nn1 (fun x => (gameroomref_LineMay_K1 x).bind some) = φ1 at hm
      unfold gameroomref_LineMay_L1 at hm
      dsimp only at hm
      refine seq_cut (fun a w => Fr 19 [pl 0 (.slice A1 line1.length c1), pl 3 (.int .i64 i1)] a ∧ Sep w0 B w (fs) ∧ ((gameroomref_LineMay_J3 line1 i1)).bind φ1 = some r) ?_ ?_
      · rintro a w ⟨hF, hS, hm⟩
        unfold gameroomref_LineMay_J3 at hm
        refine seq_cut (fun a w => Fr 19 [pl 0 (.slice A1 line1.length c1), pl 3 (.int .i64 i1)] a ∧ Sep w0 B w (fs) ∧ ((gameroomref_LineMay_J4 i1)).bind φ1 = some r) ?_ ?_
        · rintro a w ⟨hF, hS, hm⟩
          unfold gameroomref_LineMay_J4 at hm
          refine reg1 [] [] [0, 3] [pl 0 (.slice A1 line1.length c1), pl 3 (.int .i64 (w64 (i1 + 1)))] hF hS Fol (by kernel_rfl) (by kernel_rfl) (by kernel_rfl) ?_ (fun a w hF hS => ?_)
          · exact obs_nil
          refine then_n ?_
          rw [← hφ1] at hm
          exact ⟨(w64 (i1 + 1)), ⟨hF.weak [0, 3] (by kernel_rfl), hS⟩, hm⟩
        · refine wp_block ?_
          obtain ⟨hp1, hm⟩ := asrt_b hm
          obtain ⟨r1, hr1, hm⟩ := call_b hm
          refine reg [⟨true, [], vS (Instr.indexAt 22 (.slice A1 line1.length c1) (.int .i64 i1)), .pointer (some (sAddr A1 i1))⟩, ⟨false, [], vS (Instr.loadAt 3 (.pointer (some (sAddr A1 i1)))), .int .i64 (geti line1 i1)⟩, ⟨false, [], callFunc 64 #[.int .i64 (geti line1 i1), .int .i64 (-1), .int .i64 1], .bool r1⟩] [none, none, some (.pointer (some (sAddr A1 i1))), some (.int .i64 (geti line1 i1)), some (.bool r1), none] [0, 3, 18] [pl 0 (.slice A1 line1.length c1), pl 3 (.int .i64 i1), pl 18 (.bool (!r1))] hF hS Fol (by kernel_rfl) (by kernel_rfl) (by kernel_rfl) ?_ (fun a w hF hS => ?_)
          · exact obs_cons (ob_ix1 (f := (Value.int .i64)) (m := line1) Und22 hi3 hs3 (hr_line1 _ (hS.dropN 0)) rfl (fun _ => hp1)) <| obs_cons (ob_get1 (n := line1.length) (m := line1) (Value.int .i64) (0 : Int) Agg3 (fun _ hS => ⟨_, (hr_line1 _ (hS.dropN 0))⟩) (fun _ hS => rfl) (fun _ => hp1)) <| obs_cons (ob_call Try.func64 (by kernel_rfl) rfl (fun _ _ hS => gameroomref_within_w hr1 hS )) <| obs_nil
          refine cond_ev (t := 18) (b := !r1) hF (by kernel_rfl) (fun hb => ?_) (fun hb => ?_)
          · replace hm := if_t hm hb
            refine reg [] [] [2] [pl 2 (.int .i64 3)] hF hS Fol (by kernel_rfl) (by kernel_rfl) (by kernel_rfl) ?_ (fun a w hF hS => ?_)
            · exact obs_nil
            refine wp_ret ?_
            refine block_r (then_r (then_r (block_r (then_r ?_))))
            rw [← hφ1] at hm
            replace hm := done_b hm
            unfold gameroomref_LineMay_K1 at hm
            try dsimp only at hm
            have hm : some 3 = some r := hm
            obtain rfl := Option.some.inj hm
            exact retV (rs := [.tmp 2]) (vs := [.int .i64 3]) hF rfl (rv_t (by kernel_rfl) <| rv_nil) rfl ⟨rfl, hS⟩
          · replace hm := if_f hm hb
            refine wp_skip ?_
            refine block_n ?_
            refine then_n ?_
            exact ⟨hF.weak [0, 3] (by kernel_rfl), hS, hm⟩
      · refine reg [] [] [0, 3, 10] [pl 0 (.slice A1 line1.length c1), pl 3 (.int .i64 i1), pl 10 (.bool (decide (i1 < (line1.length : Int))))] hF hS Fol (by kernel_rfl) (by kernel_rfl) (by kernel_rfl) ?_ (fun a w hF hS => ?_)
        · exact obs_nil
        refine cond_ev (t := 10) (b := decide (i1 < (line1.length : Int))) hF (by kernel_rfl) (fun hb => ?_) (fun hb => ?_)
        · replace hm := if_t hm hb
          refine wp_skip ?_
          refine then_n ?_
          exact ⟨hF.weak [0, 3] (by kernel_rfl), hS, hm⟩
        · replace hm := if_f hm hb
          refine wp_exit ?_
          refine then_e (then_e (block_e (then_n ?_)))
          rw [← hφ1] at hm
          replace hm := done_b hm
          unfold gameroomref_LineMay_K1 at hm
          try dsimp only at hm
          have hm : (gameroomref_LineMay_J2).bind some = some r := hm
          exact ⟨hF.weak [] (by kernel_rfl), hS, hm⟩
  · refine reg [] [] [0, 6] [pl 0 (.slice A1 line1.length c1), pl 6 (.bool (decide ((20 : Int) < (line1.length : Int))))] hF hS Fol (by kernel_rfl) (by kernel_rfl) (by kernel_rfl) ?_ (fun a w hF hS => ?_)
    · exact obs_nil
    refine cond_ev (t := 6) (b := decide ((20 : Int) < (line1.length : Int))) hF (by kernel_rfl) (fun hb => ?_) (fun hb => ?_)
    · replace hm := if_t hm hb
      refine reg [] [] [2] [pl 2 (.int .i64 2)] hF hS Fol (by kernel_rfl) (by kernel_rfl) (by kernel_rfl) ?_ (fun a w hF hS => ?_)
      · exact obs_nil
      refine wp_ret ?_
      refine then_r ?_
      have hm : some 2 = some r := hm
      obtain rfl := Option.some.inj hm
      exact retV (rs := [.tmp 2]) (vs := [.int .i64 2]) hF rfl (rv_t (by kernel_rfl) <| rv_nil) rfl ⟨rfl, hS⟩
    · replace hm := if_f hm hb
      refine wp_skip ?_
      refine then_n ?_
      exact ⟨hF.weak [0] (by kernel_rfl), hS, hm⟩

noncomputable def gameroomlaw_sameInts_J4 (i1 : Int) : Option (St Int (Fl Unit Bool)) :=
  some (.next (w64 (i1 + 1)))

noncomputable def gameroomlaw_sameInts_J3 (a1 : List Int) (b1 : List Int) (i1 : Int) : Option (St Int (Fl Unit Bool)) :=
  asrt (0 ≤ i1 ∧ i1 < (a1.length : Int)) <| asrt (0 ≤ i1 ∧ i1 < (b1.length : Int)) <| if ((geti a1 i1) != (geti b1 i1)) then (some (.done (.ret false))) else ((gameroomlaw_sameInts_J4 i1))

noncomputable def gameroomlaw_sameInts_J2 : Option Bool :=
  some true

noncomputable def gameroomlaw_sameInts_K1 : (Fl Unit Bool) → Option Bool :=
  fun (x : (Fl Unit Bool)) => match x with | .go _ => gameroomlaw_sameInts_J2 | .ret x => some x

noncomputable def gameroomlaw_sameInts_L1 (a1 : List Int) (b1 : List Int) : Int → Option (St Int (Fl Unit Bool)) :=
  fun (x : Int) => match x with | i1 => if (decide (i1 < (a1.length : Int))) then ((gameroomlaw_sameInts_J3 a1 b1 i1)) else (some (.done (.go ())))

noncomputable def gameroomlaw_sameInts_J1 (a1 : List Int) (b1 : List Int) : Option Bool :=
  (loop (gameroomlaw_sameInts_L1 a1 b1) 0).bind gameroomlaw_sameInts_K1

noncomputable def gameroomlaw_sameInts_m (a1 : List Int) (b1 : List Int) : Option Bool :=
  if ((a1.length : Int) != (b1.length : Int)) then (some false) else ((gameroomlaw_sameInts_J1 a1 b1))

set_option maxRecDepth 100000 in
set_option maxHeartbeats 4000000 in
theorem gameroomlaw_sameInts_w {A1 : Option Addr} {c1 : Nat} {n1 : Nat} {a1 : List Int} {A2 : Option Addr} {c2 : Nat} {n2 : Nat} {b1 : List Int} {r : Bool} {w0 w : World} {B : Nat} {fs : List HP} (hm : gameroomlaw_sameInts_m a1 b1 = some r) (hS : Sep w0 B w (fs)) (hr_a1 : RdF w0 B fs A1 (vI a1)) (_hc_a1 : a1.length ≤ c1) (_hn_a1 : n1 = a1.length) (hr_b1 : RdF w0 B fs A2 (vI b1)) (_hc_b1 : b1.length ≤ c2) (_hn_b1 : n2 = b1.length) :
    Calls Try.prog 20 #[.slice A1 n1 c1, .slice A2 n2 c2] w fun e w' => e = .returned (.bool r) ∧ Sep w0 B w' (fs) := by
  obtain ⟨i3, hi3, hz3, hs3, hb3⟩ := info_parts Info3
  obtain rfl := _hn_a1
  obtain rfl := _hn_b1
  unfold gameroomlaw_sameInts_m at hm
  replace hm := start_b hm
  refine enter (l := [.slice A1 a1.length c1, .slice A2 b1.length c2]) (n := 26) Try.func20 rfl rfl (by simp) (fun a hF => ?_)
  refine reg [] [] [0, 1] [pl 0 (.slice A1 a1.length c1), pl 1 (.slice A2 b1.length c2)] hF hS Fol (by kernel_rfl) (by kernel_rfl) (by kernel_rfl) ?_ (fun a w hF hS => ?_)
  · exact obs_nil
  refine seq_cut (fun a w => Fr 26 [pl 0 (.slice A1 a1.length c1), pl 1 (.slice A2 b1.length c2)] a ∧ Sep w0 B w (fs) ∧ ((gameroomlaw_sameInts_J1 a1 b1)).bind some = some r) ?_ ?_
  · rintro a w ⟨hF, hS, hm⟩
    unfold gameroomlaw_sameInts_J1 at hm
    refine seq_cut (fun a w => Fr 26 [] a ∧ Sep w0 B w (fs) ∧ (gameroomlaw_sameInts_J2).bind some = some r) ?_ ?_
    · rintro a w ⟨hF, hS, hm⟩
      unfold gameroomlaw_sameInts_J2 at hm
      refine reg [] [] [4] [pl 4 (.bool true)] hF hS Fol (by kernel_rfl) (by kernel_rfl) (by kernel_rfl) ?_ (fun a w hF hS => ?_)
      · exact obs_nil
      refine wp_ret ?_
      have hm : some true = some r := hm
      obtain rfl := Option.some.inj hm
      exact retV (rs := [.tmp 4]) (vs := [.bool true]) hF rfl (rv_t (by kernel_rfl) <| rv_nil) rfl ⟨rfl, hS⟩
    · refine reg [] [] [0, 1, 5] [pl 0 (.slice A1 a1.length c1), pl 1 (.slice A2 b1.length c2), pl 5 (.int .i64 0)] hF hS Fol (by kernel_rfl) (by kernel_rfl) (by kernel_rfl) ?_ (fun a w hF hS => ?_)
      · exact obs_nil
      refine wp_block ?_
      refine wp_loop_model (S := Int) (R := (Fl Unit Bool)) (gameroomlaw_sameInts_L1 a1 b1) (fun x => (gameroomlaw_sameInts_K1 x).bind some) r (fun (x : Int) a w => Fr 26 [pl 0 (.slice A1 a1.length c1), pl 1 (.slice A2 b1.length c2), pl 5 (.int .i64 x)] a ∧ Sep w0 B w (fs)) (assoc_b hm) ⟨hF.weak [0, 1, 5] (by kernel_rfl), hS⟩ ?_
      clear hF hS hm
      rintro nn1 i1 a w ⟨hF, hS⟩ hm
      generalize hφ1 : stK (gameroomlaw_sameInts_L1 a1 b1) nn1 (fun x => (gameroomlaw_sameInts_K1 x).bind some) = φ1 at hm
      unfold gameroomlaw_sameInts_L1 at hm
      dsimp only at hm
      refine seq_cut (fun a w => Fr 26 [pl 0 (.slice A1 a1.length c1), pl 1 (.slice A2 b1.length c2), pl 5 (.int .i64 i1)] a ∧ Sep w0 B w (fs) ∧ ((gameroomlaw_sameInts_J3 a1 b1 i1)).bind φ1 = some r) ?_ ?_
      · rintro a w ⟨hF, hS, hm⟩
        unfold gameroomlaw_sameInts_J3 at hm
        refine seq_cut (fun a w => Fr 26 [pl 0 (.slice A1 a1.length c1), pl 1 (.slice A2 b1.length c2), pl 5 (.int .i64 i1)] a ∧ Sep w0 B w (fs) ∧ ((gameroomlaw_sameInts_J4 i1)).bind φ1 = some r) ?_ ?_
        · rintro a w ⟨hF, hS, hm⟩
          unfold gameroomlaw_sameInts_J4 at hm
          refine reg1 [] [] [0, 1, 5] [pl 0 (.slice A1 a1.length c1), pl 1 (.slice A2 b1.length c2), pl 5 (.int .i64 (w64 (i1 + 1)))] hF hS Fol (by kernel_rfl) (by kernel_rfl) (by kernel_rfl) ?_ (fun a w hF hS => ?_)
          · exact obs_nil
          refine then_n ?_
          rw [← hφ1] at hm
          exact ⟨(w64 (i1 + 1)), ⟨hF.weak [0, 1, 5] (by kernel_rfl), hS⟩, hm⟩
        · refine wp_block ?_
          obtain ⟨hp1, hm⟩ := asrt_b hm
          obtain ⟨hp2, hm⟩ := asrt_b hm
          refine reg [⟨true, [], vS (Instr.indexAt 22 (.slice A1 a1.length c1) (.int .i64 i1)), .pointer (some (sAddr A1 i1))⟩, ⟨false, [], vS (Instr.loadAt 3 (.pointer (some (sAddr A1 i1)))), .int .i64 (geti a1 i1)⟩, ⟨true, [], vS (Instr.indexAt 22 (.slice A2 b1.length c2) (.int .i64 i1)), .pointer (some (sAddr A2 i1))⟩, ⟨false, [], vS (Instr.loadAt 3 (.pointer (some (sAddr A2 i1)))), .int .i64 (geti b1 i1)⟩] [none, none, some (.pointer (some (sAddr A1 i1))), some (.int .i64 (geti a1 i1)), none, none, some (.pointer (some (sAddr A2 i1))), some (.int .i64 (geti b1 i1)), none] [0, 1, 5, 25] [pl 0 (.slice A1 a1.length c1), pl 1 (.slice A2 b1.length c2), pl 5 (.int .i64 i1), pl 25 (.bool ((geti a1 i1) != (geti b1 i1)))] hF hS Fol (by kernel_rfl) (by kernel_rfl) (by kernel_rfl) ?_ (fun a w hF hS => ?_)
          · exact obs_cons (ob_ix1 (f := (Value.int .i64)) (m := a1) Und22 hi3 hs3 (hr_a1 _ (hS.dropN 0)) rfl (fun _ => hp1)) <| obs_cons (ob_get1 (n := a1.length) (m := a1) (Value.int .i64) (0 : Int) Agg3 (fun _ hS => ⟨_, (hr_a1 _ (hS.dropN 0))⟩) (fun _ hS => rfl) (fun _ => hp1)) <| obs_cons (ob_ix1 (f := (Value.int .i64)) (m := b1) Und22 hi3 hs3 (hr_b1 _ (hS.dropN 0)) rfl (fun _ => hp2)) <| obs_cons (ob_get1 (n := b1.length) (m := b1) (Value.int .i64) (0 : Int) Agg3 (fun _ hS => ⟨_, (hr_b1 _ (hS.dropN 0))⟩) (fun _ hS => rfl) (fun _ => hp2)) <| obs_nil
          refine cond_ev (t := 25) (b := ((geti a1 i1) != (geti b1 i1))) hF (by kernel_rfl) (fun hb => ?_) (fun hb => ?_)
          · replace hm := if_t hm hb
            refine reg [] [] [4] [pl 4 (.bool false)] hF hS Fol (by kernel_rfl) (by kernel_rfl) (by kernel_rfl) ?_ (fun a w hF hS => ?_)
            · exact obs_nil
            refine wp_ret ?_
            refine block_r (then_r (then_r (block_r (then_r ?_))))
            rw [← hφ1] at hm
            replace hm := done_b hm
            unfold gameroomlaw_sameInts_K1 at hm
            try dsimp only at hm
            have hm : some false = some r := hm
            obtain rfl := Option.some.inj hm
            exact retV (rs := [.tmp 4]) (vs := [.bool false]) hF rfl (rv_t (by kernel_rfl) <| rv_nil) rfl ⟨rfl, hS⟩
          · replace hm := if_f hm hb
            refine wp_skip ?_
            refine block_n ?_
            refine then_n ?_
            exact ⟨hF.weak [0, 1, 5] (by kernel_rfl), hS, hm⟩
      · refine reg [] [] [0, 1, 5, 14] [pl 0 (.slice A1 a1.length c1), pl 1 (.slice A2 b1.length c2), pl 5 (.int .i64 i1), pl 14 (.bool (decide (i1 < (a1.length : Int))))] hF hS Fol (by kernel_rfl) (by kernel_rfl) (by kernel_rfl) ?_ (fun a w hF hS => ?_)
        · exact obs_nil
        refine cond_ev (t := 14) (b := decide (i1 < (a1.length : Int))) hF (by kernel_rfl) (fun hb => ?_) (fun hb => ?_)
        · replace hm := if_t hm hb
          refine wp_skip ?_
          refine then_n ?_
          exact ⟨hF.weak [0, 1, 5] (by kernel_rfl), hS, hm⟩
        · replace hm := if_f hm hb
          refine wp_exit ?_
          refine then_e (then_e (block_e (then_n ?_)))
          rw [← hφ1] at hm
          replace hm := done_b hm
          unfold gameroomlaw_sameInts_K1 at hm
          try dsimp only at hm
          have hm : (gameroomlaw_sameInts_J2).bind some = some r := hm
          exact ⟨hF.weak [] (by kernel_rfl), hS, hm⟩
  · refine reg [] [] [0, 1, 10] [pl 0 (.slice A1 a1.length c1), pl 1 (.slice A2 b1.length c2), pl 10 (.bool ((a1.length : Int) != (b1.length : Int)))] hF hS Fol (by kernel_rfl) (by kernel_rfl) (by kernel_rfl) ?_ (fun a w hF hS => ?_)
    · exact obs_nil
    refine cond_ev (t := 10) (b := ((a1.length : Int) != (b1.length : Int))) hF (by kernel_rfl) (fun hb => ?_) (fun hb => ?_)
    · replace hm := if_t hm hb
      refine reg [] [] [4] [pl 4 (.bool false)] hF hS Fol (by kernel_rfl) (by kernel_rfl) (by kernel_rfl) ?_ (fun a w hF hS => ?_)
      · exact obs_nil
      refine wp_ret ?_
      refine then_r ?_
      have hm : some false = some r := hm
      obtain rfl := Option.some.inj hm
      exact retV (rs := [.tmp 4]) (vs := [.bool false]) hF rfl (rv_t (by kernel_rfl) <| rv_nil) rfl ⟨rfl, hS⟩
    · replace hm := if_f hm hb
      refine wp_skip ?_
      refine then_n ?_
      exact ⟨hF.weak [0, 1] (by kernel_rfl), hS, hm⟩

noncomputable def gameroomref_ClueOf_J3 (i1 : Int) (l3 : List Int) (n4 : Int) : Option (St (List Int × Int × Int) (List Int)) :=
  some (.next (l3, n4, (w64 (i1 + 1))))

noncomputable def gameroomref_ClueOf_J4 (line1 : List Int) (l1 : List Int) (i1 : Int) (n3 : Int) : Option (St (List Int × Int × Int) (List Int)) :=
  asrt ((decide ((0 : Int) < n3)) = true → 0 ≤ i1 ∧ i1 < (line1.length : Int)) <| if ((decide ((0 : Int) < n3)) && (((geti line1 i1) == 0) || (i1 == (w64 ((line1.length : Int) - 1))))) then (asrt ((l1.length : Int) + 1 ≤ bigN) <| (gameroomref_ClueOf_J3 i1) (l1 ++ ([n3] : List Int)) 0) else ((gameroomref_ClueOf_J3 i1) l1 n3)

noncomputable def gameroomref_ClueOf_J2 (line1 : List Int) (l1 : List Int) (n2 : Int) (i1 : Int) : Option (St (List Int × Int × Int) (List Int)) :=
  asrt (0 ≤ i1 ∧ i1 < (line1.length : Int)) <| if ((geti line1 i1) == 1) then ((gameroomref_ClueOf_J4 line1 l1 i1) (w64 (n2 + 1))) else ((gameroomref_ClueOf_J4 line1 l1 i1) n2)

noncomputable def gameroomref_ClueOf_J1 (l2 : List Int) : Option (List Int) :=
  some l2

noncomputable def gameroomref_ClueOf_K1 : (List Int) → Option (List Int) :=
  fun (x : (List Int)) => match x with | l2 => gameroomref_ClueOf_J1 l2

noncomputable def gameroomref_ClueOf_L1 (line1 : List Int) : (List Int × Int × Int) → Option (St (List Int × Int × Int) (List Int)) :=
  fun (x : (List Int × Int × Int)) => match x with | (l1, n2, i1) => if (decide (i1 < (line1.length : Int))) then ((gameroomref_ClueOf_J2 line1 l1 n2 i1)) else (some (.done l1))

noncomputable def gameroomref_ClueOf_m (line1 : List Int) : Option (List Int) :=
  (loop (gameroomref_ClueOf_L1 line1) (([] : List Int), 0, 0)).bind gameroomref_ClueOf_K1

set_option maxRecDepth 100000 in
set_option maxHeartbeats 4000000 in
theorem gameroomref_ClueOf_w {A1 : Option Addr} {c1 : Nat} {n1 : Nat} {line1 : List Int} {r : (List Int)} {w0 w : World} {B : Nat} {fs : List HP} (hm : gameroomref_ClueOf_m line1 = some r) (hS : Sep w0 B w (fs)) (hr_line1 : RdF w0 B fs A1 (vI line1)) (_hc_line1 : line1.length ≤ c1) (_hn_line1 : n1 = line1.length) :
    Calls Try.prog 44 #[.slice A1 n1 c1] w fun e w' => ∃ v, e = .returned v ∧ ∃ (A6 : Option Addr) (c6 : Nat), v = .slice A6 r.length c6 ∧ Sep w0 B w' (own 3 (.slice A6 r.length c6) (vI r) :: fs) := by
  obtain ⟨i3, hi3, hz3, hs3, hb3⟩ := info_parts Info3
  obtain rfl := _hn_line1
  unfold gameroomref_ClueOf_m at hm
  replace hm := start_b hm
  refine enter (l := [.slice A1 line1.length c1]) (n := 40) Try.func44 rfl rfl (by simp) (fun a hF => ?_)
  refine reg [] [] [0] [pl 0 (.slice A1 line1.length c1)] hF hS Fol (by kernel_rfl) (by kernel_rfl) (by kernel_rfl) ?_ (fun a w hF hS => ?_)
  · exact obs_nil
  refine reg [] [] [0, 3] [pl 0 (.slice A1 line1.length c1), pl 3 (.slice none 0 0)] hF hS Fol (by kernel_rfl) (by kernel_rfl) (by kernel_rfl) ?_ (fun a w hF hS => ?_)
  · exact obs_nil
  refine reg [] [] [0, 3, 4] [pl 0 (.slice A1 line1.length c1), pl 3 (.slice none 0 0), pl 4 (.int .i64 0)] hF hS Fol (by kernel_rfl) (by kernel_rfl) (by kernel_rfl) ?_ (fun a w hF hS => ?_)
  · exact obs_nil
  refine seq_cut (fun a w => ∃ (l2 : List Int) (A3 : Option Addr) (c3 : Nat), Fr 40 [pl 3 (.slice A3 l2.length c3)] a ∧ Sep w0 B w (own 3 (.slice A3 l2.length c3) (vI l2) :: fs) ∧ (gameroomref_ClueOf_J1 l2).bind some = some r) ?_ ?_
  · rintro a w ⟨l2, A3, c3, hF, hS, hm⟩
    unfold gameroomref_ClueOf_J1 at hm
    refine reg [] [] [2] [pl 2 (.slice A3 l2.length c3)] hF hS Fol (by kernel_rfl) (by kernel_rfl) (by kernel_rfl) ?_ (fun a w hF hS => ?_)
    · exact obs_nil
    refine wp_ret ?_
    have hm : some l2 = some r := hm
    obtain rfl := Option.some.inj hm
    exact retV (rs := [.tmp 2]) (vs := [.slice A3 l2.length c3]) hF rfl (rv_t (by kernel_rfl) <| rv_nil) rfl ⟨_, rfl, A3, c3, rfl, hS⟩
  · refine reg [] [] [0, 3, 4, 5] [pl 0 (.slice A1 line1.length c1), pl 3 (.slice none 0 0), pl 4 (.int .i64 0), pl 5 (.int .i64 0)] hF hS Fol (by kernel_rfl) (by kernel_rfl) (by kernel_rfl) ?_ (fun a w hF hS => ?_)
    · exact obs_nil
    refine wp_block ?_
    have hS : Sep w0 B w (own 3 (.slice none 0 0) (vI ([] : List Int)) :: fs) := hS.nil 3
    have hl1 := (hS.at_ 0 rfl).len1
    have hS := (hS.at_ 0 rfl).reN hl1
    have hS : Sep w0 B w (own 3 (.slice none (([] : List Int).length) 0) (vI ([] : List Int)) :: fs) := hS
    have hF := hF.cast (t := 3) (v := .slice none 0 0) (v' := .slice none (([] : List Int).length) 0) rfl rfl (congrArg (fun k => Value.slice none k 0) hl1)
    refine wp_loop_model (S := (List Int × Int × Int)) (R := (List Int)) (gameroomref_ClueOf_L1 line1) (fun x => (gameroomref_ClueOf_K1 x).bind some) r (fun (x : (List Int × Int × Int)) a w => ∃ (A2 : Option Addr) (c2 : Nat), Fr 40 [pl 0 (.slice A1 line1.length c1), pl 3 (.slice A2 x.1.length c2), pl 4 (.int .i64 x.2.1), pl 5 (.int .i64 x.2.2)] a ∧ Sep w0 B w (own 3 (.slice A2 x.1.length c2) (vI x.1) :: fs)) (assoc_b hm) ⟨none, 0, hF.weak [0, 3, 4, 5] (by kernel_rfl), hS⟩ ?_
    clear hF hS hm
    rintro nn1 ⟨l1, n2, i1⟩ a w ⟨A2, c2, hF, hS⟩ hm
    generalize hφ1 : stK (gameroomref_ClueOf_L1 line1) nn1 (fun x => (gameroomref_ClueOf_K1 x).bind some) = φ1 at hm
    unfold gameroomref_ClueOf_L1 at hm
    dsimp only at hF hS hm
    refine seq_cut (fun a w => Fr 40 [pl 0 (.slice A1 line1.length c1), pl 3 (.slice A2 l1.length c2), pl 4 (.int .i64 n2), pl 5 (.int .i64 i1)] a ∧ Sep w0 B w (own 3 (.slice A2 l1.length c2) (vI l1) :: fs) ∧ ((gameroomref_ClueOf_J2 line1 l1 n2 i1)).bind φ1 = some r) ?_ ?_
    · rintro a w ⟨hF, hS, hm⟩
      unfold gameroomref_ClueOf_J2 at hm
      refine seq_cut (fun a w => ∃ (l3 : List Int) (n4 : Int) (A5 : Option Addr) (c5 : Nat), Fr 40 [pl 0 (.slice A1 line1.length c1), pl 3 (.slice A5 l3.length c5), pl 4 (.int .i64 n4), pl 5 (.int .i64 i1)] a ∧ Sep w0 B w (own 3 (.slice A5 l3.length c5) (vI l3) :: fs) ∧ ((gameroomref_ClueOf_J3 i1) l3 n4).bind φ1 = some r) ?_ ?_
      · rintro a w ⟨l3, n4, A5, c5, hF, hS, hm⟩
        unfold gameroomref_ClueOf_J3 at hm
        refine reg1 [] [] [0, 3, 4, 5] [pl 0 (.slice A1 line1.length c1), pl 3 (.slice A5 l3.length c5), pl 4 (.int .i64 n4), pl 5 (.int .i64 (w64 (i1 + 1)))] hF hS Fol (by kernel_rfl) (by kernel_rfl) (by kernel_rfl) ?_ (fun a w hF hS => ?_)
        · exact obs_nil
        refine then_n ?_
        rw [← hφ1] at hm
        exact ⟨(l3, n4, (w64 (i1 + 1))), ⟨A5, c5, hF.weak [0, 3, 4, 5] (by kernel_rfl), hS⟩, hm⟩
      · refine wp_block ?_
        refine seq_cut (fun a w => ∃ (n3 : Int), Fr 40 [pl 0 (.slice A1 line1.length c1), pl 3 (.slice A2 l1.length c2), pl 4 (.int .i64 n3), pl 5 (.int .i64 i1)] a ∧ Sep w0 B w (own 3 (.slice A2 l1.length c2) (vI l1) :: fs) ∧ ((gameroomref_ClueOf_J4 line1 l1 i1) n3).bind φ1 = some r) ?_ ?_
        · rintro a w ⟨n3, hF, hS, hm⟩
          unfold gameroomref_ClueOf_J4 at hm
          obtain ⟨hp2, hm⟩ := asrt_b hm
          refine reg [⟨true, [(decide ((0 : Int) < n3), true)], vS (Instr.indexAt 22 (.slice A1 line1.length c1) (.int .i64 i1)), .pointer (some (sAddr A1 i1))⟩, ⟨false, [(decide ((0 : Int) < n3), true)], vS (Instr.loadAt 3 (.pointer (some (sAddr A1 i1)))), .int .i64 (geti line1 i1)⟩] [none, none, none, none, none, some (.pointer (some (sAddr A1 i1))), some (.int .i64 (geti line1 i1)), none, none, none, none, none, none, none, none, none] [0, 3, 4, 5, 34] [pl 0 (.slice A1 line1.length c1), pl 3 (.slice A2 l1.length c2), pl 4 (.int .i64 n3), pl 5 (.int .i64 i1), pl 34 (.bool ((decide ((0 : Int) < n3)) && (((geti line1 i1) == 0) || (i1 == (w64 ((line1.length : Int) - 1))))))] hF hS Fol (by kernel_rfl) (by kernel_rfl) (by kernel_rfl) ?_ (fun a w hF hS => ?_)
          · exact obs_cons (ob_ix1 (f := (Value.int .i64)) (m := line1) Und22 hi3 hs3 (hr_line1 _ (hS.dropN 1)) rfl (fun hy => hp2 (hy (decide ((0 : Int) < n3), true) (by simp)))) <| obs_cons (ob_get1 (n := line1.length) (m := line1) (Value.int .i64) (0 : Int) Agg3 (fun _ hS => ⟨_, (hr_line1 _ (hS.dropN 1))⟩) (fun _ hS => rfl) (fun hy => hp2 (hy (decide ((0 : Int) < n3), true) (by simp)))) <| obs_nil
          refine cond_ev (t := 34) (b := (decide ((0 : Int) < n3)) && (((geti line1 i1) == 0) || (i1 == (w64 ((line1.length : Int) - 1))))) hF (by kernel_rfl) (fun hb => ?_) (fun hb => ?_)
          · replace hm := if_t hm hb
            refine seqR ?_
            obtain ⟨hp3, hm⟩ := asrt_b hm
            refine at_run 2 [] [] [0, 5, 35, 36] [pl 0 (.slice A1 line1.length c1), pl 5 (.int .i64 i1), pl 35 (.slice A2 l1.length c2), pl 36 (.int .i64 n3)] hF hS (by kernel_rfl) (by kernel_rfl) ?_ (fun a w hF hS => ?_)
            · exact obs_nil
            refine at_do (d := 37) (s := vS (Instr.buildSlice 22 1 #[(0, .int .i64 n3)])) (v := .slice (some ⟨w.heap.size, 0, none⟩) 1 1) (w' := w.alloc (.cells #[.int .i64 n3] 3)) hF (by kernel_rfl) (by kernel_rfl) (by kernel_rfl) (fun a hF => ?_)
            have hS : Sep w0 B (w.alloc (.cells #[.int .i64 n3] 3)) (own 3 (.slice (some (⟨w.heap.size, 0, none⟩ : Addr)) 1 1) (vI ([n3] : List Int)) :: (own 3 (.slice A2 l1.length c2) (vI l1) :: fs)) := hS.lit 3 #[.int .i64 n3] 1 rfl (by omega)
            generalize (some (⟨w.heap.size, 0, none⟩ : Addr)) = g1 at hF hS
            generalize w.alloc (.cells #[.int .i64 n3] 3) = w at hS ⊢
            obtain ⟨A4, c4, w, hrun, hS⟩ := run_app1 (P := Try.prog) (t := 22) (m := l1) (ys := ([n3] : List Int)) (A2 := g1) (m2 := 1) (c2 := 1) (Value.int .i64) (0 : Int) (hS.at_ 1 rfl) (hS.at_ 0 rfl).rd ((hS.at_ 0 rfl).len1) 22 Und22 hi3 hz3 hs3 (by omega) rfl (fun _ => rfl) hp3
            have hS : Sep w0 B w (own 3 (.slice g1 1 1) (vI ([n3] : List Int)) :: own 3 (.slice A4 ((l1 ++ ([n3] : List Int)).length) c4) (vI (l1 ++ ([n3] : List Int))) :: fs) := hS
            refine at_do (d := 38) hF (by kernel_rfl) (by kernel_rfl) hrun (fun a hF => ?_)
            refine at_run 1 [] [] [0, 3, 5] [pl 0 (.slice A1 line1.length c1), pl 3 (.slice A4 ((l1 ++ ([n3] : List Int)).length) c4), pl 5 (.int .i64 i1)] hF hS (by kernel_rfl) (by kernel_rfl) ?_ (fun a w hF hS => ?_)
            · exact obs_nil
            refine at_end [0, 3, 5] [pl 0 (.slice A1 line1.length c1), pl 3 (.slice A4 ((l1 ++ ([n3] : List Int)).length) c4), pl 5 (.int .i64 i1)] hF rfl (by kernel_rfl) (fun hF => ?_)
            refine then_n ?_
            refine reg1 [] [] [0, 3, 4, 5] [pl 0 (.slice A1 line1.length c1), pl 3 (.slice A4 ((l1 ++ ([n3] : List Int)).length) c4), pl 4 (.int .i64 0), pl 5 (.int .i64 i1)] hF hS Fol (by kernel_rfl) (by kernel_rfl) (by kernel_rfl) ?_ (fun a w hF hS => ?_)
            · exact obs_nil
            refine block_n ?_
            refine then_n ?_
            have hS := hS.pickN 2 [1] (by decide)
            exact ⟨(l1 ++ ([n3] : List Int)), 0, A4, c4, hF.weak [0, 3, 4, 5] (by kernel_rfl), hS, hm⟩
          · replace hm := if_f hm hb
            refine wp_skip ?_
            refine block_n ?_
            refine then_n ?_
            exact ⟨l1, n3, A2, c2, hF.weak [0, 3, 4, 5] (by kernel_rfl), hS, hm⟩
        · obtain ⟨hp1, hm⟩ := asrt_b hm
          refine reg [⟨true, [], vS (Instr.indexAt 22 (.slice A1 line1.length c1) (.int .i64 i1)), .pointer (some (sAddr A1 i1))⟩, ⟨false, [], vS (Instr.loadAt 3 (.pointer (some (sAddr A1 i1)))), .int .i64 (geti line1 i1)⟩] [none, none, some (.pointer (some (sAddr A1 i1))), some (.int .i64 (geti line1 i1)), none] [0, 3, 4, 5, 16] [pl 0 (.slice A1 line1.length c1), pl 3 (.slice A2 l1.length c2), pl 4 (.int .i64 n2), pl 5 (.int .i64 i1), pl 16 (.bool ((geti line1 i1) == 1))] hF hS Fol (by kernel_rfl) (by kernel_rfl) (by kernel_rfl) ?_ (fun a w hF hS => ?_)
          · exact obs_cons (ob_ix1 (f := (Value.int .i64)) (m := line1) Und22 hi3 hs3 (hr_line1 _ (hS.dropN 1)) rfl (fun _ => hp1)) <| obs_cons (ob_get1 (n := line1.length) (m := line1) (Value.int .i64) (0 : Int) Agg3 (fun _ hS => ⟨_, (hr_line1 _ (hS.dropN 1))⟩) (fun _ hS => rfl) (fun _ => hp1)) <| obs_nil
          refine cond_ev (t := 16) (b := ((geti line1 i1) == 1)) hF (by kernel_rfl) (fun hb => ?_) (fun hb => ?_)
          · replace hm := if_t hm hb
            refine reg1 [] [] [0, 3, 4, 5] [pl 0 (.slice A1 line1.length c1), pl 3 (.slice A2 l1.length c2), pl 4 (.int .i64 (w64 (n2 + 1))), pl 5 (.int .i64 i1)] hF hS Fol (by kernel_rfl) (by kernel_rfl) (by kernel_rfl) ?_ (fun a w hF hS => ?_)
            · exact obs_nil
            refine then_n ?_
            exact ⟨(w64 (n2 + 1)), hF.weak [0, 3, 4, 5] (by kernel_rfl), hS, hm⟩
          · replace hm := if_f hm hb
            refine wp_skip ?_
            refine then_n ?_
            exact ⟨n2, hF.weak [0, 3, 4, 5] (by kernel_rfl), hS, hm⟩
    · refine reg [] [] [0, 3, 4, 5, 9] [pl 0 (.slice A1 line1.length c1), pl 3 (.slice A2 l1.length c2), pl 4 (.int .i64 n2), pl 5 (.int .i64 i1), pl 9 (.bool (decide (i1 < (line1.length : Int))))] hF hS Fol (by kernel_rfl) (by kernel_rfl) (by kernel_rfl) ?_ (fun a w hF hS => ?_)
      · exact obs_nil
      refine cond_ev (t := 9) (b := decide (i1 < (line1.length : Int))) hF (by kernel_rfl) (fun hb => ?_) (fun hb => ?_)
      · replace hm := if_t hm hb
        refine wp_skip ?_
        refine then_n ?_
        exact ⟨hF.weak [0, 3, 4, 5] (by kernel_rfl), hS, hm⟩
      · replace hm := if_f hm hb
        refine wp_exit ?_
        refine then_e (then_e (block_e (then_n ?_)))
        rw [← hφ1] at hm
        replace hm := done_b hm
        unfold gameroomref_ClueOf_K1 at hm
        try dsimp only at hm
        have hm : (gameroomref_ClueOf_J1 l1).bind some = some r := hm
        exact ⟨l1, A2, c2, hF.weak [3] (by kernel_rfl), hS, hm⟩

noncomputable def gameroomref_ClueMay_J3 (i1 : Int) : Option (St Int (Fl Unit Bool)) :=
  some (.next (w64 (i1 + 1)))

noncomputable def gameroomref_ClueMay_J2 (clue1 : List Int) (i1 : Int) : Option (St Int (Fl Unit Bool)) :=
  asrt (0 ≤ i1 ∧ i1 < (clue1.length : Int)) <| (gameroomref_within_m (geti clue1 i1) 1 20).bind fun r1 => if (!r1) then (some (.done (.ret false))) else ((gameroomref_ClueMay_J3 i1))

noncomputable def gameroomref_ClueMay_J1 : Option Bool :=
  some true

noncomputable def gameroomref_ClueMay_K1 : (Fl Unit Bool) → Option Bool :=
  fun (x : (Fl Unit Bool)) => match x with | .go _ => gameroomref_ClueMay_J1 | .ret x => some x

noncomputable def gameroomref_ClueMay_L1 (clue1 : List Int) : Int → Option (St Int (Fl Unit Bool)) :=
  fun (x : Int) => match x with | i1 => if (decide (i1 < (clue1.length : Int))) then ((gameroomref_ClueMay_J2 clue1 i1)) else (some (.done (.go ())))

noncomputable def gameroomref_ClueMay_m (clue1 : List Int) : Option Bool :=
  (loop (gameroomref_ClueMay_L1 clue1) 0).bind gameroomref_ClueMay_K1

set_option maxRecDepth 100000 in
set_option maxHeartbeats 4000000 in
theorem gameroomref_ClueMay_w {A1 : Option Addr} {c1 : Nat} {n1 : Nat} {clue1 : List Int} {r : Bool} {w0 w : World} {B : Nat} {fs : List HP} (hm : gameroomref_ClueMay_m clue1 = some r) (hS : Sep w0 B w (fs)) (hr_clue1 : RdF w0 B fs A1 (vI clue1)) (_hc_clue1 : clue1.length ≤ c1) (_hn_clue1 : n1 = clue1.length) :
    Calls Try.prog 45 #[.slice A1 n1 c1] w fun e w' => e = .returned (.bool r) ∧ Sep w0 B w' (fs) := by
  obtain ⟨i3, hi3, hz3, hs3, hb3⟩ := info_parts Info3
  obtain rfl := _hn_clue1
  unfold gameroomref_ClueMay_m at hm
  replace hm := start_b hm
  refine enter (l := [.slice A1 clue1.length c1]) (n := 16) Try.func45 rfl rfl (by simp) (fun a hF => ?_)
  refine reg [] [] [0] [pl 0 (.slice A1 clue1.length c1)] hF hS Fol (by kernel_rfl) (by kernel_rfl) (by kernel_rfl) ?_ (fun a w hF hS => ?_)
  · exact obs_nil
  refine seq_cut (fun a w => Fr 16 [] a ∧ Sep w0 B w (fs) ∧ (gameroomref_ClueMay_J1).bind some = some r) ?_ ?_
  · rintro a w ⟨hF, hS, hm⟩
    unfold gameroomref_ClueMay_J1 at hm
    refine reg [] [] [2] [pl 2 (.bool true)] hF hS Fol (by kernel_rfl) (by kernel_rfl) (by kernel_rfl) ?_ (fun a w hF hS => ?_)
    · exact obs_nil
    refine wp_ret ?_
    have hm : some true = some r := hm
    obtain rfl := Option.some.inj hm
    exact retV (rs := [.tmp 2]) (vs := [.bool true]) hF rfl (rv_t (by kernel_rfl) <| rv_nil) rfl ⟨rfl, hS⟩
  · refine reg [] [] [0, 3] [pl 0 (.slice A1 clue1.length c1), pl 3 (.int .i64 0)] hF hS Fol (by kernel_rfl) (by kernel_rfl) (by kernel_rfl) ?_ (fun a w hF hS => ?_)
    · exact obs_nil
    refine wp_block ?_
    refine wp_loop_model (S := Int) (R := (Fl Unit Bool)) (gameroomref_ClueMay_L1 clue1) (fun x => (gameroomref_ClueMay_K1 x).bind some) r (fun (x : Int) a w => Fr 16 [pl 0 (.slice A1 clue1.length c1), pl 3 (.int .i64 x)] a ∧ Sep w0 B w (fs)) (assoc_b hm) ⟨hF.weak [0, 3] (by kernel_rfl), hS⟩ ?_
    clear hF hS hm
    rintro nn1 i1 a w ⟨hF, hS⟩ hm
    generalize hφ1 : stK (gameroomref_ClueMay_L1 clue1) nn1 (fun x => (gameroomref_ClueMay_K1 x).bind some) = φ1 at hm
    unfold gameroomref_ClueMay_L1 at hm
    dsimp only at hm
    refine seq_cut (fun a w => Fr 16 [pl 0 (.slice A1 clue1.length c1), pl 3 (.int .i64 i1)] a ∧ Sep w0 B w (fs) ∧ ((gameroomref_ClueMay_J2 clue1 i1)).bind φ1 = some r) ?_ ?_
    · rintro a w ⟨hF, hS, hm⟩
      unfold gameroomref_ClueMay_J2 at hm
      refine seq_cut (fun a w => Fr 16 [pl 0 (.slice A1 clue1.length c1), pl 3 (.int .i64 i1)] a ∧ Sep w0 B w (fs) ∧ ((gameroomref_ClueMay_J3 i1)).bind φ1 = some r) ?_ ?_
      · rintro a w ⟨hF, hS, hm⟩
        unfold gameroomref_ClueMay_J3 at hm
        refine reg1 [] [] [0, 3] [pl 0 (.slice A1 clue1.length c1), pl 3 (.int .i64 (w64 (i1 + 1)))] hF hS Fol (by kernel_rfl) (by kernel_rfl) (by kernel_rfl) ?_ (fun a w hF hS => ?_)
        · exact obs_nil
        refine then_n ?_
        rw [← hφ1] at hm
        exact ⟨(w64 (i1 + 1)), ⟨hF.weak [0, 3] (by kernel_rfl), hS⟩, hm⟩
      · refine wp_block ?_
        obtain ⟨hp1, hm⟩ := asrt_b hm
        obtain ⟨r1, hr1, hm⟩ := call_b hm
        refine reg [⟨true, [], vS (Instr.indexAt 22 (.slice A1 clue1.length c1) (.int .i64 i1)), .pointer (some (sAddr A1 i1))⟩, ⟨false, [], vS (Instr.loadAt 3 (.pointer (some (sAddr A1 i1)))), .int .i64 (geti clue1 i1)⟩, ⟨false, [], callFunc 64 #[.int .i64 (geti clue1 i1), .int .i64 1, .int .i64 20], .bool r1⟩] [none, none, some (.pointer (some (sAddr A1 i1))), some (.int .i64 (geti clue1 i1)), some (.bool r1), none] [0, 3, 15] [pl 0 (.slice A1 clue1.length c1), pl 3 (.int .i64 i1), pl 15 (.bool (!r1))] hF hS Fol (by kernel_rfl) (by kernel_rfl) (by kernel_rfl) ?_ (fun a w hF hS => ?_)
        · exact obs_cons (ob_ix1 (f := (Value.int .i64)) (m := clue1) Und22 hi3 hs3 (hr_clue1 _ (hS.dropN 0)) rfl (fun _ => hp1)) <| obs_cons (ob_get1 (n := clue1.length) (m := clue1) (Value.int .i64) (0 : Int) Agg3 (fun _ hS => ⟨_, (hr_clue1 _ (hS.dropN 0))⟩) (fun _ hS => rfl) (fun _ => hp1)) <| obs_cons (ob_call Try.func64 (by kernel_rfl) rfl (fun _ _ hS => gameroomref_within_w hr1 hS )) <| obs_nil
        refine cond_ev (t := 15) (b := !r1) hF (by kernel_rfl) (fun hb => ?_) (fun hb => ?_)
        · replace hm := if_t hm hb
          refine reg [] [] [2] [pl 2 (.bool false)] hF hS Fol (by kernel_rfl) (by kernel_rfl) (by kernel_rfl) ?_ (fun a w hF hS => ?_)
          · exact obs_nil
          refine wp_ret ?_
          refine block_r (then_r (then_r (block_r (then_r ?_))))
          rw [← hφ1] at hm
          replace hm := done_b hm
          unfold gameroomref_ClueMay_K1 at hm
          try dsimp only at hm
          have hm : some false = some r := hm
          obtain rfl := Option.some.inj hm
          exact retV (rs := [.tmp 2]) (vs := [.bool false]) hF rfl (rv_t (by kernel_rfl) <| rv_nil) rfl ⟨rfl, hS⟩
        · replace hm := if_f hm hb
          refine wp_skip ?_
          refine block_n ?_
          refine then_n ?_
          exact ⟨hF.weak [0, 3] (by kernel_rfl), hS, hm⟩
    · refine reg [] [] [0, 3, 7] [pl 0 (.slice A1 clue1.length c1), pl 3 (.int .i64 i1), pl 7 (.bool (decide (i1 < (clue1.length : Int))))] hF hS Fol (by kernel_rfl) (by kernel_rfl) (by kernel_rfl) ?_ (fun a w hF hS => ?_)
      · exact obs_nil
      refine cond_ev (t := 7) (b := decide (i1 < (clue1.length : Int))) hF (by kernel_rfl) (fun hb => ?_) (fun hb => ?_)
      · replace hm := if_t hm hb
        refine wp_skip ?_
        refine then_n ?_
        exact ⟨hF.weak [0, 3] (by kernel_rfl), hS, hm⟩
      · replace hm := if_f hm hb
        refine wp_exit ?_
        refine then_e (then_e (block_e (then_n ?_)))
        rw [← hφ1] at hm
        replace hm := done_b hm
        unfold gameroomref_ClueMay_K1 at hm
        try dsimp only at hm
        have hm : (gameroomref_ClueMay_J1).bind some = some r := hm
        exact ⟨hF.weak [] (by kernel_rfl), hS, hm⟩

noncomputable def gameroomref_Ints_m (l1 : List Int) : Option (List Int) :=
  asrt ((0 : Int) + (l1.length : Int) ≤ bigN) <| some ([] ++ l1)

set_option maxRecDepth 100000 in
set_option maxHeartbeats 4000000 in
theorem gameroomref_Ints_w {A1 : Option Addr} {c1 : Nat} {n1 : Nat} {l1 : List Int} {r : (List Int)} {w0 w : World} {B : Nat} {fs : List HP} (hm : gameroomref_Ints_m l1 = some r) (hS : Sep w0 B w (fs)) (hr_l1 : RdF w0 B fs A1 (vI l1)) (_hc_l1 : l1.length ≤ c1) (_hn_l1 : n1 = l1.length) :
    Calls Try.prog 58 #[.slice A1 n1 c1] w fun e w' => ∃ v, e = .returned v ∧ ∃ (A3 : Option Addr) (c3 : Nat), v = .slice A3 r.length c3 ∧ Sep w0 B w' (own 3 (.slice A3 r.length c3) (vI r) :: fs) := by
  obtain ⟨i3, hi3, hz3, hs3, hb3⟩ := info_parts Info3
  obtain rfl := _hn_l1
  unfold gameroomref_Ints_m at hm
  replace hm := start_b hm
  refine enter (l := [.slice A1 l1.length c1]) (n := 5) Try.func58 rfl rfl (by simp) (fun a hF => ?_)
  refine reg [] [] [0] [pl 0 (.slice A1 l1.length c1)] hF hS Fol (by kernel_rfl) (by kernel_rfl) (by kernel_rfl) ?_ (fun a w hF hS => ?_)
  · exact obs_nil
  refine seqR ?_
  obtain ⟨hp1, hm⟩ := asrt_b hm
  refine at_run 1 [] [] [3] [pl 3 (.slice A1 l1.length c1)] hF hS (by kernel_rfl) (by kernel_rfl) ?_ (fun a w hF hS => ?_)
  · exact obs_nil
  have hS : Sep w0 B w (own 3 (.slice none 0 0) (vI ([] : List Int)) :: fs) := hS.nil 3
  obtain ⟨A2, c2, w, hrun, hS⟩ := run_app1 (P := Try.prog) (t := 22) (m := ([] : List Int)) (ys := l1) (A2 := A1) (m2 := l1.length) (c2 := c1) (Value.int .i64) (0 : Int) (hS.at_ 0 rfl) (hr_l1 _ (hS.dropN 1)) rfl 22 Und22 hi3 hz3 hs3 (by omega) rfl (fun _ => rfl) hp1
  have hS : Sep w0 B w (own 3 (.slice A2 (([] ++ l1).length) c2) (vI ([] ++ l1)) :: fs) := hS
  refine at_do (d := 4) hF (by kernel_rfl) (by kernel_rfl) hrun (fun a hF => ?_)
  refine at_run 1 [] [] [2] [pl 2 (.slice A2 (([] ++ l1).length) c2)] hF hS (by kernel_rfl) (by kernel_rfl) ?_ (fun a w hF hS => ?_)
  · exact obs_nil
  refine at_end [2] [pl 2 (.slice A2 (([] ++ l1).length) c2)] hF rfl (by kernel_rfl) (fun hF => ?_)
  refine then_n ?_
  refine wp_ret ?_
  have hm : some ([] ++ l1) = some r := hm
  obtain rfl := Option.some.inj hm
  exact retV (rs := [.tmp 2]) (vs := [.slice A2 (([] ++ l1).length) c2]) hF rfl (rv_t (by kernel_rfl) <| rv_nil) rfl ⟨_, rfl, A2, c2, rfl, hS⟩

noncomputable def gameroomref_lineFill_2_J4 (i1 : Int) : Option (St Int (Fl Unit (Int × List Int))) :=
  some (.next (w64 (i1 + 1)))

noncomputable def gameroomref_lineFill_2_J3 (line1 : List Int) (filled1 : List Int) (i1 : Int) : Option (St Int (Fl Unit (Int × List Int))) :=
  asrt (0 ≤ i1 ∧ i1 < (line1.length : Int)) <| if ((geti line1 i1) == 1) then (some (.done (.ret (0, filled1)))) else ((gameroomref_lineFill_2_J4 i1))

noncomputable def gameroomref_lineFill_2_J7 (begun1 : List Int) (filled3 : List Int) (i2 : Int) : Option (St (List Int × Int) (List Int)) :=
  some (.next ((filled3.set (Int.toNat i2) (w64 ((geti filled3 i2) + (geti begun1 i2)))), (w64 (i2 + 1))))

noncomputable def gameroomref_lineFill_2_J6 (begun1 : List Int) (filled1 : List Int) (filled3 : List Int) (i2 : Int) : Option (St (List Int × Int) (List Int)) :=
  asrt (0 ≤ i2 ∧ i2 < (filled1.length : Int)) <| asrt (0 ≤ i2 ∧ i2 < (begun1.length : Int)) <| asrt (0 ≤ i2 ∧ i2 < (filled1.length : Int)) <| (gameroomref_lineFill_2_J7 begun1 filled3 i2)

noncomputable def gameroomref_lineFill_2_L2 (begun1 : List Int) (filled1 : List Int) : (List Int × Int) → Option (St (List Int × Int) (List Int)) :=
  fun (x : (List Int × Int)) => match x with | (filled3, i2) => if (decide (i2 < (begun1.length : Int))) then ((gameroomref_lineFill_2_J6 begun1 filled1 filled3 i2)) else (some (.done filled3))

noncomputable def gameroomref_lineFill_2_J5 (filled4 : List Int) : Option (Int × List Int) :=
  some (1, filled4)

noncomputable def gameroomref_lineFill_2_K2 : (List Int) → Option (Int × List Int) :=
  fun (x : (List Int)) => match x with | filled4 => gameroomref_lineFill_2_J5 filled4

noncomputable def gameroomref_lineFill_2_J2 (begun1 : List Int) (filled1 : List Int) : Option (Int × List Int) :=
  (loop (gameroomref_lineFill_2_L2 begun1 filled1) (filled1, 0)).bind gameroomref_lineFill_2_K2

noncomputable def gameroomref_lineFill_2_K1 (begun1 : List Int) (filled1 : List Int) : (Fl Unit (Int × List Int)) → Option (Int × List Int) :=
  fun (x : (Fl Unit (Int × List Int))) => match x with | .go _ => (gameroomref_lineFill_2_J2 begun1 filled1) | .ret x => some x

noncomputable def gameroomref_lineFill_2_L1 (line1 : List Int) (filled1 : List Int) : Int → Option (St Int (Fl Unit (Int × List Int))) :=
  fun (x : Int) => match x with | i1 => if (decide (i1 < (line1.length : Int))) then ((gameroomref_lineFill_2_J3 line1 filled1 i1)) else (some (.done (.go ())))

noncomputable def gameroomref_lineFill_2_J10 (clue1 : List Int) (need1 : Int) (i3 : Int) : Option (St (Int × Int) Int) :=
  some (.next ((w64 (need1 + (geti clue1 i3))), (w64 (i3 + 1))))

noncomputable def gameroomref_lineFill_2_J9 (clue1 : List Int) (need1 : Int) (i3 : Int) : Option (St (Int × Int) Int) :=
  asrt (0 ≤ i3 ∧ i3 < (clue1.length : Int)) <| (gameroomref_lineFill_2_J10 clue1 need1 i3)

noncomputable def gameroomref_lineFill_2_J17 (i4 : Int) (next3 : List Int) : Option (St (List Int × Int) (List Int)) :=
  some (.next (next3, (w64 (i4 + 1))))

noncomputable def gameroomref_lineFill_2_J16 (next1 : List Int) (i4 : Int) : Option (St (List Int × Int) (List Int)) :=
  asrt ((next1.length : Int) + 1 ≤ bigN) <| (gameroomref_lineFill_2_J17 i4) (next1 ++ ([0] : List Int))

noncomputable def gameroomref_lineFill_2_L5 (gap1 : Int) : (List Int × Int) → Option (St (List Int × Int) (List Int)) :=
  fun (x : (List Int × Int)) => match x with | (next1, i4) => if (decide (i4 < gap1)) then ((gameroomref_lineFill_2_J16 next1 i4)) else (some (.done next1))

noncomputable def gameroomref_lineFill_2_J20 (line1 : List Int) (next4 : List Int) (ok1 : Bool) (i5 : Int) (next6 : List Int) : Option (St (List Int × Bool × Int) (List Int × Bool)) :=
  some (.next (next6, (ok1 && ((geti line1 (next4.length : Int)) != 0)), (w64 (i5 + 1))))

noncomputable def gameroomref_lineFill_2_J19 (line1 : List Int) (next4 : List Int) (ok1 : Bool) (i5 : Int) : Option (St (List Int × Bool × Int) (List Int × Bool)) :=
  asrt (ok1 = true → 0 ≤ (next4.length : Int) ∧ (next4.length : Int) < (line1.length : Int)) <| asrt ((next4.length : Int) + 1 ≤ bigN) <| (gameroomref_lineFill_2_J20 line1 next4 ok1 i5) (next4 ++ ([1] : List Int))

noncomputable def gameroomref_lineFill_2_L6 (line1 : List Int) (clue1 : List Int) : (List Int × Bool × Int) → Option (St (List Int × Bool × Int) (List Int × Bool)) :=
  fun (x : (List Int × Bool × Int)) => match x with | (next4, ok1, i5) => asrt (0 ≤ (0 : Int) ∧ (0 : Int) < (clue1.length : Int)) <| if (decide (i5 < (geti clue1 0))) then ((gameroomref_lineFill_2_J19 line1 next4 ok1 i5)) else (some (.done (next4, ok1)))

noncomputable def gameroomref_lineFill_2_J13 (gap1 : Int) (filled7 : List Int) (many3 : Int) : Option (St (List Int × Int × Int) (Int × List Int)) :=
  some (.next (filled7, many3, (w64 (gap1 + 1))))

noncomputable def gameroomref_lineFill_2_J21 (rec_gameroomref_lineFill_2 : List Int → List Int → List Int → List Int → Option (Int × List Int)) (line1 : List Int) (clue1 : List Int) (filled5 : List Int) (many1 : Int) (gap1 : Int) (next7 : List Int) (ok3 : Bool) : Option (St (List Int × Int × Int) (Int × List Int)) :=
  if ok3 then (asrt (0 ≤ (1 : Int) ∧ (1 : Int) ≤ (clue1.length : Int) ∧ (clue1.length : Int) ≤ (clue1.length : Int)) <| (rec_gameroomref_lineFill_2 line1 (cut clue1 (1 : Int) (clue1.length : Int)) next7 filled5).bind fun r2 => (gameroomref_lineFill_2_J13 gap1) r2.2 (w64 (many1 + r2.1))) else ((gameroomref_lineFill_2_J13 gap1) filled5 many1)

noncomputable def gameroomref_lineFill_2_J18 (rec_gameroomref_lineFill_2 : List Int → List Int → List Int → List Int → Option (Int × List Int)) (line1 : List Int) (clue1 : List Int) (filled5 : List Int) (many1 : Int) (gap1 : Int) (next5 : List Int) (ok2 : Bool) : Option (St (List Int × Int × Int) (Int × List Int)) :=
  if (decide ((next5.length : Int) < (line1.length : Int))) then (asrt (ok2 = true → 0 ≤ (next5.length : Int) ∧ (next5.length : Int) < (line1.length : Int)) <| asrt ((next5.length : Int) + 1 ≤ bigN) <| (gameroomref_lineFill_2_J21 rec_gameroomref_lineFill_2 line1 clue1 filled5 many1 gap1) (next5 ++ ([0] : List Int)) (ok2 && ((geti line1 (next5.length : Int)) != 1))) else ((gameroomref_lineFill_2_J21 rec_gameroomref_lineFill_2 line1 clue1 filled5 many1 gap1) next5 ok2)

noncomputable def gameroomref_lineFill_2_K6 (rec_gameroomref_lineFill_2 : List Int → List Int → List Int → List Int → Option (Int × List Int)) (line1 : List Int) (clue1 : List Int) (filled5 : List Int) (many1 : Int) (gap1 : Int) : (List Int × Bool) → Option (St (List Int × Int × Int) (Int × List Int)) :=
  fun (x : (List Int × Bool)) => match x with | (next5, ok2) => (gameroomref_lineFill_2_J18 rec_gameroomref_lineFill_2 line1 clue1 filled5 many1 gap1) next5 ok2

noncomputable def gameroomref_lineFill_2_J15 (rec_gameroomref_lineFill_2 : List Int → List Int → List Int → List Int → Option (Int × List Int)) (line1 : List Int) (clue1 : List Int) (filled5 : List Int) (many1 : Int) (gap1 : Int) (next2 : List Int) : Option (St (List Int × Int × Int) (Int × List Int)) :=
  (loop (gameroomref_lineFill_2_L6 line1 clue1) (next2, true, 0)).bind (gameroomref_lineFill_2_K6 rec_gameroomref_lineFill_2 line1 clue1 filled5 many1 gap1)

noncomputable def gameroomref_lineFill_2_K5 (rec_gameroomref_lineFill_2 : List Int → List Int → List Int → List Int → Option (Int × List Int)) (line1 : List Int) (clue1 : List Int) (filled5 : List Int) (many1 : Int) (gap1 : Int) : (List Int) → Option (St (List Int × Int × Int) (Int × List Int)) :=
  fun (x : (List Int)) => match x with | next2 => (gameroomref_lineFill_2_J15 rec_gameroomref_lineFill_2 line1 clue1 filled5 many1 gap1) next2

noncomputable def gameroomref_lineFill_2_J14 (rec_gameroomref_lineFill_2 : List Int → List Int → List Int → List Int → Option (Int × List Int)) (line1 : List Int) (clue1 : List Int) (begun1 : List Int) (filled5 : List Int) (many1 : Int) (gap1 : Int) : Option (St (List Int × Int × Int) (Int × List Int)) :=
  (gameroomref_Ints_m begun1).bind fun r1 => (loop (gameroomref_lineFill_2_L5 gap1) (r1, 0)).bind (gameroomref_lineFill_2_K5 rec_gameroomref_lineFill_2 line1 clue1 filled5 many1 gap1)

noncomputable def gameroomref_lineFill_2_J12 (rec_gameroomref_lineFill_2 : List Int → List Int → List Int → List Int → Option (Int × List Int)) (line1 : List Int) (clue1 : List Int) (begun1 : List Int) (filled5 : List Int) (many1 : Int) (gap1 : Int) : Option (St (List Int × Int × Int) (Int × List Int)) :=
  asrt ((decide ((0 : Int) < gap1)) = true → 0 ≤ (w64 ((w64 ((begun1.length : Int) + gap1)) - 1)) ∧ (w64 ((w64 ((begun1.length : Int) + gap1)) - 1)) < (line1.length : Int)) <| if ((decide ((0 : Int) < gap1)) && ((geti line1 (w64 ((w64 ((begun1.length : Int) + gap1)) - 1))) == 1)) then (some (.done (many1, filled5))) else ((gameroomref_lineFill_2_J14 rec_gameroomref_lineFill_2 line1 clue1 begun1 filled5 many1 gap1))

noncomputable def gameroomref_lineFill_2_L4 (rec_gameroomref_lineFill_2 : List Int → List Int → List Int → List Int → Option (Int × List Int)) (line1 : List Int) (clue1 : List Int) (begun1 : List Int) (need2 : Int) : (List Int × Int × Int) → Option (St (List Int × Int × Int) (Int × List Int)) :=
  fun (x : (List Int × Int × Int)) => match x with | (filled5, many1, gap1) => if (decide ((w64 ((w64 ((begun1.length : Int) + gap1)) + need2)) ≤ (line1.length : Int))) then ((gameroomref_lineFill_2_J12 rec_gameroomref_lineFill_2 line1 clue1 begun1 filled5 many1 gap1)) else (some (.done (many1, filled5)))

noncomputable def gameroomref_lineFill_2_J11 (many2 : Int) (filled6 : List Int) : Option (Int × List Int) :=
  some (many2, filled6)

noncomputable def gameroomref_lineFill_2_K4 : (Int × List Int) → Option (Int × List Int) :=
  fun (x : (Int × List Int)) => match x with | (many2, filled6) => gameroomref_lineFill_2_J11 many2 filled6

noncomputable def gameroomref_lineFill_2_J8 (rec_gameroomref_lineFill_2 : List Int → List Int → List Int → List Int → Option (Int × List Int)) (line1 : List Int) (clue1 : List Int) (begun1 : List Int) (filled1 : List Int) (need2 : Int) : Option (Int × List Int) :=
  (loop (gameroomref_lineFill_2_L4 rec_gameroomref_lineFill_2 line1 clue1 begun1 need2) (filled1, 0, 0)).bind gameroomref_lineFill_2_K4

noncomputable def gameroomref_lineFill_2_K3 (rec_gameroomref_lineFill_2 : List Int → List Int → List Int → List Int → Option (Int × List Int)) (line1 : List Int) (clue1 : List Int) (begun1 : List Int) (filled1 : List Int) : Int → Option (Int × List Int) :=
  fun (x : Int) => match x with | need2 => (gameroomref_lineFill_2_J8 rec_gameroomref_lineFill_2 line1 clue1 begun1 filled1) need2

noncomputable def gameroomref_lineFill_2_L3 (clue1 : List Int) : (Int × Int) → Option (St (Int × Int) Int) :=
  fun (x : (Int × Int)) => match x with | (need1, i3) => if (decide (i3 < (clue1.length : Int))) then ((gameroomref_lineFill_2_J9 clue1 need1 i3)) else (some (.done need1))

noncomputable def gameroomref_lineFill_2_J1 (rec_gameroomref_lineFill_2 : List Int → List Int → List Int → List Int → Option (Int × List Int)) (line1 : List Int) (clue1 : List Int) (begun1 : List Int) (filled1 : List Int) : Option (Int × List Int) :=
  (loop (gameroomref_lineFill_2_L3 clue1) ((w64 ((clue1.length : Int) - 1)), 0)).bind (gameroomref_lineFill_2_K3 rec_gameroomref_lineFill_2 line1 clue1 begun1 filled1)

noncomputable def gameroomref_lineFill_2_B (rec_gameroomref_lineFill_2 : List Int → List Int → List Int → List Int → Option (Int × List Int)) (line1 : List Int) (clue1 : List Int) (begun1 : List Int) (filled1 : List Int) : Option (Int × List Int) :=
  if ((clue1.length : Int) == 0) then ((loop (gameroomref_lineFill_2_L1 line1 filled1) (begun1.length : Int)).bind (gameroomref_lineFill_2_K1 begun1 filled1)) else ((gameroomref_lineFill_2_J1 rec_gameroomref_lineFill_2 line1 clue1 begun1 filled1))

noncomputable def gameroomref_lineFill_2_mF : Nat → List Int → List Int → List Int → List Int → Option (Int × List Int)
  | 0 => fun _ _ _ _ => none
  | n + 1 => fun line1 clue1 begun1 filled1 => gameroomref_lineFill_2_B (gameroomref_lineFill_2_mF n) line1 clue1 begun1 filled1
end Go.Proofs.Ytogecbgngnjhgaa
