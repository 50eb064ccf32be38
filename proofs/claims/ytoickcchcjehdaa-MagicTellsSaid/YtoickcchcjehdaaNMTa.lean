/-
  Models and walks, printed by our own program (wip/gen).
-/
import Derived.Test.YtoickcchcjehdaaFB
import Derived.Test.YtoickcchcjehdaaSR
import Derived.Test.YtoickcchcjehdaaLibPl
import Derived.Test.YtoickcchcjehdaaLibAS
import Derived.Test.YtoickcchcjehdaaLibHd
import Derived.Test.YtoickcchcjehdaaLibRt
namespace Go.Proofs.Ytoickcchcjehdaa
open Go Go.GL Go.RowKit




noncomputable def gameroomlaw_ints_m  (l1 : List Int) : Option (List Int) :=
  asrt ((0 : Int) + (l1.length : Int) ≤ bigN) <| some ([] ++ l1)

set_option maxRecDepth 100000 in
set_option maxHeartbeats 4000000 in
theorem gameroomlaw_ints_w  {A1 : Option Addr} {c1 : Nat} {n1 : Nat} {l1 : List Int} {r : (List Int)} {w0 w : World} {B : Nat} {fs : List HP} (hm : gameroomlaw_ints_m l1 = some r) (hS : Sep w0 B w (fs)) (hr_l1 : RdF w0 B fs A1 (vI l1)) (_hc_l1 : l1.length ≤ c1) (_hn_l1 : n1 = l1.length) :
    Calls Try.prog 17 #[.slice A1 n1 c1] w fun e w' => ∃ v, e = .returned v ∧ ∃ (A3 : Option Addr) (c3 : Nat), v = .slice A3 r.length c3 ∧ Sep w0 B w' (own 3 (.slice A3 r.length c3) (vI r) :: fs) := by
  obtain ⟨i3, hi3, hz3, hs3, hb3⟩ := info_parts Info3
  obtain rfl := _hn_l1
  unfold gameroomlaw_ints_m at hm
  replace hm := start_b hm
  refine enter (l := [.slice A1 l1.length c1]) (n := 5) Try.func17 rfl rfl (by simp) (fun a hF => ?_)
  refine reg [] [] [0] [pl 0 (.slice A1 l1.length c1)] hF hS Fol (by kernel_rfl) (by kernel_rfl) (by kernel_rfl) ?_ (fun a w hF hS => ?_)
  · exact obs_nil
  refine seqR ?_
  obtain ⟨hp1, hm⟩ := asrt_b hm
  refine at_run 1 [] [] [3] [pl 3 (.slice A1 l1.length c1)] hF hS (by kernel_rfl) (by kernel_rfl) ?_ (fun a w hF hS => ?_)
  · exact obs_nil
  have hS : Sep w0 B w (own 3 (.slice none 0 0) (vI ([] : List Int)) :: fs) := hS.nil 3
  obtain ⟨A2, c2, w, hrun, hS⟩ := run_app1 (P := Try.prog) (t := 22) (m := ([] : List Int)) (ys := l1) (A2 := A1) (m2 := l1.length) (c2 := c1) (Value.int .i64) (0 : Int) (hS.at_ 0 rfl) (hr_l1 _ (hS.dropN 1)) rfl 22 Und22 hi3 hz3 hs3 (by omega) rfl (fun _ => rfl) hp1
  have hS : Sep w0 B w (own 3 (.slice A2 (([] ++ l1).length) c2) (vI ([] ++ l1)) :: fs) := hS
  refine at_do (d := 4) hF (by kernel_rfl) (by kernel_rfl) hrun (fun a hF => ?_)
  refine at_run 1 [] [] [2] [pl 2 (.slice A2 (([] ++ l1).length) c2)] hF hS (by kernel_rfl) (by kernel_rfl) ?_ (fun a w hF hS => ?_)
  · exact obs_nil
  refine at_end [2] [pl 2 (.slice A2 (([] ++ l1).length) c2)] hF rfl (by kernel_rfl) (fun hF => ?_)
  refine then_n ?_
  refine wpIn_ret ?_
  have hm : some ([] ++ l1) = some r := hm
  obtain rfl := Option.some.inj hm
  exact retV (rs := [.tmp 2]) (vs := [.slice A2 (([] ++ l1).length) c2]) hF rfl (rv_t (by kernel_rfl) <| rv_nil) rfl ⟨_, rfl, A2, c2, rfl, hS⟩

noncomputable def magic_side_J3  (n2 : Int) : Option (St Int (Fl Unit Int)) :=
  some (.next (w64 (n2 + 1)))

noncomputable def magic_side_J2  (l1 : List Int) (n2 : Int) : Option (St Int (Fl Unit Int)) :=
  if ((w64 (n2 * n2)) == (l1.length : Int)) then (some (.done (.ret n2))) else ((magic_side_J3 n2))

noncomputable def magic_side_J1  : Option Int :=
  some 0

noncomputable def magic_side_K1  : (Fl Unit Int) → Option Int :=
  fun (x : (Fl Unit Int)) => match x with | .go _ => magic_side_J1 | .ret x => some x

noncomputable def magic_side_L1  (l1 : List Int) : Int → Option (St Int (Fl Unit Int)) :=
  fun (x : Int) => match x with | n2 => if (decide (n2 ≤ 12)) then ((magic_side_J2 l1 n2)) else (some (.done (.go ())))

noncomputable def magic_side_m  (l1 : List Int) : Option Int :=
  (loop (magic_side_L1 l1) 1).bind magic_side_K1

set_option maxRecDepth 100000 in
set_option maxHeartbeats 4000000 in
theorem magic_side_w  {A1 : Option Addr} {c1 : Nat} {n1 : Nat} {l1 : List Int} {r : Int} {w0 w : World} {B : Nat} {fs : List HP} (hm : magic_side_m l1 = some r) (hS : Sep w0 B w (fs)) (hr_l1 : RdF w0 B fs A1 (vI l1)) (_hc_l1 : l1.length ≤ c1) (_hn_l1 : n1 = l1.length) :
    Calls Try.prog 129 #[.slice A1 n1 c1] w fun e w' => e = .returned (.int .i64 r) ∧ Sep w0 B w' (fs) := by
  obtain ⟨i3, hi3, hz3, hs3, hb3⟩ := info_parts Info3
  obtain rfl := _hn_l1
  unfold magic_side_m at hm
  replace hm := start_b hm
  refine enter (l := [.slice A1 l1.length c1]) (n := 15) Try.func129 rfl rfl (by simp) (fun a hF => ?_)
  refine reg [] [] [0] [pl 0 (.slice A1 l1.length c1)] hF hS Fol (by kernel_rfl) (by kernel_rfl) (by kernel_rfl) ?_ (fun a w hF hS => ?_)
  · exact obs_nil
  refine seq_cut (fun a w => Fr 15 [] a ∧ Sep w0 B w (fs) ∧ (magic_side_J1).bind some = some r) ?_ ?_
  · rintro a w ⟨hF, hS, hm⟩
    unfold magic_side_J1 at hm
    refine reg [] [] [2] [pl 2 (.int .i64 0)] hF hS Fol (by kernel_rfl) (by kernel_rfl) (by kernel_rfl) ?_ (fun a w hF hS => ?_)
    · exact obs_nil
    refine wpIn_ret ?_
    have hm : some 0 = some r := hm
    obtain rfl := Option.some.inj hm
    exact retV (rs := [.tmp 2]) (vs := [.int .i64 0]) hF rfl (rv_t (by kernel_rfl) <| rv_nil) rfl ⟨rfl, hS⟩
  · refine reg [] [] [0, 3] [pl 0 (.slice A1 l1.length c1), pl 3 (.int .i64 1)] hF hS Fol (by kernel_rfl) (by kernel_rfl) (by kernel_rfl) ?_ (fun a w hF hS => ?_)
    · exact obs_nil
    refine wpIn_block ?_
    refine wp_loop_model (S := Int) (R := (Fl Unit Int)) (magic_side_L1 l1) (fun x => (magic_side_K1 x).bind some) r (fun (x : Int) a w => Fr 15 [pl 0 (.slice A1 l1.length c1), pl 3 (.int .i64 x)] a ∧ Sep w0 B w (fs)) (assoc_b hm) ⟨hF.weak [0, 3] (by kernel_rfl), hS⟩ ?_
    clear hF hS hm
    rintro nn1 n2 a w ⟨hF, hS⟩ hm
    generalize hφ1 : stK (magic_side_L1 l1) nn1 (fun x => (magic_side_K1 x).bind some) = φ1 at hm
    unfold magic_side_L1 at hm
    dsimp only at hm
    refine seq_cut (fun a w => Fr 15 [pl 0 (.slice A1 l1.length c1), pl 3 (.int .i64 n2)] a ∧ Sep w0 B w (fs) ∧ ((magic_side_J2 l1 n2)).bind φ1 = some r) ?_ ?_
    · rintro a w ⟨hF, hS, hm⟩
      unfold magic_side_J2 at hm
      refine seq_cut (fun a w => Fr 15 [pl 0 (.slice A1 l1.length c1), pl 3 (.int .i64 n2)] a ∧ Sep w0 B w (fs) ∧ ((magic_side_J3 n2)).bind φ1 = some r) ?_ ?_
      · rintro a w ⟨hF, hS, hm⟩
        unfold magic_side_J3 at hm
        refine reg1 [] [] [0, 3] [pl 0 (.slice A1 l1.length c1), pl 3 (.int .i64 (w64 (n2 + 1)))] hF hS Fol (by kernel_rfl) (by kernel_rfl) (by kernel_rfl) ?_ (fun a w hF hS => ?_)
        · exact obs_nil
        refine then_n ?_
        rw [← hφ1] at hm
        exact ⟨(w64 (n2 + 1)), ⟨hF.weak [0, 3] (by kernel_rfl), hS⟩, hm⟩
      · refine wpIn_block ?_
        refine reg [] [] [0, 3, 13] [pl 0 (.slice A1 l1.length c1), pl 3 (.int .i64 n2), pl 13 (.bool ((w64 (n2 * n2)) == (l1.length : Int)))] hF hS Fol (by kernel_rfl) (by kernel_rfl) (by kernel_rfl) ?_ (fun a w hF hS => ?_)
        · exact obs_nil
        refine cond_ev (t := 13) (b := ((w64 (n2 * n2)) == (l1.length : Int))) hF (by kernel_rfl) (fun hb => ?_) (fun hb => ?_)
        · replace hm := if_t hm hb
          refine reg [] [] [2] [pl 2 (.int .i64 n2)] hF hS Fol (by kernel_rfl) (by kernel_rfl) (by kernel_rfl) ?_ (fun a w hF hS => ?_)
          · exact obs_nil
          refine wpIn_ret ?_
          refine block_r (then_r (then_r (block_r (then_r ?_))))
          rw [← hφ1] at hm
          replace hm := done_b hm
          unfold magic_side_K1 at hm
          try dsimp only at hm
          have hm : some n2 = some r := hm
          obtain rfl := Option.some.inj hm
          exact retV (rs := [.tmp 2]) (vs := [.int .i64 n2]) hF rfl (rv_t (by kernel_rfl) <| rv_nil) rfl ⟨rfl, hS⟩
        · replace hm := if_f hm hb
          refine wpIn_skip ?_
          refine block_n ?_
          refine then_n ?_
          exact ⟨hF.weak [0, 3] (by kernel_rfl), hS, hm⟩
    · refine reg [] [] [0, 3, 5] [pl 0 (.slice A1 l1.length c1), pl 3 (.int .i64 n2), pl 5 (.bool (decide (n2 ≤ 12)))] hF hS Fol (by kernel_rfl) (by kernel_rfl) (by kernel_rfl) ?_ (fun a w hF hS => ?_)
      · exact obs_nil
      refine cond_ev (t := 5) (b := decide (n2 ≤ 12)) hF (by kernel_rfl) (fun hb => ?_) (fun hb => ?_)
      · replace hm := if_t hm hb
        refine wpIn_skip ?_
        refine then_n ?_
        exact ⟨hF.weak [0, 3] (by kernel_rfl), hS, hm⟩
      · replace hm := if_f hm hb
        refine wpIn_exit ?_
        refine then_e (then_e (block_e (then_n ?_)))
        rw [← hφ1] at hm
        replace hm := done_b hm
        unfold magic_side_K1 at hm
        try dsimp only at hm
        have hm : (magic_side_J1).bind some = some r := hm
        exact ⟨hF.weak [] (by kernel_rfl), hS, hm⟩

noncomputable def magic_Is_1_m  (x1 : Int) : Option Bool :=
  some ((decide (x1 < (-1000000))) || (decide ((1000000 : Int) < x1)))

set_option maxRecDepth 100000 in
set_option maxHeartbeats 4000000 in
theorem magic_Is_1_w  {x1 : Int} {r : Bool} {w0 w : World} {B : Nat} {fs : List HP} (hm : magic_Is_1_m x1 = some r) (hS : Sep w0 B w (fs)) :
    Calls Try.prog 130 #[.int .i64 x1] w fun e w' => e = .returned (.bool r) ∧ Sep w0 B w' (fs) := by
  unfold magic_Is_1_m at hm
  replace hm := start_b hm
  refine enter (l := [.int .i64 x1]) (n := 9) Try.func130 rfl rfl (by simp) (fun a hF => ?_)
  refine reg [] [] [0] [pl 0 (.int .i64 x1)] hF hS Fol (by kernel_rfl) (by kernel_rfl) (by kernel_rfl) ?_ (fun a w hF hS => ?_)
  · exact obs_nil
  refine reg [] [] [2] [pl 2 (.bool ((decide (x1 < (-1000000))) || (decide ((1000000 : Int) < x1))))] hF hS Fol (by kernel_rfl) (by kernel_rfl) (by kernel_rfl) ?_ (fun a w hF hS => ?_)
  · exact obs_nil
  refine wpIn_ret ?_
  have hm : some ((decide (x1 < (-1000000))) || (decide ((1000000 : Int) < x1))) = some r := hm
  obtain rfl := Option.some.inj hm
  exact retV (rs := [.tmp 2]) (vs := [.bool ((decide (x1 < (-1000000))) || (decide ((1000000 : Int) < x1)))]) hF rfl (rv_t (by kernel_rfl) <| rv_nil) rfl ⟨rfl, hS⟩

noncomputable def slices_IndexFunc_J3  (z1 : Int) : Option (St Int (Fl Unit Int)) :=
  some (.next (w64 (z1 + 1)))

noncomputable def slices_IndexFunc_J2  (s1 : List Int) (z1 : Int) : Option (St Int (Fl Unit Int)) :=
  asrt (0 ≤ z1 ∧ z1 < (s1.length : Int)) <| (magic_Is_1_m (geti s1 z1)).bind fun r1 => if r1 then (some (.done (.ret z1))) else ((slices_IndexFunc_J3 z1))

noncomputable def slices_IndexFunc_J1  : Option Int :=
  some (-1)

noncomputable def slices_IndexFunc_K1  : (Fl Unit Int) → Option Int :=
  fun (x : (Fl Unit Int)) => match x with | .go _ => slices_IndexFunc_J1 | .ret x => some x

noncomputable def slices_IndexFunc_L1  (s1 : List Int) : Int → Option (St Int (Fl Unit Int)) :=
  fun (x : Int) => match x with | z1 => if (decide (z1 < (s1.length : Int))) then ((slices_IndexFunc_J2 s1 z1)) else (some (.done (.go ())))

noncomputable def slices_IndexFunc_m  (s1 : List Int) : Option Int :=
  (loop (slices_IndexFunc_L1 s1) 0).bind slices_IndexFunc_K1

set_option maxRecDepth 100000 in
set_option maxHeartbeats 4000000 in
theorem slices_IndexFunc_w  {A1 : Option Addr} {c1 : Nat} {n1 : Nat} {s1 : List Int} {r : Int} {w0 w : World} {B : Nat} {fs : List HP} (hm : slices_IndexFunc_m s1 = some r) (hS : Sep w0 B w (fs)) (hr_s1 : RdF w0 B fs A1 (vI s1)) (_hc_s1 : s1.length ≤ c1) (_hn_s1 : n1 = s1.length) :
    Calls Try.prog 182 #[.slice A1 n1 c1, .func (.func 130) #[] #[]] w fun e w' => e = .returned (.int .i64 r) ∧ Sep w0 B w' (fs) := by
  obtain ⟨i3, hi3, hz3, hs3, hb3⟩ := info_parts Info3
  obtain rfl := _hn_s1
  unfold slices_IndexFunc_m at hm
  replace hm := start_b hm
  refine enter (l := [.slice A1 s1.length c1, .func (.func 130) #[] #[]]) (n := 19) Try.func182 rfl rfl (by simp) (fun a hF => ?_)
  refine reg [] [] [0, 1] [pl 0 (.slice A1 s1.length c1), pl 1 (.func (.func 130) #[] #[])] hF hS Fol (by kernel_rfl) (by kernel_rfl) (by kernel_rfl) ?_ (fun a w hF hS => ?_)
  · exact obs_nil
  refine seq_cut (fun a w => Fr 19 [] a ∧ Sep w0 B w (fs) ∧ (slices_IndexFunc_J1).bind some = some r) ?_ ?_
  · rintro a w ⟨hF, hS, hm⟩
    unfold slices_IndexFunc_J1 at hm
    refine reg [] [] [4] [pl 4 (.int .i64 (-1))] hF hS Fol (by kernel_rfl) (by kernel_rfl) (by kernel_rfl) ?_ (fun a w hF hS => ?_)
    · exact obs_nil
    refine wpIn_ret ?_
    have hm : some (-1) = some r := hm
    obtain rfl := Option.some.inj hm
    exact retV (rs := [.tmp 4]) (vs := [.int .i64 (-1)]) hF rfl (rv_t (by kernel_rfl) <| rv_nil) rfl ⟨rfl, hS⟩
  · refine reg [] [] [0, 1, 7, 8] [pl 0 (.slice A1 s1.length c1), pl 1 (.func (.func 130) #[] #[]), pl 7 (.int .i64 (s1.length : Int)), pl 8 (.int .i64 0)] hF hS Fol (by kernel_rfl) (by kernel_rfl) (by kernel_rfl) ?_ (fun a w hF hS => ?_)
    · exact obs_nil
    refine wpIn_block ?_
    refine wp_loop_model (S := Int) (R := (Fl Unit Int)) (slices_IndexFunc_L1 s1) (fun x => (slices_IndexFunc_K1 x).bind some) r (fun (x : Int) a w => Fr 19 [pl 0 (.slice A1 s1.length c1), pl 1 (.func (.func 130) #[] #[]), pl 7 (.int .i64 (s1.length : Int)), pl 8 (.int .i64 x)] a ∧ Sep w0 B w (fs)) (assoc_b hm) ⟨hF.weak [0, 1, 7, 8] (by kernel_rfl), hS⟩ ?_
    clear hF hS hm
    rintro nn1 z1 a w ⟨hF, hS⟩ hm
    generalize hφ1 : stK (slices_IndexFunc_L1 s1) nn1 (fun x => (slices_IndexFunc_K1 x).bind some) = φ1 at hm
    unfold slices_IndexFunc_L1 at hm
    dsimp only at hm
    refine reg [] [] [0, 1, 7, 8, 9] [pl 0 (.slice A1 s1.length c1), pl 1 (.func (.func 130) #[] #[]), pl 7 (.int .i64 (s1.length : Int)), pl 8 (.int .i64 z1), pl 9 (.bool (decide (z1 < (s1.length : Int))))] hF hS Fol (by kernel_rfl) (by kernel_rfl) (by kernel_rfl) ?_ (fun a w hF hS => ?_)
    · exact obs_nil
    refine seq_cut (fun a w => Fr 19 [pl 0 (.slice A1 s1.length c1), pl 1 (.func (.func 130) #[] #[]), pl 7 (.int .i64 (s1.length : Int)), pl 8 (.int .i64 z1)] a ∧ Sep w0 B w (fs) ∧ ((slices_IndexFunc_J2 s1 z1)).bind φ1 = some r) ?_ ?_
    · rintro a w ⟨hF, hS, hm⟩
      unfold slices_IndexFunc_J2 at hm
      refine seq_cut (fun a w => Fr 19 [pl 0 (.slice A1 s1.length c1), pl 1 (.func (.func 130) #[] #[]), pl 7 (.int .i64 (s1.length : Int)), pl 8 (.int .i64 z1)] a ∧ Sep w0 B w (fs) ∧ ((slices_IndexFunc_J3 z1)).bind φ1 = some r) ?_ ?_
      · rintro a w ⟨hF, hS, hm⟩
        unfold slices_IndexFunc_J3 at hm
        refine reg1 [] [] [0, 1, 7, 8] [pl 0 (.slice A1 s1.length c1), pl 1 (.func (.func 130) #[] #[]), pl 7 (.int .i64 (s1.length : Int)), pl 8 (.int .i64 (w64 (z1 + 1)))] hF hS Fol (by kernel_rfl) (by kernel_rfl) (by kernel_rfl) ?_ (fun a w hF hS => ?_)
        · exact obs_nil
        refine then_n ?_
        rw [← hφ1] at hm
        exact ⟨(w64 (z1 + 1)), ⟨hF.weak [0, 1, 7, 8] (by kernel_rfl), hS⟩, hm⟩
      · refine wpIn_block ?_
        refine reg [] [] [0, 1, 5, 7, 8] [pl 0 (.slice A1 s1.length c1), pl 1 (.func (.func 130) #[] #[]), pl 5 (.int .i64 z1), pl 7 (.int .i64 (s1.length : Int)), pl 8 (.int .i64 z1)] hF hS Fol (by kernel_rfl) (by kernel_rfl) (by kernel_rfl) ?_ (fun a w hF hS => ?_)
        · exact obs_nil
        obtain ⟨hp1, hm⟩ := asrt_b hm
        obtain ⟨r1, hr1, hm⟩ := call_b hm
        refine reg [⟨true, [], vS (Instr.indexAt 22 (.slice A1 s1.length c1) (.int .i64 z1)), .pointer (some (sAddr A1 z1))⟩, ⟨false, [], vS (Instr.loadAt 3 (.pointer (some (sAddr A1 z1)))), .int .i64 (geti s1 z1)⟩, ⟨false, [], callFunc 130 #[.int .i64 (geti s1 z1)], .bool r1⟩] [none, none, none, some (.pointer (some (sAddr A1 z1))), some (.int .i64 (geti s1 z1)), some (.bool r1)] [0, 1, 5, 7, 8, 16] [pl 0 (.slice A1 s1.length c1), pl 1 (.func (.func 130) #[] #[]), pl 5 (.int .i64 z1), pl 7 (.int .i64 (s1.length : Int)), pl 8 (.int .i64 z1), pl 16 (.bool r1)] hF hS Fol (by kernel_rfl) (by kernel_rfl) (by kernel_rfl) ?_ (fun a w hF hS => ?_)
        · exact obs_cons (ob_ix1 (f := (Value.int .i64)) (m := s1) Und22 hi3 hs3 (hr_s1 _ (hS.dropN 0)) rfl (fun _ => hp1)) <| obs_cons (ob_get1 (n := s1.length) (m := s1) (Value.int .i64) (0 : Int) Agg3 (fun _ hS => ⟨_, (hr_s1 _ (hS.dropN 0))⟩) (fun _ hS => rfl) (fun _ => hp1)) <| obs_cons (ob_call Try.func130 (by kernel_rfl) rfl (fun _ _ hS => magic_Is_1_w hr1 hS )) <| obs_nil
        refine cond_ev (t := 16) (b := r1) hF (by kernel_rfl) (fun hb => ?_) (fun hb => ?_)
        · replace hm := if_t hm hb
          refine reg [] [] [4] [pl 4 (.int .i64 z1)] hF hS Fol (by kernel_rfl) (by kernel_rfl) (by kernel_rfl) ?_ (fun a w hF hS => ?_)
          · exact obs_nil
          refine wpIn_ret ?_
          refine block_r (then_r (then_r (block_r (then_r ?_))))
          rw [← hφ1] at hm
          replace hm := done_b hm
          unfold slices_IndexFunc_K1 at hm
          try dsimp only at hm
          have hm : some z1 = some r := hm
          obtain rfl := Option.some.inj hm
          exact retV (rs := [.tmp 4]) (vs := [.int .i64 z1]) hF rfl (rv_t (by kernel_rfl) <| rv_nil) rfl ⟨rfl, hS⟩
        · replace hm := if_f hm hb
          refine wpIn_skip ?_
          refine block_n ?_
          refine then_n ?_
          exact ⟨hF.weak [0, 1, 7, 8] (by kernel_rfl), hS, hm⟩
    · refine cond_ev (t := 9) (b := decide (z1 < (s1.length : Int))) hF (by kernel_rfl) (fun hb => ?_) (fun hb => ?_)
      · replace hm := if_t hm hb
        refine wpIn_skip ?_
        refine then_n ?_
        exact ⟨hF.weak [0, 1, 7, 8] (by kernel_rfl), hS, hm⟩
      · replace hm := if_f hm hb
        refine wpIn_exit ?_
        refine then_e (then_e (block_e (then_n ?_)))
        rw [← hφ1] at hm
        replace hm := done_b hm
        unfold slices_IndexFunc_K1 at hm
        try dsimp only at hm
        have hm : (slices_IndexFunc_J1).bind some = some r := hm
        exact ⟨hF.weak [] (by kernel_rfl), hS, hm⟩

noncomputable def slices_ContainsFunc_m  (s1 : List Int) : Option Bool :=
  (slices_IndexFunc_m s1).bind fun r1 => some (decide ((0 : Int) ≤ r1))

set_option maxRecDepth 100000 in
set_option maxHeartbeats 4000000 in
theorem slices_ContainsFunc_w  {A1 : Option Addr} {c1 : Nat} {n1 : Nat} {s1 : List Int} {r : Bool} {w0 w : World} {B : Nat} {fs : List HP} (hm : slices_ContainsFunc_m s1 = some r) (hS : Sep w0 B w (fs)) (hr_s1 : RdF w0 B fs A1 (vI s1)) (_hc_s1 : s1.length ≤ c1) (_hn_s1 : n1 = s1.length) :
    Calls Try.prog 94 #[.slice A1 n1 c1, .func (.func 130) #[] #[]] w fun e w' => e = .returned (.bool r) ∧ Sep w0 B w' (fs) := by
  obtain ⟨i3, hi3, hz3, hs3, hb3⟩ := info_parts Info3
  obtain rfl := _hn_s1
  unfold slices_ContainsFunc_m at hm
  replace hm := start_b hm
  refine enter (l := [.slice A1 s1.length c1, .func (.func 130) #[] #[]]) (n := 9) Try.func94 rfl rfl (by simp) (fun a hF => ?_)
  refine reg [] [] [0, 1] [pl 0 (.slice A1 s1.length c1), pl 1 (.func (.func 130) #[] #[])] hF hS Fol (by kernel_rfl) (by kernel_rfl) (by kernel_rfl) ?_ (fun a w hF hS => ?_)
  · exact obs_nil
  obtain ⟨r1, hr1, hm⟩ := call_b hm
  refine reg [⟨false, [], callFunc 182 #[.slice A1 s1.length c1, .func (.func 130) #[] #[]], .int .i64 r1⟩] [none, none, some (.int .i64 r1), none, none] [4] [pl 4 (.bool (decide ((0 : Int) ≤ r1)))] hF hS Fol (by kernel_rfl) (by kernel_rfl) (by kernel_rfl) ?_ (fun a w hF hS => ?_)
  · exact obs_cons (ob_call Try.func182 (by kernel_rfl) rfl (fun _ _ hS => slices_IndexFunc_w hr1 hS (fun _ hS => (hr_s1 _ (hS.dropN 0))) _hc_s1 rfl)) <| obs_nil
  refine wpIn_ret ?_
  have hm : some (decide ((0 : Int) ≤ r1)) = some r := hm
  obtain rfl := Option.some.inj hm
  exact retV (rs := [.tmp 4]) (vs := [.bool (decide ((0 : Int) ≤ r1))]) hF rfl (rv_t (by kernel_rfl) <| rv_nil) rfl ⟨rfl, hS⟩

noncomputable def magic_row_m  (k1 : Int) : Option Int :=
  some k1

set_option maxRecDepth 100000 in
set_option maxHeartbeats 4000000 in
theorem magic_row_w  {k1 : Int} {r : Int} {w0 w : World} {B : Nat} {fs : List HP} (hm : magic_row_m k1 = some r) (hS : Sep w0 B w (fs)) :
    Calls Try.prog 205 #[.int .i64 k1] w fun e w' => ∃ v, e = .returned v ∧ ∃ (g2 : Nat), v = .func (.func 247) #[] #[.pointer (some ⟨g2, 0, none⟩)] ∧ Sep w0 B w' (blk g2 3 #[.int .i64 r] :: fs) := by
  unfold magic_row_m at hm
  replace hm := start_b hm
  refine enter (l := [.int .i64 k1]) (n := 4) Try.func205 rfl rfl (by simp) (fun a hF => ?_)
  refine seqR ?_
  refine at_do (d := 1) (s := vS (Instr.box 3 (.int .i64 k1))) (v := .pointer (some ⟨w.heap.size, 0, none⟩)) (w' := w.alloc (.cells #[.int .i64 k1] 3)) hF (by kernel_rfl) (by kernel_rfl) (by kernel_rfl) (fun a hF => ?_)
  have hS : Sep w0 B (w.alloc (.cells #[.int .i64 k1] 3)) (blk w.heap.size 3 #[.int .i64 k1] :: (fs)) := hS.box 3 #[.int .i64 k1]
  generalize w.heap.size = g1 at hF hS
  generalize w.alloc (.cells #[.int .i64 k1] 3) = w at hS ⊢
  refine at_run 1 [] [] [1] [pl 1 (.pointer (some ⟨g1, 0, none⟩))] hF hS (by kernel_rfl) (by kernel_rfl) ?_ (fun a w hF hS => ?_)
  · exact obs_nil
  refine at_end [1] [pl 1 (.pointer (some ⟨g1, 0, none⟩))] hF rfl (by kernel_rfl) (fun hF => ?_)
  refine then_n ?_
  refine reg [] [] [2] [pl 2 (.func (.func 247) #[] #[.pointer (some ⟨g1, 0, none⟩)])] hF hS Fol (by kernel_rfl) (by kernel_rfl) (by kernel_rfl) ?_ (fun a w hF hS => ?_)
  · exact obs_nil
  refine wpIn_ret ?_
  have hm : some k1 = some r := hm
  obtain rfl := Option.some.inj hm
  exact retV (rs := [.tmp 2]) (vs := [.func (.func 247) #[] #[.pointer (some ⟨g1, 0, none⟩)]]) hF rfl (rv_t (by kernel_rfl) <| rv_nil) rfl ⟨_, rfl, g1, rfl, hS⟩

noncomputable def magic_row_1_m  (i1 : Int) (p11 : Int) : Option (Int × Int) :=
  some (i1, p11)

set_option maxRecDepth 100000 in
set_option maxHeartbeats 4000000 in
theorem magic_row_1_w  {i1 : Int} {g1 : Nat} {p11 : Int} {r : (Int × Int)} {w0 w : World} {B : Nat} {fs : List HP} (hm : magic_row_1_m i1 p11 = some r) (hS : Sep w0 B w (blk g1 3 #[.int .i64 p11] :: fs)) :
    Calls Try.prog 247 #[.int .i64 i1, .pointer (some ⟨g1, 0, none⟩)] w fun e w' => e = .returned (.tuple #[.int .i64 r.1, .int .i64 r.2]) ∧ Sep w0 B w' (blk g1 3 #[.int .i64 p11] :: fs) := by
  unfold magic_row_1_m at hm
  replace hm := start_b hm
  refine enter (l := [.int .i64 i1, .pointer (some ⟨g1, 0, none⟩)]) (n := 7) Try.func247 rfl rfl (by simp) (fun a hF => ?_)
  refine reg [] [] [0, 1] [pl 0 (.int .i64 i1), pl 1 (.pointer (some ⟨g1, 0, none⟩))] hF hS Fol (by kernel_rfl) (by kernel_rfl) (by kernel_rfl) ?_ (fun a w hF hS => ?_)
  · exact obs_nil
  refine reg [⟨false, [], vS (Instr.loadAt 3 (.pointer (some ⟨g1, 0, none⟩))), .int .i64 p11⟩] [none, some (.int .i64 p11), none, none] [3, 4] [pl 3 (.int .i64 i1), pl 4 (.int .i64 p11)] hF hS Fol (by kernel_rfl) (by kernel_rfl) (by kernel_rfl) ?_ (fun a w hF hS => ?_)
  · exact obs_cons (ob_load Agg3 (fun _ _ hS => (hS.at_ 0 rfl).cell rfl)) <| obs_nil
  refine wpIn_ret ?_
  have hm : some (i1, p11) = some r := hm
  obtain rfl := Option.some.inj hm
  exact retV (rs := [.tmp 3, .tmp 4]) (vs := [.int .i64 i1, .int .i64 p11]) hF rfl (rv_t (by kernel_rfl) <| rv_t (by kernel_rfl) <| rv_nil) rfl ⟨rfl, hS⟩

noncomputable def magic_sum_J3  (z1 : Int) (s3 : Int) : Option (St (Int × Int) Int) :=
  some (.next (s3, (w64 (z1 + 1))))

noncomputable def magic_sum_J2  (l1 : List Int) (n2 : Int) (v1 : Int) (s1 : Int) (z1 : Int) : Option (St (Int × Int) Int) :=
  (magic_row_1_m z1 v1).bind fun r1 => asrt (n2 ≠ (0 : Int)) <| asrt (n2 ≠ (0 : Int)) <| asrt (0 ≤ (w64 ((w64 ((Int.tmod r1.2 n2) * n2)) + (Int.tmod r1.1 n2))) ∧ (w64 ((w64 ((Int.tmod r1.2 n2) * n2)) + (Int.tmod r1.1 n2))) < (l1.length : Int)) <| (magic_sum_J3 z1) (w64 (s1 + (geti l1 (w64 ((w64 ((Int.tmod r1.2 n2) * n2)) + (Int.tmod r1.1 n2))))))

noncomputable def magic_sum_J1  (s2 : Int) : Option Int :=
  some s2

noncomputable def magic_sum_K1  : Int → Option Int :=
  fun (x : Int) => match x with | s2 => magic_sum_J1 s2

noncomputable def magic_sum_L1  (l1 : List Int) (n2 : Int) (v1 : Int) : (Int × Int) → Option (St (Int × Int) Int) :=
  fun (x : (Int × Int)) => match x with | (s1, z1) => if (decide (z1 < n2)) then ((magic_sum_J2 l1 n2 v1 s1 z1)) else (some (.done s1))

noncomputable def magic_sum_m  (l1 : List Int) (n2 : Int) (v1 : Int) : Option Int :=
  (loop (magic_sum_L1 l1 n2 v1) (0, 0)).bind magic_sum_K1

set_option maxRecDepth 100000 in
set_option maxHeartbeats 4000000 in
theorem magic_sum_w  {A1 : Option Addr} {c1 : Nat} {n1 : Nat} {l1 : List Int} {n2 : Int} {g1 : Nat} {v1 : Int} {r : Int} {w0 w : World} {B : Nat} {fs : List HP} (hm : magic_sum_m l1 n2 v1 = some r) (hS : Sep w0 B w (blk g1 3 #[.int .i64 v1] :: fs)) (hr_l1 : RdF w0 B fs A1 (vI l1)) (_hc_l1 : l1.length ≤ c1) (_hn_l1 : n1 = l1.length) :
    Calls Try.prog 204 #[.slice A1 n1 c1, .int .i64 n2, .func (.func 247) #[] #[.pointer (some ⟨g1, 0, none⟩)]] w fun e w' => e = .returned (.int .i64 r) ∧ Sep w0 B w' (blk g1 3 #[.int .i64 v1] :: fs) := by
  obtain ⟨i3, hi3, hz3, hs3, hb3⟩ := info_parts Info3
  obtain rfl := _hn_l1
  unfold magic_sum_m at hm
  replace hm := start_b hm
  refine enter (l := [.slice A1 l1.length c1, .int .i64 n2, .func (.func 247) #[] #[.pointer (some ⟨g1, 0, none⟩)]]) (n := 37) Try.func204 rfl rfl (by simp) (fun a hF => ?_)
  refine reg [] [] [0, 1, 2] [pl 0 (.slice A1 l1.length c1), pl 1 (.int .i64 n2), pl 2 (.func (.func 247) #[] #[.pointer (some ⟨g1, 0, none⟩)])] hF hS Fol (by kernel_rfl) (by kernel_rfl) (by kernel_rfl) ?_ (fun a w hF hS => ?_)
  · exact obs_nil
  refine reg [] [] [0, 1, 2, 7] [pl 0 (.slice A1 l1.length c1), pl 1 (.int .i64 n2), pl 2 (.func (.func 247) #[] #[.pointer (some ⟨g1, 0, none⟩)]), pl 7 (.int .i64 0)] hF hS Fol (by kernel_rfl) (by kernel_rfl) (by kernel_rfl) ?_ (fun a w hF hS => ?_)
  · exact obs_nil
  refine seq_cut (fun a w => ∃ (s2 : Int), Fr 37 [pl 7 (.int .i64 s2)] a ∧ Sep w0 B w (blk g1 3 #[.int .i64 v1] :: fs) ∧ (magic_sum_J1 s2).bind some = some r) ?_ ?_
  · rintro a w ⟨s2, hF, hS, hm⟩
    unfold magic_sum_J1 at hm
    refine reg [] [] [6] [pl 6 (.int .i64 s2)] hF hS Fol (by kernel_rfl) (by kernel_rfl) (by kernel_rfl) ?_ (fun a w hF hS => ?_)
    · exact obs_nil
    refine wpIn_ret ?_
    have hm : some s2 = some r := hm
    obtain rfl := Option.some.inj hm
    exact retV (rs := [.tmp 6]) (vs := [.int .i64 s2]) hF rfl (rv_t (by kernel_rfl) <| rv_nil) rfl ⟨rfl, hS⟩
  · refine reg [] [] [0, 1, 2, 7, 11, 12] [pl 0 (.slice A1 l1.length c1), pl 1 (.int .i64 n2), pl 2 (.func (.func 247) #[] #[.pointer (some ⟨g1, 0, none⟩)]), pl 7 (.int .i64 0), pl 11 (.int .i64 n2), pl 12 (.int .i64 0)] hF hS Fol (by kernel_rfl) (by kernel_rfl) (by kernel_rfl) ?_ (fun a w hF hS => ?_)
    · exact obs_nil
    refine wpIn_block ?_
    refine wp_loop_model (S := (Int × Int)) (R := Int) (magic_sum_L1 l1 n2 v1) (fun x => (magic_sum_K1 x).bind some) r (fun (x : (Int × Int)) a w => Fr 37 [pl 0 (.slice A1 l1.length c1), pl 1 (.int .i64 n2), pl 2 (.func (.func 247) #[] #[.pointer (some ⟨g1, 0, none⟩)]), pl 7 (.int .i64 x.1), pl 11 (.int .i64 n2), pl 12 (.int .i64 x.2)] a ∧ Sep w0 B w (blk g1 3 #[.int .i64 v1] :: fs)) (assoc_b hm) ⟨hF.weak [0, 1, 2, 7, 11, 12] (by kernel_rfl), hS⟩ ?_
    clear hF hS hm
    rintro nn1 ⟨s1, z1⟩ a w ⟨hF, hS⟩ hm
    generalize hφ1 : stK (magic_sum_L1 l1 n2 v1) nn1 (fun x => (magic_sum_K1 x).bind some) = φ1 at hm
    unfold magic_sum_L1 at hm
    dsimp only at hF hS hm
    refine reg [] [] [0, 1, 2, 7, 11, 12, 13] [pl 0 (.slice A1 l1.length c1), pl 1 (.int .i64 n2), pl 2 (.func (.func 247) #[] #[.pointer (some ⟨g1, 0, none⟩)]), pl 7 (.int .i64 s1), pl 11 (.int .i64 n2), pl 12 (.int .i64 z1), pl 13 (.bool (decide (z1 < n2)))] hF hS Fol (by kernel_rfl) (by kernel_rfl) (by kernel_rfl) ?_ (fun a w hF hS => ?_)
    · exact obs_nil
    refine seq_cut (fun a w => Fr 37 [pl 0 (.slice A1 l1.length c1), pl 1 (.int .i64 n2), pl 2 (.func (.func 247) #[] #[.pointer (some ⟨g1, 0, none⟩)]), pl 7 (.int .i64 s1), pl 11 (.int .i64 n2), pl 12 (.int .i64 z1)] a ∧ Sep w0 B w (blk g1 3 #[.int .i64 v1] :: fs) ∧ ((magic_sum_J2 l1 n2 v1 s1 z1)).bind φ1 = some r) ?_ ?_
    · rintro a w ⟨hF, hS, hm⟩
      unfold magic_sum_J2 at hm
      refine seq_cut (fun a w => ∃ (s3 : Int), Fr 37 [pl 0 (.slice A1 l1.length c1), pl 1 (.int .i64 n2), pl 2 (.func (.func 247) #[] #[.pointer (some ⟨g1, 0, none⟩)]), pl 7 (.int .i64 s3), pl 11 (.int .i64 n2), pl 12 (.int .i64 z1)] a ∧ Sep w0 B w (blk g1 3 #[.int .i64 v1] :: fs) ∧ ((magic_sum_J3 z1) s3).bind φ1 = some r) ?_ ?_
      · rintro a w ⟨s3, hF, hS, hm⟩
        unfold magic_sum_J3 at hm
        refine reg1 [] [] [0, 1, 2, 7, 11, 12] [pl 0 (.slice A1 l1.length c1), pl 1 (.int .i64 n2), pl 2 (.func (.func 247) #[] #[.pointer (some ⟨g1, 0, none⟩)]), pl 7 (.int .i64 s3), pl 11 (.int .i64 n2), pl 12 (.int .i64 (w64 (z1 + 1)))] hF hS Fol (by kernel_rfl) (by kernel_rfl) (by kernel_rfl) ?_ (fun a w hF hS => ?_)
        · exact obs_nil
        refine then_n ?_
        rw [← hφ1] at hm
        exact ⟨(s3, (w64 (z1 + 1))), ⟨hF.weak [0, 1, 2, 7, 11, 12] (by kernel_rfl), hS⟩, hm⟩
      · refine wpIn_block ?_
        refine reg [] [] [0, 1, 2, 7, 8, 11, 12] [pl 0 (.slice A1 l1.length c1), pl 1 (.int .i64 n2), pl 2 (.func (.func 247) #[] #[.pointer (some ⟨g1, 0, none⟩)]), pl 7 (.int .i64 s1), pl 8 (.int .i64 z1), pl 11 (.int .i64 n2), pl 12 (.int .i64 z1)] hF hS Fol (by kernel_rfl) (by kernel_rfl) (by kernel_rfl) ?_ (fun a w hF hS => ?_)
        · exact obs_nil
        obtain ⟨r1, hr1, hm⟩ := call_b hm
        refine reg [⟨false, [], callFunc 247 #[.int .i64 z1, .pointer (some ⟨g1, 0, none⟩)], .tuple #[.int .i64 r1.1, .int .i64 r1.2]⟩] [none, none, some (.tuple #[.int .i64 r1.1, .int .i64 r1.2]), none, none, none, none, none] [0, 1, 2, 7, 9, 10, 11, 12] [pl 0 (.slice A1 l1.length c1), pl 1 (.int .i64 n2), pl 2 (.func (.func 247) #[] #[.pointer (some ⟨g1, 0, none⟩)]), pl 7 (.int .i64 s1), pl 9 (.int .i64 r1.1), pl 10 (.int .i64 r1.2), pl 11 (.int .i64 n2), pl 12 (.int .i64 z1)] hF hS Fol (by kernel_rfl) (by kernel_rfl) (by kernel_rfl) ?_ (fun a w hF hS => ?_)
        · exact obs_cons (ob_call Try.func247 (by kernel_rfl) rfl (fun _ _ hS => magic_row_1_w hr1 hS )) <| obs_nil
        obtain ⟨hp1, hm⟩ := asrt_b hm
        obtain ⟨hp2, hm⟩ := asrt_b hm
        obtain ⟨hp3, hm⟩ := asrt_b hm
        refine reg1 [⟨true, [], vS (Op.intDiv .rem .i64 r1.2 n2), .int .i64 (Int.tmod r1.2 n2)⟩, ⟨true, [], vS (Op.intDiv .rem .i64 r1.1 n2), .int .i64 (Int.tmod r1.1 n2)⟩, ⟨true, [], vS (Instr.indexAt 22 (.slice A1 l1.length c1) (.int .i64 (w64 ((w64 ((Int.tmod r1.2 n2) * n2)) + (Int.tmod r1.1 n2))))), .pointer (some (sAddr A1 (w64 ((w64 ((Int.tmod r1.2 n2) * n2)) + (Int.tmod r1.1 n2)))))⟩, ⟨false, [], vS (Instr.loadAt 3 (.pointer (some (sAddr A1 (w64 ((w64 ((Int.tmod r1.2 n2) * n2)) + (Int.tmod r1.1 n2))))))), .int .i64 (geti l1 (w64 ((w64 ((Int.tmod r1.2 n2) * n2)) + (Int.tmod r1.1 n2))))⟩] [none, none, none, none, some (.int .i64 (Int.tmod r1.2 n2)), none, none, none, none, some (.int .i64 (Int.tmod r1.1 n2)), none, some (.pointer (some (sAddr A1 (w64 ((w64 ((Int.tmod r1.2 n2) * n2)) + (Int.tmod r1.1 n2)))))), some (.int .i64 (geti l1 (w64 ((w64 ((Int.tmod r1.2 n2) * n2)) + (Int.tmod r1.1 n2))))), none, none] [0, 1, 2, 7, 11, 12] [pl 0 (.slice A1 l1.length c1), pl 1 (.int .i64 n2), pl 2 (.func (.func 247) #[] #[.pointer (some ⟨g1, 0, none⟩)]), pl 7 (.int .i64 (w64 (s1 + (geti l1 (w64 ((w64 ((Int.tmod r1.2 n2) * n2)) + (Int.tmod r1.1 n2))))))), pl 11 (.int .i64 n2), pl 12 (.int .i64 z1)] hF hS Fol (by kernel_rfl) (by kernel_rfl) (by kernel_rfl) ?_ (fun a w hF hS => ?_)
        · exact obs_cons (ob_rem rfl (fun _ => hp1)) <| obs_cons (ob_rem rfl (fun _ => hp2)) <| obs_cons (ob_ix1 (f := (Value.int .i64)) (m := l1) Und22 hi3 hs3 (hr_l1 _ (hS.dropN 1)) rfl (fun _ => hp3)) <| obs_cons (ob_get1 (n := l1.length) (m := l1) (Value.int .i64) (0 : Int) Agg3 (fun _ hS => ⟨_, (hr_l1 _ (hS.dropN 1))⟩) (fun _ hS => rfl) (fun _ => hp3)) <| obs_nil
        refine block_n ?_
        refine then_n ?_
        exact ⟨(w64 (s1 + (geti l1 (w64 ((w64 ((Int.tmod r1.2 n2) * n2)) + (Int.tmod r1.1 n2)))))), hF.weak [0, 1, 2, 7, 11, 12] (by kernel_rfl), hS, hm⟩
    · refine cond_ev (t := 13) (b := decide (z1 < n2)) hF (by kernel_rfl) (fun hb => ?_) (fun hb => ?_)
      · replace hm := if_t hm hb
        refine wpIn_skip ?_
        refine then_n ?_
        exact ⟨hF.weak [0, 1, 2, 7, 11, 12] (by kernel_rfl), hS, hm⟩
      · replace hm := if_f hm hb
        refine wpIn_exit ?_
        refine then_e (then_e (block_e (then_n ?_)))
        rw [← hφ1] at hm
        replace hm := done_b hm
        unfold magic_sum_K1 at hm
        try dsimp only at hm
        have hm : (magic_sum_J1 s1).bind some = some r := hm
        exact ⟨s1, hF.weak [7] (by kernel_rfl), hS, hm⟩

noncomputable def magic_alike_J3  (z1 : Int) : Option (St Int (Fl Unit Bool)) :=
  some (.next (w64 (z1 + 1)))

noncomputable def magic_alike_J2  (l1 : List Int) (n2 : Int) (want1 : Int) (z1 : Int) : Option (St Int (Fl Unit Bool)) :=
  (magic_row_m z1).bind fun r1 => (magic_sum_m l1 n2 r1).bind fun r2 => if (r2 != want1) then (some (.done (.ret false))) else ((magic_alike_J3 z1))

noncomputable def magic_alike_J1  : Option Bool :=
  some true

noncomputable def magic_alike_K1  : (Fl Unit Bool) → Option Bool :=
  fun (x : (Fl Unit Bool)) => match x with | .go _ => magic_alike_J1 | .ret x => some x

noncomputable def magic_alike_L1  (l1 : List Int) (n2 : Int) (want1 : Int) : Int → Option (St Int (Fl Unit Bool)) :=
  fun (x : Int) => match x with | z1 => if (decide (z1 < n2)) then ((magic_alike_J2 l1 n2 want1 z1)) else (some (.done (.go ())))

noncomputable def magic_alike_m  (l1 : List Int) (n2 : Int) (want1 : Int) : Option Bool :=
  (loop (magic_alike_L1 l1 n2 want1) 0).bind magic_alike_K1

set_option maxRecDepth 100000 in
set_option maxHeartbeats 4000000 in
theorem magic_alike_w  {A1 : Option Addr} {c1 : Nat} {n1 : Nat} {l1 : List Int} {n2 : Int} {want1 : Int} {r : Bool} {w0 w : World} {B : Nat} {fs : List HP} (hm : magic_alike_m l1 n2 want1 = some r) (hS : Sep w0 B w (fs)) (hr_l1 : RdF w0 B fs A1 (vI l1)) (_hc_l1 : l1.length ≤ c1) (_hn_l1 : n1 = l1.length) :
    Calls Try.prog 206 #[.slice A1 n1 c1, .int .i64 n2, .int .i64 want1, .func (.func 205) #[] #[]] w fun e w' => e = .returned (.bool r) ∧ Sep w0 B w' (fs) := by
  obtain ⟨i3, hi3, hz3, hs3, hb3⟩ := info_parts Info3
  obtain rfl := _hn_l1
  unfold magic_alike_m at hm
  replace hm := start_b hm
  refine enter (l := [.slice A1 l1.length c1, .int .i64 n2, .int .i64 want1, .func (.func 205) #[] #[]]) (n := 23) Try.func206 rfl rfl (by simp) (fun a hF => ?_)
  refine reg [] [] [0, 1, 2, 3] [pl 0 (.slice A1 l1.length c1), pl 1 (.int .i64 n2), pl 2 (.int .i64 want1), pl 3 (.func (.func 205) #[] #[])] hF hS Fol (by kernel_rfl) (by kernel_rfl) (by kernel_rfl) ?_ (fun a w hF hS => ?_)
  · exact obs_nil
  refine seq_cut (fun a w => Fr 23 [] a ∧ Sep w0 B w (fs) ∧ (magic_alike_J1).bind some = some r) ?_ ?_
  · rintro a w ⟨hF, hS, hm⟩
    unfold magic_alike_J1 at hm
    refine reg [] [] [8] [pl 8 (.bool true)] hF hS Fol (by kernel_rfl) (by kernel_rfl) (by kernel_rfl) ?_ (fun a w hF hS => ?_)
    · exact obs_nil
    refine wpIn_ret ?_
    have hm : some true = some r := hm
    obtain rfl := Option.some.inj hm
    exact retV (rs := [.tmp 8]) (vs := [.bool true]) hF rfl (rv_t (by kernel_rfl) <| rv_nil) rfl ⟨rfl, hS⟩
  · refine reg [] [] [0, 1, 2, 3, 10, 11] [pl 0 (.slice A1 l1.length c1), pl 1 (.int .i64 n2), pl 2 (.int .i64 want1), pl 3 (.func (.func 205) #[] #[]), pl 10 (.int .i64 n2), pl 11 (.int .i64 0)] hF hS Fol (by kernel_rfl) (by kernel_rfl) (by kernel_rfl) ?_ (fun a w hF hS => ?_)
    · exact obs_nil
    refine wpIn_block ?_
    refine wp_loop_model (S := Int) (R := (Fl Unit Bool)) (magic_alike_L1 l1 n2 want1) (fun x => (magic_alike_K1 x).bind some) r (fun (x : Int) a w => Fr 23 [pl 0 (.slice A1 l1.length c1), pl 1 (.int .i64 n2), pl 2 (.int .i64 want1), pl 3 (.func (.func 205) #[] #[]), pl 10 (.int .i64 n2), pl 11 (.int .i64 x)] a ∧ Sep w0 B w (fs)) (assoc_b hm) ⟨hF.weak [0, 1, 2, 3, 10, 11] (by kernel_rfl), hS⟩ ?_
    clear hF hS hm
    rintro nn1 z1 a w ⟨hF, hS⟩ hm
    generalize hφ1 : stK (magic_alike_L1 l1 n2 want1) nn1 (fun x => (magic_alike_K1 x).bind some) = φ1 at hm
    unfold magic_alike_L1 at hm
    dsimp only at hm
    refine reg [] [] [0, 1, 2, 3, 10, 11, 12] [pl 0 (.slice A1 l1.length c1), pl 1 (.int .i64 n2), pl 2 (.int .i64 want1), pl 3 (.func (.func 205) #[] #[]), pl 10 (.int .i64 n2), pl 11 (.int .i64 z1), pl 12 (.bool (decide (z1 < n2)))] hF hS Fol (by kernel_rfl) (by kernel_rfl) (by kernel_rfl) ?_ (fun a w hF hS => ?_)
    · exact obs_nil
    refine seq_cut (fun a w => Fr 23 [pl 0 (.slice A1 l1.length c1), pl 1 (.int .i64 n2), pl 2 (.int .i64 want1), pl 3 (.func (.func 205) #[] #[]), pl 10 (.int .i64 n2), pl 11 (.int .i64 z1)] a ∧ Sep w0 B w (fs) ∧ ((magic_alike_J2 l1 n2 want1 z1)).bind φ1 = some r) ?_ ?_
    · rintro a w ⟨hF, hS, hm⟩
      unfold magic_alike_J2 at hm
      refine seq_cut (fun a w => Fr 23 [pl 0 (.slice A1 l1.length c1), pl 1 (.int .i64 n2), pl 2 (.int .i64 want1), pl 3 (.func (.func 205) #[] #[]), pl 10 (.int .i64 n2), pl 11 (.int .i64 z1)] a ∧ Sep w0 B w (fs) ∧ ((magic_alike_J3 z1)).bind φ1 = some r) ?_ ?_
      · rintro a w ⟨hF, hS, hm⟩
        unfold magic_alike_J3 at hm
        refine reg1 [] [] [0, 1, 2, 3, 10, 11] [pl 0 (.slice A1 l1.length c1), pl 1 (.int .i64 n2), pl 2 (.int .i64 want1), pl 3 (.func (.func 205) #[] #[]), pl 10 (.int .i64 n2), pl 11 (.int .i64 (w64 (z1 + 1)))] hF hS Fol (by kernel_rfl) (by kernel_rfl) (by kernel_rfl) ?_ (fun a w hF hS => ?_)
        · exact obs_nil
        refine then_n ?_
        rw [← hφ1] at hm
        exact ⟨(w64 (z1 + 1)), ⟨hF.weak [0, 1, 2, 3, 10, 11] (by kernel_rfl), hS⟩, hm⟩
      · refine wpIn_block ?_
        refine reg [] [] [0, 1, 2, 3, 9, 10, 11] [pl 0 (.slice A1 l1.length c1), pl 1 (.int .i64 n2), pl 2 (.int .i64 want1), pl 3 (.func (.func 205) #[] #[]), pl 9 (.int .i64 z1), pl 10 (.int .i64 n2), pl 11 (.int .i64 z1)] hF hS Fol (by kernel_rfl) (by kernel_rfl) (by kernel_rfl) ?_ (fun a w hF hS => ?_)
        · exact obs_nil
        refine seqR ?_
        obtain ⟨r1, hr1, hm⟩ := call_b hm
        obtain ⟨r2, hr2, hm⟩ := call_b hm
        refine at_run 4 [] [] [0, 1, 2, 3, 10, 11, 14, 15, 16, 17] [pl 0 (.slice A1 l1.length c1), pl 1 (.int .i64 n2), pl 2 (.int .i64 want1), pl 3 (.func (.func 205) #[] #[]), pl 10 (.int .i64 n2), pl 11 (.int .i64 z1), pl 14 (.slice A1 l1.length c1), pl 15 (.int .i64 n2), pl 16 (.func (.func 205) #[] #[]), pl 17 (.int .i64 z1)] hF hS (by kernel_rfl) (by kernel_rfl) ?_ (fun a w hF hS => ?_)
        · exact obs_nil
        refine at_call (f := 205) (args := #[.int .i64 z1]) (d := 18) hF (by kernel_rfl) (by kernel_rfl) Try.func205 (by kernel_rfl) rfl (magic_row_w hr1 hS ) (fun v a w hR hF => ?_)
        clear hS
        obtain ⟨g1, rfl, hS⟩ := hR
        have hS : Sep w0 B w (blk g1 3 #[.int .i64 r1] :: fs) := hS
        refine at_run 3 [⟨false, [], callFunc 204 #[.slice A1 l1.length c1, .int .i64 n2, .func (.func 247) #[] #[.pointer (some ⟨g1, 0, none⟩)]], .int .i64 r2⟩] [some (.int .i64 r2), none, none] [0, 1, 2, 3, 10, 11, 21] [pl 0 (.slice A1 l1.length c1), pl 1 (.int .i64 n2), pl 2 (.int .i64 want1), pl 3 (.func (.func 205) #[] #[]), pl 10 (.int .i64 n2), pl 11 (.int .i64 z1), pl 21 (.bool (r2 != want1))] hF hS (by kernel_rfl) (by kernel_rfl) ?_ (fun a w hF hS => ?_)
        · exact obs_cons (ob_call Try.func204 (by kernel_rfl) rfl (fun _ _ hS => magic_sum_w hr2 hS (fun _ hS => (hr_l1 _ (hS.dropN 0))) _hc_l1 rfl)) <| obs_nil
        refine at_end [0, 1, 2, 3, 10, 11, 21] [pl 0 (.slice A1 l1.length c1), pl 1 (.int .i64 n2), pl 2 (.int .i64 want1), pl 3 (.func (.func 205) #[] #[]), pl 10 (.int .i64 n2), pl 11 (.int .i64 z1), pl 21 (.bool (r2 != want1))] hF rfl (by kernel_rfl) (fun hF => ?_)
        refine then_n ?_
        refine cond_ev (t := 21) (b := (r2 != want1)) hF (by kernel_rfl) (fun hb => ?_) (fun hb => ?_)
        · replace hm := if_t hm hb
          refine reg [] [] [8] [pl 8 (.bool false)] hF hS Fol (by kernel_rfl) (by kernel_rfl) (by kernel_rfl) ?_ (fun a w hF hS => ?_)
          · exact obs_nil
          refine wpIn_ret ?_
          refine block_r (then_r (then_r (block_r (then_r ?_))))
          rw [← hφ1] at hm
          replace hm := done_b hm
          unfold magic_alike_K1 at hm
          try dsimp only at hm
          have hS := hS.pickN 1 [] (by decide)
          have hm : some false = some r := hm
          obtain rfl := Option.some.inj hm
          exact retV (rs := [.tmp 8]) (vs := [.bool false]) hF rfl (rv_t (by kernel_rfl) <| rv_nil) rfl ⟨rfl, hS⟩
        · replace hm := if_f hm hb
          refine wpIn_skip ?_
          refine block_n ?_
          refine then_n ?_
          have hS := hS.pickN 1 [] (by decide)
          exact ⟨hF.weak [0, 1, 2, 3, 10, 11] (by kernel_rfl), hS, hm⟩
    · refine cond_ev (t := 12) (b := decide (z1 < n2)) hF (by kernel_rfl) (fun hb => ?_) (fun hb => ?_)
      · replace hm := if_t hm hb
        refine wpIn_skip ?_
        refine then_n ?_
        exact ⟨hF.weak [0, 1, 2, 3, 10, 11] (by kernel_rfl), hS, hm⟩
      · replace hm := if_f hm hb
        refine wpIn_exit ?_
        refine then_e (then_e (block_e (then_n ?_)))
        rw [← hφ1] at hm
        replace hm := done_b hm
        unfold magic_alike_K1 at hm
        try dsimp only at hm
        have hm : (magic_alike_J1).bind some = some r := hm
        exact ⟨hF.weak [] (by kernel_rfl), hS, hm⟩

noncomputable def magic_column_m  (k1 : Int) : Option Int :=
  some k1

set_option maxRecDepth 100000 in
set_option maxHeartbeats 4000000 in
theorem magic_column_w  {k1 : Int} {r : Int} {w0 w : World} {B : Nat} {fs : List HP} (hm : magic_column_m k1 = some r) (hS : Sep w0 B w (fs)) :
    Calls Try.prog 207 #[.int .i64 k1] w fun e w' => ∃ v, e = .returned v ∧ ∃ (g2 : Nat), v = .func (.func 248) #[] #[.pointer (some ⟨g2, 0, none⟩)] ∧ Sep w0 B w' (blk g2 3 #[.int .i64 r] :: fs) := by
  unfold magic_column_m at hm
  replace hm := start_b hm
  refine enter (l := [.int .i64 k1]) (n := 4) Try.func207 rfl rfl (by simp) (fun a hF => ?_)
  refine seqR ?_
  refine at_do (d := 1) (s := vS (Instr.box 3 (.int .i64 k1))) (v := .pointer (some ⟨w.heap.size, 0, none⟩)) (w' := w.alloc (.cells #[.int .i64 k1] 3)) hF (by kernel_rfl) (by kernel_rfl) (by kernel_rfl) (fun a hF => ?_)
  have hS : Sep w0 B (w.alloc (.cells #[.int .i64 k1] 3)) (blk w.heap.size 3 #[.int .i64 k1] :: (fs)) := hS.box 3 #[.int .i64 k1]
  generalize w.heap.size = g1 at hF hS
  generalize w.alloc (.cells #[.int .i64 k1] 3) = w at hS ⊢
  refine at_run 1 [] [] [1] [pl 1 (.pointer (some ⟨g1, 0, none⟩))] hF hS (by kernel_rfl) (by kernel_rfl) ?_ (fun a w hF hS => ?_)
  · exact obs_nil
  refine at_end [1] [pl 1 (.pointer (some ⟨g1, 0, none⟩))] hF rfl (by kernel_rfl) (fun hF => ?_)
  refine then_n ?_
  refine reg [] [] [2] [pl 2 (.func (.func 248) #[] #[.pointer (some ⟨g1, 0, none⟩)])] hF hS Fol (by kernel_rfl) (by kernel_rfl) (by kernel_rfl) ?_ (fun a w hF hS => ?_)
  · exact obs_nil
  refine wpIn_ret ?_
  have hm : some k1 = some r := hm
  obtain rfl := Option.some.inj hm
  exact retV (rs := [.tmp 2]) (vs := [.func (.func 248) #[] #[.pointer (some ⟨g1, 0, none⟩)]]) hF rfl (rv_t (by kernel_rfl) <| rv_nil) rfl ⟨_, rfl, g1, rfl, hS⟩

noncomputable def magic_column_1_m  (i1 : Int) (p11 : Int) : Option (Int × Int) :=
  some (p11, i1)

set_option maxRecDepth 100000 in
set_option maxHeartbeats 4000000 in
theorem magic_column_1_w  {i1 : Int} {g1 : Nat} {p11 : Int} {r : (Int × Int)} {w0 w : World} {B : Nat} {fs : List HP} (hm : magic_column_1_m i1 p11 = some r) (hS : Sep w0 B w (blk g1 3 #[.int .i64 p11] :: fs)) :
    Calls Try.prog 248 #[.int .i64 i1, .pointer (some ⟨g1, 0, none⟩)] w fun e w' => e = .returned (.tuple #[.int .i64 r.1, .int .i64 r.2]) ∧ Sep w0 B w' (blk g1 3 #[.int .i64 p11] :: fs) := by
  unfold magic_column_1_m at hm
  replace hm := start_b hm
  refine enter (l := [.int .i64 i1, .pointer (some ⟨g1, 0, none⟩)]) (n := 7) Try.func248 rfl rfl (by simp) (fun a hF => ?_)
  refine reg [] [] [0, 1] [pl 0 (.int .i64 i1), pl 1 (.pointer (some ⟨g1, 0, none⟩))] hF hS Fol (by kernel_rfl) (by kernel_rfl) (by kernel_rfl) ?_ (fun a w hF hS => ?_)
  · exact obs_nil
  refine reg [⟨false, [], vS (Instr.loadAt 3 (.pointer (some ⟨g1, 0, none⟩))), .int .i64 p11⟩] [some (.int .i64 p11), none, none, none] [3, 4] [pl 3 (.int .i64 p11), pl 4 (.int .i64 i1)] hF hS Fol (by kernel_rfl) (by kernel_rfl) (by kernel_rfl) ?_ (fun a w hF hS => ?_)
  · exact obs_cons (ob_load Agg3 (fun _ _ hS => (hS.at_ 0 rfl).cell rfl)) <| obs_nil
  refine wpIn_ret ?_
  have hm : some (p11, i1) = some r := hm
  obtain rfl := Option.some.inj hm
  exact retV (rs := [.tmp 3, .tmp 4]) (vs := [.int .i64 p11, .int .i64 i1]) hF rfl (rv_t (by kernel_rfl) <| rv_t (by kernel_rfl) <| rv_nil) rfl ⟨rfl, hS⟩

noncomputable def magic_sum_2_J3  (z1 : Int) (s3 : Int) : Option (St (Int × Int) Int) :=
  some (.next (s3, (w64 (z1 + 1))))

noncomputable def magic_sum_2_J2  (l1 : List Int) (n2 : Int) (v1 : Int) (s1 : Int) (z1 : Int) : Option (St (Int × Int) Int) :=
  (magic_column_1_m z1 v1).bind fun r1 => asrt (n2 ≠ (0 : Int)) <| asrt (n2 ≠ (0 : Int)) <| asrt (0 ≤ (w64 ((w64 ((Int.tmod r1.2 n2) * n2)) + (Int.tmod r1.1 n2))) ∧ (w64 ((w64 ((Int.tmod r1.2 n2) * n2)) + (Int.tmod r1.1 n2))) < (l1.length : Int)) <| (magic_sum_2_J3 z1) (w64 (s1 + (geti l1 (w64 ((w64 ((Int.tmod r1.2 n2) * n2)) + (Int.tmod r1.1 n2))))))

noncomputable def magic_sum_2_J1  (s2 : Int) : Option Int :=
  some s2

noncomputable def magic_sum_2_K1  : Int → Option Int :=
  fun (x : Int) => match x with | s2 => magic_sum_2_J1 s2

noncomputable def magic_sum_2_L1  (l1 : List Int) (n2 : Int) (v1 : Int) : (Int × Int) → Option (St (Int × Int) Int) :=
  fun (x : (Int × Int)) => match x with | (s1, z1) => if (decide (z1 < n2)) then ((magic_sum_2_J2 l1 n2 v1 s1 z1)) else (some (.done s1))

noncomputable def magic_sum_2_m  (l1 : List Int) (n2 : Int) (v1 : Int) : Option Int :=
  (loop (magic_sum_2_L1 l1 n2 v1) (0, 0)).bind magic_sum_2_K1

set_option maxRecDepth 100000 in
set_option maxHeartbeats 4000000 in
theorem magic_sum_2_w  {A1 : Option Addr} {c1 : Nat} {n1 : Nat} {l1 : List Int} {n2 : Int} {g1 : Nat} {v1 : Int} {r : Int} {w0 w : World} {B : Nat} {fs : List HP} (hm : magic_sum_2_m l1 n2 v1 = some r) (hS : Sep w0 B w (blk g1 3 #[.int .i64 v1] :: fs)) (hr_l1 : RdF w0 B fs A1 (vI l1)) (_hc_l1 : l1.length ≤ c1) (_hn_l1 : n1 = l1.length) :
    Calls Try.prog 204 #[.slice A1 n1 c1, .int .i64 n2, .func (.func 248) #[] #[.pointer (some ⟨g1, 0, none⟩)]] w fun e w' => e = .returned (.int .i64 r) ∧ Sep w0 B w' (blk g1 3 #[.int .i64 v1] :: fs) := by
  obtain ⟨i3, hi3, hz3, hs3, hb3⟩ := info_parts Info3
  obtain rfl := _hn_l1
  unfold magic_sum_2_m at hm
  replace hm := start_b hm
  refine enter (l := [.slice A1 l1.length c1, .int .i64 n2, .func (.func 248) #[] #[.pointer (some ⟨g1, 0, none⟩)]]) (n := 37) Try.func204 rfl rfl (by simp) (fun a hF => ?_)
  refine reg [] [] [0, 1, 2] [pl 0 (.slice A1 l1.length c1), pl 1 (.int .i64 n2), pl 2 (.func (.func 248) #[] #[.pointer (some ⟨g1, 0, none⟩)])] hF hS Fol (by kernel_rfl) (by kernel_rfl) (by kernel_rfl) ?_ (fun a w hF hS => ?_)
  · exact obs_nil
  refine reg [] [] [0, 1, 2, 7] [pl 0 (.slice A1 l1.length c1), pl 1 (.int .i64 n2), pl 2 (.func (.func 248) #[] #[.pointer (some ⟨g1, 0, none⟩)]), pl 7 (.int .i64 0)] hF hS Fol (by kernel_rfl) (by kernel_rfl) (by kernel_rfl) ?_ (fun a w hF hS => ?_)
  · exact obs_nil
  refine seq_cut (fun a w => ∃ (s2 : Int), Fr 37 [pl 7 (.int .i64 s2)] a ∧ Sep w0 B w (blk g1 3 #[.int .i64 v1] :: fs) ∧ (magic_sum_2_J1 s2).bind some = some r) ?_ ?_
  · rintro a w ⟨s2, hF, hS, hm⟩
    unfold magic_sum_2_J1 at hm
    refine reg [] [] [6] [pl 6 (.int .i64 s2)] hF hS Fol (by kernel_rfl) (by kernel_rfl) (by kernel_rfl) ?_ (fun a w hF hS => ?_)
    · exact obs_nil
    refine wpIn_ret ?_
    have hm : some s2 = some r := hm
    obtain rfl := Option.some.inj hm
    exact retV (rs := [.tmp 6]) (vs := [.int .i64 s2]) hF rfl (rv_t (by kernel_rfl) <| rv_nil) rfl ⟨rfl, hS⟩
  · refine reg [] [] [0, 1, 2, 7, 11, 12] [pl 0 (.slice A1 l1.length c1), pl 1 (.int .i64 n2), pl 2 (.func (.func 248) #[] #[.pointer (some ⟨g1, 0, none⟩)]), pl 7 (.int .i64 0), pl 11 (.int .i64 n2), pl 12 (.int .i64 0)] hF hS Fol (by kernel_rfl) (by kernel_rfl) (by kernel_rfl) ?_ (fun a w hF hS => ?_)
    · exact obs_nil
    refine wpIn_block ?_
    refine wp_loop_model (S := (Int × Int)) (R := Int) (magic_sum_2_L1 l1 n2 v1) (fun x => (magic_sum_2_K1 x).bind some) r (fun (x : (Int × Int)) a w => Fr 37 [pl 0 (.slice A1 l1.length c1), pl 1 (.int .i64 n2), pl 2 (.func (.func 248) #[] #[.pointer (some ⟨g1, 0, none⟩)]), pl 7 (.int .i64 x.1), pl 11 (.int .i64 n2), pl 12 (.int .i64 x.2)] a ∧ Sep w0 B w (blk g1 3 #[.int .i64 v1] :: fs)) (assoc_b hm) ⟨hF.weak [0, 1, 2, 7, 11, 12] (by kernel_rfl), hS⟩ ?_
    clear hF hS hm
    rintro nn1 ⟨s1, z1⟩ a w ⟨hF, hS⟩ hm
    generalize hφ1 : stK (magic_sum_2_L1 l1 n2 v1) nn1 (fun x => (magic_sum_2_K1 x).bind some) = φ1 at hm
    unfold magic_sum_2_L1 at hm
    dsimp only at hF hS hm
    refine reg [] [] [0, 1, 2, 7, 11, 12, 13] [pl 0 (.slice A1 l1.length c1), pl 1 (.int .i64 n2), pl 2 (.func (.func 248) #[] #[.pointer (some ⟨g1, 0, none⟩)]), pl 7 (.int .i64 s1), pl 11 (.int .i64 n2), pl 12 (.int .i64 z1), pl 13 (.bool (decide (z1 < n2)))] hF hS Fol (by kernel_rfl) (by kernel_rfl) (by kernel_rfl) ?_ (fun a w hF hS => ?_)
    · exact obs_nil
    refine seq_cut (fun a w => Fr 37 [pl 0 (.slice A1 l1.length c1), pl 1 (.int .i64 n2), pl 2 (.func (.func 248) #[] #[.pointer (some ⟨g1, 0, none⟩)]), pl 7 (.int .i64 s1), pl 11 (.int .i64 n2), pl 12 (.int .i64 z1)] a ∧ Sep w0 B w (blk g1 3 #[.int .i64 v1] :: fs) ∧ ((magic_sum_2_J2 l1 n2 v1 s1 z1)).bind φ1 = some r) ?_ ?_
    · rintro a w ⟨hF, hS, hm⟩
      unfold magic_sum_2_J2 at hm
      refine seq_cut (fun a w => ∃ (s3 : Int), Fr 37 [pl 0 (.slice A1 l1.length c1), pl 1 (.int .i64 n2), pl 2 (.func (.func 248) #[] #[.pointer (some ⟨g1, 0, none⟩)]), pl 7 (.int .i64 s3), pl 11 (.int .i64 n2), pl 12 (.int .i64 z1)] a ∧ Sep w0 B w (blk g1 3 #[.int .i64 v1] :: fs) ∧ ((magic_sum_2_J3 z1) s3).bind φ1 = some r) ?_ ?_
      · rintro a w ⟨s3, hF, hS, hm⟩
        unfold magic_sum_2_J3 at hm
        refine reg1 [] [] [0, 1, 2, 7, 11, 12] [pl 0 (.slice A1 l1.length c1), pl 1 (.int .i64 n2), pl 2 (.func (.func 248) #[] #[.pointer (some ⟨g1, 0, none⟩)]), pl 7 (.int .i64 s3), pl 11 (.int .i64 n2), pl 12 (.int .i64 (w64 (z1 + 1)))] hF hS Fol (by kernel_rfl) (by kernel_rfl) (by kernel_rfl) ?_ (fun a w hF hS => ?_)
        · exact obs_nil
        refine then_n ?_
        rw [← hφ1] at hm
        exact ⟨(s3, (w64 (z1 + 1))), ⟨hF.weak [0, 1, 2, 7, 11, 12] (by kernel_rfl), hS⟩, hm⟩
      · refine wpIn_block ?_
        refine reg [] [] [0, 1, 2, 7, 8, 11, 12] [pl 0 (.slice A1 l1.length c1), pl 1 (.int .i64 n2), pl 2 (.func (.func 248) #[] #[.pointer (some ⟨g1, 0, none⟩)]), pl 7 (.int .i64 s1), pl 8 (.int .i64 z1), pl 11 (.int .i64 n2), pl 12 (.int .i64 z1)] hF hS Fol (by kernel_rfl) (by kernel_rfl) (by kernel_rfl) ?_ (fun a w hF hS => ?_)
        · exact obs_nil
        obtain ⟨r1, hr1, hm⟩ := call_b hm
        refine reg [⟨false, [], callFunc 248 #[.int .i64 z1, .pointer (some ⟨g1, 0, none⟩)], .tuple #[.int .i64 r1.1, .int .i64 r1.2]⟩] [none, none, some (.tuple #[.int .i64 r1.1, .int .i64 r1.2]), none, none, none, none, none] [0, 1, 2, 7, 9, 10, 11, 12] [pl 0 (.slice A1 l1.length c1), pl 1 (.int .i64 n2), pl 2 (.func (.func 248) #[] #[.pointer (some ⟨g1, 0, none⟩)]), pl 7 (.int .i64 s1), pl 9 (.int .i64 r1.1), pl 10 (.int .i64 r1.2), pl 11 (.int .i64 n2), pl 12 (.int .i64 z1)] hF hS Fol (by kernel_rfl) (by kernel_rfl) (by kernel_rfl) ?_ (fun a w hF hS => ?_)
        · exact obs_cons (ob_call Try.func248 (by kernel_rfl) rfl (fun _ _ hS => magic_column_1_w hr1 hS )) <| obs_nil
        obtain ⟨hp1, hm⟩ := asrt_b hm
        obtain ⟨hp2, hm⟩ := asrt_b hm
        obtain ⟨hp3, hm⟩ := asrt_b hm
        refine reg1 [⟨true, [], vS (Op.intDiv .rem .i64 r1.2 n2), .int .i64 (Int.tmod r1.2 n2)⟩, ⟨true, [], vS (Op.intDiv .rem .i64 r1.1 n2), .int .i64 (Int.tmod r1.1 n2)⟩, ⟨true, [], vS (Instr.indexAt 22 (.slice A1 l1.length c1) (.int .i64 (w64 ((w64 ((Int.tmod r1.2 n2) * n2)) + (Int.tmod r1.1 n2))))), .pointer (some (sAddr A1 (w64 ((w64 ((Int.tmod r1.2 n2) * n2)) + (Int.tmod r1.1 n2)))))⟩, ⟨false, [], vS (Instr.loadAt 3 (.pointer (some (sAddr A1 (w64 ((w64 ((Int.tmod r1.2 n2) * n2)) + (Int.tmod r1.1 n2))))))), .int .i64 (geti l1 (w64 ((w64 ((Int.tmod r1.2 n2) * n2)) + (Int.tmod r1.1 n2))))⟩] [none, none, none, none, some (.int .i64 (Int.tmod r1.2 n2)), none, none, none, none, some (.int .i64 (Int.tmod r1.1 n2)), none, some (.pointer (some (sAddr A1 (w64 ((w64 ((Int.tmod r1.2 n2) * n2)) + (Int.tmod r1.1 n2)))))), some (.int .i64 (geti l1 (w64 ((w64 ((Int.tmod r1.2 n2) * n2)) + (Int.tmod r1.1 n2))))), none, none] [0, 1, 2, 7, 11, 12] [pl 0 (.slice A1 l1.length c1), pl 1 (.int .i64 n2), pl 2 (.func (.func 248) #[] #[.pointer (some ⟨g1, 0, none⟩)]), pl 7 (.int .i64 (w64 (s1 + (geti l1 (w64 ((w64 ((Int.tmod r1.2 n2) * n2)) + (Int.tmod r1.1 n2))))))), pl 11 (.int .i64 n2), pl 12 (.int .i64 z1)] hF hS Fol (by kernel_rfl) (by kernel_rfl) (by kernel_rfl) ?_ (fun a w hF hS => ?_)
        · exact obs_cons (ob_rem rfl (fun _ => hp1)) <| obs_cons (ob_rem rfl (fun _ => hp2)) <| obs_cons (ob_ix1 (f := (Value.int .i64)) (m := l1) Und22 hi3 hs3 (hr_l1 _ (hS.dropN 1)) rfl (fun _ => hp3)) <| obs_cons (ob_get1 (n := l1.length) (m := l1) (Value.int .i64) (0 : Int) Agg3 (fun _ hS => ⟨_, (hr_l1 _ (hS.dropN 1))⟩) (fun _ hS => rfl) (fun _ => hp3)) <| obs_nil
        refine block_n ?_
        refine then_n ?_
        exact ⟨(w64 (s1 + (geti l1 (w64 ((w64 ((Int.tmod r1.2 n2) * n2)) + (Int.tmod r1.1 n2)))))), hF.weak [0, 1, 2, 7, 11, 12] (by kernel_rfl), hS, hm⟩
    · refine cond_ev (t := 13) (b := decide (z1 < n2)) hF (by kernel_rfl) (fun hb => ?_) (fun hb => ?_)
      · replace hm := if_t hm hb
        refine wpIn_skip ?_
        refine then_n ?_
        exact ⟨hF.weak [0, 1, 2, 7, 11, 12] (by kernel_rfl), hS, hm⟩
      · replace hm := if_f hm hb
        refine wpIn_exit ?_
        refine then_e (then_e (block_e (then_n ?_)))
        rw [← hφ1] at hm
        replace hm := done_b hm
        unfold magic_sum_2_K1 at hm
        try dsimp only at hm
        have hm : (magic_sum_2_J1 s1).bind some = some r := hm
        exact ⟨s1, hF.weak [7] (by kernel_rfl), hS, hm⟩

noncomputable def magic_alike_2_J3  (z1 : Int) : Option (St Int (Fl Unit Bool)) :=
  some (.next (w64 (z1 + 1)))

noncomputable def magic_alike_2_J2  (l1 : List Int) (n2 : Int) (want1 : Int) (z1 : Int) : Option (St Int (Fl Unit Bool)) :=
  (magic_column_m z1).bind fun r1 => (magic_sum_2_m l1 n2 r1).bind fun r2 => if (r2 != want1) then (some (.done (.ret false))) else ((magic_alike_2_J3 z1))

noncomputable def magic_alike_2_J1  : Option Bool :=
  some true

noncomputable def magic_alike_2_K1  : (Fl Unit Bool) → Option Bool :=
  fun (x : (Fl Unit Bool)) => match x with | .go _ => magic_alike_2_J1 | .ret x => some x

noncomputable def magic_alike_2_L1  (l1 : List Int) (n2 : Int) (want1 : Int) : Int → Option (St Int (Fl Unit Bool)) :=
  fun (x : Int) => match x with | z1 => if (decide (z1 < n2)) then ((magic_alike_2_J2 l1 n2 want1 z1)) else (some (.done (.go ())))

noncomputable def magic_alike_2_m  (l1 : List Int) (n2 : Int) (want1 : Int) : Option Bool :=
  (loop (magic_alike_2_L1 l1 n2 want1) 0).bind magic_alike_2_K1

set_option maxRecDepth 100000 in
set_option maxHeartbeats 4000000 in
theorem magic_alike_2_w  {A1 : Option Addr} {c1 : Nat} {n1 : Nat} {l1 : List Int} {n2 : Int} {want1 : Int} {r : Bool} {w0 w : World} {B : Nat} {fs : List HP} (hm : magic_alike_2_m l1 n2 want1 = some r) (hS : Sep w0 B w (fs)) (hr_l1 : RdF w0 B fs A1 (vI l1)) (_hc_l1 : l1.length ≤ c1) (_hn_l1 : n1 = l1.length) :
    Calls Try.prog 206 #[.slice A1 n1 c1, .int .i64 n2, .int .i64 want1, .func (.func 207) #[] #[]] w fun e w' => e = .returned (.bool r) ∧ Sep w0 B w' (fs) := by
  obtain ⟨i3, hi3, hz3, hs3, hb3⟩ := info_parts Info3
  obtain rfl := _hn_l1
  unfold magic_alike_2_m at hm
  replace hm := start_b hm
  refine enter (l := [.slice A1 l1.length c1, .int .i64 n2, .int .i64 want1, .func (.func 207) #[] #[]]) (n := 23) Try.func206 rfl rfl (by simp) (fun a hF => ?_)
  refine reg [] [] [0, 1, 2, 3] [pl 0 (.slice A1 l1.length c1), pl 1 (.int .i64 n2), pl 2 (.int .i64 want1), pl 3 (.func (.func 207) #[] #[])] hF hS Fol (by kernel_rfl) (by kernel_rfl) (by kernel_rfl) ?_ (fun a w hF hS => ?_)
  · exact obs_nil
  refine seq_cut (fun a w => Fr 23 [] a ∧ Sep w0 B w (fs) ∧ (magic_alike_2_J1).bind some = some r) ?_ ?_
  · rintro a w ⟨hF, hS, hm⟩
    unfold magic_alike_2_J1 at hm
    refine reg [] [] [8] [pl 8 (.bool true)] hF hS Fol (by kernel_rfl) (by kernel_rfl) (by kernel_rfl) ?_ (fun a w hF hS => ?_)
    · exact obs_nil
    refine wpIn_ret ?_
    have hm : some true = some r := hm
    obtain rfl := Option.some.inj hm
    exact retV (rs := [.tmp 8]) (vs := [.bool true]) hF rfl (rv_t (by kernel_rfl) <| rv_nil) rfl ⟨rfl, hS⟩
  · refine reg [] [] [0, 1, 2, 3, 10, 11] [pl 0 (.slice A1 l1.length c1), pl 1 (.int .i64 n2), pl 2 (.int .i64 want1), pl 3 (.func (.func 207) #[] #[]), pl 10 (.int .i64 n2), pl 11 (.int .i64 0)] hF hS Fol (by kernel_rfl) (by kernel_rfl) (by kernel_rfl) ?_ (fun a w hF hS => ?_)
    · exact obs_nil
    refine wpIn_block ?_
    refine wp_loop_model (S := Int) (R := (Fl Unit Bool)) (magic_alike_2_L1 l1 n2 want1) (fun x => (magic_alike_2_K1 x).bind some) r (fun (x : Int) a w => Fr 23 [pl 0 (.slice A1 l1.length c1), pl 1 (.int .i64 n2), pl 2 (.int .i64 want1), pl 3 (.func (.func 207) #[] #[]), pl 10 (.int .i64 n2), pl 11 (.int .i64 x)] a ∧ Sep w0 B w (fs)) (assoc_b hm) ⟨hF.weak [0, 1, 2, 3, 10, 11] (by kernel_rfl), hS⟩ ?_
    clear hF hS hm
    rintro nn1 z1 a w ⟨hF, hS⟩ hm
    generalize hφ1 : stK (magic_alike_2_L1 l1 n2 want1) nn1 (fun x => (magic_alike_2_K1 x).bind some) = φ1 at hm
    unfold magic_alike_2_L1 at hm
    dsimp only at hm
    refine reg [] [] [0, 1, 2, 3, 10, 11, 12] [pl 0 (.slice A1 l1.length c1), pl 1 (.int .i64 n2), pl 2 (.int .i64 want1), pl 3 (.func (.func 207) #[] #[]), pl 10 (.int .i64 n2), pl 11 (.int .i64 z1), pl 12 (.bool (decide (z1 < n2)))] hF hS Fol (by kernel_rfl) (by kernel_rfl) (by kernel_rfl) ?_ (fun a w hF hS => ?_)
    · exact obs_nil
    refine seq_cut (fun a w => Fr 23 [pl 0 (.slice A1 l1.length c1), pl 1 (.int .i64 n2), pl 2 (.int .i64 want1), pl 3 (.func (.func 207) #[] #[]), pl 10 (.int .i64 n2), pl 11 (.int .i64 z1)] a ∧ Sep w0 B w (fs) ∧ ((magic_alike_2_J2 l1 n2 want1 z1)).bind φ1 = some r) ?_ ?_
    · rintro a w ⟨hF, hS, hm⟩
      unfold magic_alike_2_J2 at hm
      refine seq_cut (fun a w => Fr 23 [pl 0 (.slice A1 l1.length c1), pl 1 (.int .i64 n2), pl 2 (.int .i64 want1), pl 3 (.func (.func 207) #[] #[]), pl 10 (.int .i64 n2), pl 11 (.int .i64 z1)] a ∧ Sep w0 B w (fs) ∧ ((magic_alike_2_J3 z1)).bind φ1 = some r) ?_ ?_
      · rintro a w ⟨hF, hS, hm⟩
        unfold magic_alike_2_J3 at hm
        refine reg1 [] [] [0, 1, 2, 3, 10, 11] [pl 0 (.slice A1 l1.length c1), pl 1 (.int .i64 n2), pl 2 (.int .i64 want1), pl 3 (.func (.func 207) #[] #[]), pl 10 (.int .i64 n2), pl 11 (.int .i64 (w64 (z1 + 1)))] hF hS Fol (by kernel_rfl) (by kernel_rfl) (by kernel_rfl) ?_ (fun a w hF hS => ?_)
        · exact obs_nil
        refine then_n ?_
        rw [← hφ1] at hm
        exact ⟨(w64 (z1 + 1)), ⟨hF.weak [0, 1, 2, 3, 10, 11] (by kernel_rfl), hS⟩, hm⟩
      · refine wpIn_block ?_
        refine reg [] [] [0, 1, 2, 3, 9, 10, 11] [pl 0 (.slice A1 l1.length c1), pl 1 (.int .i64 n2), pl 2 (.int .i64 want1), pl 3 (.func (.func 207) #[] #[]), pl 9 (.int .i64 z1), pl 10 (.int .i64 n2), pl 11 (.int .i64 z1)] hF hS Fol (by kernel_rfl) (by kernel_rfl) (by kernel_rfl) ?_ (fun a w hF hS => ?_)
        · exact obs_nil
        refine seqR ?_
        obtain ⟨r1, hr1, hm⟩ := call_b hm
        obtain ⟨r2, hr2, hm⟩ := call_b hm
        refine at_run 4 [] [] [0, 1, 2, 3, 10, 11, 14, 15, 16, 17] [pl 0 (.slice A1 l1.length c1), pl 1 (.int .i64 n2), pl 2 (.int .i64 want1), pl 3 (.func (.func 207) #[] #[]), pl 10 (.int .i64 n2), pl 11 (.int .i64 z1), pl 14 (.slice A1 l1.length c1), pl 15 (.int .i64 n2), pl 16 (.func (.func 207) #[] #[]), pl 17 (.int .i64 z1)] hF hS (by kernel_rfl) (by kernel_rfl) ?_ (fun a w hF hS => ?_)
        · exact obs_nil
        refine at_call (f := 207) (args := #[.int .i64 z1]) (d := 18) hF (by kernel_rfl) (by kernel_rfl) Try.func207 (by kernel_rfl) rfl (magic_column_w hr1 hS ) (fun v a w hR hF => ?_)
        clear hS
        obtain ⟨g1, rfl, hS⟩ := hR
        have hS : Sep w0 B w (blk g1 3 #[.int .i64 r1] :: fs) := hS
        refine at_run 3 [⟨false, [], callFunc 204 #[.slice A1 l1.length c1, .int .i64 n2, .func (.func 248) #[] #[.pointer (some ⟨g1, 0, none⟩)]], .int .i64 r2⟩] [some (.int .i64 r2), none, none] [0, 1, 2, 3, 10, 11, 21] [pl 0 (.slice A1 l1.length c1), pl 1 (.int .i64 n2), pl 2 (.int .i64 want1), pl 3 (.func (.func 207) #[] #[]), pl 10 (.int .i64 n2), pl 11 (.int .i64 z1), pl 21 (.bool (r2 != want1))] hF hS (by kernel_rfl) (by kernel_rfl) ?_ (fun a w hF hS => ?_)
        · exact obs_cons (ob_call Try.func204 (by kernel_rfl) rfl (fun _ _ hS => magic_sum_2_w hr2 hS (fun _ hS => (hr_l1 _ (hS.dropN 0))) _hc_l1 rfl)) <| obs_nil
        refine at_end [0, 1, 2, 3, 10, 11, 21] [pl 0 (.slice A1 l1.length c1), pl 1 (.int .i64 n2), pl 2 (.int .i64 want1), pl 3 (.func (.func 207) #[] #[]), pl 10 (.int .i64 n2), pl 11 (.int .i64 z1), pl 21 (.bool (r2 != want1))] hF rfl (by kernel_rfl) (fun hF => ?_)
        refine then_n ?_
        refine cond_ev (t := 21) (b := (r2 != want1)) hF (by kernel_rfl) (fun hb => ?_) (fun hb => ?_)
        · replace hm := if_t hm hb
          refine reg [] [] [8] [pl 8 (.bool false)] hF hS Fol (by kernel_rfl) (by kernel_rfl) (by kernel_rfl) ?_ (fun a w hF hS => ?_)
          · exact obs_nil
          refine wpIn_ret ?_
          refine block_r (then_r (then_r (block_r (then_r ?_))))
          rw [← hφ1] at hm
          replace hm := done_b hm
          unfold magic_alike_2_K1 at hm
          try dsimp only at hm
          have hS := hS.pickN 1 [] (by decide)
          have hm : some false = some r := hm
          obtain rfl := Option.some.inj hm
          exact retV (rs := [.tmp 8]) (vs := [.bool false]) hF rfl (rv_t (by kernel_rfl) <| rv_nil) rfl ⟨rfl, hS⟩
        · replace hm := if_f hm hb
          refine wpIn_skip ?_
          refine block_n ?_
          refine then_n ?_
          have hS := hS.pickN 1 [] (by decide)
          exact ⟨hF.weak [0, 1, 2, 3, 10, 11] (by kernel_rfl), hS, hm⟩
    · refine cond_ev (t := 12) (b := decide (z1 < n2)) hF (by kernel_rfl) (fun hb => ?_) (fun hb => ?_)
      · replace hm := if_t hm hb
        refine wpIn_skip ?_
        refine then_n ?_
        exact ⟨hF.weak [0, 1, 2, 3, 10, 11] (by kernel_rfl), hS, hm⟩
      · replace hm := if_f hm hb
        refine wpIn_exit ?_
        refine then_e (then_e (block_e (then_n ?_)))
        rw [← hφ1] at hm
        replace hm := done_b hm
        unfold magic_alike_2_K1 at hm
        try dsimp only at hm
        have hm : (magic_alike_2_J1).bind some = some r := hm
        exact ⟨hF.weak [] (by kernel_rfl), hS, hm⟩

noncomputable def magic_down_m  (k1 : Int) : Option Int :=
  some k1

set_option maxRecDepth 100000 in
set_option maxHeartbeats 4000000 in
theorem magic_down_w  {k1 : Int} {r : Int} {w0 w : World} {B : Nat} {fs : List HP} (hm : magic_down_m k1 = some r) (hS : Sep w0 B w (fs)) :
    Calls Try.prog 208 #[.int .i64 k1] w fun e w' => ∃ v, e = .returned v ∧ ∃ (g2 : Nat), v = .func (.func 249) #[] #[.pointer (some ⟨g2, 0, none⟩)] ∧ Sep w0 B w' (blk g2 3 #[.int .i64 r] :: fs) := by
  unfold magic_down_m at hm
  replace hm := start_b hm
  refine enter (l := [.int .i64 k1]) (n := 4) Try.func208 rfl rfl (by simp) (fun a hF => ?_)
  refine seqR ?_
  refine at_do (d := 1) (s := vS (Instr.box 3 (.int .i64 k1))) (v := .pointer (some ⟨w.heap.size, 0, none⟩)) (w' := w.alloc (.cells #[.int .i64 k1] 3)) hF (by kernel_rfl) (by kernel_rfl) (by kernel_rfl) (fun a hF => ?_)
  have hS : Sep w0 B (w.alloc (.cells #[.int .i64 k1] 3)) (blk w.heap.size 3 #[.int .i64 k1] :: (fs)) := hS.box 3 #[.int .i64 k1]
  generalize w.heap.size = g1 at hF hS
  generalize w.alloc (.cells #[.int .i64 k1] 3) = w at hS ⊢
  refine at_run 1 [] [] [1] [pl 1 (.pointer (some ⟨g1, 0, none⟩))] hF hS (by kernel_rfl) (by kernel_rfl) ?_ (fun a w hF hS => ?_)
  · exact obs_nil
  refine at_end [1] [pl 1 (.pointer (some ⟨g1, 0, none⟩))] hF rfl (by kernel_rfl) (fun hF => ?_)
  refine then_n ?_
  refine reg [] [] [2] [pl 2 (.func (.func 249) #[] #[.pointer (some ⟨g1, 0, none⟩)])] hF hS Fol (by kernel_rfl) (by kernel_rfl) (by kernel_rfl) ?_ (fun a w hF hS => ?_)
  · exact obs_nil
  refine wpIn_ret ?_
  have hm : some k1 = some r := hm
  obtain rfl := Option.some.inj hm
  exact retV (rs := [.tmp 2]) (vs := [.func (.func 249) #[] #[.pointer (some ⟨g1, 0, none⟩)]]) hF rfl (rv_t (by kernel_rfl) <| rv_nil) rfl ⟨_, rfl, g1, rfl, hS⟩

noncomputable def magic_down_1_m  (i1 : Int) (p11 : Int) : Option (Int × Int) :=
  some ((w64 (i1 + p11)), i1)

set_option maxRecDepth 100000 in
set_option maxHeartbeats 4000000 in
theorem magic_down_1_w  {i1 : Int} {g1 : Nat} {p11 : Int} {r : (Int × Int)} {w0 w : World} {B : Nat} {fs : List HP} (hm : magic_down_1_m i1 p11 = some r) (hS : Sep w0 B w (blk g1 3 #[.int .i64 p11] :: fs)) :
    Calls Try.prog 249 #[.int .i64 i1, .pointer (some ⟨g1, 0, none⟩)] w fun e w' => e = .returned (.tuple #[.int .i64 r.1, .int .i64 r.2]) ∧ Sep w0 B w' (blk g1 3 #[.int .i64 p11] :: fs) := by
  unfold magic_down_1_m at hm
  replace hm := start_b hm
  refine enter (l := [.int .i64 i1, .pointer (some ⟨g1, 0, none⟩)]) (n := 9) Try.func249 rfl rfl (by simp) (fun a hF => ?_)
  refine reg [] [] [0, 1] [pl 0 (.int .i64 i1), pl 1 (.pointer (some ⟨g1, 0, none⟩))] hF hS Fol (by kernel_rfl) (by kernel_rfl) (by kernel_rfl) ?_ (fun a w hF hS => ?_)
  · exact obs_nil
  refine reg [⟨false, [], vS (Instr.loadAt 3 (.pointer (some ⟨g1, 0, none⟩))), .int .i64 p11⟩] [none, some (.int .i64 p11), none, none, none, none] [3, 4] [pl 3 (.int .i64 (w64 (i1 + p11))), pl 4 (.int .i64 i1)] hF hS Fol (by kernel_rfl) (by kernel_rfl) (by kernel_rfl) ?_ (fun a w hF hS => ?_)
  · exact obs_cons (ob_load Agg3 (fun _ _ hS => (hS.at_ 0 rfl).cell rfl)) <| obs_nil
  refine wpIn_ret ?_
  have hm : some ((w64 (i1 + p11)), i1) = some r := hm
  obtain rfl := Option.some.inj hm
  exact retV (rs := [.tmp 3, .tmp 4]) (vs := [.int .i64 (w64 (i1 + p11)), .int .i64 i1]) hF rfl (rv_t (by kernel_rfl) <| rv_t (by kernel_rfl) <| rv_nil) rfl ⟨rfl, hS⟩

noncomputable def magic_sum_3_J3  (z1 : Int) (s3 : Int) : Option (St (Int × Int) Int) :=
  some (.next (s3, (w64 (z1 + 1))))

noncomputable def magic_sum_3_J2  (l1 : List Int) (n2 : Int) (v1 : Int) (s1 : Int) (z1 : Int) : Option (St (Int × Int) Int) :=
  (magic_down_1_m z1 v1).bind fun r1 => asrt (n2 ≠ (0 : Int)) <| asrt (n2 ≠ (0 : Int)) <| asrt (0 ≤ (w64 ((w64 ((Int.tmod r1.2 n2) * n2)) + (Int.tmod r1.1 n2))) ∧ (w64 ((w64 ((Int.tmod r1.2 n2) * n2)) + (Int.tmod r1.1 n2))) < (l1.length : Int)) <| (magic_sum_3_J3 z1) (w64 (s1 + (geti l1 (w64 ((w64 ((Int.tmod r1.2 n2) * n2)) + (Int.tmod r1.1 n2))))))

noncomputable def magic_sum_3_J1  (s2 : Int) : Option Int :=
  some s2

noncomputable def magic_sum_3_K1  : Int → Option Int :=
  fun (x : Int) => match x with | s2 => magic_sum_3_J1 s2

noncomputable def magic_sum_3_L1  (l1 : List Int) (n2 : Int) (v1 : Int) : (Int × Int) → Option (St (Int × Int) Int) :=
  fun (x : (Int × Int)) => match x with | (s1, z1) => if (decide (z1 < n2)) then ((magic_sum_3_J2 l1 n2 v1 s1 z1)) else (some (.done s1))

noncomputable def magic_sum_3_m  (l1 : List Int) (n2 : Int) (v1 : Int) : Option Int :=
  (loop (magic_sum_3_L1 l1 n2 v1) (0, 0)).bind magic_sum_3_K1

set_option maxRecDepth 100000 in
set_option maxHeartbeats 4000000 in
theorem magic_sum_3_w  {A1 : Option Addr} {c1 : Nat} {n1 : Nat} {l1 : List Int} {n2 : Int} {g1 : Nat} {v1 : Int} {r : Int} {w0 w : World} {B : Nat} {fs : List HP} (hm : magic_sum_3_m l1 n2 v1 = some r) (hS : Sep w0 B w (blk g1 3 #[.int .i64 v1] :: fs)) (hr_l1 : RdF w0 B fs A1 (vI l1)) (_hc_l1 : l1.length ≤ c1) (_hn_l1 : n1 = l1.length) :
    Calls Try.prog 204 #[.slice A1 n1 c1, .int .i64 n2, .func (.func 249) #[] #[.pointer (some ⟨g1, 0, none⟩)]] w fun e w' => e = .returned (.int .i64 r) ∧ Sep w0 B w' (blk g1 3 #[.int .i64 v1] :: fs) := by
  obtain ⟨i3, hi3, hz3, hs3, hb3⟩ := info_parts Info3
  obtain rfl := _hn_l1
  unfold magic_sum_3_m at hm
  replace hm := start_b hm
  refine enter (l := [.slice A1 l1.length c1, .int .i64 n2, .func (.func 249) #[] #[.pointer (some ⟨g1, 0, none⟩)]]) (n := 37) Try.func204 rfl rfl (by simp) (fun a hF => ?_)
  refine reg [] [] [0, 1, 2] [pl 0 (.slice A1 l1.length c1), pl 1 (.int .i64 n2), pl 2 (.func (.func 249) #[] #[.pointer (some ⟨g1, 0, none⟩)])] hF hS Fol (by kernel_rfl) (by kernel_rfl) (by kernel_rfl) ?_ (fun a w hF hS => ?_)
  · exact obs_nil
  refine reg [] [] [0, 1, 2, 7] [pl 0 (.slice A1 l1.length c1), pl 1 (.int .i64 n2), pl 2 (.func (.func 249) #[] #[.pointer (some ⟨g1, 0, none⟩)]), pl 7 (.int .i64 0)] hF hS Fol (by kernel_rfl) (by kernel_rfl) (by kernel_rfl) ?_ (fun a w hF hS => ?_)
  · exact obs_nil
  refine seq_cut (fun a w => ∃ (s2 : Int), Fr 37 [pl 7 (.int .i64 s2)] a ∧ Sep w0 B w (blk g1 3 #[.int .i64 v1] :: fs) ∧ (magic_sum_3_J1 s2).bind some = some r) ?_ ?_
  · rintro a w ⟨s2, hF, hS, hm⟩
    unfold magic_sum_3_J1 at hm
    refine reg [] [] [6] [pl 6 (.int .i64 s2)] hF hS Fol (by kernel_rfl) (by kernel_rfl) (by kernel_rfl) ?_ (fun a w hF hS => ?_)
    · exact obs_nil
    refine wpIn_ret ?_
    have hm : some s2 = some r := hm
    obtain rfl := Option.some.inj hm
    exact retV (rs := [.tmp 6]) (vs := [.int .i64 s2]) hF rfl (rv_t (by kernel_rfl) <| rv_nil) rfl ⟨rfl, hS⟩
  · refine reg [] [] [0, 1, 2, 7, 11, 12] [pl 0 (.slice A1 l1.length c1), pl 1 (.int .i64 n2), pl 2 (.func (.func 249) #[] #[.pointer (some ⟨g1, 0, none⟩)]), pl 7 (.int .i64 0), pl 11 (.int .i64 n2), pl 12 (.int .i64 0)] hF hS Fol (by kernel_rfl) (by kernel_rfl) (by kernel_rfl) ?_ (fun a w hF hS => ?_)
    · exact obs_nil
    refine wpIn_block ?_
    refine wp_loop_model (S := (Int × Int)) (R := Int) (magic_sum_3_L1 l1 n2 v1) (fun x => (magic_sum_3_K1 x).bind some) r (fun (x : (Int × Int)) a w => Fr 37 [pl 0 (.slice A1 l1.length c1), pl 1 (.int .i64 n2), pl 2 (.func (.func 249) #[] #[.pointer (some ⟨g1, 0, none⟩)]), pl 7 (.int .i64 x.1), pl 11 (.int .i64 n2), pl 12 (.int .i64 x.2)] a ∧ Sep w0 B w (blk g1 3 #[.int .i64 v1] :: fs)) (assoc_b hm) ⟨hF.weak [0, 1, 2, 7, 11, 12] (by kernel_rfl), hS⟩ ?_
    clear hF hS hm
    rintro nn1 ⟨s1, z1⟩ a w ⟨hF, hS⟩ hm
    generalize hφ1 : stK (magic_sum_3_L1 l1 n2 v1) nn1 (fun x => (magic_sum_3_K1 x).bind some) = φ1 at hm
    unfold magic_sum_3_L1 at hm
    dsimp only at hF hS hm
    refine reg [] [] [0, 1, 2, 7, 11, 12, 13] [pl 0 (.slice A1 l1.length c1), pl 1 (.int .i64 n2), pl 2 (.func (.func 249) #[] #[.pointer (some ⟨g1, 0, none⟩)]), pl 7 (.int .i64 s1), pl 11 (.int .i64 n2), pl 12 (.int .i64 z1), pl 13 (.bool (decide (z1 < n2)))] hF hS Fol (by kernel_rfl) (by kernel_rfl) (by kernel_rfl) ?_ (fun a w hF hS => ?_)
    · exact obs_nil
    refine seq_cut (fun a w => Fr 37 [pl 0 (.slice A1 l1.length c1), pl 1 (.int .i64 n2), pl 2 (.func (.func 249) #[] #[.pointer (some ⟨g1, 0, none⟩)]), pl 7 (.int .i64 s1), pl 11 (.int .i64 n2), pl 12 (.int .i64 z1)] a ∧ Sep w0 B w (blk g1 3 #[.int .i64 v1] :: fs) ∧ ((magic_sum_3_J2 l1 n2 v1 s1 z1)).bind φ1 = some r) ?_ ?_
    · rintro a w ⟨hF, hS, hm⟩
      unfold magic_sum_3_J2 at hm
      refine seq_cut (fun a w => ∃ (s3 : Int), Fr 37 [pl 0 (.slice A1 l1.length c1), pl 1 (.int .i64 n2), pl 2 (.func (.func 249) #[] #[.pointer (some ⟨g1, 0, none⟩)]), pl 7 (.int .i64 s3), pl 11 (.int .i64 n2), pl 12 (.int .i64 z1)] a ∧ Sep w0 B w (blk g1 3 #[.int .i64 v1] :: fs) ∧ ((magic_sum_3_J3 z1) s3).bind φ1 = some r) ?_ ?_
      · rintro a w ⟨s3, hF, hS, hm⟩
        unfold magic_sum_3_J3 at hm
        refine reg1 [] [] [0, 1, 2, 7, 11, 12] [pl 0 (.slice A1 l1.length c1), pl 1 (.int .i64 n2), pl 2 (.func (.func 249) #[] #[.pointer (some ⟨g1, 0, none⟩)]), pl 7 (.int .i64 s3), pl 11 (.int .i64 n2), pl 12 (.int .i64 (w64 (z1 + 1)))] hF hS Fol (by kernel_rfl) (by kernel_rfl) (by kernel_rfl) ?_ (fun a w hF hS => ?_)
        · exact obs_nil
        refine then_n ?_
        rw [← hφ1] at hm
        exact ⟨(s3, (w64 (z1 + 1))), ⟨hF.weak [0, 1, 2, 7, 11, 12] (by kernel_rfl), hS⟩, hm⟩
      · refine wpIn_block ?_
        refine reg [] [] [0, 1, 2, 7, 8, 11, 12] [pl 0 (.slice A1 l1.length c1), pl 1 (.int .i64 n2), pl 2 (.func (.func 249) #[] #[.pointer (some ⟨g1, 0, none⟩)]), pl 7 (.int .i64 s1), pl 8 (.int .i64 z1), pl 11 (.int .i64 n2), pl 12 (.int .i64 z1)] hF hS Fol (by kernel_rfl) (by kernel_rfl) (by kernel_rfl) ?_ (fun a w hF hS => ?_)
        · exact obs_nil
        obtain ⟨r1, hr1, hm⟩ := call_b hm
        refine reg [⟨false, [], callFunc 249 #[.int .i64 z1, .pointer (some ⟨g1, 0, none⟩)], .tuple #[.int .i64 r1.1, .int .i64 r1.2]⟩] [none, none, some (.tuple #[.int .i64 r1.1, .int .i64 r1.2]), none, none, none, none, none] [0, 1, 2, 7, 9, 10, 11, 12] [pl 0 (.slice A1 l1.length c1), pl 1 (.int .i64 n2), pl 2 (.func (.func 249) #[] #[.pointer (some ⟨g1, 0, none⟩)]), pl 7 (.int .i64 s1), pl 9 (.int .i64 r1.1), pl 10 (.int .i64 r1.2), pl 11 (.int .i64 n2), pl 12 (.int .i64 z1)] hF hS Fol (by kernel_rfl) (by kernel_rfl) (by kernel_rfl) ?_ (fun a w hF hS => ?_)
        · exact obs_cons (ob_call Try.func249 (by kernel_rfl) rfl (fun _ _ hS => magic_down_1_w hr1 hS )) <| obs_nil
        obtain ⟨hp1, hm⟩ := asrt_b hm
        obtain ⟨hp2, hm⟩ := asrt_b hm
        obtain ⟨hp3, hm⟩ := asrt_b hm
        refine reg1 [⟨true, [], vS (Op.intDiv .rem .i64 r1.2 n2), .int .i64 (Int.tmod r1.2 n2)⟩, ⟨true, [], vS (Op.intDiv .rem .i64 r1.1 n2), .int .i64 (Int.tmod r1.1 n2)⟩, ⟨true, [], vS (Instr.indexAt 22 (.slice A1 l1.length c1) (.int .i64 (w64 ((w64 ((Int.tmod r1.2 n2) * n2)) + (Int.tmod r1.1 n2))))), .pointer (some (sAddr A1 (w64 ((w64 ((Int.tmod r1.2 n2) * n2)) + (Int.tmod r1.1 n2)))))⟩, ⟨false, [], vS (Instr.loadAt 3 (.pointer (some (sAddr A1 (w64 ((w64 ((Int.tmod r1.2 n2) * n2)) + (Int.tmod r1.1 n2))))))), .int .i64 (geti l1 (w64 ((w64 ((Int.tmod r1.2 n2) * n2)) + (Int.tmod r1.1 n2))))⟩] [none, none, none, none, some (.int .i64 (Int.tmod r1.2 n2)), none, none, none, none, some (.int .i64 (Int.tmod r1.1 n2)), none, some (.pointer (some (sAddr A1 (w64 ((w64 ((Int.tmod r1.2 n2) * n2)) + (Int.tmod r1.1 n2)))))), some (.int .i64 (geti l1 (w64 ((w64 ((Int.tmod r1.2 n2) * n2)) + (Int.tmod r1.1 n2))))), none, none] [0, 1, 2, 7, 11, 12] [pl 0 (.slice A1 l1.length c1), pl 1 (.int .i64 n2), pl 2 (.func (.func 249) #[] #[.pointer (some ⟨g1, 0, none⟩)]), pl 7 (.int .i64 (w64 (s1 + (geti l1 (w64 ((w64 ((Int.tmod r1.2 n2) * n2)) + (Int.tmod r1.1 n2))))))), pl 11 (.int .i64 n2), pl 12 (.int .i64 z1)] hF hS Fol (by kernel_rfl) (by kernel_rfl) (by kernel_rfl) ?_ (fun a w hF hS => ?_)
        · exact obs_cons (ob_rem rfl (fun _ => hp1)) <| obs_cons (ob_rem rfl (fun _ => hp2)) <| obs_cons (ob_ix1 (f := (Value.int .i64)) (m := l1) Und22 hi3 hs3 (hr_l1 _ (hS.dropN 1)) rfl (fun _ => hp3)) <| obs_cons (ob_get1 (n := l1.length) (m := l1) (Value.int .i64) (0 : Int) Agg3 (fun _ hS => ⟨_, (hr_l1 _ (hS.dropN 1))⟩) (fun _ hS => rfl) (fun _ => hp3)) <| obs_nil
        refine block_n ?_
        refine then_n ?_
        exact ⟨(w64 (s1 + (geti l1 (w64 ((w64 ((Int.tmod r1.2 n2) * n2)) + (Int.tmod r1.1 n2)))))), hF.weak [0, 1, 2, 7, 11, 12] (by kernel_rfl), hS, hm⟩
    · refine cond_ev (t := 13) (b := decide (z1 < n2)) hF (by kernel_rfl) (fun hb => ?_) (fun hb => ?_)
      · replace hm := if_t hm hb
        refine wpIn_skip ?_
        refine then_n ?_
        exact ⟨hF.weak [0, 1, 2, 7, 11, 12] (by kernel_rfl), hS, hm⟩
      · replace hm := if_f hm hb
        refine wpIn_exit ?_
        refine then_e (then_e (block_e (then_n ?_)))
        rw [← hφ1] at hm
        replace hm := done_b hm
        unfold magic_sum_3_K1 at hm
        try dsimp only at hm
        have hm : (magic_sum_3_J1 s1).bind some = some r := hm
        exact ⟨s1, hF.weak [7] (by kernel_rfl), hS, hm⟩

noncomputable def magic_alike_3_J3  (z1 : Int) : Option (St Int (Fl Unit Bool)) :=
  some (.next (w64 (z1 + 1)))

noncomputable def magic_alike_3_J2  (l1 : List Int) (n2 : Int) (want1 : Int) (z1 : Int) : Option (St Int (Fl Unit Bool)) :=
  (magic_down_m z1).bind fun r1 => (magic_sum_3_m l1 n2 r1).bind fun r2 => if (r2 != want1) then (some (.done (.ret false))) else ((magic_alike_3_J3 z1))

noncomputable def magic_alike_3_J1  : Option Bool :=
  some true

noncomputable def magic_alike_3_K1  : (Fl Unit Bool) → Option Bool :=
  fun (x : (Fl Unit Bool)) => match x with | .go _ => magic_alike_3_J1 | .ret x => some x

noncomputable def magic_alike_3_L1  (l1 : List Int) (n2 : Int) (want1 : Int) : Int → Option (St Int (Fl Unit Bool)) :=
  fun (x : Int) => match x with | z1 => if (decide (z1 < n2)) then ((magic_alike_3_J2 l1 n2 want1 z1)) else (some (.done (.go ())))

noncomputable def magic_alike_3_m  (l1 : List Int) (n2 : Int) (want1 : Int) : Option Bool :=
  (loop (magic_alike_3_L1 l1 n2 want1) 0).bind magic_alike_3_K1

set_option maxRecDepth 100000 in
set_option maxHeartbeats 4000000 in
theorem magic_alike_3_w  {A1 : Option Addr} {c1 : Nat} {n1 : Nat} {l1 : List Int} {n2 : Int} {want1 : Int} {r : Bool} {w0 w : World} {B : Nat} {fs : List HP} (hm : magic_alike_3_m l1 n2 want1 = some r) (hS : Sep w0 B w (fs)) (hr_l1 : RdF w0 B fs A1 (vI l1)) (_hc_l1 : l1.length ≤ c1) (_hn_l1 : n1 = l1.length) :
    Calls Try.prog 206 #[.slice A1 n1 c1, .int .i64 n2, .int .i64 want1, .func (.func 208) #[] #[]] w fun e w' => e = .returned (.bool r) ∧ Sep w0 B w' (fs) := by
  obtain ⟨i3, hi3, hz3, hs3, hb3⟩ := info_parts Info3
  obtain rfl := _hn_l1
  unfold magic_alike_3_m at hm
  replace hm := start_b hm
  refine enter (l := [.slice A1 l1.length c1, .int .i64 n2, .int .i64 want1, .func (.func 208) #[] #[]]) (n := 23) Try.func206 rfl rfl (by simp) (fun a hF => ?_)
  refine reg [] [] [0, 1, 2, 3] [pl 0 (.slice A1 l1.length c1), pl 1 (.int .i64 n2), pl 2 (.int .i64 want1), pl 3 (.func (.func 208) #[] #[])] hF hS Fol (by kernel_rfl) (by kernel_rfl) (by kernel_rfl) ?_ (fun a w hF hS => ?_)
  · exact obs_nil
  refine seq_cut (fun a w => Fr 23 [] a ∧ Sep w0 B w (fs) ∧ (magic_alike_3_J1).bind some = some r) ?_ ?_
  · rintro a w ⟨hF, hS, hm⟩
    unfold magic_alike_3_J1 at hm
    refine reg [] [] [8] [pl 8 (.bool true)] hF hS Fol (by kernel_rfl) (by kernel_rfl) (by kernel_rfl) ?_ (fun a w hF hS => ?_)
    · exact obs_nil
    refine wpIn_ret ?_
    have hm : some true = some r := hm
    obtain rfl := Option.some.inj hm
    exact retV (rs := [.tmp 8]) (vs := [.bool true]) hF rfl (rv_t (by kernel_rfl) <| rv_nil) rfl ⟨rfl, hS⟩
  · refine reg [] [] [0, 1, 2, 3, 10, 11] [pl 0 (.slice A1 l1.length c1), pl 1 (.int .i64 n2), pl 2 (.int .i64 want1), pl 3 (.func (.func 208) #[] #[]), pl 10 (.int .i64 n2), pl 11 (.int .i64 0)] hF hS Fol (by kernel_rfl) (by kernel_rfl) (by kernel_rfl) ?_ (fun a w hF hS => ?_)
    · exact obs_nil
    refine wpIn_block ?_
    refine wp_loop_model (S := Int) (R := (Fl Unit Bool)) (magic_alike_3_L1 l1 n2 want1) (fun x => (magic_alike_3_K1 x).bind some) r (fun (x : Int) a w => Fr 23 [pl 0 (.slice A1 l1.length c1), pl 1 (.int .i64 n2), pl 2 (.int .i64 want1), pl 3 (.func (.func 208) #[] #[]), pl 10 (.int .i64 n2), pl 11 (.int .i64 x)] a ∧ Sep w0 B w (fs)) (assoc_b hm) ⟨hF.weak [0, 1, 2, 3, 10, 11] (by kernel_rfl), hS⟩ ?_
    clear hF hS hm
    rintro nn1 z1 a w ⟨hF, hS⟩ hm
    generalize hφ1 : stK (magic_alike_3_L1 l1 n2 want1) nn1 (fun x => (magic_alike_3_K1 x).bind some) = φ1 at hm
    unfold magic_alike_3_L1 at hm
    dsimp only at hm
    refine reg [] [] [0, 1, 2, 3, 10, 11, 12] [pl 0 (.slice A1 l1.length c1), pl 1 (.int .i64 n2), pl 2 (.int .i64 want1), pl 3 (.func (.func 208) #[] #[]), pl 10 (.int .i64 n2), pl 11 (.int .i64 z1), pl 12 (.bool (decide (z1 < n2)))] hF hS Fol (by kernel_rfl) (by kernel_rfl) (by kernel_rfl) ?_ (fun a w hF hS => ?_)
    · exact obs_nil
    refine seq_cut (fun a w => Fr 23 [pl 0 (.slice A1 l1.length c1), pl 1 (.int .i64 n2), pl 2 (.int .i64 want1), pl 3 (.func (.func 208) #[] #[]), pl 10 (.int .i64 n2), pl 11 (.int .i64 z1)] a ∧ Sep w0 B w (fs) ∧ ((magic_alike_3_J2 l1 n2 want1 z1)).bind φ1 = some r) ?_ ?_
    · rintro a w ⟨hF, hS, hm⟩
      unfold magic_alike_3_J2 at hm
      refine seq_cut (fun a w => Fr 23 [pl 0 (.slice A1 l1.length c1), pl 1 (.int .i64 n2), pl 2 (.int .i64 want1), pl 3 (.func (.func 208) #[] #[]), pl 10 (.int .i64 n2), pl 11 (.int .i64 z1)] a ∧ Sep w0 B w (fs) ∧ ((magic_alike_3_J3 z1)).bind φ1 = some r) ?_ ?_
      · rintro a w ⟨hF, hS, hm⟩
        unfold magic_alike_3_J3 at hm
        refine reg1 [] [] [0, 1, 2, 3, 10, 11] [pl 0 (.slice A1 l1.length c1), pl 1 (.int .i64 n2), pl 2 (.int .i64 want1), pl 3 (.func (.func 208) #[] #[]), pl 10 (.int .i64 n2), pl 11 (.int .i64 (w64 (z1 + 1)))] hF hS Fol (by kernel_rfl) (by kernel_rfl) (by kernel_rfl) ?_ (fun a w hF hS => ?_)
        · exact obs_nil
        refine then_n ?_
        rw [← hφ1] at hm
        exact ⟨(w64 (z1 + 1)), ⟨hF.weak [0, 1, 2, 3, 10, 11] (by kernel_rfl), hS⟩, hm⟩
      · refine wpIn_block ?_
        refine reg [] [] [0, 1, 2, 3, 9, 10, 11] [pl 0 (.slice A1 l1.length c1), pl 1 (.int .i64 n2), pl 2 (.int .i64 want1), pl 3 (.func (.func 208) #[] #[]), pl 9 (.int .i64 z1), pl 10 (.int .i64 n2), pl 11 (.int .i64 z1)] hF hS Fol (by kernel_rfl) (by kernel_rfl) (by kernel_rfl) ?_ (fun a w hF hS => ?_)
        · exact obs_nil
        refine seqR ?_
        obtain ⟨r1, hr1, hm⟩ := call_b hm
        obtain ⟨r2, hr2, hm⟩ := call_b hm
        refine at_run 4 [] [] [0, 1, 2, 3, 10, 11, 14, 15, 16, 17] [pl 0 (.slice A1 l1.length c1), pl 1 (.int .i64 n2), pl 2 (.int .i64 want1), pl 3 (.func (.func 208) #[] #[]), pl 10 (.int .i64 n2), pl 11 (.int .i64 z1), pl 14 (.slice A1 l1.length c1), pl 15 (.int .i64 n2), pl 16 (.func (.func 208) #[] #[]), pl 17 (.int .i64 z1)] hF hS (by kernel_rfl) (by kernel_rfl) ?_ (fun a w hF hS => ?_)
        · exact obs_nil
        refine at_call (f := 208) (args := #[.int .i64 z1]) (d := 18) hF (by kernel_rfl) (by kernel_rfl) Try.func208 (by kernel_rfl) rfl (magic_down_w hr1 hS ) (fun v a w hR hF => ?_)
        clear hS
        obtain ⟨g1, rfl, hS⟩ := hR
        have hS : Sep w0 B w (blk g1 3 #[.int .i64 r1] :: fs) := hS
        refine at_run 3 [⟨false, [], callFunc 204 #[.slice A1 l1.length c1, .int .i64 n2, .func (.func 249) #[] #[.pointer (some ⟨g1, 0, none⟩)]], .int .i64 r2⟩] [some (.int .i64 r2), none, none] [0, 1, 2, 3, 10, 11, 21] [pl 0 (.slice A1 l1.length c1), pl 1 (.int .i64 n2), pl 2 (.int .i64 want1), pl 3 (.func (.func 208) #[] #[]), pl 10 (.int .i64 n2), pl 11 (.int .i64 z1), pl 21 (.bool (r2 != want1))] hF hS (by kernel_rfl) (by kernel_rfl) ?_ (fun a w hF hS => ?_)
        · exact obs_cons (ob_call Try.func204 (by kernel_rfl) rfl (fun _ _ hS => magic_sum_3_w hr2 hS (fun _ hS => (hr_l1 _ (hS.dropN 0))) _hc_l1 rfl)) <| obs_nil
        refine at_end [0, 1, 2, 3, 10, 11, 21] [pl 0 (.slice A1 l1.length c1), pl 1 (.int .i64 n2), pl 2 (.int .i64 want1), pl 3 (.func (.func 208) #[] #[]), pl 10 (.int .i64 n2), pl 11 (.int .i64 z1), pl 21 (.bool (r2 != want1))] hF rfl (by kernel_rfl) (fun hF => ?_)
        refine then_n ?_
        refine cond_ev (t := 21) (b := (r2 != want1)) hF (by kernel_rfl) (fun hb => ?_) (fun hb => ?_)
        · replace hm := if_t hm hb
          refine reg [] [] [8] [pl 8 (.bool false)] hF hS Fol (by kernel_rfl) (by kernel_rfl) (by kernel_rfl) ?_ (fun a w hF hS => ?_)
          · exact obs_nil
          refine wpIn_ret ?_
          refine block_r (then_r (then_r (block_r (then_r ?_))))
          rw [← hφ1] at hm
          replace hm := done_b hm
          unfold magic_alike_3_K1 at hm
          try dsimp only at hm
          have hS := hS.pickN 1 [] (by decide)
          have hm : some false = some r := hm
          obtain rfl := Option.some.inj hm
          exact retV (rs := [.tmp 8]) (vs := [.bool false]) hF rfl (rv_t (by kernel_rfl) <| rv_nil) rfl ⟨rfl, hS⟩
        · replace hm := if_f hm hb
          refine wpIn_skip ?_
          refine block_n ?_
          refine then_n ?_
          have hS := hS.pickN 1 [] (by decide)
          exact ⟨hF.weak [0, 1, 2, 3, 10, 11] (by kernel_rfl), hS, hm⟩
    · refine cond_ev (t := 12) (b := decide (z1 < n2)) hF (by kernel_rfl) (fun hb => ?_) (fun hb => ?_)
      · replace hm := if_t hm hb
        refine wpIn_skip ?_
        refine then_n ?_
        exact ⟨hF.weak [0, 1, 2, 3, 10, 11] (by kernel_rfl), hS, hm⟩
      · replace hm := if_f hm hb
        refine wpIn_exit ?_
        refine then_e (then_e (block_e (then_n ?_)))
        rw [← hφ1] at hm
        replace hm := done_b hm
        unfold magic_alike_3_K1 at hm
        try dsimp only at hm
        have hm : (magic_alike_3_J1).bind some = some r := hm
        exact ⟨hF.weak [] (by kernel_rfl), hS, hm⟩

noncomputable def magic_up_m  (n1 : Int) : Option Int :=
  some n1

set_option maxRecDepth 100000 in
set_option maxHeartbeats 4000000 in
theorem magic_up_w  {n1 : Int} {r : Int} {w0 w : World} {B : Nat} {fs : List HP} (hm : magic_up_m n1 = some r) (hS : Sep w0 B w (fs)) :
    Calls Try.prog 209 #[.int .i64 n1] w fun e w' => ∃ v, e = .returned v ∧ ∃ (g2 : Nat), v = .func (.func 250) #[] #[.pointer (some ⟨g2, 0, none⟩)] ∧ Sep w0 B w' (blk g2 3 #[.int .i64 r] :: fs) := by
  unfold magic_up_m at hm
  replace hm := start_b hm
  refine enter (l := [.int .i64 n1]) (n := 4) Try.func209 rfl rfl (by simp) (fun a hF => ?_)
  refine seqR ?_
  refine at_do (d := 1) (s := vS (Instr.box 3 (.int .i64 n1))) (v := .pointer (some ⟨w.heap.size, 0, none⟩)) (w' := w.alloc (.cells #[.int .i64 n1] 3)) hF (by kernel_rfl) (by kernel_rfl) (by kernel_rfl) (fun a hF => ?_)
  have hS : Sep w0 B (w.alloc (.cells #[.int .i64 n1] 3)) (blk w.heap.size 3 #[.int .i64 n1] :: (fs)) := hS.box 3 #[.int .i64 n1]
  generalize w.heap.size = g1 at hF hS
  generalize w.alloc (.cells #[.int .i64 n1] 3) = w at hS ⊢
  refine at_run 1 [] [] [1] [pl 1 (.pointer (some ⟨g1, 0, none⟩))] hF hS (by kernel_rfl) (by kernel_rfl) ?_ (fun a w hF hS => ?_)
  · exact obs_nil
  refine at_end [1] [pl 1 (.pointer (some ⟨g1, 0, none⟩))] hF rfl (by kernel_rfl) (fun hF => ?_)
  refine then_n ?_
  refine reg [] [] [2] [pl 2 (.func (.func 250) #[] #[.pointer (some ⟨g1, 0, none⟩)])] hF hS Fol (by kernel_rfl) (by kernel_rfl) (by kernel_rfl) ?_ (fun a w hF hS => ?_)
  · exact obs_nil
  refine wpIn_ret ?_
  have hm : some n1 = some r := hm
  obtain rfl := Option.some.inj hm
  exact retV (rs := [.tmp 2]) (vs := [.func (.func 250) #[] #[.pointer (some ⟨g1, 0, none⟩)]]) hF rfl (rv_t (by kernel_rfl) <| rv_nil) rfl ⟨_, rfl, g1, rfl, hS⟩

noncomputable def magic_up_1_m  (k1 : Int) (p11 : Int) : Option Int :=
  some k1

set_option maxRecDepth 100000 in
set_option maxHeartbeats 4000000 in
theorem magic_up_1_w  {k1 : Int} {g1 : Nat} {p11 : Int} {r : Int} {w0 w : World} {B : Nat} {fs : List HP} (hm : magic_up_1_m k1 p11 = some r) (hS : Sep w0 B w (blk g1 3 #[.int .i64 p11] :: fs)) :
    Calls Try.prog 250 #[.int .i64 k1, .pointer (some ⟨g1, 0, none⟩)] w fun e w' => ∃ v, e = .returned v ∧ ∃ (g3 : Nat), v = .func (.func 251) #[] #[.pointer (some ⟨g3, 0, none⟩), .pointer (some ⟨g1, 0, none⟩)] ∧ Sep w0 B w' (blk g1 3 #[.int .i64 p11] :: blk g3 3 #[.int .i64 r] :: fs) := by
  unfold magic_up_1_m at hm
  replace hm := start_b hm
  refine enter (l := [.int .i64 k1, .pointer (some ⟨g1, 0, none⟩)]) (n := 5) Try.func250 rfl rfl (by simp) (fun a hF => ?_)
  refine seqR ?_
  refine at_do (d := 2) (s := vS (Instr.box 3 (.int .i64 k1))) (v := .pointer (some ⟨w.heap.size, 0, none⟩)) (w' := w.alloc (.cells #[.int .i64 k1] 3)) hF (by kernel_rfl) (by kernel_rfl) (by kernel_rfl) (fun a hF => ?_)
  have hS : Sep w0 B (w.alloc (.cells #[.int .i64 k1] 3)) (blk w.heap.size 3 #[.int .i64 k1] :: (blk g1 3 #[.int .i64 p11] :: fs)) := hS.box 3 #[.int .i64 k1]
  generalize w.heap.size = g2 at hF hS
  generalize w.alloc (.cells #[.int .i64 k1] 3) = w at hS ⊢
  refine at_run 1 [] [] [1, 2] [pl 1 (.pointer (some ⟨g1, 0, none⟩)), pl 2 (.pointer (some ⟨g2, 0, none⟩))] hF hS (by kernel_rfl) (by kernel_rfl) ?_ (fun a w hF hS => ?_)
  · exact obs_nil
  refine at_end [1, 2] [pl 1 (.pointer (some ⟨g1, 0, none⟩)), pl 2 (.pointer (some ⟨g2, 0, none⟩))] hF rfl (by kernel_rfl) (fun hF => ?_)
  refine then_n ?_
  refine reg [] [] [3] [pl 3 (.func (.func 251) #[] #[.pointer (some ⟨g2, 0, none⟩), .pointer (some ⟨g1, 0, none⟩)])] hF hS Fol (by kernel_rfl) (by kernel_rfl) (by kernel_rfl) ?_ (fun a w hF hS => ?_)
  · exact obs_nil
  refine wpIn_ret ?_
  have hS := hS.pickN 2 [1, 0] (by decide)
  have hm : some k1 = some r := hm
  obtain rfl := Option.some.inj hm
  exact retV (rs := [.tmp 3]) (vs := [.func (.func 251) #[] #[.pointer (some ⟨g2, 0, none⟩), .pointer (some ⟨g1, 0, none⟩)]]) hF rfl (rv_t (by kernel_rfl) <| rv_nil) rfl ⟨_, rfl, g2, rfl, hS⟩

noncomputable def magic_up_1_1_m  (i1 : Int) (p11 : Int) (p21 : Int) : Option (Int × Int) :=
  some ((w64 (i1 + p11)), (w64 ((w64 (p21 - 1)) - i1)))

set_option maxRecDepth 100000 in
set_option maxHeartbeats 4000000 in
theorem magic_up_1_1_w  {i1 : Int} {g1 : Nat} {p11 : Int} {g2 : Nat} {p21 : Int} {r : (Int × Int)} {w0 w : World} {B : Nat} {fs : List HP} (hm : magic_up_1_1_m i1 p11 p21 = some r) (hS : Sep w0 B w (blk g1 3 #[.int .i64 p11] :: blk g2 3 #[.int .i64 p21] :: fs)) :
    Calls Try.prog 251 #[.int .i64 i1, .pointer (some ⟨g1, 0, none⟩), .pointer (some ⟨g2, 0, none⟩)] w fun e w' => e = .returned (.tuple #[.int .i64 r.1, .int .i64 r.2]) ∧ Sep w0 B w' (blk g1 3 #[.int .i64 p11] :: blk g2 3 #[.int .i64 p21] :: fs) := by
  unfold magic_up_1_1_m at hm
  replace hm := start_b hm
  refine enter (l := [.int .i64 i1, .pointer (some ⟨g1, 0, none⟩), .pointer (some ⟨g2, 0, none⟩)]) (n := 13) Try.func251 rfl rfl (by simp) (fun a hF => ?_)
  refine reg [] [] [0, 1, 2] [pl 0 (.int .i64 i1), pl 1 (.pointer (some ⟨g1, 0, none⟩)), pl 2 (.pointer (some ⟨g2, 0, none⟩))] hF hS Fol (by kernel_rfl) (by kernel_rfl) (by kernel_rfl) ?_ (fun a w hF hS => ?_)
  · exact obs_nil
  refine reg [⟨false, [], vS (Instr.loadAt 3 (.pointer (some ⟨g1, 0, none⟩))), .int .i64 p11⟩, ⟨false, [], vS (Instr.loadAt 3 (.pointer (some ⟨g2, 0, none⟩))), .int .i64 p21⟩] [none, some (.int .i64 p11), none, some (.int .i64 p21), none, none, none, none, none] [4, 5] [pl 4 (.int .i64 (w64 (i1 + p11))), pl 5 (.int .i64 (w64 ((w64 (p21 - 1)) - i1)))] hF hS Fol (by kernel_rfl) (by kernel_rfl) (by kernel_rfl) ?_ (fun a w hF hS => ?_)
  · exact obs_cons (ob_load Agg3 (fun _ _ hS => (hS.at_ 0 rfl).cell rfl)) <| obs_cons (ob_load Agg3 (fun _ _ hS => (hS.at_ 1 rfl).cell rfl)) <| obs_nil
  refine wpIn_ret ?_
  have hm : some ((w64 (i1 + p11)), (w64 ((w64 (p21 - 1)) - i1))) = some r := hm
  obtain rfl := Option.some.inj hm
  exact retV (rs := [.tmp 4, .tmp 5]) (vs := [.int .i64 (w64 (i1 + p11)), .int .i64 (w64 ((w64 (p21 - 1)) - i1))]) hF rfl (rv_t (by kernel_rfl) <| rv_t (by kernel_rfl) <| rv_nil) rfl ⟨rfl, hS⟩

noncomputable def magic_sum_4_J3  (z1 : Int) (s3 : Int) : Option (St (Int × Int) Int) :=
  some (.next (s3, (w64 (z1 + 1))))

noncomputable def magic_sum_4_J2  (l1 : List Int) (n2 : Int) (v1 : Int) (v2 : Int) (s1 : Int) (z1 : Int) : Option (St (Int × Int) Int) :=
  (magic_up_1_1_m z1 v1 v2).bind fun r1 => asrt (n2 ≠ (0 : Int)) <| asrt (n2 ≠ (0 : Int)) <| asrt (0 ≤ (w64 ((w64 ((Int.tmod r1.2 n2) * n2)) + (Int.tmod r1.1 n2))) ∧ (w64 ((w64 ((Int.tmod r1.2 n2) * n2)) + (Int.tmod r1.1 n2))) < (l1.length : Int)) <| (magic_sum_4_J3 z1) (w64 (s1 + (geti l1 (w64 ((w64 ((Int.tmod r1.2 n2) * n2)) + (Int.tmod r1.1 n2))))))

noncomputable def magic_sum_4_J1  (s2 : Int) : Option Int :=
  some s2

noncomputable def magic_sum_4_K1  : Int → Option Int :=
  fun (x : Int) => match x with | s2 => magic_sum_4_J1 s2

noncomputable def magic_sum_4_L1  (l1 : List Int) (n2 : Int) (v1 : Int) (v2 : Int) : (Int × Int) → Option (St (Int × Int) Int) :=
  fun (x : (Int × Int)) => match x with | (s1, z1) => if (decide (z1 < n2)) then ((magic_sum_4_J2 l1 n2 v1 v2 s1 z1)) else (some (.done s1))

noncomputable def magic_sum_4_m  (l1 : List Int) (n2 : Int) (v1 : Int) (v2 : Int) : Option Int :=
  (loop (magic_sum_4_L1 l1 n2 v1 v2) (0, 0)).bind magic_sum_4_K1

set_option maxRecDepth 100000 in
set_option maxHeartbeats 4000000 in
theorem magic_sum_4_w  {A1 : Option Addr} {c1 : Nat} {n1 : Nat} {l1 : List Int} {n2 : Int} {g1 : Nat} {v1 : Int} {g2 : Nat} {v2 : Int} {r : Int} {w0 w : World} {B : Nat} {fs : List HP} (hm : magic_sum_4_m l1 n2 v1 v2 = some r) (hS : Sep w0 B w (blk g1 3 #[.int .i64 v1] :: blk g2 3 #[.int .i64 v2] :: fs)) (hr_l1 : RdF w0 B fs A1 (vI l1)) (_hc_l1 : l1.length ≤ c1) (_hn_l1 : n1 = l1.length) :
    Calls Try.prog 204 #[.slice A1 n1 c1, .int .i64 n2, .func (.func 251) #[] #[.pointer (some ⟨g1, 0, none⟩), .pointer (some ⟨g2, 0, none⟩)]] w fun e w' => e = .returned (.int .i64 r) ∧ Sep w0 B w' (blk g1 3 #[.int .i64 v1] :: blk g2 3 #[.int .i64 v2] :: fs) := by
  obtain ⟨i3, hi3, hz3, hs3, hb3⟩ := info_parts Info3
  obtain rfl := _hn_l1
  unfold magic_sum_4_m at hm
  replace hm := start_b hm
  refine enter (l := [.slice A1 l1.length c1, .int .i64 n2, .func (.func 251) #[] #[.pointer (some ⟨g1, 0, none⟩), .pointer (some ⟨g2, 0, none⟩)]]) (n := 37) Try.func204 rfl rfl (by simp) (fun a hF => ?_)
  refine reg [] [] [0, 1, 2] [pl 0 (.slice A1 l1.length c1), pl 1 (.int .i64 n2), pl 2 (.func (.func 251) #[] #[.pointer (some ⟨g1, 0, none⟩), .pointer (some ⟨g2, 0, none⟩)])] hF hS Fol (by kernel_rfl) (by kernel_rfl) (by kernel_rfl) ?_ (fun a w hF hS => ?_)
  · exact obs_nil
  refine reg [] [] [0, 1, 2, 7] [pl 0 (.slice A1 l1.length c1), pl 1 (.int .i64 n2), pl 2 (.func (.func 251) #[] #[.pointer (some ⟨g1, 0, none⟩), .pointer (some ⟨g2, 0, none⟩)]), pl 7 (.int .i64 0)] hF hS Fol (by kernel_rfl) (by kernel_rfl) (by kernel_rfl) ?_ (fun a w hF hS => ?_)
  · exact obs_nil
  refine seq_cut (fun a w => ∃ (s2 : Int), Fr 37 [pl 7 (.int .i64 s2)] a ∧ Sep w0 B w (blk g1 3 #[.int .i64 v1] :: blk g2 3 #[.int .i64 v2] :: fs) ∧ (magic_sum_4_J1 s2).bind some = some r) ?_ ?_
  · rintro a w ⟨s2, hF, hS, hm⟩
    unfold magic_sum_4_J1 at hm
    refine reg [] [] [6] [pl 6 (.int .i64 s2)] hF hS Fol (by kernel_rfl) (by kernel_rfl) (by kernel_rfl) ?_ (fun a w hF hS => ?_)
    · exact obs_nil
    refine wpIn_ret ?_
    have hm : some s2 = some r := hm
    obtain rfl := Option.some.inj hm
    exact retV (rs := [.tmp 6]) (vs := [.int .i64 s2]) hF rfl (rv_t (by kernel_rfl) <| rv_nil) rfl ⟨rfl, hS⟩
  · refine reg [] [] [0, 1, 2, 7, 11, 12] [pl 0 (.slice A1 l1.length c1), pl 1 (.int .i64 n2), pl 2 (.func (.func 251) #[] #[.pointer (some ⟨g1, 0, none⟩), .pointer (some ⟨g2, 0, none⟩)]), pl 7 (.int .i64 0), pl 11 (.int .i64 n2), pl 12 (.int .i64 0)] hF hS Fol (by kernel_rfl) (by kernel_rfl) (by kernel_rfl) ?_ (fun a w hF hS => ?_)
    · exact obs_nil
    refine wpIn_block ?_
    refine wp_loop_model (S := (Int × Int)) (R := Int) (magic_sum_4_L1 l1 n2 v1 v2) (fun x => (magic_sum_4_K1 x).bind some) r (fun (x : (Int × Int)) a w => Fr 37 [pl 0 (.slice A1 l1.length c1), pl 1 (.int .i64 n2), pl 2 (.func (.func 251) #[] #[.pointer (some ⟨g1, 0, none⟩), .pointer (some ⟨g2, 0, none⟩)]), pl 7 (.int .i64 x.1), pl 11 (.int .i64 n2), pl 12 (.int .i64 x.2)] a ∧ Sep w0 B w (blk g1 3 #[.int .i64 v1] :: blk g2 3 #[.int .i64 v2] :: fs)) (assoc_b hm) ⟨hF.weak [0, 1, 2, 7, 11, 12] (by kernel_rfl), hS⟩ ?_
    clear hF hS hm
    rintro nn1 ⟨s1, z1⟩ a w ⟨hF, hS⟩ hm
    generalize hφ1 : stK (magic_sum_4_L1 l1 n2 v1 v2) nn1 (fun x => (magic_sum_4_K1 x).bind some) = φ1 at hm
    unfold magic_sum_4_L1 at hm
    dsimp only at hF hS hm
    refine reg [] [] [0, 1, 2, 7, 11, 12, 13] [pl 0 (.slice A1 l1.length c1), pl 1 (.int .i64 n2), pl 2 (.func (.func 251) #[] #[.pointer (some ⟨g1, 0, none⟩), .pointer (some ⟨g2, 0, none⟩)]), pl 7 (.int .i64 s1), pl 11 (.int .i64 n2), pl 12 (.int .i64 z1), pl 13 (.bool (decide (z1 < n2)))] hF hS Fol (by kernel_rfl) (by kernel_rfl) (by kernel_rfl) ?_ (fun a w hF hS => ?_)
    · exact obs_nil
    refine seq_cut (fun a w => Fr 37 [pl 0 (.slice A1 l1.length c1), pl 1 (.int .i64 n2), pl 2 (.func (.func 251) #[] #[.pointer (some ⟨g1, 0, none⟩), .pointer (some ⟨g2, 0, none⟩)]), pl 7 (.int .i64 s1), pl 11 (.int .i64 n2), pl 12 (.int .i64 z1)] a ∧ Sep w0 B w (blk g1 3 #[.int .i64 v1] :: blk g2 3 #[.int .i64 v2] :: fs) ∧ ((magic_sum_4_J2 l1 n2 v1 v2 s1 z1)).bind φ1 = some r) ?_ ?_
    · rintro a w ⟨hF, hS, hm⟩
      unfold magic_sum_4_J2 at hm
      refine seq_cut (fun a w => ∃ (s3 : Int), Fr 37 [pl 0 (.slice A1 l1.length c1), pl 1 (.int .i64 n2), pl 2 (.func (.func 251) #[] #[.pointer (some ⟨g1, 0, none⟩), .pointer (some ⟨g2, 0, none⟩)]), pl 7 (.int .i64 s3), pl 11 (.int .i64 n2), pl 12 (.int .i64 z1)] a ∧ Sep w0 B w (blk g1 3 #[.int .i64 v1] :: blk g2 3 #[.int .i64 v2] :: fs) ∧ ((magic_sum_4_J3 z1) s3).bind φ1 = some r) ?_ ?_
      · rintro a w ⟨s3, hF, hS, hm⟩
        unfold magic_sum_4_J3 at hm
        refine reg1 [] [] [0, 1, 2, 7, 11, 12] [pl 0 (.slice A1 l1.length c1), pl 1 (.int .i64 n2), pl 2 (.func (.func 251) #[] #[.pointer (some ⟨g1, 0, none⟩), .pointer (some ⟨g2, 0, none⟩)]), pl 7 (.int .i64 s3), pl 11 (.int .i64 n2), pl 12 (.int .i64 (w64 (z1 + 1)))] hF hS Fol (by kernel_rfl) (by kernel_rfl) (by kernel_rfl) ?_ (fun a w hF hS => ?_)
        · exact obs_nil
        refine then_n ?_
        rw [← hφ1] at hm
        exact ⟨(s3, (w64 (z1 + 1))), ⟨hF.weak [0, 1, 2, 7, 11, 12] (by kernel_rfl), hS⟩, hm⟩
      · refine wpIn_block ?_
        refine reg [] [] [0, 1, 2, 7, 8, 11, 12] [pl 0 (.slice A1 l1.length c1), pl 1 (.int .i64 n2), pl 2 (.func (.func 251) #[] #[.pointer (some ⟨g1, 0, none⟩), .pointer (some ⟨g2, 0, none⟩)]), pl 7 (.int .i64 s1), pl 8 (.int .i64 z1), pl 11 (.int .i64 n2), pl 12 (.int .i64 z1)] hF hS Fol (by kernel_rfl) (by kernel_rfl) (by kernel_rfl) ?_ (fun a w hF hS => ?_)
        · exact obs_nil
        obtain ⟨r1, hr1, hm⟩ := call_b hm
        refine reg [⟨false, [], callFunc 251 #[.int .i64 z1, .pointer (some ⟨g1, 0, none⟩), .pointer (some ⟨g2, 0, none⟩)], .tuple #[.int .i64 r1.1, .int .i64 r1.2]⟩] [none, none, some (.tuple #[.int .i64 r1.1, .int .i64 r1.2]), none, none, none, none, none] [0, 1, 2, 7, 9, 10, 11, 12] [pl 0 (.slice A1 l1.length c1), pl 1 (.int .i64 n2), pl 2 (.func (.func 251) #[] #[.pointer (some ⟨g1, 0, none⟩), .pointer (some ⟨g2, 0, none⟩)]), pl 7 (.int .i64 s1), pl 9 (.int .i64 r1.1), pl 10 (.int .i64 r1.2), pl 11 (.int .i64 n2), pl 12 (.int .i64 z1)] hF hS Fol (by kernel_rfl) (by kernel_rfl) (by kernel_rfl) ?_ (fun a w hF hS => ?_)
        · exact obs_cons (ob_call Try.func251 (by kernel_rfl) rfl (fun _ _ hS => magic_up_1_1_w hr1 hS )) <| obs_nil
        obtain ⟨hp1, hm⟩ := asrt_b hm
        obtain ⟨hp2, hm⟩ := asrt_b hm
        obtain ⟨hp3, hm⟩ := asrt_b hm
        refine reg1 [⟨true, [], vS (Op.intDiv .rem .i64 r1.2 n2), .int .i64 (Int.tmod r1.2 n2)⟩, ⟨true, [], vS (Op.intDiv .rem .i64 r1.1 n2), .int .i64 (Int.tmod r1.1 n2)⟩, ⟨true, [], vS (Instr.indexAt 22 (.slice A1 l1.length c1) (.int .i64 (w64 ((w64 ((Int.tmod r1.2 n2) * n2)) + (Int.tmod r1.1 n2))))), .pointer (some (sAddr A1 (w64 ((w64 ((Int.tmod r1.2 n2) * n2)) + (Int.tmod r1.1 n2)))))⟩, ⟨false, [], vS (Instr.loadAt 3 (.pointer (some (sAddr A1 (w64 ((w64 ((Int.tmod r1.2 n2) * n2)) + (Int.tmod r1.1 n2))))))), .int .i64 (geti l1 (w64 ((w64 ((Int.tmod r1.2 n2) * n2)) + (Int.tmod r1.1 n2))))⟩] [none, none, none, none, some (.int .i64 (Int.tmod r1.2 n2)), none, none, none, none, some (.int .i64 (Int.tmod r1.1 n2)), none, some (.pointer (some (sAddr A1 (w64 ((w64 ((Int.tmod r1.2 n2) * n2)) + (Int.tmod r1.1 n2)))))), some (.int .i64 (geti l1 (w64 ((w64 ((Int.tmod r1.2 n2) * n2)) + (Int.tmod r1.1 n2))))), none, none] [0, 1, 2, 7, 11, 12] [pl 0 (.slice A1 l1.length c1), pl 1 (.int .i64 n2), pl 2 (.func (.func 251) #[] #[.pointer (some ⟨g1, 0, none⟩), .pointer (some ⟨g2, 0, none⟩)]), pl 7 (.int .i64 (w64 (s1 + (geti l1 (w64 ((w64 ((Int.tmod r1.2 n2) * n2)) + (Int.tmod r1.1 n2))))))), pl 11 (.int .i64 n2), pl 12 (.int .i64 z1)] hF hS Fol (by kernel_rfl) (by kernel_rfl) (by kernel_rfl) ?_ (fun a w hF hS => ?_)
        · exact obs_cons (ob_rem rfl (fun _ => hp1)) <| obs_cons (ob_rem rfl (fun _ => hp2)) <| obs_cons (ob_ix1 (f := (Value.int .i64)) (m := l1) Und22 hi3 hs3 (hr_l1 _ (hS.dropN 2)) rfl (fun _ => hp3)) <| obs_cons (ob_get1 (n := l1.length) (m := l1) (Value.int .i64) (0 : Int) Agg3 (fun _ hS => ⟨_, (hr_l1 _ (hS.dropN 2))⟩) (fun _ hS => rfl) (fun _ => hp3)) <| obs_nil
        refine block_n ?_
        refine then_n ?_
        exact ⟨(w64 (s1 + (geti l1 (w64 ((w64 ((Int.tmod r1.2 n2) * n2)) + (Int.tmod r1.1 n2)))))), hF.weak [0, 1, 2, 7, 11, 12] (by kernel_rfl), hS, hm⟩
    · refine cond_ev (t := 13) (b := decide (z1 < n2)) hF (by kernel_rfl) (fun hb => ?_) (fun hb => ?_)
      · replace hm := if_t hm hb
        refine wpIn_skip ?_
        refine then_n ?_
        exact ⟨hF.weak [0, 1, 2, 7, 11, 12] (by kernel_rfl), hS, hm⟩
      · replace hm := if_f hm hb
        refine wpIn_exit ?_
        refine then_e (then_e (block_e (then_n ?_)))
        rw [← hφ1] at hm
        replace hm := done_b hm
        unfold magic_sum_4_K1 at hm
        try dsimp only at hm
        have hm : (magic_sum_4_J1 s1).bind some = some r := hm
        exact ⟨s1, hF.weak [7] (by kernel_rfl), hS, hm⟩

noncomputable def magic_alike_4_J3  (z1 : Int) : Option (St Int (Fl Unit Bool)) :=
  some (.next (w64 (z1 + 1)))

noncomputable def magic_alike_4_J2  (l1 : List Int) (n2 : Int) (want1 : Int) (v1 : Int) (z1 : Int) : Option (St Int (Fl Unit Bool)) :=
  (magic_up_1_m z1 v1).bind fun r1 => (magic_sum_4_m l1 n2 r1 v1).bind fun r2 => if (r2 != want1) then (some (.done (.ret false))) else ((magic_alike_4_J3 z1))

noncomputable def magic_alike_4_J1  : Option Bool :=
  some true

noncomputable def magic_alike_4_K1  : (Fl Unit Bool) → Option Bool :=
  fun (x : (Fl Unit Bool)) => match x with | .go _ => magic_alike_4_J1 | .ret x => some x

noncomputable def magic_alike_4_L1  (l1 : List Int) (n2 : Int) (want1 : Int) (v1 : Int) : Int → Option (St Int (Fl Unit Bool)) :=
  fun (x : Int) => match x with | z1 => if (decide (z1 < n2)) then ((magic_alike_4_J2 l1 n2 want1 v1 z1)) else (some (.done (.go ())))

noncomputable def magic_alike_4_m  (l1 : List Int) (n2 : Int) (want1 : Int) (v1 : Int) : Option Bool :=
  (loop (magic_alike_4_L1 l1 n2 want1 v1) 0).bind magic_alike_4_K1

set_option maxRecDepth 100000 in
set_option maxHeartbeats 4000000 in
theorem magic_alike_4_w  {A1 : Option Addr} {c1 : Nat} {n1 : Nat} {l1 : List Int} {n2 : Int} {want1 : Int} {g1 : Nat} {v1 : Int} {r : Bool} {w0 w : World} {B : Nat} {fs : List HP} (hm : magic_alike_4_m l1 n2 want1 v1 = some r) (hS : Sep w0 B w (blk g1 3 #[.int .i64 v1] :: fs)) (hr_l1 : RdF w0 B fs A1 (vI l1)) (_hc_l1 : l1.length ≤ c1) (_hn_l1 : n1 = l1.length) :
    Calls Try.prog 206 #[.slice A1 n1 c1, .int .i64 n2, .int .i64 want1, .func (.func 250) #[] #[.pointer (some ⟨g1, 0, none⟩)]] w fun e w' => e = .returned (.bool r) ∧ Sep w0 B w' (blk g1 3 #[.int .i64 v1] :: fs) := by
  obtain ⟨i3, hi3, hz3, hs3, hb3⟩ := info_parts Info3
  obtain rfl := _hn_l1
  unfold magic_alike_4_m at hm
  replace hm := start_b hm
  refine enter (l := [.slice A1 l1.length c1, .int .i64 n2, .int .i64 want1, .func (.func 250) #[] #[.pointer (some ⟨g1, 0, none⟩)]]) (n := 23) Try.func206 rfl rfl (by simp) (fun a hF => ?_)
  refine reg [] [] [0, 1, 2, 3] [pl 0 (.slice A1 l1.length c1), pl 1 (.int .i64 n2), pl 2 (.int .i64 want1), pl 3 (.func (.func 250) #[] #[.pointer (some ⟨g1, 0, none⟩)])] hF hS Fol (by kernel_rfl) (by kernel_rfl) (by kernel_rfl) ?_ (fun a w hF hS => ?_)
  · exact obs_nil
  refine seq_cut (fun a w => Fr 23 [] a ∧ Sep w0 B w (blk g1 3 #[.int .i64 v1] :: fs) ∧ (magic_alike_4_J1).bind some = some r) ?_ ?_
  · rintro a w ⟨hF, hS, hm⟩
    unfold magic_alike_4_J1 at hm
    refine reg [] [] [8] [pl 8 (.bool true)] hF hS Fol (by kernel_rfl) (by kernel_rfl) (by kernel_rfl) ?_ (fun a w hF hS => ?_)
    · exact obs_nil
    refine wpIn_ret ?_
    have hm : some true = some r := hm
    obtain rfl := Option.some.inj hm
    exact retV (rs := [.tmp 8]) (vs := [.bool true]) hF rfl (rv_t (by kernel_rfl) <| rv_nil) rfl ⟨rfl, hS⟩
  · refine reg [] [] [0, 1, 2, 3, 10, 11] [pl 0 (.slice A1 l1.length c1), pl 1 (.int .i64 n2), pl 2 (.int .i64 want1), pl 3 (.func (.func 250) #[] #[.pointer (some ⟨g1, 0, none⟩)]), pl 10 (.int .i64 n2), pl 11 (.int .i64 0)] hF hS Fol (by kernel_rfl) (by kernel_rfl) (by kernel_rfl) ?_ (fun a w hF hS => ?_)
    · exact obs_nil
    refine wpIn_block ?_
    refine wp_loop_model (S := Int) (R := (Fl Unit Bool)) (magic_alike_4_L1 l1 n2 want1 v1) (fun x => (magic_alike_4_K1 x).bind some) r (fun (x : Int) a w => Fr 23 [pl 0 (.slice A1 l1.length c1), pl 1 (.int .i64 n2), pl 2 (.int .i64 want1), pl 3 (.func (.func 250) #[] #[.pointer (some ⟨g1, 0, none⟩)]), pl 10 (.int .i64 n2), pl 11 (.int .i64 x)] a ∧ Sep w0 B w (blk g1 3 #[.int .i64 v1] :: fs)) (assoc_b hm) ⟨hF.weak [0, 1, 2, 3, 10, 11] (by kernel_rfl), hS⟩ ?_
    clear hF hS hm
    rintro nn1 z1 a w ⟨hF, hS⟩ hm
    generalize hφ1 : stK (magic_alike_4_L1 l1 n2 want1 v1) nn1 (fun x => (magic_alike_4_K1 x).bind some) = φ1 at hm
    unfold magic_alike_4_L1 at hm
    dsimp only at hm
    refine reg [] [] [0, 1, 2, 3, 10, 11, 12] [pl 0 (.slice A1 l1.length c1), pl 1 (.int .i64 n2), pl 2 (.int .i64 want1), pl 3 (.func (.func 250) #[] #[.pointer (some ⟨g1, 0, none⟩)]), pl 10 (.int .i64 n2), pl 11 (.int .i64 z1), pl 12 (.bool (decide (z1 < n2)))] hF hS Fol (by kernel_rfl) (by kernel_rfl) (by kernel_rfl) ?_ (fun a w hF hS => ?_)
    · exact obs_nil
    refine seq_cut (fun a w => Fr 23 [pl 0 (.slice A1 l1.length c1), pl 1 (.int .i64 n2), pl 2 (.int .i64 want1), pl 3 (.func (.func 250) #[] #[.pointer (some ⟨g1, 0, none⟩)]), pl 10 (.int .i64 n2), pl 11 (.int .i64 z1)] a ∧ Sep w0 B w (blk g1 3 #[.int .i64 v1] :: fs) ∧ ((magic_alike_4_J2 l1 n2 want1 v1 z1)).bind φ1 = some r) ?_ ?_
    · rintro a w ⟨hF, hS, hm⟩
      unfold magic_alike_4_J2 at hm
      refine seq_cut (fun a w => Fr 23 [pl 0 (.slice A1 l1.length c1), pl 1 (.int .i64 n2), pl 2 (.int .i64 want1), pl 3 (.func (.func 250) #[] #[.pointer (some ⟨g1, 0, none⟩)]), pl 10 (.int .i64 n2), pl 11 (.int .i64 z1)] a ∧ Sep w0 B w (blk g1 3 #[.int .i64 v1] :: fs) ∧ ((magic_alike_4_J3 z1)).bind φ1 = some r) ?_ ?_
      · rintro a w ⟨hF, hS, hm⟩
        unfold magic_alike_4_J3 at hm
        refine reg1 [] [] [0, 1, 2, 3, 10, 11] [pl 0 (.slice A1 l1.length c1), pl 1 (.int .i64 n2), pl 2 (.int .i64 want1), pl 3 (.func (.func 250) #[] #[.pointer (some ⟨g1, 0, none⟩)]), pl 10 (.int .i64 n2), pl 11 (.int .i64 (w64 (z1 + 1)))] hF hS Fol (by kernel_rfl) (by kernel_rfl) (by kernel_rfl) ?_ (fun a w hF hS => ?_)
        · exact obs_nil
        refine then_n ?_
        rw [← hφ1] at hm
        exact ⟨(w64 (z1 + 1)), ⟨hF.weak [0, 1, 2, 3, 10, 11] (by kernel_rfl), hS⟩, hm⟩
      · refine wpIn_block ?_
        refine reg [] [] [0, 1, 2, 3, 9, 10, 11] [pl 0 (.slice A1 l1.length c1), pl 1 (.int .i64 n2), pl 2 (.int .i64 want1), pl 3 (.func (.func 250) #[] #[.pointer (some ⟨g1, 0, none⟩)]), pl 9 (.int .i64 z1), pl 10 (.int .i64 n2), pl 11 (.int .i64 z1)] hF hS Fol (by kernel_rfl) (by kernel_rfl) (by kernel_rfl) ?_ (fun a w hF hS => ?_)
        · exact obs_nil
        refine seqR ?_
        obtain ⟨r1, hr1, hm⟩ := call_b hm
        obtain ⟨r2, hr2, hm⟩ := call_b hm
        refine at_run 4 [] [] [0, 1, 2, 3, 10, 11, 14, 15, 16, 17] [pl 0 (.slice A1 l1.length c1), pl 1 (.int .i64 n2), pl 2 (.int .i64 want1), pl 3 (.func (.func 250) #[] #[.pointer (some ⟨g1, 0, none⟩)]), pl 10 (.int .i64 n2), pl 11 (.int .i64 z1), pl 14 (.slice A1 l1.length c1), pl 15 (.int .i64 n2), pl 16 (.func (.func 250) #[] #[.pointer (some ⟨g1, 0, none⟩)]), pl 17 (.int .i64 z1)] hF hS (by kernel_rfl) (by kernel_rfl) ?_ (fun a w hF hS => ?_)
        · exact obs_nil
        refine at_call (f := 250) (args := #[.int .i64 z1, .pointer (some ⟨g1, 0, none⟩)]) (d := 18) hF (by kernel_rfl) (by kernel_rfl) Try.func250 (by kernel_rfl) rfl (magic_up_1_w hr1 hS ) (fun v a w hR hF => ?_)
        clear hS
        obtain ⟨g2, rfl, hS⟩ := hR
        have hS : Sep w0 B w (blk g1 3 #[.int .i64 v1] :: blk g2 3 #[.int .i64 r1] :: fs) := hS
        refine at_run 3 [⟨false, [], callFunc 204 #[.slice A1 l1.length c1, .int .i64 n2, .func (.func 251) #[] #[.pointer (some ⟨g2, 0, none⟩), .pointer (some ⟨g1, 0, none⟩)]], .int .i64 r2⟩] [some (.int .i64 r2), none, none] [0, 1, 2, 3, 10, 11, 21] [pl 0 (.slice A1 l1.length c1), pl 1 (.int .i64 n2), pl 2 (.int .i64 want1), pl 3 (.func (.func 250) #[] #[.pointer (some ⟨g1, 0, none⟩)]), pl 10 (.int .i64 n2), pl 11 (.int .i64 z1), pl 21 (.bool (r2 != want1))] hF hS (by kernel_rfl) (by kernel_rfl) ?_ (fun a w hF hS => ?_)
        · exact obs_cons (ob_call Try.func204 (by kernel_rfl) rfl (fun _ _ hS => quiet_pick hS 2 [1, 0] (by decide) [1, 0] (by decide) (qs := (blk g2 3 #[.int .i64 r1] :: blk g1 3 #[.int .i64 v1] :: fs)) rfl (fun hS => magic_sum_4_w hr2 hS (fun _ hS => (hr_l1 _ (hS.dropN 0))) _hc_l1 rfl) 2 rfl)) <| obs_nil
        refine at_end [0, 1, 2, 3, 10, 11, 21] [pl 0 (.slice A1 l1.length c1), pl 1 (.int .i64 n2), pl 2 (.int .i64 want1), pl 3 (.func (.func 250) #[] #[.pointer (some ⟨g1, 0, none⟩)]), pl 10 (.int .i64 n2), pl 11 (.int .i64 z1), pl 21 (.bool (r2 != want1))] hF rfl (by kernel_rfl) (fun hF => ?_)
        refine then_n ?_
        refine cond_ev (t := 21) (b := (r2 != want1)) hF (by kernel_rfl) (fun hb => ?_) (fun hb => ?_)
        · replace hm := if_t hm hb
          refine reg [] [] [8] [pl 8 (.bool false)] hF hS Fol (by kernel_rfl) (by kernel_rfl) (by kernel_rfl) ?_ (fun a w hF hS => ?_)
          · exact obs_nil
          refine wpIn_ret ?_
          refine block_r (then_r (then_r (block_r (then_r ?_))))
          rw [← hφ1] at hm
          replace hm := done_b hm
          unfold magic_alike_4_K1 at hm
          try dsimp only at hm
          have hS := hS.pickN 2 [0] (by decide)
          have hm : some false = some r := hm
          obtain rfl := Option.some.inj hm
          exact retV (rs := [.tmp 8]) (vs := [.bool false]) hF rfl (rv_t (by kernel_rfl) <| rv_nil) rfl ⟨rfl, hS⟩
        · replace hm := if_f hm hb
          refine wpIn_skip ?_
          refine block_n ?_
          refine then_n ?_
          have hS := hS.pickN 2 [0] (by decide)
          exact ⟨hF.weak [0, 1, 2, 3, 10, 11] (by kernel_rfl), hS, hm⟩
    · refine cond_ev (t := 12) (b := decide (z1 < n2)) hF (by kernel_rfl) (fun hb => ?_) (fun hb => ?_)
      · replace hm := if_t hm hb
        refine wpIn_skip ?_
        refine then_n ?_
        exact ⟨hF.weak [0, 1, 2, 3, 10, 11] (by kernel_rfl), hS, hm⟩
      · replace hm := if_f hm hb
        refine wpIn_exit ?_
        refine then_e (then_e (block_e (then_n ?_)))
        rw [← hφ1] at hm
        replace hm := done_b hm
        unfold magic_alike_4_K1 at hm
        try dsimp only at hm
        have hm : (magic_alike_4_J1).bind some = some r := hm
        exact ⟨hF.weak [] (by kernel_rfl), hS, hm⟩

noncomputable def magic_kind_J3  (r2 : Int) : Option (Int × Int) :=
  some (1, r2)

noncomputable def magic_kind_J4  (r2 : Int) (z2 : Bool) : Option (Int × Int) :=
  if z2 then (some (2, r2)) else ((magic_kind_J3 r2))

noncomputable def magic_kind_J1  (r2 : Int) : Option (Int × Int) :=
  some (3, r2)

noncomputable def magic_kind_J2  (l1 : List Int) (n2 : Int) (r2 : Int) (z1 : Bool) : Option (Int × Int) :=
  if z1 then ((magic_down_m 0).bind fun r8 => (magic_sum_3_m l1 n2 r8).bind fun r9 => if (r9 == r2) then ((magic_up_m n2).bind fun r10 => (magic_up_1_m 0 r10).bind fun r11 => ((if (r9 == r2) then magic_sum_4_m l1 n2 r11 r10 else some 0)).bind fun r12 => (magic_kind_J4 r2) ((r9 == r2) && (r12 == r2))) else ((magic_kind_J4 r2) ((r9 == r2) && ((0 : Int) == r2)))) else ((magic_kind_J1 r2))

noncomputable def magic_kind_m  (l1 : List Int) (n2 : Int) : Option (Int × Int) :=
  (magic_row_m 0).bind fun r1 => (magic_sum_m l1 n2 r1).bind fun r2 => (magic_alike_m l1 n2 r2).bind fun r3 => ((if (!(!r3)) then magic_alike_2_m l1 n2 r2 else some false)).bind fun r4 => if ((!r3) || (!r4)) then (some (0, 0)) else ((magic_alike_3_m l1 n2 r2).bind fun r5 => if (!r5) then ((magic_kind_J2 l1 n2 r2) ((!r5) || true)) else ((magic_up_m n2).bind fun r6 => ((if (!(!r5)) then magic_alike_4_m l1 n2 r2 r6 else some false)).bind fun r7 => (magic_kind_J2 l1 n2 r2) ((!r5) || (!r7))))

set_option maxRecDepth 100000 in
set_option maxHeartbeats 4000000 in
theorem magic_kind_w  {A1 : Option Addr} {c1 : Nat} {n1 : Nat} {l1 : List Int} {n2 : Int} {r : (Int × Int)} {w0 w : World} {B : Nat} {fs : List HP} (hm : magic_kind_m l1 n2 = some r) (hS : Sep w0 B w (fs)) (hr_l1 : RdF w0 B fs A1 (vI l1)) (_hc_l1 : l1.length ≤ c1) (_hn_l1 : n1 = l1.length) :
    Calls Try.prog 131 #[.slice A1 n1 c1, .int .i64 n2] w fun e w' => e = .returned (.tuple #[.int .i64 r.1, .int .i64 r.2]) ∧ Sep w0 B w' (fs) := by
  obtain ⟨i3, hi3, hz3, hs3, hb3⟩ := info_parts Info3
  obtain rfl := _hn_l1
  unfold magic_kind_m at hm
  replace hm := start_b hm
  refine enter (l := [.slice A1 l1.length c1, .int .i64 n2]) (n := 58) Try.func131 rfl rfl (by simp) (fun a hF => ?_)
  refine reg [] [] [0, 1] [pl 0 (.slice A1 l1.length c1), pl 1 (.int .i64 n2)] hF hS Fol (by kernel_rfl) (by kernel_rfl) (by kernel_rfl) ?_ (fun a w hF hS => ?_)
  · exact obs_nil
  refine seqR ?_
  obtain ⟨r1, hr1, hm⟩ := call_b hm
  obtain ⟨r2, hr2, hm⟩ := call_b hm
  refine at_run 2 [] [] [0, 1, 7, 8] [pl 0 (.slice A1 l1.length c1), pl 1 (.int .i64 n2), pl 7 (.slice A1 l1.length c1), pl 8 (.int .i64 n2)] hF hS (by kernel_rfl) (by kernel_rfl) ?_ (fun a w hF hS => ?_)
  · exact obs_nil
  refine at_call (f := 205) (args := #[.int .i64 0]) (d := 9) hF (by kernel_rfl) (by kernel_rfl) Try.func205 (by kernel_rfl) rfl (magic_row_w hr1 hS ) (fun v a w hR hF => ?_)
  clear hS
  obtain ⟨g1, rfl, hS⟩ := hR
  have hS : Sep w0 B w (blk g1 3 #[.int .i64 r1] :: fs) := hS
  refine at_run 2 [⟨false, [], callFunc 204 #[.slice A1 l1.length c1, .int .i64 n2, .func (.func 247) #[] #[.pointer (some ⟨g1, 0, none⟩)]], .int .i64 r2⟩] [some (.int .i64 r2), none] [0, 1, 6] [pl 0 (.slice A1 l1.length c1), pl 1 (.int .i64 n2), pl 6 (.int .i64 r2)] hF hS (by kernel_rfl) (by kernel_rfl) ?_ (fun a w hF hS => ?_)
  · exact obs_cons (ob_call Try.func204 (by kernel_rfl) rfl (fun _ _ hS => magic_sum_w hr2 hS (fun _ hS => (hr_l1 _ (hS.dropN 0))) _hc_l1 rfl)) <| obs_nil
  refine at_end [0, 1, 6] [pl 0 (.slice A1 l1.length c1), pl 1 (.int .i64 n2), pl 6 (.int .i64 r2)] hF rfl (by kernel_rfl) (fun hF => ?_)
  refine then_n ?_
  refine seq_cut (fun a w => Fr 58 [pl 6 (.int .i64 r2)] a ∧ Sep w0 B w (fs) ∧ ((magic_kind_J1 r2)).bind some = some r) ?_ ?_
  · rintro a w ⟨hF, hS, hm⟩
    unfold magic_kind_J1 at hm
    refine reg [] [] [4, 5] [pl 4 (.int .i64 3), pl 5 (.int .i64 r2)] hF hS Fol (by kernel_rfl) (by kernel_rfl) (by kernel_rfl) ?_ (fun a w hF hS => ?_)
    · exact obs_nil
    refine wpIn_ret ?_
    have hm : some (3, r2) = some r := hm
    obtain rfl := Option.some.inj hm
    exact retV (rs := [.tmp 4, .tmp 5]) (vs := [.int .i64 3, .int .i64 r2]) hF rfl (rv_t (by kernel_rfl) <| rv_t (by kernel_rfl) <| rv_nil) rfl ⟨rfl, hS⟩
  · refine wpIn_block ?_
    obtain ⟨r3, hr3, hm⟩ := call_b hm
    obtain ⟨r4, hr4, hm⟩ := call_b hm
    refine reg [⟨false, [], callFunc 206 #[.slice A1 l1.length c1, .int .i64 n2, .int .i64 r2, .func (.func 205) #[] #[]], .bool r3⟩, ⟨false, [(!r3, false)], callFunc 206 #[.slice A1 l1.length c1, .int .i64 n2, .int .i64 r2, .func (.func 207) #[] #[]], .bool r4⟩] [none, none, none, some (.bool r3), none, none, none, none, none, some (.bool r4), none, none, none] [0, 1, 6, 11] [pl 0 (.slice A1 l1.length c1), pl 1 (.int .i64 n2), pl 6 (.int .i64 r2), pl 11 (.bool ((!r3) || (!r4)))] hF hS Fol (by kernel_rfl) (by kernel_rfl) (by kernel_rfl) ?_ (fun a w hF hS => ?_)
    · exact obs_cons (ob_call Try.func206 (by kernel_rfl) rfl (fun _ _ hS => magic_alike_w hr3 hS (fun _ hS => (hr_l1 _ (hS.dropN 1))) _hc_l1 rfl)) <| obs_cons (ob_call Try.func206 (by kernel_rfl) rfl (fun hy _ hS => magic_alike_2_w (ite_some hr4 (by rw [show (!r3) = false from hy (!r3, false) (by simp)]; try rfl)) hS (fun _ hS => (hr_l1 _ (hS.dropN 1))) _hc_l1 rfl)) <| obs_nil
    refine cond_ev (t := 11) (b := (!r3) || (!r4)) hF (by kernel_rfl) (fun hb => ?_) (fun hb => ?_)
    · replace hm := if_t hm hb
      refine reg [] [] [4, 5] [pl 4 (.int .i64 0), pl 5 (.int .i64 0)] hF hS Fol (by kernel_rfl) (by kernel_rfl) (by kernel_rfl) ?_ (fun a w hF hS => ?_)
      · exact obs_nil
      refine wpIn_ret ?_
      refine block_r (then_r ?_)
      have hS := hS.pickN 1 [] (by decide)
      have hm : some (0, 0) = some r := hm
      obtain rfl := Option.some.inj hm
      exact retV (rs := [.tmp 4, .tmp 5]) (vs := [.int .i64 0, .int .i64 0]) hF rfl (rv_t (by kernel_rfl) <| rv_t (by kernel_rfl) <| rv_nil) rfl ⟨rfl, hS⟩
    · replace hm := if_f hm hb
      refine seq_cut (fun a w => ∃ (z1 : Bool), Fr 58 [pl 0 (.slice A1 l1.length c1), pl 1 (.int .i64 n2), pl 6 (.int .i64 r2), pl 24 (.bool z1)] a ∧ Sep w0 B w (fs) ∧ ((magic_kind_J2 l1 n2 r2) z1).bind some = some r) ?_ ?_
      · rintro a w ⟨z1, hF, hS, hm⟩
        unfold magic_kind_J2 at hm
        refine cond_ev (t := 24) (b := z1) hF (by kernel_rfl) (fun hb => ?_) (fun hb => ?_)
        · replace hm := if_t hm hb
          refine seq_cut (fun a w => Fr 58 [pl 6 (.int .i64 r2)] a ∧ Sep w0 B w (fs) ∧ ((magic_kind_J3 r2)).bind some = some r) ?_ ?_
          · rintro a w ⟨hF, hS, hm⟩
            unfold magic_kind_J3 at hm
            refine reg [] [] [4, 5] [pl 4 (.int .i64 1), pl 5 (.int .i64 r2)] hF hS Fol (by kernel_rfl) (by kernel_rfl) (by kernel_rfl) ?_ (fun a w hF hS => ?_)
            · exact obs_nil
            refine wpIn_ret ?_
            refine block_r (then_r ?_)
            have hm : some (1, r2) = some r := hm
            obtain rfl := Option.some.inj hm
            exact retV (rs := [.tmp 4, .tmp 5]) (vs := [.int .i64 1, .int .i64 r2]) hF rfl (rv_t (by kernel_rfl) <| rv_t (by kernel_rfl) <| rv_nil) rfl ⟨rfl, hS⟩
          · refine seq_cut (fun a w => ∃ (z2 : Bool), Fr 58 [pl 6 (.int .i64 r2), pl 54 (.bool z2)] a ∧ Sep w0 B w (fs) ∧ ((magic_kind_J4 r2) z2).bind some = some r) ?_ ?_
            · rintro a w ⟨z2, hF, hS, hm⟩
              unfold magic_kind_J4 at hm
              refine cond_ev (t := 54) (b := z2) hF (by kernel_rfl) (fun hb => ?_) (fun hb => ?_)
              · replace hm := if_t hm hb
                refine reg [] [] [4, 5] [pl 4 (.int .i64 2), pl 5 (.int .i64 r2)] hF hS Fol (by kernel_rfl) (by kernel_rfl) (by kernel_rfl) ?_ (fun a w hF hS => ?_)
                · exact obs_nil
                refine wpIn_ret ?_
                refine then_r (block_r (then_r ?_))
                have hm : some (2, r2) = some r := hm
                obtain rfl := Option.some.inj hm
                exact retV (rs := [.tmp 4, .tmp 5]) (vs := [.int .i64 2, .int .i64 r2]) hF rfl (rv_t (by kernel_rfl) <| rv_t (by kernel_rfl) <| rv_nil) rfl ⟨rfl, hS⟩
              · replace hm := if_f hm hb
                refine wpIn_skip ?_
                refine then_n ?_
                exact ⟨hF.weak [6] (by kernel_rfl), hS, hm⟩
            · refine oneR ?_
              obtain ⟨r8, hr8, hm⟩ := call_b hm
              obtain ⟨r9, hr9, hm⟩ := call_b hm
              refine at_run 2 [] [] [0, 1, 6, 39, 40] [pl 0 (.slice A1 l1.length c1), pl 1 (.int .i64 n2), pl 6 (.int .i64 r2), pl 39 (.slice A1 l1.length c1), pl 40 (.int .i64 n2)] hF hS (by kernel_rfl) (by kernel_rfl) ?_ (fun a w hF hS => ?_)
              · exact obs_nil
              refine at_call (f := 208) (args := #[.int .i64 0]) (d := 41) hF (by kernel_rfl) (by kernel_rfl) Try.func208 (by kernel_rfl) rfl (magic_down_w hr8 hS ) (fun v a w hR hF => ?_)
              clear hS
              obtain ⟨g3, rfl, hS⟩ := hR
              have hS : Sep w0 B w (blk g3 3 #[.int .i64 r8] :: fs) := hS
              refine at_run 7 [⟨false, [], callFunc 204 #[.slice A1 l1.length c1, .int .i64 n2, .func (.func 249) #[] #[.pointer (some ⟨g3, 0, none⟩)]], .int .i64 r9⟩] [some (.int .i64 r9), none, none, none, none, none, none] [6, 45, 46, 47, 48] [pl 6 (.int .i64 r2), pl 45 (.bool (r9 == r2)), ⟨46, [(45, true)], .slice A1 l1.length c1⟩, ⟨47, [(45, true)], .int .i64 n2⟩, ⟨48, [(45, true)], .int .i64 n2⟩] hF hS (by kernel_rfl) (by kernel_rfl) ?_ (fun a w hF hS => ?_)
              · exact obs_cons (ob_call Try.func204 (by kernel_rfl) rfl (fun _ _ hS => magic_sum_3_w hr9 hS (fun _ hS => (hr_l1 _ (hS.dropN 0))) _hc_l1 rfl)) <| obs_nil
              rcases Bool.eq_false_or_eq_true (r9 == r2) with hg2 | hg2
              · replace hm := if_t hm hg2
                obtain ⟨r10, hr10, hm⟩ := call_b hm
                obtain ⟨r11, hr11, hm⟩ := call_b hm
                obtain ⟨r12, hr12, hm⟩ := call_b hm
                refine at_gcall (hs := [((r9 == r2), true)]) (fun y hy => by simp only [List.mem_cons, List.not_mem_nil, or_false] at hy; subst hy; first | exact hg2) (f := 209) (args := #[.int .i64 n2]) (d := 49) hF (by kernel_rfl) (by kernel_rfl) Try.func209 (by kernel_rfl) rfl (magic_up_w hr10 hS ) (fun v a w hR hF => ?_)
                clear hS
                obtain ⟨g4, rfl, hS⟩ := hR
                have hS : Sep w0 B w (blk g4 3 #[.int .i64 r10] :: blk g3 3 #[.int .i64 r8] :: fs) := hS
                refine at_gcall (hs := [((r9 == r2), true)]) (fun y hy => by simp only [List.mem_cons, List.not_mem_nil, or_false] at hy; subst hy; first | exact hg2) (f := 250) (args := #[.int .i64 0, .pointer (some ⟨g4, 0, none⟩)]) (d := 50) hF (by kernel_rfl) (by kernel_rfl) Try.func250 (by kernel_rfl) rfl (magic_up_1_w hr11 hS ) (fun v a w hR hF => ?_)
                clear hS
                obtain ⟨g5, rfl, hS⟩ := hR
                have hS : Sep w0 B w (blk g4 3 #[.int .i64 r10] :: blk g5 3 #[.int .i64 r11] :: blk g3 3 #[.int .i64 r8] :: fs) := hS
                refine at_run 4 [⟨false, [((r9 == r2), true)], callFunc 204 #[.slice A1 l1.length c1, .int .i64 n2, .func (.func 251) #[] #[.pointer (some ⟨g5, 0, none⟩), .pointer (some ⟨g4, 0, none⟩)]], .int .i64 r12⟩] [some (.int .i64 r12), none, none, none] [6, 54] [pl 6 (.int .i64 r2), pl 54 (.bool ((r9 == r2) && (r12 == r2)))] hF hS (by kernel_rfl) (by kernel_rfl) ?_ (fun a w hF hS => ?_)
                · exact obs_cons (ob_call Try.func204 (by kernel_rfl) rfl (fun hy _ hS => quiet_pick hS 3 [1, 0, 2] (by decide) [1, 0, 2] (by decide) (qs := (blk g5 3 #[.int .i64 r11] :: blk g4 3 #[.int .i64 r10] :: blk g3 3 #[.int .i64 r8] :: fs)) rfl (fun hS => magic_sum_4_w (ite_some hr12 (by rw [show (r9 == r2) = true from hy ((r9 == r2), true) (by simp)]; try rfl)) hS (fun _ hS => (hr_l1 _ (hS.dropN 1))) _hc_l1 rfl) 3 rfl)) <| obs_nil
                refine at_end [6, 54] [pl 6 (.int .i64 r2), pl 54 (.bool ((r9 == r2) && (r12 == r2)))] hF rfl (by kernel_rfl) (fun hF => ?_)
                refine then_n ?_
                have hS := hS.pickN 3 [] (by decide)
                exact ⟨((r9 == r2) && (r12 == r2)), hF.weak [6, 54] (by kernel_rfl), hS, hm⟩
              · replace hm := if_f hm hg2
                refine at_gskip (d := 49) (v := .nilFunc) (hs := [((r9 == r2), true)]) (ctx := [(45, true)]) hF (by kernel_rfl) (by kernel_rfl) (fun h => absurd (h ((r9 == r2), true) (by simp)) (by simp [hg2])) (fun a hF => ?_)
                refine at_gskip (d := 50) (v := .nilFunc) (hs := [((r9 == r2), true)]) (ctx := [(45, true)]) hF (by kernel_rfl) (by kernel_rfl) (fun h => absurd (h ((r9 == r2), true) (by simp)) (by simp [hg2])) (fun a hF => ?_)
                refine at_run 4 [⟨false, [((r9 == r2), true)], callFunc 204 #[.slice A1 l1.length c1, .int .i64 n2, .nilFunc], .int .i64 0⟩] [some (.int .i64 0), none, none, none] [6, 54] [pl 6 (.int .i64 r2), pl 54 (.bool ((r9 == r2) && ((0 : Int) == r2)))] hF hS (by kernel_rfl) (by kernel_rfl) ?_ (fun a w hF hS => ?_)
                · exact obs_cons (Ob.vac (fun h => absurd (h ((r9 == r2), true) (by simp)) (by simp [hg2]))) <| obs_nil
                refine at_end [6, 54] [pl 6 (.int .i64 r2), pl 54 (.bool ((r9 == r2) && ((0 : Int) == r2)))] hF rfl (by kernel_rfl) (fun hF => ?_)
                refine then_n ?_
                have hS := hS.pickN 1 [] (by decide)
                exact ⟨((r9 == r2) && ((0 : Int) == r2)), hF.weak [6, 54] (by kernel_rfl), hS, hm⟩
        · replace hm := if_f hm hb
          refine wpIn_skip ?_
          refine block_n ?_
          refine then_n ?_
          exact ⟨hF.weak [6] (by kernel_rfl), hS, hm⟩
      · refine oneR ?_
        obtain ⟨r5, hr5, hm⟩ := call_b hm
        refine at_run 10 [⟨false, [], callFunc 206 #[.slice A1 l1.length c1, .int .i64 n2, .int .i64 r2, .func (.func 208) #[] #[]], .bool r5⟩] [none, none, none, some (.bool r5), none, none, none, none, none, none] [0, 1, 6, 30, 31, 32, 33, 34] [pl 0 (.slice A1 l1.length c1), pl 1 (.int .i64 n2), pl 6 (.int .i64 r2), pl 30 (.bool (!r5)), ⟨31, [(30, false)], .slice A1 l1.length c1⟩, ⟨32, [(30, false)], .int .i64 n2⟩, ⟨33, [(30, false)], .int .i64 r2⟩, ⟨34, [(30, false)], .int .i64 n2⟩] hF hS (by kernel_rfl) (by kernel_rfl) ?_ (fun a w hF hS => ?_)
        · exact obs_cons (ob_call Try.func206 (by kernel_rfl) rfl (fun _ _ hS => magic_alike_3_w hr5 hS (fun _ hS => (hr_l1 _ (hS.dropN 1))) _hc_l1 rfl)) <| obs_nil
        rcases Bool.eq_false_or_eq_true (!r5) with hg1 | hg1
        · replace hm := if_t hm hg1
          refine at_gskip (d := 35) (v := .nilFunc) (hs := [(!r5, false)]) (ctx := [(30, false)]) hF (by kernel_rfl) (by kernel_rfl) (fun h => absurd (h (!r5, false) (by simp)) (by simp [hg1])) (fun a hF => ?_)
          refine at_run 4 [⟨false, [(!r5, false)], callFunc 206 #[.slice A1 l1.length c1, .int .i64 n2, .int .i64 r2, .nilFunc], .bool false⟩] [some (.bool false), none, none, none] [0, 1, 6, 24] [pl 0 (.slice A1 l1.length c1), pl 1 (.int .i64 n2), pl 6 (.int .i64 r2), pl 24 (.bool ((!r5) || true))] hF hS (by kernel_rfl) (by kernel_rfl) ?_ (fun a w hF hS => ?_)
          · exact obs_cons (Ob.vac (fun h => absurd (h (!r5, false) (by simp)) (by simp [hg1]))) <| obs_nil
          refine at_end [0, 1, 6, 24] [pl 0 (.slice A1 l1.length c1), pl 1 (.int .i64 n2), pl 6 (.int .i64 r2), pl 24 (.bool ((!r5) || true))] hF rfl (by kernel_rfl) (fun hF => ?_)
          refine then_n ?_
          have hS := hS.pickN 1 [] (by decide)
          exact ⟨((!r5) || true), hF.weak [0, 1, 6, 24] (by kernel_rfl), hS, hm⟩
        · replace hm := if_f hm hg1
          obtain ⟨r6, hr6, hm⟩ := call_b hm
          obtain ⟨r7, hr7, hm⟩ := call_b hm
          refine at_gcall (hs := [(!r5, false)]) (fun y hy => by simp only [List.mem_cons, List.not_mem_nil, or_false] at hy; subst hy; first | exact hg1) (f := 209) (args := #[.int .i64 n2]) (d := 35) hF (by kernel_rfl) (by kernel_rfl) Try.func209 (by kernel_rfl) rfl (magic_up_w hr6 hS ) (fun v a w hR hF => ?_)
          clear hS
          obtain ⟨g2, rfl, hS⟩ := hR
          have hS : Sep w0 B w (blk g2 3 #[.int .i64 r6] :: blk g1 3 #[.int .i64 r1] :: fs) := hS
          refine at_run 4 [⟨false, [(!r5, false)], callFunc 206 #[.slice A1 l1.length c1, .int .i64 n2, .int .i64 r2, .func (.func 250) #[] #[.pointer (some ⟨g2, 0, none⟩)]], .bool r7⟩] [some (.bool r7), none, none, none] [0, 1, 6, 24] [pl 0 (.slice A1 l1.length c1), pl 1 (.int .i64 n2), pl 6 (.int .i64 r2), pl 24 (.bool ((!r5) || (!r7)))] hF hS (by kernel_rfl) (by kernel_rfl) ?_ (fun a w hF hS => ?_)
          · exact obs_cons (ob_call Try.func206 (by kernel_rfl) rfl (fun hy _ hS => magic_alike_4_w (ite_some hr7 (by rw [show (!r5) = false from hy (!r5, false) (by simp)]; try rfl)) hS (fun _ hS => (hr_l1 _ (hS.dropN 1))) _hc_l1 rfl)) <| obs_nil
          refine at_end [0, 1, 6, 24] [pl 0 (.slice A1 l1.length c1), pl 1 (.int .i64 n2), pl 6 (.int .i64 r2), pl 24 (.bool ((!r5) || (!r7)))] hF rfl (by kernel_rfl) (fun hF => ?_)
          refine then_n ?_
          have hS := hS.pickN 2 [] (by decide)
          exact ⟨((!r5) || (!r7)), hF.weak [0, 1, 6, 24] (by kernel_rfl), hS, hm⟩

noncomputable def magic_Is_J1  (l1 : List Int) (r1 : Int) : Option (Int × Int × Int) :=
  (magic_kind_m l1 r1).bind fun r3 => some (r3.1, r3.2, 0)

noncomputable def magic_Is_m  (l1 : List Int) : Option (Int × Int × Int) :=
  (magic_side_m l1).bind fun r1 => if (r1 == 0) then (some (0, 0, 2)) else ((slices_ContainsFunc_m l1).bind fun r2 => if r2 then (some (0, 0, 3)) else ((magic_Is_J1 l1 r1)))

set_option maxRecDepth 100000 in
set_option maxHeartbeats 4000000 in
theorem magic_Is_w  {A1 : Option Addr} {c1 : Nat} {n1 : Nat} {l1 : List Int} {r : (Int × Int × Int)} {w0 w : World} {B : Nat} {fs : List HP} (hm : magic_Is_m l1 = some r) (hS : Sep w0 B w (fs)) (hr_l1 : RdF w0 B fs A1 (vI l1)) (_hc_l1 : l1.length ≤ c1) (_hn_l1 : n1 = l1.length) :
    Calls Try.prog 53 #[.slice A1 n1 c1] w fun e w' => e = .returned (.tuple #[.int .i64 r.1, .int .i64 r.2.1, .int .i64 r.2.2]) ∧ Sep w0 B w' (fs) := by
  obtain ⟨i3, hi3, hz3, hs3, hb3⟩ := info_parts Info3
  obtain rfl := _hn_l1
  unfold magic_Is_m at hm
  replace hm := start_b hm
  refine enter (l := [.slice A1 l1.length c1]) (n := 24) Try.func53 rfl rfl (by simp) (fun a hF => ?_)
  refine reg [] [] [0] [pl 0 (.slice A1 l1.length c1)] hF hS Fol (by kernel_rfl) (by kernel_rfl) (by kernel_rfl) ?_ (fun a w hF hS => ?_)
  · exact obs_nil
  obtain ⟨r1, hr1, hm⟩ := call_b hm
  refine reg [⟨false, [], callFunc 129 #[.slice A1 l1.length c1], .int .i64 r1⟩] [none, some (.int .i64 r1), none] [0, 5] [pl 0 (.slice A1 l1.length c1), pl 5 (.int .i64 r1)] hF hS Fol (by kernel_rfl) (by kernel_rfl) (by kernel_rfl) ?_ (fun a w hF hS => ?_)
  · exact obs_cons (ob_call Try.func129 (by kernel_rfl) rfl (fun _ _ hS => magic_side_w hr1 hS (fun _ hS => (hr_l1 _ (hS.dropN 0))) _hc_l1 rfl)) <| obs_nil
  refine seq_cut (fun a w => Fr 24 [pl 0 (.slice A1 l1.length c1), pl 5 (.int .i64 r1)] a ∧ Sep w0 B w (fs) ∧ ((magic_Is_J1 l1 r1)).bind some = some r) ?_ ?_
  · rintro a w ⟨hF, hS, hm⟩
    unfold magic_Is_J1 at hm
    obtain ⟨r3, hr3, hm⟩ := call_b hm
    refine reg [⟨false, [], callFunc 131 #[.slice A1 l1.length c1, .int .i64 r1], .tuple #[.int .i64 r3.1, .int .i64 r3.2]⟩] [none, none, some (.tuple #[.int .i64 r3.1, .int .i64 r3.2]), none, none, none, none, none] [6, 7] [pl 6 (.int .i64 r3.1), pl 7 (.int .i64 r3.2)] hF hS Fol (by kernel_rfl) (by kernel_rfl) (by kernel_rfl) ?_ (fun a w hF hS => ?_)
    · exact obs_cons (ob_call Try.func131 (by kernel_rfl) rfl (fun _ _ hS => magic_kind_w hr3 hS (fun _ hS => (hr_l1 _ (hS.dropN 0))) _hc_l1 rfl)) <| obs_nil
    refine reg [] [] [2, 3, 4] [pl 2 (.int .i64 r3.1), pl 3 (.int .i64 r3.2), pl 4 (.int .i64 0)] hF hS Fol (by kernel_rfl) (by kernel_rfl) (by kernel_rfl) ?_ (fun a w hF hS => ?_)
    · exact obs_nil
    refine wpIn_ret ?_
    have hm : some (r3.1, r3.2, 0) = some r := hm
    obtain rfl := Option.some.inj hm
    exact retV (rs := [.tmp 2, .tmp 3, .tmp 4]) (vs := [.int .i64 r3.1, .int .i64 r3.2, .int .i64 0]) hF rfl (rv_t (by kernel_rfl) <| rv_t (by kernel_rfl) <| rv_t (by kernel_rfl) <| rv_nil) rfl ⟨rfl, hS⟩
  · refine wpIn_block ?_
    refine reg [] [] [0, 5, 10] [pl 0 (.slice A1 l1.length c1), pl 5 (.int .i64 r1), pl 10 (.bool (r1 == 0))] hF hS Fol (by kernel_rfl) (by kernel_rfl) (by kernel_rfl) ?_ (fun a w hF hS => ?_)
    · exact obs_nil
    refine cond_ev (t := 10) (b := (r1 == 0)) hF (by kernel_rfl) (fun hb => ?_) (fun hb => ?_)
    · replace hm := if_t hm hb
      refine reg [] [] [2, 3, 4] [pl 2 (.int .i64 0), pl 3 (.int .i64 0), pl 4 (.int .i64 2)] hF hS Fol (by kernel_rfl) (by kernel_rfl) (by kernel_rfl) ?_ (fun a w hF hS => ?_)
      · exact obs_nil
      refine wpIn_ret ?_
      refine block_r (then_r ?_)
      have hm : some (0, 0, 2) = some r := hm
      obtain rfl := Option.some.inj hm
      exact retV (rs := [.tmp 2, .tmp 3, .tmp 4]) (vs := [.int .i64 0, .int .i64 0, .int .i64 2]) hF rfl (rv_t (by kernel_rfl) <| rv_t (by kernel_rfl) <| rv_t (by kernel_rfl) <| rv_nil) rfl ⟨rfl, hS⟩
    · replace hm := if_f hm hb
      obtain ⟨r2, hr2, hm⟩ := call_b hm
      refine reg [⟨false, [], callFunc 94 #[.slice A1 l1.length c1, .func (.func 130) #[] #[]], .bool r2⟩] [none, some (.bool r2), none] [0, 5, 13] [pl 0 (.slice A1 l1.length c1), pl 5 (.int .i64 r1), pl 13 (.bool r2)] hF hS Fol (by kernel_rfl) (by kernel_rfl) (by kernel_rfl) ?_ (fun a w hF hS => ?_)
      · exact obs_cons (ob_call Try.func94 (by kernel_rfl) rfl (fun _ _ hS => slices_ContainsFunc_w hr2 hS (fun _ hS => (hr_l1 _ (hS.dropN 0))) _hc_l1 rfl)) <| obs_nil
      refine cond_ev (t := 13) (b := r2) hF (by kernel_rfl) (fun hb => ?_) (fun hb => ?_)
      · replace hm := if_t hm hb
        refine reg [] [] [2, 3, 4] [pl 2 (.int .i64 0), pl 3 (.int .i64 0), pl 4 (.int .i64 3)] hF hS Fol (by kernel_rfl) (by kernel_rfl) (by kernel_rfl) ?_ (fun a w hF hS => ?_)
        · exact obs_nil
        refine wpIn_ret ?_
        refine block_r (then_r ?_)
        have hm : some (0, 0, 3) = some r := hm
        obtain rfl := Option.some.inj hm
        exact retV (rs := [.tmp 2, .tmp 3, .tmp 4]) (vs := [.int .i64 0, .int .i64 0, .int .i64 3]) hF rfl (rv_t (by kernel_rfl) <| rv_t (by kernel_rfl) <| rv_t (by kernel_rfl) <| rv_nil) rfl ⟨rfl, hS⟩
      · replace hm := if_f hm hb
        refine wpIn_skip ?_
        refine block_n ?_
        refine then_n ?_
        exact ⟨hF.weak [0, 5] (by kernel_rfl), hS, hm⟩

noncomputable def slices_Clone_J1  (s1 : List Int) : Option (List Int) :=
  asrt ((0 : Int) + (s1.length : Int) ≤ bigN) <| some (([] : List Int) ++ s1)

noncomputable def slices_Clone_m  (s1 : List Int) : Option (List Int) :=
  (slices_Clone_J1 s1)

set_option maxRecDepth 100000 in
set_option maxHeartbeats 4000000 in
theorem slices_Clone_w  {A1 : Option Addr} {c1 : Nat} {n1 : Nat} {s1 : List Int} {r : (List Int)} {w0 w : World} {B : Nat} {fs : List HP} (hm : slices_Clone_m s1 = some r) (hS : Sep w0 B w (fs)) (hr_s1 : RdF w0 B fs A1 (vI s1)) (_hc_s1 : s1.length ≤ c1) (_hn_s1 : n1 = s1.length) :
    Calls Try.prog 81 #[.slice A1 n1 c1] w fun e w' => ∃ v, e = .returned v ∧ ∃ (A3 : Option Addr) (c3 : Nat), v = .slice A3 r.length c3 ∧ Sep w0 B w' (own 3 (.slice A3 r.length c3) (vI r) :: fs) := by
  obtain ⟨i3, hi3, hz3, hs3, hb3⟩ := info_parts Info3
  obtain rfl := _hn_s1
  unfold slices_Clone_m at hm
  replace hm := start_b hm
  refine enter (l := [.slice A1 s1.length c1]) (n := 8) Try.func81 rfl rfl (by simp) (fun a hF => ?_)
  refine reg [] [] [0] [pl 0 (.slice A1 s1.length c1)] hF hS Fol (by kernel_rfl) (by kernel_rfl) (by kernel_rfl) ?_ (fun a w hF hS => ?_)
  · exact obs_nil
  refine seq_cut (fun a w => Fr 8 [pl 0 (.slice A1 s1.length c1)] a ∧ Sep w0 B w (fs) ∧ ((slices_Clone_J1 s1)).bind some = some r) ?_ ?_
  · rintro a w ⟨hF, hS, hm⟩
    unfold slices_Clone_J1 at hm
    refine seqR ?_
    obtain ⟨hp1, hm⟩ := asrt_b hm
    refine at_do (d := 5) (s := vS (Instr.buildSlice 22 0 #[])) (v := .slice (some ⟨w.heap.size, 0, none⟩) 0 0) (w' := w.alloc (.cells #[] 3)) hF (by kernel_rfl) (by kernel_rfl) (by kernel_rfl) (fun a hF => ?_)
    have hS : Sep w0 B (w.alloc (.cells #[] 3)) (own 3 (.slice (some (⟨w.heap.size, 0, none⟩ : Addr)) 0 0) (vI ([] : List Int)) :: (fs)) := hS.lit 3 #[] 0 rfl (by omega)
    generalize (some (⟨w.heap.size, 0, none⟩ : Addr)) = g1 at hF hS
    generalize w.alloc (.cells #[] 3) = w at hS ⊢
    refine at_run 1 [] [] [5, 6] [pl 5 (.slice g1 0 0), pl 6 (.slice A1 s1.length c1)] hF hS (by kernel_rfl) (by kernel_rfl) ?_ (fun a w hF hS => ?_)
    · exact obs_nil
    obtain ⟨A2, c2, w, hrun, hS⟩ := run_app1 (P := Try.prog) (t := 22) (m := ([] : List Int)) (ys := s1) (A2 := A1) (m2 := s1.length) (c2 := c1) (Value.int .i64) (0 : Int) (hS.at_ 0 rfl) (hr_s1 _ (hS.dropN 1)) rfl 22 Und22 hi3 hz3 hs3 (by omega) rfl (fun _ => rfl) hp1
    have hS : Sep w0 B w (own 3 (.slice A2 ((([] : List Int) ++ s1).length) c2) (vI (([] : List Int) ++ s1)) :: fs) := hS
    refine at_do (d := 7) hF (by kernel_rfl) (by kernel_rfl) hrun (fun a hF => ?_)
    refine at_run 1 [] [] [2] [pl 2 (.slice A2 ((([] : List Int) ++ s1).length) c2)] hF hS (by kernel_rfl) (by kernel_rfl) ?_ (fun a w hF hS => ?_)
    · exact obs_nil
    refine at_end [2] [pl 2 (.slice A2 ((([] : List Int) ++ s1).length) c2)] hF rfl (by kernel_rfl) (fun hF => ?_)
    refine then_n ?_
    refine wpIn_ret ?_
    have hm : some (([] : List Int) ++ s1) = some r := hm
    obtain rfl := Option.some.inj hm
    exact retV (rs := [.tmp 2]) (vs := [.slice A2 ((([] : List Int) ++ s1).length) c2]) hF rfl (rv_t (by kernel_rfl) <| rv_nil) rfl ⟨_, rfl, A2, c2, rfl, hS⟩
  · refine reg [⟨true, [], vS (binOp .eql 22 (.slice A1 s1.length c1) (.slice none 0 0)), .bool A1.isNone⟩] [none, some (.bool A1.isNone)] [0, 4] [pl 0 (.slice A1 s1.length c1), pl 4 (.bool A1.isNone)] hF hS Fol (by kernel_rfl) (by kernel_rfl) (by kernel_rfl) ?_ (fun a w hF hS => ?_)
    · exact obs_cons (ob_isnil Und22 rfl) <| obs_nil
    refine cond_ev (t := 4) (b := A1.isNone) hF (by kernel_rfl) (fun hb => ?_) (fun hb => ?_)
    · have hA9 := Option.isNone_iff_eq_none.1 hb
      have hnil9 : s1 = [] := by have h9 := (hr_s1 _ (hS.dropN 0)); rw [hA9] at h9; exact h9.none_nil
      have hm : (some ([] : List Int)).bind some = some r := by rw [hnil9] at hm; simpa [asrt, bigN, slices_Clone_J1] using hm
      refine reg [] [] [2] [pl 2 (.slice none 0 0)] hF hS Fol (by kernel_rfl) (by kernel_rfl) (by kernel_rfl) ?_ (fun a w hF hS => ?_)
      · exact obs_nil
      refine wpIn_ret ?_
      refine then_r ?_
      have hS : Sep w0 B w (own 3 (.slice none 0 0) (vI ([] : List Int)) :: fs) := hS.nil 3
      have hl1 := (hS.at_ 0 rfl).len1
      have hS := (hS.at_ 0 rfl).reN hl1
      have hS : Sep w0 B w (own 3 (.slice none (([] : List Int).length) 0) (vI ([] : List Int)) :: fs) := hS
      have hm : some ([] : List Int) = some r := hm
      obtain rfl := Option.some.inj hm
      exact retV (rs := [.tmp 2]) (vs := [.slice none (([] : List Int).length) 0]) hF rfl (rv_t (by kernel_rfl) <| rv_nil) rfl ⟨_, rfl, none, 0, rfl, hS⟩
    · refine wpIn_skip ?_
      refine then_n ?_
      exact ⟨hF.weak [0] (by kernel_rfl), hS, hm⟩

noncomputable def slices_SortFunc_2_m (x1 : List (List Int)) : Option (List (List Int)) :=
  asrt ((x1.length : Int) ≤ bigN) <| some (sortK cmpL x1)

theorem slices_SortFunc_2_w {A1 : Option Addr} {c1 : Nat} {n1 : Nat} {hd1 : List Hd} {x1 : List (List Int)} {r : (List (List Int))} {w0 w : World} {B : Nat} {fs : List HP} (hm : slices_SortFunc_2_m x1 = some r) (hS : Sep w0 B w (rows 22 3 (.slice A1 n1 c1) hd1 x1 :: fs)) :
    Calls Try.prog 132 #[.slice A1 n1 c1, .func (.func 133) #[] #[]] w fun e w' => ∃ v, e = .returned v ∧ ∃ (hd2 : List Hd), v = .tuple #[] ∧ Sep w0 B w' (rows 22 3 (.slice A1 n1 c1) hd2 r :: fs) := by
  unfold slices_SortFunc_2_m at hm
  obtain ⟨hb, hm⟩ := asrt_b (start_b hm)
  obtain rfl := Option.some.inj hm
  exact sortR_own SortRL SortRE SortRC hS hb

noncomputable def slices_CompactFunc_2_m (s1 : List (List Int)) : Option (List (List Int)) :=
  asrt ((s1.length : Int) ≤ bigN) <| some (compR s1)

theorem slices_CompactFunc_2_w {A1 : Option Addr} {c1 : Nat} {n1 : Nat} {hd1 : List Hd} {s1 : List (List Int)} {r : (List (List Int))} {w0 w : World} {B : Nat} {fs : List HP} (hm : slices_CompactFunc_2_m s1 = some r) (hS : Sep w0 B w (rows 22 3 (.slice A1 n1 c1) hd1 s1 :: fs)) :
    Calls Try.prog 134 #[.slice A1 n1 c1, .func (.func 126) #[] #[]] w fun e w' => ∃ v, e = .returned v ∧ ∃ (A2 : Option Addr) (c2 : Nat) (hd2 : List Hd), v = .slice A2 r.length c2 ∧ Sep w0 B w' (rows 22 3 (.slice A2 r.length c2) hd2 r :: fs) := by
  unfold slices_CompactFunc_2_m at hm
  obtain ⟨hb, hm⟩ := asrt_b (start_b hm)
  obtain rfl := Option.some.inj hm
  exact compR_own hS hb

noncomputable def magic_Forms_J8  (r1 : Int) (now1 : List Int) (turned2 : List Int) (mirrored2 : List Int) (z2 : Int) : Option (St (List Int × List Int × Int) (List Int × List Int)) :=
  some (.next ((turned2.set (Int.toNat (w64 ((w64 ((w64 ((w64 ((Int.tmod z2 r1) * r1)) + r1)) - 1)) - (w64 (Int.tdiv z2 r1))))) (geti now1 z2)), (mirrored2.set (Int.toNat (w64 ((w64 ((w64 ((w64 ((w64 (Int.tdiv z2 r1)) * r1)) + r1)) - 1)) - (Int.tmod z2 r1)))) (geti now1 z2)), (w64 (z2 + 1))))

noncomputable def magic_Forms_J7  (r1 : Int) (now1 : List Int) (turned1 : List Int) (mirrored1 : List Int) (turned2 : List Int) (mirrored2 : List Int) (z2 : Int) : Option (St (List Int × List Int × Int) (List Int × List Int)) :=
  asrt (0 ≤ z2 ∧ z2 < (now1.length : Int)) <| asrt (r1 ≠ (0 : Int)) <| asrt (r1 ≠ (0 : Int)) <| asrt (0 ≤ (w64 ((w64 ((w64 ((w64 ((Int.tmod z2 r1) * r1)) + r1)) - 1)) - (w64 (Int.tdiv z2 r1)))) ∧ (w64 ((w64 ((w64 ((w64 ((Int.tmod z2 r1) * r1)) + r1)) - 1)) - (w64 (Int.tdiv z2 r1)))) < (turned1.length : Int)) <| asrt (0 ≤ (w64 ((w64 ((w64 ((w64 ((w64 (Int.tdiv z2 r1)) * r1)) + r1)) - 1)) - (Int.tmod z2 r1))) ∧ (w64 ((w64 ((w64 ((w64 ((w64 (Int.tdiv z2 r1)) * r1)) + r1)) - 1)) - (Int.tmod z2 r1))) < (mirrored1.length : Int)) <| (magic_Forms_J8 r1 now1 turned2 mirrored2 z2)

noncomputable def magic_Forms_J4  (z1 : Int) (out3 : List (List Int)) (now2 : List Int) : Option (St (List (List Int) × List Int × Int) (List (List Int))) :=
  some (.next (out3, now2, (w64 (z1 + 1))))

noncomputable def magic_Forms_J6  (out1 : List (List Int)) (now1 : List Int) (z1 : Int) (turned3 : List Int) (mirrored3 : List Int) : Option (St (List (List Int) × List Int × Int) (List (List Int))) :=
  asrt (((out1.length : Int) : Int) + 2 ≤ bigR) <| (magic_Forms_J4 z1) (out1 ++ [now1, mirrored3]) turned3

noncomputable def magic_Forms_K2  (out1 : List (List Int)) (now1 : List Int) (z1 : Int) : (List Int × List Int) → Option (St (List (List Int) × List Int × Int) (List (List Int))) :=
  fun (x : (List Int × List Int)) => match x with | (turned3, mirrored3) => (magic_Forms_J6 out1 now1 z1) turned3 mirrored3

noncomputable def magic_Forms_L2  (r1 : Int) (now1 : List Int) (turned1 : List Int) (mirrored1 : List Int) : (List Int × List Int × Int) → Option (St (List Int × List Int × Int) (List Int × List Int)) :=
  fun (x : (List Int × List Int × Int)) => match x with | (turned2, mirrored2, z2) => if (decide (z2 < (now1.length : Int))) then ((magic_Forms_J7 r1 now1 turned1 mirrored1 turned2 mirrored2 z2)) else (some (.done (turned2, mirrored2)))

noncomputable def magic_Forms_J5  (r1 : Int) (out1 : List (List Int)) (now1 : List Int) (z1 : Int) (turned1 : List Int) (mirrored1 : List Int) : Option (St (List (List Int) × List Int × Int) (List (List Int))) :=
  (loop (magic_Forms_L2 r1 now1 turned1 mirrored1) (turned1, mirrored1, 0)).bind (magic_Forms_K2 out1 now1 z1)

noncomputable def magic_Forms_J3  (r1 : Int) (out1 : List (List Int)) (now1 : List Int) (z1 : Int) : Option (St (List (List Int) × List Int × Int) (List (List Int))) :=
  asrt ((0 : Int) ≤ (w64 (r1 * r1)) ∧ (w64 (r1 * r1)) ≤ bigN) <| asrt ((0 : Int) ≤ (w64 (r1 * r1)) ∧ (w64 (r1 * r1)) ≤ bigN) <| (magic_Forms_J5 r1 out1 now1 z1) (List.replicate (Int.toNat (w64 (r1 * r1))) (0 : Int)) (List.replicate (Int.toNat (w64 (r1 * r1))) (0 : Int))

noncomputable def magic_Forms_J2  (out2 : List (List Int)) : Option (List (List Int) × Int) :=
  (slices_SortFunc_2_m out2).bind fun r3 => (slices_CompactFunc_2_m r3).bind fun r4 => some (r4, 0)

noncomputable def magic_Forms_K1  : (List (List Int)) → Option (List (List Int) × Int) :=
  fun (x : (List (List Int))) => match x with | out2 => magic_Forms_J2 out2

noncomputable def magic_Forms_L1  (r1 : Int) : (List (List Int) × List Int × Int) → Option (St (List (List Int) × List Int × Int) (List (List Int))) :=
  fun (x : (List (List Int) × List Int × Int)) => match x with | (out1, now1, z1) => if (decide (z1 < 4)) then ((magic_Forms_J3 r1 out1 now1 z1)) else (some (.done out1))

noncomputable def magic_Forms_J1  (l1 : List Int) (r1 : Int) : Option (List (List Int) × Int) :=
  (slices_Clone_m l1).bind fun r2 => (loop (magic_Forms_L1 r1) (([] : List (List Int)), r2, 0)).bind magic_Forms_K1

noncomputable def magic_Forms_m  (l1 : List Int) : Option (List (List Int) × Int) :=
  (magic_side_m l1).bind fun r1 => if (r1 == 0) then (some (([] : List (List Int)), 2)) else ((magic_Forms_J1 l1 r1))

set_option maxRecDepth 100000 in
set_option maxHeartbeats 4000000 in
theorem magic_Forms_w  {A1 : Option Addr} {c1 : Nat} {n1 : Nat} {l1 : List Int} {r : (List (List Int) × Int)} {w0 w : World} {B : Nat} {fs : List HP} (hm : magic_Forms_m l1 = some r) (hS : Sep w0 B w (fs)) (hr_l1 : RdF w0 B fs A1 (vI l1)) (_hc_l1 : l1.length ≤ c1) (_hn_l1 : n1 = l1.length) :
    Calls Try.prog 54 #[.slice A1 n1 c1] w fun e w' => ∃ v, e = .returned v ∧ ∃ (A14 : Option Addr) (c14 : Nat) (hd6 : List Hd), v = .tuple #[.slice A14 r.1.length c14, .int .i64 r.2] ∧ Sep w0 B w' (rows 22 3 (.slice A14 r.1.length c14) hd6 r.1 :: fs) := by
  obtain ⟨i3, hi3, hz3, hs3, hb3⟩ := info_parts Info3
  obtain ⟨i22, hi22, hz22, hs22, hb22⟩ := info_parts Info22
  obtain rfl := _hn_l1
  unfold magic_Forms_m at hm
  replace hm := start_b hm
  refine enter (l := [.slice A1 l1.length c1]) (n := 76) Try.func54 rfl rfl (by simp) (fun a hF => ?_)
  refine reg [] [] [0] [pl 0 (.slice A1 l1.length c1)] hF hS Fol (by kernel_rfl) (by kernel_rfl) (by kernel_rfl) ?_ (fun a w hF hS => ?_)
  · exact obs_nil
  obtain ⟨r1, hr1, hm⟩ := call_b hm
  refine reg [⟨false, [], callFunc 129 #[.slice A1 l1.length c1], .int .i64 r1⟩] [none, some (.int .i64 r1), none] [0, 4] [pl 0 (.slice A1 l1.length c1), pl 4 (.int .i64 r1)] hF hS Fol (by kernel_rfl) (by kernel_rfl) (by kernel_rfl) ?_ (fun a w hF hS => ?_)
  · exact obs_cons (ob_call Try.func129 (by kernel_rfl) rfl (fun _ _ hS => magic_side_w hr1 hS (fun _ hS => (hr_l1 _ (hS.dropN 0))) _hc_l1 rfl)) <| obs_nil
  refine seq_cut (fun a w => Fr 76 [pl 0 (.slice A1 l1.length c1), pl 4 (.int .i64 r1)] a ∧ Sep w0 B w (fs) ∧ ((magic_Forms_J1 l1 r1)).bind some = some r) ?_ ?_
  · rintro a w ⟨hF, hS, hm⟩
    unfold magic_Forms_J1 at hm
    refine reg [] [] [0, 4, 5] [pl 0 (.slice A1 l1.length c1), pl 4 (.int .i64 r1), pl 5 (.slice none 0 0)] hF hS Fol (by kernel_rfl) (by kernel_rfl) (by kernel_rfl) ?_ (fun a w hF hS => ?_)
    · exact obs_nil
    refine seqR ?_
    obtain ⟨r2, hr2, hm⟩ := call_b hm
    refine at_run 1 [] [] [4, 5, 17] [pl 4 (.int .i64 r1), pl 5 (.slice none 0 0), pl 17 (.slice A1 l1.length c1)] hF hS (by kernel_rfl) (by kernel_rfl) ?_ (fun a w hF hS => ?_)
    · exact obs_nil
    refine at_call (f := 81) (args := #[.slice A1 l1.length c1]) (d := 18) hF (by kernel_rfl) (by kernel_rfl) Try.func81 (by kernel_rfl) rfl (slices_Clone_w hr2 hS (fun _ hS => (hr_l1 _ (hS.dropN 0))) _hc_l1 rfl) (fun v a w hR hF => ?_)
    clear hS
    obtain ⟨A2, c2, rfl, hS⟩ := hR
    have hS : Sep w0 B w (own 3 (.slice A2 r2.length c2) (vI r2) :: fs) := hS
    refine at_run 1 [] [] [4, 5, 6] [pl 4 (.int .i64 r1), pl 5 (.slice none 0 0), pl 6 (.slice A2 r2.length c2)] hF hS (by kernel_rfl) (by kernel_rfl) ?_ (fun a w hF hS => ?_)
    · exact obs_nil
    refine at_end [4, 5, 6] [pl 4 (.int .i64 r1), pl 5 (.slice none 0 0), pl 6 (.slice A2 r2.length c2)] hF rfl (by kernel_rfl) (fun hF => ?_)
    refine then_n ?_
    refine seq_cut (fun a w => ∃ (out2 : List (List Int)) (A5 : Option Addr) (c5 : Nat) (hd2 : List Hd), Fr 76 [pl 5 (.slice A5 out2.length c5)] a ∧ Sep w0 B w (rows 22 3 (.slice A5 out2.length c5) hd2 out2 :: fs) ∧ (magic_Forms_J2 out2).bind some = some r) ?_ ?_
    · rintro a w ⟨out2, A5, c5, hd2, hF, hS, hm⟩
      unfold magic_Forms_J2 at hm
      refine seqR ?_
      obtain ⟨r3, hr3, hm⟩ := call_b hm
      refine at_run 1 [] [] [5, 72] [pl 5 (.slice A5 out2.length c5), pl 72 (.slice A5 out2.length c5)] hF hS (by kernel_rfl) (by kernel_rfl) ?_ (fun a w hF hS => ?_)
      · exact obs_nil
      refine at_call (f := 132) (args := #[.slice A5 out2.length c5, .func (.func 133) #[] #[]]) (d := 73) hF (by kernel_rfl) (by kernel_rfl) Try.func132 (by kernel_rfl) rfl (slices_SortFunc_2_w hr3 hS ) (fun v a w hR hF => ?_)
      clear hS
      obtain ⟨hd4, rfl, hS⟩ := hR
      have hS : Sep w0 B w (rows 22 3 (.slice A5 out2.length c5) hd4 r3 :: fs) := hS
      refine at_end [5] [pl 5 (.slice A5 out2.length c5)] hF rfl (by kernel_rfl) (fun hF => ?_)
      refine then_n ?_
      refine seqR ?_
      obtain ⟨r4, hr4, hm⟩ := call_b hm
      refine at_run 1 [] [] [74] [pl 74 (.slice A5 out2.length c5)] hF hS (by kernel_rfl) (by kernel_rfl) ?_ (fun a w hF hS => ?_)
      · exact obs_nil
      refine at_call (f := 134) (args := #[.slice A5 out2.length c5, .func (.func 126) #[] #[]]) (d := 75) hF (by kernel_rfl) (by kernel_rfl) Try.func134 (by kernel_rfl) rfl (slices_CompactFunc_2_w hr4 hS ) (fun v a w hR hF => ?_)
      clear hS
      obtain ⟨A13, c13, hd5, rfl, hS⟩ := hR
      have hS : Sep w0 B w (rows 22 3 (.slice A13 r4.length c13) hd5 r4 :: fs) := hS
      refine at_run 2 [] [] [2, 3] [pl 2 (.slice A13 r4.length c13), pl 3 (.int .i64 0)] hF hS (by kernel_rfl) (by kernel_rfl) ?_ (fun a w hF hS => ?_)
      · exact obs_nil
      refine at_end [2, 3] [pl 2 (.slice A13 r4.length c13), pl 3 (.int .i64 0)] hF rfl (by kernel_rfl) (fun hF => ?_)
      refine then_n ?_
      refine wpIn_ret ?_
      have hm : some (r4, 0) = some r := hm
      obtain rfl := Option.some.inj hm
      exact retV (rs := [.tmp 2, .tmp 3]) (vs := [.slice A13 r4.length c13, .int .i64 0]) hF rfl (rv_t (by kernel_rfl) <| rv_t (by kernel_rfl) <| rv_nil) rfl ⟨_, rfl, A13, c13, hd5, rfl, hS⟩
    · refine reg [] [] [4, 5, 6, 19] [pl 4 (.int .i64 r1), pl 5 (.slice none 0 0), pl 6 (.slice A2 r2.length c2), pl 19 (.int .i64 0)] hF hS Fol (by kernel_rfl) (by kernel_rfl) (by kernel_rfl) ?_ (fun a w hF hS => ?_)
      · exact obs_nil
      refine wpIn_block ?_
      have hS := hS.nilRows0 22 3
      have hl2 := (hS.at_ 0 rfl).lenR
      have hS := (hS.at_ 0 rfl).reNR hl2
      have hS : Sep w0 B w (rows 22 3 (.slice none (([] : List (List Int)).length) 0) ([]) ([] : List (List Int)) :: own 3 (.slice A2 r2.length c2) (vI r2) :: fs) := hS
      have hF := hF.cast (t := 5) (v := .slice none 0 0) (v' := .slice none (([] : List (List Int)).length) 0) rfl rfl (congrArg (fun k => Value.slice none k 0) hl2)
      refine wp_loop_model (S := (List (List Int) × List Int × Int)) (R := (List (List Int))) (magic_Forms_L1 r1) (fun x => (magic_Forms_K1 x).bind some) r (fun (x : (List (List Int) × List Int × Int)) a w => ∃ (A3 : Option Addr) (c3 : Nat) (hd1 : List Hd) (A4 : Option Addr) (c4 : Nat), Fr 76 [pl 4 (.int .i64 r1), pl 5 (.slice A3 x.1.length c3), pl 6 (.slice A4 x.2.1.length c4), pl 19 (.int .i64 x.2.2)] a ∧ Sep w0 B w (rows 22 3 (.slice A3 x.1.length c3) hd1 x.1 :: own 3 (.slice A4 x.2.1.length c4) (vI x.2.1) :: fs)) (assoc_b hm) ⟨none, 0, ([]), A2, c2, hF.weak [4, 5, 6, 19] (by kernel_rfl), hS⟩ ?_
      clear hF hS hm
      rintro nn1 ⟨out1, now1, z1⟩ a w ⟨A3, c3, hd1, A4, c4, hF, hS⟩ hm
      generalize hφ1 : stK (magic_Forms_L1 r1) nn1 (fun x => (magic_Forms_K1 x).bind some) = φ1 at hm
      unfold magic_Forms_L1 at hm
      dsimp only at hF hS hm
      refine reg [] [] [4, 5, 6, 19, 20] [pl 4 (.int .i64 r1), pl 5 (.slice A3 out1.length c3), pl 6 (.slice A4 now1.length c4), pl 19 (.int .i64 z1), pl 20 (.bool (decide (z1 < 4)))] hF hS Fol (by kernel_rfl) (by kernel_rfl) (by kernel_rfl) ?_ (fun a w hF hS => ?_)
      · exact obs_nil
      refine seq_cut (fun a w => Fr 76 [pl 4 (.int .i64 r1), pl 5 (.slice A3 out1.length c3), pl 6 (.slice A4 now1.length c4), pl 19 (.int .i64 z1)] a ∧ Sep w0 B w (rows 22 3 (.slice A3 out1.length c3) hd1 out1 :: own 3 (.slice A4 now1.length c4) (vI now1) :: fs) ∧ ((magic_Forms_J3 r1 out1 now1 z1)).bind φ1 = some r) ?_ ?_
      · rintro a w ⟨hF, hS, hm⟩
        unfold magic_Forms_J3 at hm
        refine seq_cut (fun a w => ∃ (out3 : List (List Int)) (now2 : List Int) (A11 : Option Addr) (c11 : Nat) (hd3 : List Hd) (A12 : Option Addr) (c12 : Nat), Fr 76 [pl 4 (.int .i64 r1), pl 5 (.slice A11 out3.length c11), pl 6 (.slice A12 now2.length c12), pl 19 (.int .i64 z1)] a ∧ Sep w0 B w (rows 22 3 (.slice A11 out3.length c11) hd3 out3 :: own 3 (.slice A12 now2.length c12) (vI now2) :: fs) ∧ ((magic_Forms_J4 z1) out3 now2).bind φ1 = some r) ?_ ?_
        · rintro a w ⟨out3, now2, A11, c11, hd3, A12, c12, hF, hS, hm⟩
          unfold magic_Forms_J4 at hm
          refine reg1 [] [] [4, 5, 6, 19] [pl 4 (.int .i64 r1), pl 5 (.slice A11 out3.length c11), pl 6 (.slice A12 now2.length c12), pl 19 (.int .i64 (w64 (z1 + 1)))] hF hS Fol (by kernel_rfl) (by kernel_rfl) (by kernel_rfl) ?_ (fun a w hF hS => ?_)
          · exact obs_nil
          refine then_n ?_
          rw [← hφ1] at hm
          exact ⟨(out3, now2, (w64 (z1 + 1))), ⟨A11, c11, hd3, A12, c12, hF.weak [4, 5, 6, 19] (by kernel_rfl), hS⟩, hm⟩
        · refine wpIn_block ?_
          refine seq_cut (fun a w => ∃ (turned1 : List Int) (mirrored1 : List Int) (A8 : Option Addr) (c8 : Nat) (A9 : Option Addr) (c9 : Nat), Fr 76 [pl 4 (.int .i64 r1), pl 5 (.slice A3 out1.length c3), pl 6 (.slice A4 now1.length c4), pl 7 (.slice A8 turned1.length c8), pl 8 (.slice A9 mirrored1.length c9), pl 19 (.int .i64 z1)] a ∧ Sep w0 B w (rows 22 3 (.slice A3 out1.length c3) hd1 out1 :: own 3 (.slice A4 now1.length c4) (vI now1) :: own 3 (.slice A8 turned1.length c8) (vI turned1) :: own 3 (.slice A9 mirrored1.length c9) (vI mirrored1) :: fs) ∧ ((magic_Forms_J5 r1 out1 now1 z1) turned1 mirrored1).bind φ1 = some r) ?_ ?_
          · rintro a w ⟨turned1, mirrored1, A8, c8, A9, c9, hF, hS, hm⟩
            unfold magic_Forms_J5 at hm
            refine seq_cut (fun a w => ∃ (turned3 : List Int) (mirrored3 : List Int), Fr 76 [pl 4 (.int .i64 r1), pl 5 (.slice A3 out1.length c3), pl 6 (.slice A4 now1.length c4), pl 7 (.slice A8 turned1.length c8), pl 8 (.slice A9 mirrored1.length c9), pl 19 (.int .i64 z1)] a ∧ Sep w0 B w (rows 22 3 (.slice A3 out1.length c3) hd1 out1 :: own 3 (.slice A4 now1.length c4) (vI now1) :: own 3 (.slice A8 turned1.length c8) (vI turned3) :: own 3 (.slice A9 mirrored1.length c9) (vI mirrored3) :: fs) ∧ ((magic_Forms_J6 out1 now1 z1) turned3 mirrored3).bind φ1 = some r) ?_ ?_
            · rintro a w ⟨turned3, mirrored3, hF, hS, hm⟩
              unfold magic_Forms_J6 at hm
              refine seqR ?_
              obtain ⟨hp8, hm⟩ := asrt_b hm
              refine at_run 3 [] [] [4, 7, 19, 65, 66, 67] [pl 4 (.int .i64 r1), pl 7 (.slice A8 turned1.length c8), pl 19 (.int .i64 z1), pl 65 (.slice A3 out1.length c3), pl 66 (.slice A4 now1.length c4), pl 67 (.slice A9 mirrored1.length c9)] hF hS (by kernel_rfl) (by kernel_rfl) ?_ (fun a w hF hS => ?_)
              · exact obs_nil
              refine at_do (d := 68) (s := vS (Instr.buildSlice 42 2 #[(0, .slice A4 now1.length c4), (1, .slice A9 mirrored1.length c9)])) (v := .slice (some ⟨w.heap.size, 0, none⟩) 2 2) (w' := w.alloc (.cells #[.slice A4 now1.length c4, .slice A9 mirrored1.length c9] 22)) hF (by kernel_rfl) (by kernel_rfl) (by kernel_rfl) (fun a hF => ?_)
              have hS : Sep w0 B (w.alloc (.cells #[.slice A4 now1.length c4, .slice A9 mirrored1.length c9] 22)) (own 22 (.slice (some (⟨w.heap.size, 0, none⟩ : Addr)) 2 2) [.slice A4 now1.length c4, .slice A9 mirrored1.length c9] :: (rows 22 3 (.slice A3 out1.length c3) hd1 out1 :: own 3 (.slice A4 now1.length c4) (vI now1) :: own 3 (.slice A8 turned1.length c8) (vI turned3) :: own 3 (.slice A9 mirrored1.length c9) (vI mirrored3) :: fs)) := hS.lit 22 #[.slice A4 now1.length c4, .slice A9 mirrored1.length c9] 2 rfl (by omega)
              generalize (some (⟨w.heap.size, 0, none⟩ : Addr)) = g1 at hF hS
              generalize w.alloc (.cells #[.slice A4 now1.length c4, .slice A9 mirrored1.length c9] 22) = w at hS ⊢
              have hl9 := (hS.at_ 4 rfl).len1
              have hS := (hS.at_ 4 rfl).reN hl9
              have hS : Sep w0 B w (own 22 (.slice g1 2 2) [.slice A4 now1.length c4, .slice A9 mirrored1.length c9] :: rows 22 3 (.slice A3 out1.length c3) hd1 out1 :: own 3 (.slice A4 now1.length c4) (vI now1) :: own 3 (.slice A8 turned1.length c8) (vI turned3) :: own 3 (.slice A9 mirrored3.length c9) (vI mirrored3) :: fs) := hS
              have hS := (hS.at_ 0 rfl).reOwn (congrArg (fun k => ([.slice A4 now1.length c4, .slice A9 k c9] : List Value)) hl9)
              have hS : Sep w0 B w (own 22 (.slice g1 2 2) [.slice A4 now1.length c4, .slice A9 mirrored3.length c9] :: rows 22 3 (.slice A3 out1.length c3) hd1 out1 :: own 3 (.slice A4 now1.length c4) (vI now1) :: own 3 (.slice A8 turned1.length c8) (vI turned3) :: own 3 (.slice A9 mirrored3.length c9) (vI mirrored3) :: fs) := hS
              have hS := hS.pickN 5 [2, 4, 0, 1, 3] (by decide)
              have hS : Sep w0 B w (own 3 (.slice A4 now1.length c4) (vI now1) :: own 3 (.slice A9 mirrored3.length c9) (vI mirrored3) :: own 22 (.slice g1 2 2) [.slice A4 now1.length c4, .slice A9 mirrored3.length c9] :: rows 22 3 (.slice A3 out1.length c3) hd1 out1 :: own 3 (.slice A8 turned1.length c8) (vI turned3) :: fs) := hS
              obtain ⟨A10, c10, w, hrun, hS⟩ := run_appRow2 (P := Try.prog) (t := 42) (A3 := g1) (c3 := 2) (hS.at3 1 rfl) (hS.at_ 2 rfl).rd 42 Und42 hi22 hz22 hs22 hb22 hp8
              have hS : Sep w0 B w (own 22 (.slice g1 2 2) [.slice A4 now1.length c4, .slice A9 mirrored3.length c9] :: rows 22 3 (.slice A10 ((out1 ++ [now1, mirrored3]).length) c10) (hd1 ++ [(A4, c4), (A9, c9)]) (out1 ++ [now1, mirrored3]) :: own 3 (.slice A8 turned1.length c8) (vI turned3) :: fs) := hS
              refine at_do (d := 69) hF (by kernel_rfl) (by kernel_rfl) hrun (fun a hF => ?_)
              refine at_run 1 [] [] [4, 5, 7, 19] [pl 4 (.int .i64 r1), pl 5 (.slice A10 ((out1 ++ [now1, mirrored3]).length) c10), pl 7 (.slice A8 turned1.length c8), pl 19 (.int .i64 z1)] hF hS (by kernel_rfl) (by kernel_rfl) ?_ (fun a w hF hS => ?_)
              · exact obs_nil
              refine at_end [4, 5, 7, 19] [pl 4 (.int .i64 r1), pl 5 (.slice A10 ((out1 ++ [now1, mirrored3]).length) c10), pl 7 (.slice A8 turned1.length c8), pl 19 (.int .i64 z1)] hF rfl (by kernel_rfl) (fun hF => ?_)
              refine then_n ?_
              refine reg1 [] [] [4, 5, 6, 19] [pl 4 (.int .i64 r1), pl 5 (.slice A10 ((out1 ++ [now1, mirrored3]).length) c10), pl 6 (.slice A8 turned1.length c8), pl 19 (.int .i64 z1)] hF hS Fol (by kernel_rfl) (by kernel_rfl) (by kernel_rfl) ?_ (fun a w hF hS => ?_)
              · exact obs_nil
              refine block_n ?_
              refine then_n ?_
              have hl10 := (hS.at_ 2 rfl).len1
              have hS := (hS.at_ 2 rfl).reN hl10
              have hS : Sep w0 B w (own 22 (.slice g1 2 2) [.slice A4 now1.length c4, .slice A9 mirrored3.length c9] :: rows 22 3 (.slice A10 ((out1 ++ [now1, mirrored3]).length) c10) (hd1 ++ [(A4, c4), (A9, c9)]) (out1 ++ [now1, mirrored3]) :: own 3 (.slice A8 turned3.length c8) (vI turned3) :: fs) := hS
              have hF := hF.cast (t := 6) (v := .slice A8 turned1.length c8) (v' := .slice A8 turned3.length c8) rfl rfl (congrArg (fun k => Value.slice A8 k c8) hl10)
              have hS := hS.pickN 3 [1, 2] (by decide)
              exact ⟨(out1 ++ [now1, mirrored3]), turned3, A10, c10, (hd1 ++ [(A4, c4), (A9, c9)]), A8, c8, hF.weak [4, 5, 6, 19] (by kernel_rfl), hS, hm⟩
            · refine reg [] [] [4, 5, 6, 7, 8, 19, 29, 30, 31] [pl 4 (.int .i64 r1), pl 5 (.slice A3 out1.length c3), pl 6 (.slice A4 now1.length c4), pl 7 (.slice A8 turned1.length c8), pl 8 (.slice A9 mirrored1.length c9), pl 19 (.int .i64 z1), pl 29 (.slice A4 now1.length c4), pl 30 (.int .i64 (now1.length : Int)), pl 31 (.int .i64 0)] hF hS Fol (by kernel_rfl) (by kernel_rfl) (by kernel_rfl) ?_ (fun a w hF hS => ?_)
              · exact obs_nil
              refine wpIn_block ?_
              refine wp_loop_model (S := (List Int × List Int × Int)) (R := (List Int × List Int)) (magic_Forms_L2 r1 now1 turned1 mirrored1) (fun x => ((magic_Forms_K2 out1 now1 z1) x).bind φ1) r (fun (x : (List Int × List Int × Int)) a w => Fr 76 [pl 4 (.int .i64 r1), pl 5 (.slice A3 out1.length c3), pl 6 (.slice A4 now1.length c4), pl 7 (.slice A8 turned1.length c8), pl 8 (.slice A9 mirrored1.length c9), pl 19 (.int .i64 z1), pl 29 (.slice A4 now1.length c4), pl 30 (.int .i64 (now1.length : Int)), pl 31 (.int .i64 x.2.2)] a ∧ Sep w0 B w (rows 22 3 (.slice A3 out1.length c3) hd1 out1 :: own 3 (.slice A4 now1.length c4) (vI now1) :: own 3 (.slice A8 turned1.length c8) (vI x.1) :: own 3 (.slice A9 mirrored1.length c9) (vI x.2.1) :: fs)) (assoc_b hm) ⟨hF.weak [4, 5, 6, 7, 8, 19, 29, 30, 31] (by kernel_rfl), hS⟩ ?_
              clear hF hS hm
              rintro nn2 ⟨turned2, mirrored2, z2⟩ a w ⟨hF, hS⟩ hm
              generalize hφ2 : stK (magic_Forms_L2 r1 now1 turned1 mirrored1) nn2 (fun x => ((magic_Forms_K2 out1 now1 z1) x).bind φ1) = φ2 at hm
              unfold magic_Forms_L2 at hm
              dsimp only at hF hS hm
              refine reg [] [] [4, 5, 6, 7, 8, 19, 29, 30, 31, 32] [pl 4 (.int .i64 r1), pl 5 (.slice A3 out1.length c3), pl 6 (.slice A4 now1.length c4), pl 7 (.slice A8 turned1.length c8), pl 8 (.slice A9 mirrored1.length c9), pl 19 (.int .i64 z1), pl 29 (.slice A4 now1.length c4), pl 30 (.int .i64 (now1.length : Int)), pl 31 (.int .i64 z2), pl 32 (.bool (decide (z2 < (now1.length : Int))))] hF hS Fol (by kernel_rfl) (by kernel_rfl) (by kernel_rfl) ?_ (fun a w hF hS => ?_)
              · exact obs_nil
              refine seq_cut (fun a w => Fr 76 [pl 4 (.int .i64 r1), pl 5 (.slice A3 out1.length c3), pl 6 (.slice A4 now1.length c4), pl 7 (.slice A8 turned1.length c8), pl 8 (.slice A9 mirrored1.length c9), pl 19 (.int .i64 z1), pl 29 (.slice A4 now1.length c4), pl 30 (.int .i64 (now1.length : Int)), pl 31 (.int .i64 z2)] a ∧ Sep w0 B w (rows 22 3 (.slice A3 out1.length c3) hd1 out1 :: own 3 (.slice A4 now1.length c4) (vI now1) :: own 3 (.slice A8 turned1.length c8) (vI turned2) :: own 3 (.slice A9 mirrored1.length c9) (vI mirrored2) :: fs) ∧ ((magic_Forms_J7 r1 now1 turned1 mirrored1 turned2 mirrored2 z2)).bind φ2 = some r) ?_ ?_
              · rintro a w ⟨hF, hS, hm⟩
                unfold magic_Forms_J7 at hm
                refine seq_cut (fun a w => Fr 76 [pl 4 (.int .i64 r1), pl 5 (.slice A3 out1.length c3), pl 6 (.slice A4 now1.length c4), pl 7 (.slice A8 turned1.length c8), pl 8 (.slice A9 mirrored1.length c9), pl 19 (.int .i64 z1), pl 29 (.slice A4 now1.length c4), pl 30 (.int .i64 (now1.length : Int)), pl 31 (.int .i64 z2)] a ∧ Sep w0 B w (rows 22 3 (.slice A3 out1.length c3) hd1 out1 :: own 3 (.slice A4 now1.length c4) (vI now1) :: own 3 (.slice A8 turned1.length c8) (vI (turned2.set (Int.toNat (w64 ((w64 ((w64 ((w64 ((Int.tmod z2 r1) * r1)) + r1)) - 1)) - (w64 (Int.tdiv z2 r1))))) (geti now1 z2))) :: own 3 (.slice A9 mirrored1.length c9) (vI (mirrored2.set (Int.toNat (w64 ((w64 ((w64 ((w64 ((w64 (Int.tdiv z2 r1)) * r1)) + r1)) - 1)) - (Int.tmod z2 r1)))) (geti now1 z2))) :: fs) ∧ ((magic_Forms_J8 r1 now1 turned2 mirrored2 z2)).bind φ2 = some r) ?_ ?_
                · rintro a w ⟨hF, hS, hm⟩
                  unfold magic_Forms_J8 at hm
                  refine reg1 [] [] [4, 5, 6, 7, 8, 19, 29, 30, 31] [pl 4 (.int .i64 r1), pl 5 (.slice A3 out1.length c3), pl 6 (.slice A4 now1.length c4), pl 7 (.slice A8 turned1.length c8), pl 8 (.slice A9 mirrored1.length c9), pl 19 (.int .i64 z1), pl 29 (.slice A4 now1.length c4), pl 30 (.int .i64 (now1.length : Int)), pl 31 (.int .i64 (w64 (z2 + 1)))] hF hS Fol (by kernel_rfl) (by kernel_rfl) (by kernel_rfl) ?_ (fun a w hF hS => ?_)
                  · exact obs_nil
                  refine then_n ?_
                  rw [← hφ2] at hm
                  exact ⟨((turned2.set (Int.toNat (w64 ((w64 ((w64 ((w64 ((Int.tmod z2 r1) * r1)) + r1)) - 1)) - (w64 (Int.tdiv z2 r1))))) (geti now1 z2)), (mirrored2.set (Int.toNat (w64 ((w64 ((w64 ((w64 ((w64 (Int.tdiv z2 r1)) * r1)) + r1)) - 1)) - (Int.tmod z2 r1)))) (geti now1 z2)), (w64 (z2 + 1))), ⟨hF.weak [4, 5, 6, 7, 8, 19, 29, 30, 31] (by kernel_rfl), hS⟩, hm⟩
                · refine wpIn_block ?_
                  obtain ⟨hp3, hm⟩ := asrt_b hm
                  refine reg [⟨true, [], vS (Instr.indexAt 22 (.slice A4 now1.length c4) (.int .i64 z2)), .pointer (some (sAddr A4 z2))⟩, ⟨false, [], vS (Instr.loadAt 3 (.pointer (some (sAddr A4 z2)))), .int .i64 (geti now1 z2)⟩] [none, some (.pointer (some (sAddr A4 z2))), some (.int .i64 (geti now1 z2)), none, none] [4, 5, 6, 7, 8, 9, 10, 19, 29, 30, 31] [pl 4 (.int .i64 r1), pl 5 (.slice A3 out1.length c3), pl 6 (.slice A4 now1.length c4), pl 7 (.slice A8 turned1.length c8), pl 8 (.slice A9 mirrored1.length c9), pl 9 (.int .i64 z2), pl 10 (.int .i64 (geti now1 z2)), pl 19 (.int .i64 z1), pl 29 (.slice A4 now1.length c4), pl 30 (.int .i64 (now1.length : Int)), pl 31 (.int .i64 z2)] hF hS Fol (by kernel_rfl) (by kernel_rfl) (by kernel_rfl) ?_ (fun a w hF hS => ?_)
                  · exact obs_cons (ob_ix1 (f := (Value.int .i64)) (m := now1) Und22 hi3 hs3 (hS.at_ 1 rfl).rd rfl (fun _ => hp3)) <| obs_cons (ob_get1 (n := now1.length) (m := now1) (Value.int .i64) (0 : Int) Agg3 (fun _ hS => ⟨_, (hS.at_ 1 rfl).rd⟩) (fun _ hS => rfl) (fun _ => hp3)) <| obs_nil
                  obtain ⟨hp4, hm⟩ := asrt_b hm
                  obtain ⟨hp5, hm⟩ := asrt_b hm
                  refine reg [⟨true, [], vS (Op.intDiv .rem .i64 z2 r1), .int .i64 (Int.tmod z2 r1)⟩, ⟨true, [], vS (Op.intDiv .quo .i64 z2 r1), .int .i64 (w64 (Int.tdiv z2 r1))⟩] [none, none, some (.int .i64 (Int.tmod z2 r1)), none, none, some (.int .i64 (w64 (Int.tdiv z2 r1))), none, none] [4, 5, 6, 7, 8, 10, 11, 12, 19, 29, 30, 31] [pl 4 (.int .i64 r1), pl 5 (.slice A3 out1.length c3), pl 6 (.slice A4 now1.length c4), pl 7 (.slice A8 turned1.length c8), pl 8 (.slice A9 mirrored1.length c9), pl 10 (.int .i64 (geti now1 z2)), pl 11 (.int .i64 (Int.tmod z2 r1)), pl 12 (.int .i64 (w64 (Int.tdiv z2 r1))), pl 19 (.int .i64 z1), pl 29 (.slice A4 now1.length c4), pl 30 (.int .i64 (now1.length : Int)), pl 31 (.int .i64 z2)] hF hS Fol (by kernel_rfl) (by kernel_rfl) (by kernel_rfl) ?_ (fun a w hF hS => ?_)
                  · exact obs_cons (ob_rem rfl (fun _ => hp4)) <| obs_cons (ob_quo rfl (fun _ => hp5)) <| obs_nil
                  refine seqR ?_
                  obtain ⟨hp6, hm⟩ := asrt_b hm
                  refine at_run 11 [⟨true, [], vS (Instr.indexAt 22 (.slice A8 turned1.length c8) (.int .i64 (w64 ((w64 ((w64 ((w64 ((Int.tmod z2 r1) * r1)) + r1)) - 1)) - (w64 (Int.tdiv z2 r1)))))), .pointer (some (sAddr A8 (w64 ((w64 ((w64 ((w64 ((Int.tmod z2 r1) * r1)) + r1)) - 1)) - (w64 (Int.tdiv z2 r1))))))⟩] [none, none, none, none, none, none, none, none, none, none, some (.pointer (some (sAddr A8 (w64 ((w64 ((w64 ((w64 ((Int.tmod z2 r1) * r1)) + r1)) - 1)) - (w64 (Int.tdiv z2 r1)))))))] [4, 5, 6, 7, 8, 10, 11, 12, 19, 29, 30, 31, 51, 52] [pl 4 (.int .i64 r1), pl 5 (.slice A3 out1.length c3), pl 6 (.slice A4 now1.length c4), pl 7 (.slice A8 turned1.length c8), pl 8 (.slice A9 mirrored1.length c9), pl 10 (.int .i64 (geti now1 z2)), pl 11 (.int .i64 (Int.tmod z2 r1)), pl 12 (.int .i64 (w64 (Int.tdiv z2 r1))), pl 19 (.int .i64 z1), pl 29 (.slice A4 now1.length c4), pl 30 (.int .i64 (now1.length : Int)), pl 31 (.int .i64 z2), pl 51 (.int .i64 (geti now1 z2)), pl 52 (.pointer (some (sAddr A8 (w64 ((w64 ((w64 ((w64 ((Int.tmod z2 r1) * r1)) + r1)) - 1)) - (w64 (Int.tdiv z2 r1)))))))] hF hS (by kernel_rfl) (by kernel_rfl) ?_ (fun a w hF hS => ?_)
                  · exact obs_cons (ob_ix1 (f := (Value.int .i64)) (m := turned2) Und22 hi3 hs3 (hS.at_ 2 rfl).rd ((hS.at_ 2 rfl).len1) (fun _ => hp6)) <| obs_nil
                  obtain ⟨w, hrun, hS⟩ := run_set1 (P := Try.prog) (t := 3) (x := (geti now1 z2)) (Value.int .i64) (hS.at_ 2 rfl) hi3 hs3 rfl rfl hp6
                  refine at_skip hF (by kernel_rfl) hrun ?_
                  have hS : Sep w0 B w (rows 22 3 (.slice A3 out1.length c3) hd1 out1 :: own 3 (.slice A4 now1.length c4) (vI now1) :: own 3 (.slice A8 turned1.length c8) (vI (turned2.set (Int.toNat (w64 ((w64 ((w64 ((w64 ((Int.tmod z2 r1) * r1)) + r1)) - 1)) - (w64 (Int.tdiv z2 r1))))) (geti now1 z2))) :: own 3 (.slice A9 mirrored1.length c9) (vI mirrored2) :: fs) := hS
                  refine at_end [4, 5, 6, 7, 8, 10, 11, 12, 19, 29, 30, 31] [pl 4 (.int .i64 r1), pl 5 (.slice A3 out1.length c3), pl 6 (.slice A4 now1.length c4), pl 7 (.slice A8 turned1.length c8), pl 8 (.slice A9 mirrored1.length c9), pl 10 (.int .i64 (geti now1 z2)), pl 11 (.int .i64 (Int.tmod z2 r1)), pl 12 (.int .i64 (w64 (Int.tdiv z2 r1))), pl 19 (.int .i64 z1), pl 29 (.slice A4 now1.length c4), pl 30 (.int .i64 (now1.length : Int)), pl 31 (.int .i64 z2)] hF rfl (by kernel_rfl) (fun hF => ?_)
                  refine then_n ?_
                  refine oneR ?_
                  obtain ⟨hp7, hm⟩ := asrt_b hm
                  refine at_run 11 [⟨true, [], vS (Instr.indexAt 22 (.slice A9 mirrored1.length c9) (.int .i64 (w64 ((w64 ((w64 ((w64 ((w64 (Int.tdiv z2 r1)) * r1)) + r1)) - 1)) - (Int.tmod z2 r1))))), .pointer (some (sAddr A9 (w64 ((w64 ((w64 ((w64 ((w64 (Int.tdiv z2 r1)) * r1)) + r1)) - 1)) - (Int.tmod z2 r1)))))⟩] [none, none, none, none, none, none, none, none, none, none, some (.pointer (some (sAddr A9 (w64 ((w64 ((w64 ((w64 ((w64 (Int.tdiv z2 r1)) * r1)) + r1)) - 1)) - (Int.tmod z2 r1))))))] [4, 5, 6, 7, 8, 19, 29, 30, 31, 62, 63] [pl 4 (.int .i64 r1), pl 5 (.slice A3 out1.length c3), pl 6 (.slice A4 now1.length c4), pl 7 (.slice A8 turned1.length c8), pl 8 (.slice A9 mirrored1.length c9), pl 19 (.int .i64 z1), pl 29 (.slice A4 now1.length c4), pl 30 (.int .i64 (now1.length : Int)), pl 31 (.int .i64 z2), pl 62 (.int .i64 (geti now1 z2)), pl 63 (.pointer (some (sAddr A9 (w64 ((w64 ((w64 ((w64 ((w64 (Int.tdiv z2 r1)) * r1)) + r1)) - 1)) - (Int.tmod z2 r1))))))] hF hS (by kernel_rfl) (by kernel_rfl) ?_ (fun a w hF hS => ?_)
                  · exact obs_cons (ob_ix1 (f := (Value.int .i64)) (m := mirrored2) Und22 hi3 hs3 (hS.at_ 3 rfl).rd ((hS.at_ 3 rfl).len1) (fun _ => hp7)) <| obs_nil
                  obtain ⟨w, hrun, hS⟩ := run_set1 (P := Try.prog) (t := 3) (x := (geti now1 z2)) (Value.int .i64) (hS.at_ 3 rfl) hi3 hs3 rfl rfl hp7
                  refine at_skip hF (by kernel_rfl) hrun ?_
                  have hS : Sep w0 B w (rows 22 3 (.slice A3 out1.length c3) hd1 out1 :: own 3 (.slice A4 now1.length c4) (vI now1) :: own 3 (.slice A8 turned1.length c8) (vI (turned2.set (Int.toNat (w64 ((w64 ((w64 ((w64 ((Int.tmod z2 r1) * r1)) + r1)) - 1)) - (w64 (Int.tdiv z2 r1))))) (geti now1 z2))) :: own 3 (.slice A9 mirrored1.length c9) (vI (mirrored2.set (Int.toNat (w64 ((w64 ((w64 ((w64 ((w64 (Int.tdiv z2 r1)) * r1)) + r1)) - 1)) - (Int.tmod z2 r1)))) (geti now1 z2))) :: fs) := hS
                  refine at_end [4, 5, 6, 7, 8, 19, 29, 30, 31] [pl 4 (.int .i64 r1), pl 5 (.slice A3 out1.length c3), pl 6 (.slice A4 now1.length c4), pl 7 (.slice A8 turned1.length c8), pl 8 (.slice A9 mirrored1.length c9), pl 19 (.int .i64 z1), pl 29 (.slice A4 now1.length c4), pl 30 (.int .i64 (now1.length : Int)), pl 31 (.int .i64 z2)] hF rfl (by kernel_rfl) (fun hF => ?_)
                  refine block_n ?_
                  refine then_n ?_
                  exact ⟨hF.weak [4, 5, 6, 7, 8, 19, 29, 30, 31] (by kernel_rfl), hS, hm⟩
              · refine cond_ev (t := 32) (b := decide (z2 < (now1.length : Int))) hF (by kernel_rfl) (fun hb => ?_) (fun hb => ?_)
                · replace hm := if_t hm hb
                  refine wpIn_skip ?_
                  refine then_n ?_
                  exact ⟨hF.weak [4, 5, 6, 7, 8, 19, 29, 30, 31] (by kernel_rfl), hS, hm⟩
                · replace hm := if_f hm hb
                  refine wpIn_exit ?_
                  refine then_e (then_e (block_e (then_n ?_)))
                  rw [← hφ2] at hm
                  replace hm := done_b hm
                  unfold magic_Forms_K2 at hm
                  try dsimp only at hm
                  have hm : ((magic_Forms_J6 out1 now1 z1) turned2 mirrored2).bind φ1 = some r := hm
                  exact ⟨turned2, mirrored2, hF.weak [4, 5, 6, 7, 8, 19] (by kernel_rfl), hS, hm⟩
          · obtain ⟨hp1, hm⟩ := asrt_b hm
            obtain ⟨hp2, hm⟩ := asrt_b hm
            refine regMix5 [0, 1, 2, 4, 5, 6] [] 4 #[true, true, true, false, true, true, true, false, false, false] [] [] [4, 5, 6, 19, 23, 27] [pl 4 (.int .i64 r1), pl 5 (.slice A3 out1.length c3), pl 6 (.slice A4 now1.length c4), pl 19 (.int .i64 z1), pl 23 (.int .i64 (w64 (r1 * r1))), pl 27 (.int .i64 (w64 (r1 * r1)))] hF hS Fol (by kernel_rfl) (by kernel_rfl) (by kernel_rfl) (by kernel_rfl) ?_ (fun a w hF hS => ?_)
            · exact obs_nil
            refine any_step [3, 7] (by kernel_rfl) rfl ?_
            refine (all_cons ?_ (all_cons ?_ all_nil))
            · refine any_op (listed' := #[true, true, true, true, true, true, true, false, false, false]) (by kernel_rfl) (by kernel_rfl) ?_
              obtain ⟨A6, c6, w, hrun, hS⟩ := run_mk1 (P := Try.prog) (t := 22) (Value.int .i64) (0 : Int) hS .i64 .i64 Und22 hi3 hz3 hs3 (by omega) rfl hp1
              have hS : Sep w0 B w (own 3 (.slice A6 (Int.toNat (w64 (r1 * r1))) c6) (vI (List.replicate (Int.toNat (w64 (r1 * r1))) (0 : Int))) :: rows 22 3 (.slice A3 out1.length c3) hd1 out1 :: own 3 (.slice A4 now1.length c4) (vI now1) :: fs) := hS
              refine at_do (d := 24) hF (by kernel_rfl) (by kernel_rfl) hrun (fun a hF => ?_)
              refine any_fin rfl (hS.pickN 3 [1, 2] (by decide)) ?_
              refine any_step [7, 8] (by kernel_rfl) rfl ?_
              refine (all_cons ?_ (all_cons ?_ all_nil))
              · refine any_op (listed' := #[true, true, true, true, true, true, true, true, false, false]) (by kernel_rfl) (by kernel_rfl) ?_
                obtain ⟨A7, c7, w, hrun, hS⟩ := run_mk1 (P := Try.prog) (t := 22) (Value.int .i64) (0 : Int) hS .i64 .i64 Und22 hi3 hz3 hs3 (by omega) rfl hp2
                have hS : Sep w0 B w (own 3 (.slice A7 (Int.toNat (w64 (r1 * r1))) c7) (vI (List.replicate (Int.toNat (w64 (r1 * r1))) (0 : Int))) :: own 3 (.slice A6 (Int.toNat (w64 (r1 * r1))) c6) (vI (List.replicate (Int.toNat (w64 (r1 * r1))) (0 : Int))) :: rows 22 3 (.slice A3 out1.length c3) hd1 out1 :: own 3 (.slice A4 now1.length c4) (vI now1) :: fs) := hS
                refine at_do (d := 28) hF (by kernel_rfl) (by kernel_rfl) hrun (fun a hF => ?_)
                refine any_fin rfl (hS.pickN 4 [2, 3] (by decide)) ?_
                refine any_step [8] (by kernel_rfl) rfl ?_
                refine (all_cons ?_ all_nil)
                · refine any_op (listed' := #[true, true, true, true, true, true, true, true, true, false]) (by kernel_rfl) (by kernel_rfl) ?_
                  refine at_runW 1 [] [] [4, 5, 6, 7, 19, 28] [pl 4 (.int .i64 r1), pl 5 (.slice A3 out1.length c3), pl 6 (.slice A4 now1.length c4), pl 7 (.slice A6 (Int.toNat (w64 (r1 * r1))) c6), pl 19 (.int .i64 z1), pl 28 (.slice A7 (Int.toNat (w64 (r1 * r1))) c7)] hF hS (by kernel_rfl) (by kernel_rfl) ?_ (fun a hF => ?_)
                  · exact obs_nil
                  refine any_finI rfl (fun h => h) ?_
                  refine any_step [9] (by kernel_rfl) rfl ?_
                  refine (all_cons ?_ all_nil)
                  · refine any_op (listed' := #[true, true, true, true, true, true, true, true, true, true]) (by kernel_rfl) (by kernel_rfl) ?_
                    refine at_runW 1 [] [] [4, 5, 6, 7, 8, 19] [pl 4 (.int .i64 r1), pl 5 (.slice A3 out1.length c3), pl 6 (.slice A4 now1.length c4), pl 7 (.slice A6 (Int.toNat (w64 (r1 * r1))) c6), pl 8 (.slice A7 (Int.toNat (w64 (r1 * r1))) c7), pl 19 (.int .i64 z1)] hF hS (by kernel_rfl) (by kernel_rfl) ?_ (fun a hF => ?_)
                    · exact obs_nil
                    refine any_finI rfl (fun h => h) ?_
                    refine any_end (by kernel_rfl) ?_
                    refine np_n ?_
                    refine then_n ?_
                    have hl3 := (hS.at_ 1 rfl).len1
                    have hS := (hS.at_ 1 rfl).reN hl3
                    have hS : Sep w0 B w (own 3 (.slice A7 (Int.toNat (w64 (r1 * r1))) c7) (vI (List.replicate (Int.toNat (w64 (r1 * r1))) (0 : Int))) :: own 3 (.slice A6 ((List.replicate (Int.toNat (w64 (r1 * r1))) (0 : Int)).length) c6) (vI (List.replicate (Int.toNat (w64 (r1 * r1))) (0 : Int))) :: rows 22 3 (.slice A3 out1.length c3) hd1 out1 :: own 3 (.slice A4 now1.length c4) (vI now1) :: fs) := hS
                    have hF := hF.cast (t := 7) (v := .slice A6 (Int.toNat (w64 (r1 * r1))) c6) (v' := .slice A6 ((List.replicate (Int.toNat (w64 (r1 * r1))) (0 : Int)).length) c6) rfl rfl (congrArg (fun k => Value.slice A6 k c6) hl3)
                    have hl4 := (hS.at_ 0 rfl).len1
                    have hS := (hS.at_ 0 rfl).reN hl4
                    have hS : Sep w0 B w (own 3 (.slice A7 ((List.replicate (Int.toNat (w64 (r1 * r1))) (0 : Int)).length) c7) (vI (List.replicate (Int.toNat (w64 (r1 * r1))) (0 : Int))) :: own 3 (.slice A6 ((List.replicate (Int.toNat (w64 (r1 * r1))) (0 : Int)).length) c6) (vI (List.replicate (Int.toNat (w64 (r1 * r1))) (0 : Int))) :: rows 22 3 (.slice A3 out1.length c3) hd1 out1 :: own 3 (.slice A4 now1.length c4) (vI now1) :: fs) := hS
                    have hF := hF.cast (t := 8) (v := .slice A7 (Int.toNat (w64 (r1 * r1))) c7) (v' := .slice A7 ((List.replicate (Int.toNat (w64 (r1 * r1))) (0 : Int)).length) c7) rfl rfl (congrArg (fun k => Value.slice A7 k c7) hl4)
                    have hS := hS.pickN 4 [2, 3, 1, 0] (by decide)
                    exact ⟨(List.replicate (Int.toNat (w64 (r1 * r1))) (0 : Int)), (List.replicate (Int.toNat (w64 (r1 * r1))) (0 : Int)), A6, c6, A7, c7, hF.weak [4, 5, 6, 7, 8, 19] (by kernel_rfl), hS, hm⟩
              · refine any_op (listed' := #[true, true, true, true, true, true, true, false, true, false]) (by kernel_rfl) (by kernel_rfl) ?_
                refine at_runW 1 [] [] [4, 5, 6, 7, 19, 27] [pl 4 (.int .i64 r1), pl 5 (.slice A3 out1.length c3), pl 6 (.slice A4 now1.length c4), pl 7 (.slice A6 (Int.toNat (w64 (r1 * r1))) c6), pl 19 (.int .i64 z1), pl 27 (.int .i64 (w64 (r1 * r1)))] hF hS (by kernel_rfl) (by kernel_rfl) ?_ (fun a hF => ?_)
                · exact obs_nil
                refine any_finI rfl (fun h => h) ?_
                refine any_step [7] (by kernel_rfl) rfl ?_
                refine (all_cons ?_ all_nil)
                · refine any_op (listed' := #[true, true, true, true, true, true, true, true, true, false]) (by kernel_rfl) (by kernel_rfl) ?_
                  obtain ⟨A7, c7, w, hrun, hS⟩ := run_mk1 (P := Try.prog) (t := 22) (Value.int .i64) (0 : Int) hS .i64 .i64 Und22 hi3 hz3 hs3 (by omega) rfl hp2
                  have hS : Sep w0 B w (own 3 (.slice A7 (Int.toNat (w64 (r1 * r1))) c7) (vI (List.replicate (Int.toNat (w64 (r1 * r1))) (0 : Int))) :: own 3 (.slice A6 (Int.toNat (w64 (r1 * r1))) c6) (vI (List.replicate (Int.toNat (w64 (r1 * r1))) (0 : Int))) :: rows 22 3 (.slice A3 out1.length c3) hd1 out1 :: own 3 (.slice A4 now1.length c4) (vI now1) :: fs) := hS
                  refine at_do (d := 28) hF (by kernel_rfl) (by kernel_rfl) hrun (fun a hF => ?_)
                  refine any_fin rfl (hS.pickN 4 [2, 3] (by decide)) ?_
                  refine any_step [9] (by kernel_rfl) rfl ?_
                  refine (all_cons ?_ all_nil)
                  · refine any_op (listed' := #[true, true, true, true, true, true, true, true, true, true]) (by kernel_rfl) (by kernel_rfl) ?_
                    refine at_runW 1 [] [] [4, 5, 6, 7, 8, 19] [pl 4 (.int .i64 r1), pl 5 (.slice A3 out1.length c3), pl 6 (.slice A4 now1.length c4), pl 7 (.slice A6 (Int.toNat (w64 (r1 * r1))) c6), pl 8 (.slice A7 (Int.toNat (w64 (r1 * r1))) c7), pl 19 (.int .i64 z1)] hF hS (by kernel_rfl) (by kernel_rfl) ?_ (fun a hF => ?_)
                    · exact obs_nil
                    refine any_finI rfl (fun h => h) ?_
                    refine any_end (by kernel_rfl) ?_
                    refine np_n ?_
                    refine then_n ?_
                    have hl5 := (hS.at_ 1 rfl).len1
                    have hS := (hS.at_ 1 rfl).reN hl5
                    have hS : Sep w0 B w (own 3 (.slice A7 (Int.toNat (w64 (r1 * r1))) c7) (vI (List.replicate (Int.toNat (w64 (r1 * r1))) (0 : Int))) :: own 3 (.slice A6 ((List.replicate (Int.toNat (w64 (r1 * r1))) (0 : Int)).length) c6) (vI (List.replicate (Int.toNat (w64 (r1 * r1))) (0 : Int))) :: rows 22 3 (.slice A3 out1.length c3) hd1 out1 :: own 3 (.slice A4 now1.length c4) (vI now1) :: fs) := hS
                    have hF := hF.cast (t := 7) (v := .slice A6 (Int.toNat (w64 (r1 * r1))) c6) (v' := .slice A6 ((List.replicate (Int.toNat (w64 (r1 * r1))) (0 : Int)).length) c6) rfl rfl (congrArg (fun k => Value.slice A6 k c6) hl5)
                    have hl6 := (hS.at_ 0 rfl).len1
                    have hS := (hS.at_ 0 rfl).reN hl6
                    have hS : Sep w0 B w (own 3 (.slice A7 ((List.replicate (Int.toNat (w64 (r1 * r1))) (0 : Int)).length) c7) (vI (List.replicate (Int.toNat (w64 (r1 * r1))) (0 : Int))) :: own 3 (.slice A6 ((List.replicate (Int.toNat (w64 (r1 * r1))) (0 : Int)).length) c6) (vI (List.replicate (Int.toNat (w64 (r1 * r1))) (0 : Int))) :: rows 22 3 (.slice A3 out1.length c3) hd1 out1 :: own 3 (.slice A4 now1.length c4) (vI now1) :: fs) := hS
                    have hF := hF.cast (t := 8) (v := .slice A7 (Int.toNat (w64 (r1 * r1))) c7) (v' := .slice A7 ((List.replicate (Int.toNat (w64 (r1 * r1))) (0 : Int)).length) c7) rfl rfl (congrArg (fun k => Value.slice A7 k c7) hl6)
                    have hS := hS.pickN 4 [2, 3, 1, 0] (by decide)
                    exact ⟨(List.replicate (Int.toNat (w64 (r1 * r1))) (0 : Int)), (List.replicate (Int.toNat (w64 (r1 * r1))) (0 : Int)), A6, c6, A7, c7, hF.weak [4, 5, 6, 7, 8, 19] (by kernel_rfl), hS, hm⟩
            · refine any_op (listed' := #[true, true, true, false, true, true, true, true, false, false]) (by kernel_rfl) (by kernel_rfl) ?_
              obtain ⟨A7, c7, w, hrun, hS⟩ := run_mk1 (P := Try.prog) (t := 22) (Value.int .i64) (0 : Int) hS .i64 .i64 Und22 hi3 hz3 hs3 (by omega) rfl hp2
              have hS : Sep w0 B w (own 3 (.slice A7 (Int.toNat (w64 (r1 * r1))) c7) (vI (List.replicate (Int.toNat (w64 (r1 * r1))) (0 : Int))) :: rows 22 3 (.slice A3 out1.length c3) hd1 out1 :: own 3 (.slice A4 now1.length c4) (vI now1) :: fs) := hS
              refine at_do (d := 28) hF (by kernel_rfl) (by kernel_rfl) hrun (fun a hF => ?_)
              refine any_fin rfl (hS.pickN 3 [1, 2] (by decide)) ?_
              refine any_step [3] (by kernel_rfl) rfl ?_
              refine (all_cons ?_ all_nil)
              · refine any_op (listed' := #[true, true, true, true, true, true, true, true, false, false]) (by kernel_rfl) (by kernel_rfl) ?_
                obtain ⟨A6, c6, w, hrun, hS⟩ := run_mk1 (P := Try.prog) (t := 22) (Value.int .i64) (0 : Int) hS .i64 .i64 Und22 hi3 hz3 hs3 (by omega) rfl hp1
                have hS : Sep w0 B w (own 3 (.slice A6 (Int.toNat (w64 (r1 * r1))) c6) (vI (List.replicate (Int.toNat (w64 (r1 * r1))) (0 : Int))) :: own 3 (.slice A7 (Int.toNat (w64 (r1 * r1))) c7) (vI (List.replicate (Int.toNat (w64 (r1 * r1))) (0 : Int))) :: rows 22 3 (.slice A3 out1.length c3) hd1 out1 :: own 3 (.slice A4 now1.length c4) (vI now1) :: fs) := hS
                refine at_do (d := 24) hF (by kernel_rfl) (by kernel_rfl) hrun (fun a hF => ?_)
                refine any_fin rfl (hS.pickN 4 [2, 3] (by decide)) ?_
                refine any_step [8] (by kernel_rfl) rfl ?_
                refine (all_cons ?_ all_nil)
                · refine any_op (listed' := #[true, true, true, true, true, true, true, true, true, false]) (by kernel_rfl) (by kernel_rfl) ?_
                  refine at_runW 1 [] [] [4, 5, 6, 7, 19, 28] [pl 4 (.int .i64 r1), pl 5 (.slice A3 out1.length c3), pl 6 (.slice A4 now1.length c4), pl 7 (.slice A6 (Int.toNat (w64 (r1 * r1))) c6), pl 19 (.int .i64 z1), pl 28 (.slice A7 (Int.toNat (w64 (r1 * r1))) c7)] hF hS (by kernel_rfl) (by kernel_rfl) ?_ (fun a hF => ?_)
                  · exact obs_nil
                  refine any_finI rfl (fun h => h) ?_
                  refine any_step [9] (by kernel_rfl) rfl ?_
                  refine (all_cons ?_ all_nil)
                  · refine any_op (listed' := #[true, true, true, true, true, true, true, true, true, true]) (by kernel_rfl) (by kernel_rfl) ?_
                    refine at_runW 1 [] [] [4, 5, 6, 7, 8, 19] [pl 4 (.int .i64 r1), pl 5 (.slice A3 out1.length c3), pl 6 (.slice A4 now1.length c4), pl 7 (.slice A6 (Int.toNat (w64 (r1 * r1))) c6), pl 8 (.slice A7 (Int.toNat (w64 (r1 * r1))) c7), pl 19 (.int .i64 z1)] hF hS (by kernel_rfl) (by kernel_rfl) ?_ (fun a hF => ?_)
                    · exact obs_nil
                    refine any_finI rfl (fun h => h) ?_
                    refine any_end (by kernel_rfl) ?_
                    refine np_n ?_
                    refine then_n ?_
                    have hl7 := (hS.at_ 0 rfl).len1
                    have hS := (hS.at_ 0 rfl).reN hl7
                    have hS : Sep w0 B w (own 3 (.slice A6 ((List.replicate (Int.toNat (w64 (r1 * r1))) (0 : Int)).length) c6) (vI (List.replicate (Int.toNat (w64 (r1 * r1))) (0 : Int))) :: own 3 (.slice A7 (Int.toNat (w64 (r1 * r1))) c7) (vI (List.replicate (Int.toNat (w64 (r1 * r1))) (0 : Int))) :: rows 22 3 (.slice A3 out1.length c3) hd1 out1 :: own 3 (.slice A4 now1.length c4) (vI now1) :: fs) := hS
                    have hF := hF.cast (t := 7) (v := .slice A6 (Int.toNat (w64 (r1 * r1))) c6) (v' := .slice A6 ((List.replicate (Int.toNat (w64 (r1 * r1))) (0 : Int)).length) c6) rfl rfl (congrArg (fun k => Value.slice A6 k c6) hl7)
                    have hl8 := (hS.at_ 1 rfl).len1
                    have hS := (hS.at_ 1 rfl).reN hl8
                    have hS : Sep w0 B w (own 3 (.slice A6 ((List.replicate (Int.toNat (w64 (r1 * r1))) (0 : Int)).length) c6) (vI (List.replicate (Int.toNat (w64 (r1 * r1))) (0 : Int))) :: own 3 (.slice A7 ((List.replicate (Int.toNat (w64 (r1 * r1))) (0 : Int)).length) c7) (vI (List.replicate (Int.toNat (w64 (r1 * r1))) (0 : Int))) :: rows 22 3 (.slice A3 out1.length c3) hd1 out1 :: own 3 (.slice A4 now1.length c4) (vI now1) :: fs) := hS
                    have hF := hF.cast (t := 8) (v := .slice A7 (Int.toNat (w64 (r1 * r1))) c7) (v' := .slice A7 ((List.replicate (Int.toNat (w64 (r1 * r1))) (0 : Int)).length) c7) rfl rfl (congrArg (fun k => Value.slice A7 k c7) hl8)
                    have hS := hS.pickN 4 [2, 3, 0, 1] (by decide)
                    exact ⟨(List.replicate (Int.toNat (w64 (r1 * r1))) (0 : Int)), (List.replicate (Int.toNat (w64 (r1 * r1))) (0 : Int)), A6, c6, A7, c7, hF.weak [4, 5, 6, 7, 8, 19] (by kernel_rfl), hS, hm⟩
      · refine cond_ev (t := 20) (b := decide (z1 < 4)) hF (by kernel_rfl) (fun hb => ?_) (fun hb => ?_)
        · replace hm := if_t hm hb
          refine wpIn_skip ?_
          refine then_n ?_
          exact ⟨hF.weak [4, 5, 6, 19] (by kernel_rfl), hS, hm⟩
        · replace hm := if_f hm hb
          refine wpIn_exit ?_
          refine then_e (then_e (block_e (then_n ?_)))
          have hS := hS.pickN 2 [0] (by decide)
          rw [← hφ1] at hm
          replace hm := done_b hm
          unfold magic_Forms_K1 at hm
          try dsimp only at hm
          have hm : (magic_Forms_J2 out1).bind some = some r := hm
          exact ⟨out1, A3, c3, hd1, hF.weak [5] (by kernel_rfl), hS, hm⟩
  · refine reg [] [] [0, 4, 16] [pl 0 (.slice A1 l1.length c1), pl 4 (.int .i64 r1), pl 16 (.bool (r1 == 0))] hF hS Fol (by kernel_rfl) (by kernel_rfl) (by kernel_rfl) ?_ (fun a w hF hS => ?_)
    · exact obs_nil
    refine cond_ev (t := 16) (b := (r1 == 0)) hF (by kernel_rfl) (fun hb => ?_) (fun hb => ?_)
    · replace hm := if_t hm hb
      refine reg [] [] [2, 3] [pl 2 (.slice none 0 0), pl 3 (.int .i64 2)] hF hS Fol (by kernel_rfl) (by kernel_rfl) (by kernel_rfl) ?_ (fun a w hF hS => ?_)
      · exact obs_nil
      refine wpIn_ret ?_
      refine then_r ?_
      have hS : Sep w0 B w (rows 22 3 (.slice none 0 0) ([]) ([] : List (List Int)) :: fs) := hS.nilRows0 22 3
      have hl1 := (hS.at_ 0 rfl).lenR
      have hS := (hS.at_ 0 rfl).reNR hl1
      have hS : Sep w0 B w (rows 22 3 (.slice none (([] : List (List Int)).length) 0) ([]) ([] : List (List Int)) :: fs) := hS
      have hm : some (([] : List (List Int)), 2) = some r := hm
      obtain rfl := Option.some.inj hm
      exact retV (rs := [.tmp 2, .tmp 3]) (vs := [.slice none (([] : List (List Int)).length) 0, .int .i64 2]) hF rfl (rv_t (by kernel_rfl) <| rv_t (by kernel_rfl) <| rv_nil) rfl ⟨_, rfl, none, 0, ([]), rfl, hS⟩
    · replace hm := if_f hm hb
      refine wpIn_skip ?_
      refine then_n ?_
      exact ⟨hF.weak [0, 4] (by kernel_rfl), hS, hm⟩

noncomputable def slices_Min_J4  (x1 : List Int) (m1 : Int) (i1 : Int) : Option (St (Int × Int) Int) :=
  some (.next ((minI m1 (geti x1 i1)), (w64 (i1 + 1))))

noncomputable def slices_Min_J3  (x1 : List Int) (m1 : Int) (i1 : Int) : Option (St (Int × Int) Int) :=
  asrt (0 ≤ i1 ∧ i1 < (x1.length : Int)) <| (slices_Min_J4 x1 m1 i1)

noncomputable def slices_Min_J2  (m2 : Int) : Option Int :=
  some m2

noncomputable def slices_Min_K1  : Int → Option Int :=
  fun (x : Int) => match x with | m2 => slices_Min_J2 m2

noncomputable def slices_Min_L1  (x1 : List Int) : (Int × Int) → Option (St (Int × Int) Int) :=
  fun (x : (Int × Int)) => match x with | (m1, i1) => if (decide (i1 < (x1.length : Int))) then ((slices_Min_J3 x1 m1 i1)) else (some (.done m1))

noncomputable def slices_Min_J1  (x1 : List Int) : Option Int :=
  asrt (0 ≤ (0 : Int) ∧ (0 : Int) < (x1.length : Int)) <| (loop (slices_Min_L1 x1) ((geti x1 0), 1)).bind slices_Min_K1

noncomputable def slices_Min_m  (x1 : List Int) : Option Int :=
  if (decide ((x1.length : Int) < 1)) then none else ((slices_Min_J1 x1))

set_option maxRecDepth 100000 in
set_option maxHeartbeats 4000000 in
theorem slices_Min_w  {A1 : Option Addr} {c1 : Nat} {n1 : Nat} {x1 : List Int} {r : Int} {w0 w : World} {B : Nat} {fs : List HP} (hm : slices_Min_m x1 = some r) (hS : Sep w0 B w (fs)) (hr_x1 : RdF w0 B fs A1 (vI x1)) (_hc_x1 : x1.length ≤ c1) (_hn_x1 : n1 = x1.length) :
    Calls Try.prog 135 #[.slice A1 n1 c1] w fun e w' => e = .returned (.int .i64 r) ∧ Sep w0 B w' (fs) := by
  obtain ⟨i3, hi3, hz3, hs3, hb3⟩ := info_parts Info3
  obtain rfl := _hn_x1
  unfold slices_Min_m at hm
  replace hm := start_b hm
  refine enter (l := [.slice A1 x1.length c1]) (n := 25) Try.func135 rfl rfl (by simp) (fun a hF => ?_)
  refine reg [] [] [0] [pl 0 (.slice A1 x1.length c1)] hF hS Fol (by kernel_rfl) (by kernel_rfl) (by kernel_rfl) ?_ (fun a w hF hS => ?_)
  · exact obs_nil
  refine seq_cut (fun a w => Fr 25 [pl 0 (.slice A1 x1.length c1)] a ∧ Sep w0 B w (fs) ∧ ((slices_Min_J1 x1)).bind some = some r) ?_ ?_
  · rintro a w ⟨hF, hS, hm⟩
    unfold slices_Min_J1 at hm
    obtain ⟨hp1, hm⟩ := asrt_b hm
    refine reg [⟨true, [], vS (Instr.indexAt 22 (.slice A1 x1.length c1) (.int .i64 0)), .pointer (some (sAddr A1 0))⟩, ⟨false, [], vS (Instr.loadAt 3 (.pointer (some (sAddr A1 0)))), .int .i64 (geti x1 0)⟩] [none, some (.pointer (some (sAddr A1 0))), some (.int .i64 (geti x1 0)), none] [0, 3] [pl 0 (.slice A1 x1.length c1), pl 3 (.int .i64 (geti x1 0))] hF hS Fol (by kernel_rfl) (by kernel_rfl) (by kernel_rfl) ?_ (fun a w hF hS => ?_)
    · exact obs_cons (ob_ix1 (f := (Value.int .i64)) (m := x1) Und22 hi3 hs3 (hr_x1 _ (hS.dropN 0)) rfl (fun _ => hp1)) <| obs_cons (ob_get1 (n := x1.length) (m := x1) (Value.int .i64) (0 : Int) Agg3 (fun _ hS => ⟨_, (hr_x1 _ (hS.dropN 0))⟩) (fun _ hS => rfl) (fun _ => hp1)) <| obs_nil
    refine seq_cut (fun a w => ∃ (m2 : Int), Fr 25 [pl 3 (.int .i64 m2)] a ∧ Sep w0 B w (fs) ∧ (slices_Min_J2 m2).bind some = some r) ?_ ?_
    · rintro a w ⟨m2, hF, hS, hm⟩
      unfold slices_Min_J2 at hm
      refine reg [] [] [2] [pl 2 (.int .i64 m2)] hF hS Fol (by kernel_rfl) (by kernel_rfl) (by kernel_rfl) ?_ (fun a w hF hS => ?_)
      · exact obs_nil
      refine wpIn_ret ?_
      have hm : some m2 = some r := hm
      obtain rfl := Option.some.inj hm
      exact retV (rs := [.tmp 2]) (vs := [.int .i64 m2]) hF rfl (rv_t (by kernel_rfl) <| rv_nil) rfl ⟨rfl, hS⟩
    · refine reg [] [] [0, 3, 4] [pl 0 (.slice A1 x1.length c1), pl 3 (.int .i64 (geti x1 0)), pl 4 (.int .i64 1)] hF hS Fol (by kernel_rfl) (by kernel_rfl) (by kernel_rfl) ?_ (fun a w hF hS => ?_)
      · exact obs_nil
      refine wpIn_block ?_
      refine wp_loop_model (S := (Int × Int)) (R := Int) (slices_Min_L1 x1) (fun x => (slices_Min_K1 x).bind some) r (fun (x : (Int × Int)) a w => Fr 25 [pl 0 (.slice A1 x1.length c1), pl 3 (.int .i64 x.1), pl 4 (.int .i64 x.2)] a ∧ Sep w0 B w (fs)) (assoc_b hm) ⟨hF.weak [0, 3, 4] (by kernel_rfl), hS⟩ ?_
      clear hF hS hm
      rintro nn1 ⟨m1, i1⟩ a w ⟨hF, hS⟩ hm
      generalize hφ1 : stK (slices_Min_L1 x1) nn1 (fun x => (slices_Min_K1 x).bind some) = φ1 at hm
      unfold slices_Min_L1 at hm
      dsimp only at hF hS hm
      refine seq_cut (fun a w => Fr 25 [pl 0 (.slice A1 x1.length c1), pl 3 (.int .i64 m1), pl 4 (.int .i64 i1)] a ∧ Sep w0 B w (fs) ∧ ((slices_Min_J3 x1 m1 i1)).bind φ1 = some r) ?_ ?_
      · rintro a w ⟨hF, hS, hm⟩
        unfold slices_Min_J3 at hm
        refine seq_cut (fun a w => Fr 25 [pl 0 (.slice A1 x1.length c1), pl 3 (.int .i64 (minI m1 (geti x1 i1))), pl 4 (.int .i64 i1)] a ∧ Sep w0 B w (fs) ∧ ((slices_Min_J4 x1 m1 i1)).bind φ1 = some r) ?_ ?_
        · rintro a w ⟨hF, hS, hm⟩
          unfold slices_Min_J4 at hm
          refine reg1 [] [] [0, 3, 4] [pl 0 (.slice A1 x1.length c1), pl 3 (.int .i64 (minI m1 (geti x1 i1))), pl 4 (.int .i64 (w64 (i1 + 1)))] hF hS Fol (by kernel_rfl) (by kernel_rfl) (by kernel_rfl) ?_ (fun a w hF hS => ?_)
          · exact obs_nil
          refine then_n ?_
          rw [← hφ1] at hm
          exact ⟨((minI m1 (geti x1 i1)), (w64 (i1 + 1))), ⟨hF.weak [0, 3, 4] (by kernel_rfl), hS⟩, hm⟩
        · refine wpIn_block ?_
          obtain ⟨hp2, hm⟩ := asrt_b hm
          refine reg1 [⟨true, [], vS (Instr.indexAt 22 (.slice A1 x1.length c1) (.int .i64 i1)), .pointer (some (sAddr A1 i1))⟩, ⟨false, [], vS (Instr.loadAt 3 (.pointer (some (sAddr A1 i1)))), .int .i64 (geti x1 i1)⟩, ⟨true, [], vS (Builtin.min_ #[3, 3] 3 #[.int .i64 m1, .int .i64 (geti x1 i1)]), .int .i64 (minI m1 (geti x1 i1))⟩] [none, none, none, some (.pointer (some (sAddr A1 i1))), some (.int .i64 (geti x1 i1)), some (.int .i64 (minI m1 (geti x1 i1))), none] [0, 3, 4] [pl 0 (.slice A1 x1.length c1), pl 3 (.int .i64 (minI m1 (geti x1 i1))), pl 4 (.int .i64 i1)] hF hS Fol (by kernel_rfl) (by kernel_rfl) (by kernel_rfl) ?_ (fun a w hF hS => ?_)
          · exact obs_cons (ob_ix1 (f := (Value.int .i64)) (m := x1) Und22 hi3 hs3 (hr_x1 _ (hS.dropN 0)) rfl (fun _ => hp2)) <| obs_cons (ob_get1 (n := x1.length) (m := x1) (Value.int .i64) (0 : Int) Agg3 (fun _ hS => ⟨_, (hr_x1 _ (hS.dropN 0))⟩) (fun _ hS => rfl) (fun _ => hp2)) <| obs_cons (ob_min rfl) <| obs_nil
          refine block_n ?_
          refine then_n ?_
          exact ⟨hF.weak [0, 3, 4] (by kernel_rfl), hS, hm⟩
      · refine reg [] [] [0, 3, 4, 15] [pl 0 (.slice A1 x1.length c1), pl 3 (.int .i64 m1), pl 4 (.int .i64 i1), pl 15 (.bool (decide (i1 < (x1.length : Int))))] hF hS Fol (by kernel_rfl) (by kernel_rfl) (by kernel_rfl) ?_ (fun a w hF hS => ?_)
        · exact obs_nil
        refine cond_ev (t := 15) (b := decide (i1 < (x1.length : Int))) hF (by kernel_rfl) (fun hb => ?_) (fun hb => ?_)
        · replace hm := if_t hm hb
          refine wpIn_skip ?_
          refine then_n ?_
          exact ⟨hF.weak [0, 3, 4] (by kernel_rfl), hS, hm⟩
        · replace hm := if_f hm hb
          refine wpIn_exit ?_
          refine then_e (then_e (block_e (then_n ?_)))
          rw [← hφ1] at hm
          replace hm := done_b hm
          unfold slices_Min_K1 at hm
          try dsimp only at hm
          have hm : (slices_Min_J2 m1).bind some = some r := hm
          exact ⟨m1, hF.weak [3] (by kernel_rfl), hS, hm⟩
  · refine reg [] [] [0, 7] [pl 0 (.slice A1 x1.length c1), pl 7 (.bool (decide ((x1.length : Int) < 1)))] hF hS Fol (by kernel_rfl) (by kernel_rfl) (by kernel_rfl) ?_ (fun a w hF hS => ?_)
    · exact obs_nil
    refine cond_ev (t := 7) (b := decide ((x1.length : Int) < 1)) hF (by kernel_rfl) (fun hb => ?_) (fun hb => ?_)
    · replace hm := if_t hm hb
      simp at hm
    · replace hm := if_f hm hb
      refine wpIn_skip ?_
      refine then_n ?_
      exact ⟨hF.weak [0] (by kernel_rfl), hS, hm⟩

noncomputable def slices_Max_J4  (x1 : List Int) (m1 : Int) (i1 : Int) : Option (St (Int × Int) Int) :=
  some (.next ((maxI m1 (geti x1 i1)), (w64 (i1 + 1))))

noncomputable def slices_Max_J3  (x1 : List Int) (m1 : Int) (i1 : Int) : Option (St (Int × Int) Int) :=
  asrt (0 ≤ i1 ∧ i1 < (x1.length : Int)) <| (slices_Max_J4 x1 m1 i1)

noncomputable def slices_Max_J2  (m2 : Int) : Option Int :=
  some m2

noncomputable def slices_Max_K1  : Int → Option Int :=
  fun (x : Int) => match x with | m2 => slices_Max_J2 m2

noncomputable def slices_Max_L1  (x1 : List Int) : (Int × Int) → Option (St (Int × Int) Int) :=
  fun (x : (Int × Int)) => match x with | (m1, i1) => if (decide (i1 < (x1.length : Int))) then ((slices_Max_J3 x1 m1 i1)) else (some (.done m1))

noncomputable def slices_Max_J1  (x1 : List Int) : Option Int :=
  asrt (0 ≤ (0 : Int) ∧ (0 : Int) < (x1.length : Int)) <| (loop (slices_Max_L1 x1) ((geti x1 0), 1)).bind slices_Max_K1

noncomputable def slices_Max_m  (x1 : List Int) : Option Int :=
  if (decide ((x1.length : Int) < 1)) then none else ((slices_Max_J1 x1))

set_option maxRecDepth 100000 in
set_option maxHeartbeats 4000000 in
theorem slices_Max_w  {A1 : Option Addr} {c1 : Nat} {n1 : Nat} {x1 : List Int} {r : Int} {w0 w : World} {B : Nat} {fs : List HP} (hm : slices_Max_m x1 = some r) (hS : Sep w0 B w (fs)) (hr_x1 : RdF w0 B fs A1 (vI x1)) (_hc_x1 : x1.length ≤ c1) (_hn_x1 : n1 = x1.length) :
    Calls Try.prog 136 #[.slice A1 n1 c1] w fun e w' => e = .returned (.int .i64 r) ∧ Sep w0 B w' (fs) := by
  obtain ⟨i3, hi3, hz3, hs3, hb3⟩ := info_parts Info3
  obtain rfl := _hn_x1
  unfold slices_Max_m at hm
  replace hm := start_b hm
  refine enter (l := [.slice A1 x1.length c1]) (n := 25) Try.func136 rfl rfl (by simp) (fun a hF => ?_)
  refine reg [] [] [0] [pl 0 (.slice A1 x1.length c1)] hF hS Fol (by kernel_rfl) (by kernel_rfl) (by kernel_rfl) ?_ (fun a w hF hS => ?_)
  · exact obs_nil
  refine seq_cut (fun a w => Fr 25 [pl 0 (.slice A1 x1.length c1)] a ∧ Sep w0 B w (fs) ∧ ((slices_Max_J1 x1)).bind some = some r) ?_ ?_
  · rintro a w ⟨hF, hS, hm⟩
    unfold slices_Max_J1 at hm
    obtain ⟨hp1, hm⟩ := asrt_b hm
    refine reg [⟨true, [], vS (Instr.indexAt 22 (.slice A1 x1.length c1) (.int .i64 0)), .pointer (some (sAddr A1 0))⟩, ⟨false, [], vS (Instr.loadAt 3 (.pointer (some (sAddr A1 0)))), .int .i64 (geti x1 0)⟩] [none, some (.pointer (some (sAddr A1 0))), some (.int .i64 (geti x1 0)), none] [0, 3] [pl 0 (.slice A1 x1.length c1), pl 3 (.int .i64 (geti x1 0))] hF hS Fol (by kernel_rfl) (by kernel_rfl) (by kernel_rfl) ?_ (fun a w hF hS => ?_)
    · exact obs_cons (ob_ix1 (f := (Value.int .i64)) (m := x1) Und22 hi3 hs3 (hr_x1 _ (hS.dropN 0)) rfl (fun _ => hp1)) <| obs_cons (ob_get1 (n := x1.length) (m := x1) (Value.int .i64) (0 : Int) Agg3 (fun _ hS => ⟨_, (hr_x1 _ (hS.dropN 0))⟩) (fun _ hS => rfl) (fun _ => hp1)) <| obs_nil
    refine seq_cut (fun a w => ∃ (m2 : Int), Fr 25 [pl 3 (.int .i64 m2)] a ∧ Sep w0 B w (fs) ∧ (slices_Max_J2 m2).bind some = some r) ?_ ?_
    · rintro a w ⟨m2, hF, hS, hm⟩
      unfold slices_Max_J2 at hm
      refine reg [] [] [2] [pl 2 (.int .i64 m2)] hF hS Fol (by kernel_rfl) (by kernel_rfl) (by kernel_rfl) ?_ (fun a w hF hS => ?_)
      · exact obs_nil
      refine wpIn_ret ?_
      have hm : some m2 = some r := hm
      obtain rfl := Option.some.inj hm
      exact retV (rs := [.tmp 2]) (vs := [.int .i64 m2]) hF rfl (rv_t (by kernel_rfl) <| rv_nil) rfl ⟨rfl, hS⟩
    · refine reg [] [] [0, 3, 4] [pl 0 (.slice A1 x1.length c1), pl 3 (.int .i64 (geti x1 0)), pl 4 (.int .i64 1)] hF hS Fol (by kernel_rfl) (by kernel_rfl) (by kernel_rfl) ?_ (fun a w hF hS => ?_)
      · exact obs_nil
      refine wpIn_block ?_
      refine wp_loop_model (S := (Int × Int)) (R := Int) (slices_Max_L1 x1) (fun x => (slices_Max_K1 x).bind some) r (fun (x : (Int × Int)) a w => Fr 25 [pl 0 (.slice A1 x1.length c1), pl 3 (.int .i64 x.1), pl 4 (.int .i64 x.2)] a ∧ Sep w0 B w (fs)) (assoc_b hm) ⟨hF.weak [0, 3, 4] (by kernel_rfl), hS⟩ ?_
      clear hF hS hm
      rintro nn1 ⟨m1, i1⟩ a w ⟨hF, hS⟩ hm
      generalize hφ1 : stK (slices_Max_L1 x1) nn1 (fun x => (slices_Max_K1 x).bind some) = φ1 at hm
      unfold slices_Max_L1 at hm
      dsimp only at hF hS hm
      refine seq_cut (fun a w => Fr 25 [pl 0 (.slice A1 x1.length c1), pl 3 (.int .i64 m1), pl 4 (.int .i64 i1)] a ∧ Sep w0 B w (fs) ∧ ((slices_Max_J3 x1 m1 i1)).bind φ1 = some r) ?_ ?_
      · rintro a w ⟨hF, hS, hm⟩
        unfold slices_Max_J3 at hm
        refine seq_cut (fun a w => Fr 25 [pl 0 (.slice A1 x1.length c1), pl 3 (.int .i64 (maxI m1 (geti x1 i1))), pl 4 (.int .i64 i1)] a ∧ Sep w0 B w (fs) ∧ ((slices_Max_J4 x1 m1 i1)).bind φ1 = some r) ?_ ?_
        · rintro a w ⟨hF, hS, hm⟩
          unfold slices_Max_J4 at hm
          refine reg1 [] [] [0, 3, 4] [pl 0 (.slice A1 x1.length c1), pl 3 (.int .i64 (maxI m1 (geti x1 i1))), pl 4 (.int .i64 (w64 (i1 + 1)))] hF hS Fol (by kernel_rfl) (by kernel_rfl) (by kernel_rfl) ?_ (fun a w hF hS => ?_)
          · exact obs_nil
          refine then_n ?_
          rw [← hφ1] at hm
          exact ⟨((maxI m1 (geti x1 i1)), (w64 (i1 + 1))), ⟨hF.weak [0, 3, 4] (by kernel_rfl), hS⟩, hm⟩
        · refine wpIn_block ?_
          obtain ⟨hp2, hm⟩ := asrt_b hm
          refine reg1 [⟨true, [], vS (Instr.indexAt 22 (.slice A1 x1.length c1) (.int .i64 i1)), .pointer (some (sAddr A1 i1))⟩, ⟨false, [], vS (Instr.loadAt 3 (.pointer (some (sAddr A1 i1)))), .int .i64 (geti x1 i1)⟩, ⟨true, [], vS (Builtin.max_ #[3, 3] 3 #[.int .i64 m1, .int .i64 (geti x1 i1)]), .int .i64 (maxI m1 (geti x1 i1))⟩] [none, none, none, some (.pointer (some (sAddr A1 i1))), some (.int .i64 (geti x1 i1)), some (.int .i64 (maxI m1 (geti x1 i1))), none] [0, 3, 4] [pl 0 (.slice A1 x1.length c1), pl 3 (.int .i64 (maxI m1 (geti x1 i1))), pl 4 (.int .i64 i1)] hF hS Fol (by kernel_rfl) (by kernel_rfl) (by kernel_rfl) ?_ (fun a w hF hS => ?_)
          · exact obs_cons (ob_ix1 (f := (Value.int .i64)) (m := x1) Und22 hi3 hs3 (hr_x1 _ (hS.dropN 0)) rfl (fun _ => hp2)) <| obs_cons (ob_get1 (n := x1.length) (m := x1) (Value.int .i64) (0 : Int) Agg3 (fun _ hS => ⟨_, (hr_x1 _ (hS.dropN 0))⟩) (fun _ hS => rfl) (fun _ => hp2)) <| obs_cons (ob_max rfl) <| obs_nil
          refine block_n ?_
          refine then_n ?_
          exact ⟨hF.weak [0, 3, 4] (by kernel_rfl), hS, hm⟩
      · refine reg [] [] [0, 3, 4, 15] [pl 0 (.slice A1 x1.length c1), pl 3 (.int .i64 m1), pl 4 (.int .i64 i1), pl 15 (.bool (decide (i1 < (x1.length : Int))))] hF hS Fol (by kernel_rfl) (by kernel_rfl) (by kernel_rfl) ?_ (fun a w hF hS => ?_)
        · exact obs_nil
        refine cond_ev (t := 15) (b := decide (i1 < (x1.length : Int))) hF (by kernel_rfl) (fun hb => ?_) (fun hb => ?_)
        · replace hm := if_t hm hb
          refine wpIn_skip ?_
          refine then_n ?_
          exact ⟨hF.weak [0, 3, 4] (by kernel_rfl), hS, hm⟩
        · replace hm := if_f hm hb
          refine wpIn_exit ?_
          refine then_e (then_e (block_e (then_n ?_)))
          rw [← hφ1] at hm
          replace hm := done_b hm
          unfold slices_Max_K1 at hm
          try dsimp only at hm
          have hm : (slices_Max_J2 m1).bind some = some r := hm
          exact ⟨m1, hF.weak [3] (by kernel_rfl), hS, hm⟩
  · refine reg [] [] [0, 7] [pl 0 (.slice A1 x1.length c1), pl 7 (.bool (decide ((x1.length : Int) < 1)))] hF hS Fol (by kernel_rfl) (by kernel_rfl) (by kernel_rfl) ?_ (fun a w hF hS => ?_)
    · exact obs_nil
    refine cond_ev (t := 7) (b := decide ((x1.length : Int) < 1)) hF (by kernel_rfl) (fun hb => ?_) (fun hb => ?_)
    · replace hm := if_t hm hb
      simp at hm
    · replace hm := if_f hm hb
      refine wpIn_skip ?_
      refine then_n ?_
      exact ⟨hF.weak [0] (by kernel_rfl), hS, hm⟩

noncomputable def magic_Product_J4  (z1 : Int) : Option (St Int (Fl Unit (List Int × Int))) :=
  some (.next (w64 (z1 + 1)))

noncomputable def magic_Product_J3  (a1 : List Int) (b1 : List Int) (z1 : Int) : Option (St Int (Fl Unit (List Int × Int))) :=
  asrt (0 ≤ z1 ∧ z1 < 2) <| (slices_Min_m (geti2 ([a1, b1] : List (List Int)) z1)).bind fun r3 => ((if (!(decide (r3 < 1))) then slices_Max_m (geti2 ([a1, b1] : List (List Int)) z1) else some 0)).bind fun r4 => if ((decide (r3 < 1)) || (decide ((((geti2 ([a1, b1] : List (List Int)) z1).length : Nat) : Int) < r4))) then (some (.done (.ret (([] : List Int), 3)))) else ((magic_Product_J4 z1))

noncomputable def magic_Product_J9  (z3 : Int) (out5 : List Int) : Option (St (List Int × Int) (List Int)) :=
  some (.next (out5, (w64 (z3 + 1))))

noncomputable def magic_Product_J8  (a1 : List Int) (b1 : List Int) (r1 : Int) (r2 : Int) (z2 : Int) (out3 : List Int) (z3 : Int) : Option (St (List Int × Int) (List Int)) :=
  asrt (r2 ≠ (0 : Int)) <| asrt (r2 ≠ (0 : Int)) <| asrt (0 ≤ (w64 ((w64 ((w64 (Int.tdiv z2 r2)) * r1)) + (w64 (Int.tdiv z3 r2)))) ∧ (w64 ((w64 ((w64 (Int.tdiv z2 r2)) * r1)) + (w64 (Int.tdiv z3 r2)))) < (a1.length : Int)) <| asrt (r2 ≠ (0 : Int)) <| asrt (r2 ≠ (0 : Int)) <| asrt (0 ≤ (w64 ((w64 ((Int.tmod z2 r2) * r2)) + (Int.tmod z3 r2))) ∧ (w64 ((w64 ((Int.tmod z2 r2) * r2)) + (Int.tmod z3 r2))) < (b1.length : Int)) <| asrt ((out3.length : Int) + 1 ≤ bigN) <| (magic_Product_J9 z3) (out3 ++ ([w64 ((w64 ((w64 ((w64 ((geti a1 (w64 ((w64 ((w64 (Int.tdiv z2 r2)) * r1)) + (w64 (Int.tdiv z3 r2))))) - 1)) * r2)) * r2)) + (geti b1 (w64 ((w64 ((Int.tmod z2 r2) * r2)) + (Int.tmod z3 r2)))))] : List Int))

noncomputable def magic_Product_L3  (a1 : List Int) (b1 : List Int) (r1 : Int) (r2 : Int) (z2 : Int) : (List Int × Int) → Option (St (List Int × Int) (List Int)) :=
  fun (x : (List Int × Int)) => match x with | (out3, z3) => if (decide (z3 < (w64 (r1 * r2)))) then ((magic_Product_J8 a1 b1 r1 r2 z2 out3 z3)) else (some (.done out3))

noncomputable def magic_Product_J7  (z2 : Int) (out4 : List Int) : Option (St (List Int × Int) (List Int)) :=
  some (.next (out4, (w64 (z2 + 1))))

noncomputable def magic_Product_K3  (z2 : Int) : (List Int) → Option (St (List Int × Int) (List Int)) :=
  fun (x : (List Int)) => match x with | out4 => (magic_Product_J7 z2) out4

noncomputable def magic_Product_J6  (a1 : List Int) (b1 : List Int) (r1 : Int) (r2 : Int) (out1 : List Int) (z2 : Int) : Option (St (List Int × Int) (List Int)) :=
  (loop (magic_Product_L3 a1 b1 r1 r2 z2) (out1, 0)).bind (magic_Product_K3 z2)

noncomputable def magic_Product_L2  (a1 : List Int) (b1 : List Int) (r1 : Int) (r2 : Int) : (List Int × Int) → Option (St (List Int × Int) (List Int)) :=
  fun (x : (List Int × Int)) => match x with | (out1, z2) => if (decide (z2 < (w64 (r1 * r2)))) then ((magic_Product_J6 a1 b1 r1 r2 out1 z2)) else (some (.done out1))

noncomputable def magic_Product_J5  (out2 : List Int) : Option (List Int × Int) :=
  some (out2, 0)

noncomputable def magic_Product_K2  : (List Int) → Option (List Int × Int) :=
  fun (x : (List Int)) => match x with | out2 => magic_Product_J5 out2

noncomputable def magic_Product_J2  (a1 : List Int) (b1 : List Int) (r1 : Int) (r2 : Int) : Option (List Int × Int) :=
  (loop (magic_Product_L2 a1 b1 r1 r2) (([] : List Int), 0)).bind magic_Product_K2

noncomputable def magic_Product_K1  (a1 : List Int) (b1 : List Int) (r1 : Int) (r2 : Int) : (Fl Unit (List Int × Int)) → Option (List Int × Int) :=
  fun (x : (Fl Unit (List Int × Int))) => match x with | .go _ => (magic_Product_J2 a1 b1 r1 r2) | .ret x => some x

noncomputable def magic_Product_L1  (a1 : List Int) (b1 : List Int) : Int → Option (St Int (Fl Unit (List Int × Int))) :=
  fun (x : Int) => match x with | z1 => if (decide (z1 < 2)) then ((magic_Product_J3 a1 b1 z1)) else (some (.done (.go ())))

noncomputable def magic_Product_J1  (a1 : List Int) (b1 : List Int) (r1 : Int) (r2 : Int) : Option (List Int × Int) :=
  (loop (magic_Product_L1 a1 b1) 0).bind (magic_Product_K1 a1 b1 r1 r2)
end Go.Proofs.Ytoickcchcjehdaa
