/-
  Models and walks, printed by our own program (wip/gen).
-/
import Derived.Test.YtbmhcapeikebgaaFB
import Derived.Test.YtbmhcapeikebgaaFM
namespace Go.Proofs.Ytbmhcapeikebgaa
open Go Go.GL Go.RowKit




noncomputable def gameroomlaw_ints_m  (l1 : List Int) : Option (List Int) :=
  asrt ((0 : Int) + (l1.length : Int) ≤ bigN) <| some ([] ++ l1)

set_option maxRecDepth 100000 in
set_option maxHeartbeats 4000000 in
theorem gameroomlaw_ints_w {A1 : Option Addr} {c1 : Nat} {n1 : Nat} {l1 : List Int} {r : (List Int)} {w0 w : World} {B : Nat} {fs : List HP} (hm : gameroomlaw_ints_m l1 = some r) (hS : Sep w0 B w (fs)) (hr_l1 : RdF w0 B fs A1 (vI l1)) (_hc_l1 : l1.length ≤ c1) (_hn_l1 : n1 = l1.length) :
    Calls Try.prog 30 #[.slice A1 n1 c1] w fun e w' => ∃ v, e = .returned v ∧ ∃ (A3 : Option Addr) (c3 : Nat), v = .slice A3 r.length c3 ∧ Sep w0 B w' (own 3 (.slice A3 r.length c3) (vI r) :: fs) := by
  obtain ⟨i3, hi3, hz3, hs3, hb3⟩ := info_parts Info3
  obtain rfl := _hn_l1
  unfold gameroomlaw_ints_m at hm
  replace hm := start_b hm
  refine enter (l := [.slice A1 l1.length c1]) (n := 5) Try.func30 rfl rfl (by simp) (fun a hF => ?_)
  refine reg [] [] [0] [pl 0 (.slice A1 l1.length c1)] hF hS Fol (by kernel_rfl) (by kernel_rfl) (by kernel_rfl) ?_ (fun a w hF hS => ?_)
  · exact obs_nil
  refine seqR ?_
  obtain ⟨hp1, hm⟩ := asrt_b hm
  refine at_run 1 [] [] [3] [pl 3 (.slice A1 l1.length c1)] hF hS (by kernel_rfl) (by kernel_rfl) ?_ (fun a w hF hS => ?_)
  · exact obs_nil
  have hS : Sep w0 B w (own 3 (.slice none 0 0) (vI ([] : List Int)) :: fs) := hS.nil 3
  obtain ⟨A2, c2, w, hrun, hS⟩ := run_app1 (P := Try.prog) (t := 40) (m := ([] : List Int)) (ys := l1) (A2 := A1) (m2 := l1.length) (c2 := c1) (Value.int .i64) (0 : Int) (hS.at_ 0 rfl) (hr_l1 _ (hS.dropN 1)) rfl 40 Und40 hi3 hz3 hs3 (by omega) rfl (fun _ => rfl) hp1
  have hS : Sep w0 B w (own 3 (.slice A2 (([] ++ l1).length) c2) (vI ([] ++ l1)) :: fs) := hS
  refine at_do (d := 4) hF (by kernel_rfl) (by kernel_rfl) hrun (fun a hF => ?_)
  refine at_run 1 [] [] [2] [pl 2 (.slice A2 (([] ++ l1).length) c2)] hF hS (by kernel_rfl) (by kernel_rfl) ?_ (fun a w hF hS => ?_)
  · exact obs_nil
  refine at_end [2] [pl 2 (.slice A2 (([] ++ l1).length) c2)] hF rfl (by kernel_rfl) (fun hF => ?_)
  refine then_n ?_
  refine wpIn_ret ?_
  have hm : some ([] ++ l1) = some r := hm
  obtain rfl := Option.some.inj hm
  exact retV (rs := [.tmp 2]) (vs := [.slice A2 (([] ++ l1).length) c2]) hF rfl (rv_t (by kernel_rfl) <| rv_nil) rfl ⟨_, rfl, A2, c2, rfl, hS⟩

noncomputable def gammon_Rolls_1_m  (n1 : Int) : Option Bool :=
  some (decide (n1 < 0))

set_option maxRecDepth 100000 in
set_option maxHeartbeats 4000000 in
theorem gammon_Rolls_1_w {n1 : Int} {r : Bool} {w0 w : World} {B : Nat} {fs : List HP} (hm : gammon_Rolls_1_m n1 = some r) (hS : Sep w0 B w (fs)) :
    Calls Try.prog 95 #[.int .i64 n1] w fun e w' => e = .returned (.bool r) ∧ Sep w0 B w' (fs) := by
  unfold gammon_Rolls_1_m at hm
  replace hm := start_b hm
  refine enter (l := [.int .i64 n1]) (n := 5) Try.func95 rfl rfl (by simp) (fun a hF => ?_)
  refine reg [] [] [0] [pl 0 (.int .i64 n1)] hF hS Fol (by kernel_rfl) (by kernel_rfl) (by kernel_rfl) ?_ (fun a w hF hS => ?_)
  · exact obs_nil
  refine reg [] [] [2] [pl 2 (.bool (decide (n1 < 0)))] hF hS Fol (by kernel_rfl) (by kernel_rfl) (by kernel_rfl) ?_ (fun a w hF hS => ?_)
  · exact obs_nil
  refine wpIn_ret ?_
  have hm : some (decide (n1 < 0)) = some r := hm
  obtain rfl := Option.some.inj hm
  exact retV (rs := [.tmp 2]) (vs := [.bool (decide (n1 < 0))]) hF rfl (rv_t (by kernel_rfl) <| rv_nil) rfl ⟨rfl, hS⟩

noncomputable def slices_IndexFunc_J3  (z1 : Int) : Option (St Int (Fl Unit Int)) :=
  some (.next (w64 (z1 + 1)))

noncomputable def slices_IndexFunc_J2  (s1 : List Int) (z1 : Int) : Option (St Int (Fl Unit Int)) :=
  asrt (0 ≤ z1 ∧ z1 < (s1.length : Int)) <| (gammon_Rolls_1_m (geti s1 z1)).bind fun r1 => if r1 then (some (.done (.ret z1))) else ((slices_IndexFunc_J3 z1))

noncomputable def slices_IndexFunc_J1  : Option Int :=
  some (-1)

noncomputable def slices_IndexFunc_K1  : (Fl Unit Int) → Option Int :=
  fun (x : (Fl Unit Int)) => match x with | .go _ => slices_IndexFunc_J1 | .ret x => some x

noncomputable def slices_IndexFunc_L1  (s1 : List Int) : Int → Option (St Int (Fl Unit Int)) :=
  fun (x : Int) => match x with | z1 => if (decide (z1 < (s1.length : Int))) then ((slices_IndexFunc_J2 s1 z1)) else (some (.done (.go ())))

noncomputable def slices_IndexFunc_m  (s1 : List Int) : Option Int :=
  (loop (slices_IndexFunc_L1 s1) 0).bind slices_IndexFunc_K1

set_option maxRecDepth 100000 in
set_option maxHeartbeats 4000000 in
theorem slices_IndexFunc_w {A1 : Option Addr} {c1 : Nat} {n1 : Nat} {s1 : List Int} {r : Int} {w0 w : World} {B : Nat} {fs : List HP} (hm : slices_IndexFunc_m s1 = some r) (hS : Sep w0 B w (fs)) (hr_s1 : RdF w0 B fs A1 (vI s1)) (_hc_s1 : s1.length ≤ c1) (_hn_s1 : n1 = s1.length) :
    Calls Try.prog 134 #[.slice A1 n1 c1, .func (.func 95) #[] #[]] w fun e w' => e = .returned (.int .i64 r) ∧ Sep w0 B w' (fs) := by
  obtain ⟨i3, hi3, hz3, hs3, hb3⟩ := info_parts Info3
  obtain rfl := _hn_s1
  unfold slices_IndexFunc_m at hm
  replace hm := start_b hm
  refine enter (l := [.slice A1 s1.length c1, .func (.func 95) #[] #[]]) (n := 19) Try.func134 rfl rfl (by simp) (fun a hF => ?_)
  refine reg [] [] [0, 1] [pl 0 (.slice A1 s1.length c1), pl 1 (.func (.func 95) #[] #[])] hF hS Fol (by kernel_rfl) (by kernel_rfl) (by kernel_rfl) ?_ (fun a w hF hS => ?_)
  · exact obs_nil
  refine seq_cut (fun a w => Fr 19 [] a ∧ Sep w0 B w (fs) ∧ (slices_IndexFunc_J1).bind some = some r) ?_ ?_
  · rintro a w ⟨hF, hS, hm⟩
    unfold slices_IndexFunc_J1 at hm
    refine reg [] [] [4] [pl 4 (.int .i64 (-1))] hF hS Fol (by kernel_rfl) (by kernel_rfl) (by kernel_rfl) ?_ (fun a w hF hS => ?_)
    · exact obs_nil
    refine wpIn_ret ?_
    have hm : some (-1) = some r := hm
    obtain rfl := Option.some.inj hm
    exact retV (rs := [.tmp 4]) (vs := [.int .i64 (-1)]) hF rfl (rv_t (by kernel_rfl) <| rv_nil) rfl ⟨rfl, hS⟩
  · refine reg [] [] [0, 1, 7, 8] [pl 0 (.slice A1 s1.length c1), pl 1 (.func (.func 95) #[] #[]), pl 7 (.int .i64 (s1.length : Int)), pl 8 (.int .i64 0)] hF hS Fol (by kernel_rfl) (by kernel_rfl) (by kernel_rfl) ?_ (fun a w hF hS => ?_)
    · exact obs_nil
    refine wpIn_block ?_
    refine wp_loop_model (S := Int) (R := (Fl Unit Int)) (slices_IndexFunc_L1 s1) (fun x => (slices_IndexFunc_K1 x).bind some) r (fun (x : Int) a w => Fr 19 [pl 0 (.slice A1 s1.length c1), pl 1 (.func (.func 95) #[] #[]), pl 7 (.int .i64 (s1.length : Int)), pl 8 (.int .i64 x)] a ∧ Sep w0 B w (fs)) (assoc_b hm) ⟨hF.weak [0, 1, 7, 8] (by kernel_rfl), hS⟩ ?_
    clear hF hS hm
    rintro nn1 z1 a w ⟨hF, hS⟩ hm
    generalize hφ1 : stK (slices_IndexFunc_L1 s1) nn1 (fun x => (slices_IndexFunc_K1 x).bind some) = φ1 at hm
    unfold slices_IndexFunc_L1 at hm
    dsimp only at hm
    refine reg [] [] [0, 1, 7, 8, 9] [pl 0 (.slice A1 s1.length c1), pl 1 (.func (.func 95) #[] #[]), pl 7 (.int .i64 (s1.length : Int)), pl 8 (.int .i64 z1), pl 9 (.bool (decide (z1 < (s1.length : Int))))] hF hS Fol (by kernel_rfl) (by kernel_rfl) (by kernel_rfl) ?_ (fun a w hF hS => ?_)
    · exact obs_nil
    refine seq_cut (fun a w => Fr 19 [pl 0 (.slice A1 s1.length c1), pl 1 (.func (.func 95) #[] #[]), pl 7 (.int .i64 (s1.length : Int)), pl 8 (.int .i64 z1)] a ∧ Sep w0 B w (fs) ∧ ((slices_IndexFunc_J2 s1 z1)).bind φ1 = some r) ?_ ?_
    · rintro a w ⟨hF, hS, hm⟩
      unfold slices_IndexFunc_J2 at hm
      refine seq_cut (fun a w => Fr 19 [pl 0 (.slice A1 s1.length c1), pl 1 (.func (.func 95) #[] #[]), pl 7 (.int .i64 (s1.length : Int)), pl 8 (.int .i64 z1)] a ∧ Sep w0 B w (fs) ∧ ((slices_IndexFunc_J3 z1)).bind φ1 = some r) ?_ ?_
      · rintro a w ⟨hF, hS, hm⟩
        unfold slices_IndexFunc_J3 at hm
        refine reg1 [] [] [0, 1, 7, 8] [pl 0 (.slice A1 s1.length c1), pl 1 (.func (.func 95) #[] #[]), pl 7 (.int .i64 (s1.length : Int)), pl 8 (.int .i64 (w64 (z1 + 1)))] hF hS Fol (by kernel_rfl) (by kernel_rfl) (by kernel_rfl) ?_ (fun a w hF hS => ?_)
        · exact obs_nil
        refine then_n ?_
        rw [← hφ1] at hm
        exact ⟨(w64 (z1 + 1)), ⟨hF.weak [0, 1, 7, 8] (by kernel_rfl), hS⟩, hm⟩
      · refine wpIn_block ?_
        refine reg [] [] [0, 1, 5, 7, 8] [pl 0 (.slice A1 s1.length c1), pl 1 (.func (.func 95) #[] #[]), pl 5 (.int .i64 z1), pl 7 (.int .i64 (s1.length : Int)), pl 8 (.int .i64 z1)] hF hS Fol (by kernel_rfl) (by kernel_rfl) (by kernel_rfl) ?_ (fun a w hF hS => ?_)
        · exact obs_nil
        obtain ⟨hp1, hm⟩ := asrt_b hm
        obtain ⟨r1, hr1, hm⟩ := call_b hm
        refine reg [⟨true, [], vS (Instr.indexAt 40 (.slice A1 s1.length c1) (.int .i64 z1)), .pointer (some (sAddr A1 z1))⟩, ⟨false, [], vS (Instr.loadAt 3 (.pointer (some (sAddr A1 z1)))), .int .i64 (geti s1 z1)⟩, ⟨false, [], callFunc 95 #[.int .i64 (geti s1 z1)], .bool r1⟩] [none, none, none, some (.pointer (some (sAddr A1 z1))), some (.int .i64 (geti s1 z1)), some (.bool r1)] [0, 1, 5, 7, 8, 16] [pl 0 (.slice A1 s1.length c1), pl 1 (.func (.func 95) #[] #[]), pl 5 (.int .i64 z1), pl 7 (.int .i64 (s1.length : Int)), pl 8 (.int .i64 z1), pl 16 (.bool r1)] hF hS Fol (by kernel_rfl) (by kernel_rfl) (by kernel_rfl) ?_ (fun a w hF hS => ?_)
        · exact obs_cons (ob_ix1 (f := (Value.int .i64)) (m := s1) Und40 hi3 hs3 (hr_s1 _ (hS.dropN 0)) rfl (fun _ => hp1)) <| obs_cons (ob_get1 (n := s1.length) (m := s1) (Value.int .i64) (0 : Int) Agg3 (fun _ hS => ⟨_, (hr_s1 _ (hS.dropN 0))⟩) (fun _ hS => rfl) (fun _ => hp1)) <| obs_cons (ob_call Try.func95 (by kernel_rfl) rfl (fun _ _ hS => gammon_Rolls_1_w hr1 hS )) <| obs_nil
        refine cond_ev (t := 16) (b := r1) hF (by kernel_rfl) (fun hb => ?_) (fun hb => ?_)
        · replace hm := if_t hm hb
          refine reg [] [] [4] [pl 4 (.int .i64 z1)] hF hS Fol (by kernel_rfl) (by kernel_rfl) (by kernel_rfl) ?_ (fun a w hF hS => ?_)
          · exact obs_nil
          refine wpIn_ret ?_
          refine block_r (then_r (then_r (block_r (then_r ?_))))
          rw [← hφ1] at hm
          replace hm := done_b hm
          unfold slices_IndexFunc_K1 at hm
          try dsimp only at hm
          have hm : some z1 = some r := hm
          obtain rfl := Option.some.inj hm
          exact retV (rs := [.tmp 4]) (vs := [.int .i64 z1]) hF rfl (rv_t (by kernel_rfl) <| rv_nil) rfl ⟨rfl, hS⟩
        · replace hm := if_f hm hb
          refine wpIn_skip ?_
          refine block_n ?_
          refine then_n ?_
          exact ⟨hF.weak [0, 1, 7, 8] (by kernel_rfl), hS, hm⟩
    · refine cond_ev (t := 9) (b := decide (z1 < (s1.length : Int))) hF (by kernel_rfl) (fun hb => ?_) (fun hb => ?_)
      · replace hm := if_t hm hb
        refine wpIn_skip ?_
        refine then_n ?_
        exact ⟨hF.weak [0, 1, 7, 8] (by kernel_rfl), hS, hm⟩
      · replace hm := if_f hm hb
        refine wpIn_exit ?_
        refine then_e (then_e (block_e (then_n ?_)))
        rw [← hφ1] at hm
        replace hm := done_b hm
        unfold slices_IndexFunc_K1 at hm
        try dsimp only at hm
        have hm : (slices_IndexFunc_J1).bind some = some r := hm
        exact ⟨hF.weak [] (by kernel_rfl), hS, hm⟩

noncomputable def slices_ContainsFunc_m  (s1 : List Int) : Option Bool :=
  (slices_IndexFunc_m s1).bind fun r1 => some (decide ((0 : Int) ≤ r1))

set_option maxRecDepth 100000 in
set_option maxHeartbeats 4000000 in
theorem slices_ContainsFunc_w {A1 : Option Addr} {c1 : Nat} {n1 : Nat} {s1 : List Int} {r : Bool} {w0 w : World} {B : Nat} {fs : List HP} (hm : slices_ContainsFunc_m s1 = some r) (hS : Sep w0 B w (fs)) (hr_s1 : RdF w0 B fs A1 (vI s1)) (_hc_s1 : s1.length ≤ c1) (_hn_s1 : n1 = s1.length) :
    Calls Try.prog 94 #[.slice A1 n1 c1, .func (.func 95) #[] #[]] w fun e w' => e = .returned (.bool r) ∧ Sep w0 B w' (fs) := by
  obtain ⟨i3, hi3, hz3, hs3, hb3⟩ := info_parts Info3
  obtain rfl := _hn_s1
  unfold slices_ContainsFunc_m at hm
  replace hm := start_b hm
  refine enter (l := [.slice A1 s1.length c1, .func (.func 95) #[] #[]]) (n := 9) Try.func94 rfl rfl (by simp) (fun a hF => ?_)
  refine reg [] [] [0, 1] [pl 0 (.slice A1 s1.length c1), pl 1 (.func (.func 95) #[] #[])] hF hS Fol (by kernel_rfl) (by kernel_rfl) (by kernel_rfl) ?_ (fun a w hF hS => ?_)
  · exact obs_nil
  obtain ⟨r1, hr1, hm⟩ := call_b hm
  refine reg [⟨false, [], callFunc 134 #[.slice A1 s1.length c1, .func (.func 95) #[] #[]], .int .i64 r1⟩] [none, none, some (.int .i64 r1), none, none] [4] [pl 4 (.bool (decide ((0 : Int) ≤ r1)))] hF hS Fol (by kernel_rfl) (by kernel_rfl) (by kernel_rfl) ?_ (fun a w hF hS => ?_)
  · exact obs_cons (ob_call Try.func134 (by kernel_rfl) rfl (fun _ _ hS => slices_IndexFunc_w hr1 hS (fun _ hS => (hr_s1 _ (hS.dropN 0))) _hc_s1 rfl)) <| obs_nil
  refine wpIn_ret ?_
  have hm : some (decide ((0 : Int) ≤ r1)) = some r := hm
  obtain rfl := Option.some.inj hm
  exact retV (rs := [.tmp 4]) (vs := [.bool (decide ((0 : Int) ≤ r1))]) hF rfl (rv_t (by kernel_rfl) <| rv_nil) rfl ⟨rfl, hS⟩

noncomputable def gammon_home_empty_m  (h1 : List Int) : Option Bool :=
  some (((geti h1 0) == (geti ([0, 0, 0, 0, 0, 0] : List Int) 0)) && (((geti h1 1) == (geti ([0, 0, 0, 0, 0, 0] : List Int) 1)) && (((geti h1 2) == (geti ([0, 0, 0, 0, 0, 0] : List Int) 2)) && (((geti h1 3) == (geti ([0, 0, 0, 0, 0, 0] : List Int) 3)) && (((geti h1 4) == (geti ([0, 0, 0, 0, 0, 0] : List Int) 4)) && ((geti h1 5) == (geti ([0, 0, 0, 0, 0, 0] : List Int) 5)))))))

set_option maxRecDepth 100000 in
set_option maxHeartbeats 4000000 in
theorem gammon_home_empty_w {h1 : List Int} {r : Bool} {w0 w : World} {B : Nat} {fs : List HP} (hm : gammon_home_empty_m h1 = some r) (hS : Sep w0 B w (fs)) :
    Calls Try.prog 135 #[.agg (List.toArray (([] : List Value) ++ (arr1 (Value.int .i64) (0 : Int) 6 h1 ++ ([] : List Value))))] w fun e w' => e = .returned (.bool r) ∧ Sep w0 B w' (fs) := by
  unfold gammon_home_empty_m at hm
  replace hm := start_b hm
  refine enter (l := [.agg (List.toArray (([] : List Value) ++ (arr1 (Value.int .i64) (0 : Int) 6 h1 ++ ([] : List Value))))]) (n := 6) Try.func135 rfl rfl (by simp) (fun a hF => ?_)
  refine seqR ?_
  refine at_do (d := 1) (s := vS (Instr.box 133 (.agg (List.toArray (([] : List Value) ++ (arr1 (Value.int .i64) (0 : Int) 6 h1 ++ ([] : List Value))))))) (v := .pointer (some ⟨w.heap.size, 0, none⟩)) (w' := w.alloc (.cells (List.toArray (([] : List Value) ++ (arr1 (Value.int .i64) (0 : Int) 6 h1 ++ ([] : List Value)))) 133)) hF (by kernel_rfl) (by kernel_rfl) (by kernel_rfl) (fun a hF => ?_)
  have hS : Sep w0 B (w.alloc (.cells (List.toArray (([] : List Value) ++ (arr1 (Value.int .i64) (0 : Int) 6 h1 ++ ([] : List Value)))) 133)) (blk w.heap.size 133 (List.toArray (([] : List Value) ++ (arr1 (Value.int .i64) (0 : Int) 6 h1 ++ ([] : List Value)))) :: (fs)) := hS.box 133 (List.toArray (([] : List Value) ++ (arr1 (Value.int .i64) (0 : Int) 6 h1 ++ ([] : List Value))))
  generalize w.heap.size = g1 at hF hS
  generalize w.alloc (.cells (List.toArray (([] : List Value) ++ (arr1 (Value.int .i64) (0 : Int) 6 h1 ++ ([] : List Value)))) 133) = w at hS ⊢
  refine at_run 1 [] [] [1] [pl 1 (.pointer (some ⟨g1, 0, none⟩))] hF hS (by kernel_rfl) (by kernel_rfl) ?_ (fun a w hF hS => ?_)
  · exact obs_nil
  refine at_end [1] [pl 1 (.pointer (some ⟨g1, 0, none⟩))] hF rfl (by kernel_rfl) (fun hF => ?_)
  refine then_n ?_
  refine reg [⟨false, [], vS (Instr.loadAt 133 (.pointer (some ⟨g1, 0, none⟩))), .agg (List.toArray (([] : List Value) ++ (arr1 (Value.int .i64) (0 : Int) 6 h1 ++ ([] : List Value))))⟩, ⟨true, [], vS (do eqGuard .eql 133 (.tmp 3) (.tmp 4) (.agg (List.toArray (([] : List Value) ++ (arr1 (Value.int .i64) (0 : Int) 6 h1 ++ ([] : List Value))))) (.agg (List.toArray (([] : List Value) ++ (arr1 (Value.int .i64) (0 : Int) 6 ([0, 0, 0, 0, 0, 0] : List Int) ++ ([] : List Value))))); binOp .eql 133 (.agg (List.toArray (([] : List Value) ++ (arr1 (Value.int .i64) (0 : Int) 6 h1 ++ ([] : List Value))))) (.agg (List.toArray (([] : List Value) ++ (arr1 (Value.int .i64) (0 : Int) 6 ([0, 0, 0, 0, 0, 0] : List Int) ++ ([] : List Value)))))), .bool ((((geti h1 0) == (geti ([0, 0, 0, 0, 0, 0] : List Int) 0)) && (((geti h1 1) == (geti ([0, 0, 0, 0, 0, 0] : List Int) 1)) && (((geti h1 2) == (geti ([0, 0, 0, 0, 0, 0] : List Int) 2)) && (((geti h1 3) == (geti ([0, 0, 0, 0, 0, 0] : List Int) 3)) && (((geti h1 4) == (geti ([0, 0, 0, 0, 0, 0] : List Int) 4)) && ((geti h1 5) == (geti ([0, 0, 0, 0, 0, 0] : List Int) 5))))))))⟩] [some (.agg (List.toArray (([] : List Value) ++ (arr1 (Value.int .i64) (0 : Int) 6 h1 ++ ([] : List Value))))), none, some (.bool ((((geti h1 0) == (geti ([0, 0, 0, 0, 0, 0] : List Int) 0)) && (((geti h1 1) == (geti ([0, 0, 0, 0, 0, 0] : List Int) 1)) && (((geti h1 2) == (geti ([0, 0, 0, 0, 0, 0] : List Int) 2)) && (((geti h1 3) == (geti ([0, 0, 0, 0, 0, 0] : List Int) 3)) && (((geti h1 4) == (geti ([0, 0, 0, 0, 0, 0] : List Int) 4)) && ((geti h1 5) == (geti ([0, 0, 0, 0, 0, 0] : List Int) 5))))))))), none] [2] [pl 2 (.bool (((geti h1 0) == (geti ([0, 0, 0, 0, 0, 0] : List Int) 0)) && (((geti h1 1) == (geti ([0, 0, 0, 0, 0, 0] : List Int) 1)) && (((geti h1 2) == (geti ([0, 0, 0, 0, 0, 0] : List Int) 2)) && (((geti h1 3) == (geti ([0, 0, 0, 0, 0, 0] : List Int) 3)) && (((geti h1 4) == (geti ([0, 0, 0, 0, 0, 0] : List Int) 4)) && ((geti h1 5) == (geti ([0, 0, 0, 0, 0, 0] : List Int) 5))))))))] hF hS Fol (by kernel_rfl) (by kernel_rfl) (by kernel_rfl) ?_ (fun a w hF hS => ?_)
  · exact obs_cons (ob_loadA (cs := (List.toArray (([] : List Value) ++ (arr1 (Value.int .i64) (0 : Int) 6 h1 ++ ([] : List Value))))) (by kernel_rfl) (by kernel_rfl) (fun _ _ hS => (hS.at_ 0 rfl).cellsAt 0 (by rfl))) <| obs_cons (ob_eql rfl (by kernel_rfl) (fun w => Eql133 w)) <| obs_nil
  refine wpIn_ret ?_
  have hS := hS.pickN 1 [] (by decide)
  have hm : some (((geti h1 0) == (geti ([0, 0, 0, 0, 0, 0] : List Int) 0)) && (((geti h1 1) == (geti ([0, 0, 0, 0, 0, 0] : List Int) 1)) && (((geti h1 2) == (geti ([0, 0, 0, 0, 0, 0] : List Int) 2)) && (((geti h1 3) == (geti ([0, 0, 0, 0, 0, 0] : List Int) 3)) && (((geti h1 4) == (geti ([0, 0, 0, 0, 0, 0] : List Int) 4)) && ((geti h1 5) == (geti ([0, 0, 0, 0, 0, 0] : List Int) 5))))))) = some r := hm
  obtain rfl := Option.some.inj hm
  exact retV (rs := [.tmp 2]) (vs := [.bool (((geti h1 0) == (geti ([0, 0, 0, 0, 0, 0] : List Int) 0)) && (((geti h1 1) == (geti ([0, 0, 0, 0, 0, 0] : List Int) 1)) && (((geti h1 2) == (geti ([0, 0, 0, 0, 0, 0] : List Int) 2)) && (((geti h1 3) == (geti ([0, 0, 0, 0, 0, 0] : List Int) 3)) && (((geti h1 4) == (geti ([0, 0, 0, 0, 0, 0] : List Int) 4)) && ((geti h1 5) == (geti ([0, 0, 0, 0, 0, 0] : List Int) 5)))))))]) hF rfl (rv_t (by kernel_rfl) <| rv_nil) rfl ⟨rfl, hS⟩

noncomputable def gammon_home_moved_J2  (far1 : Int) : Option (St Int Int) :=
  some (.next (w64 (far1 - 1)))

noncomputable def gammon_home_moved_J5  (z1 : Int) (l3 : List (Int × Int × Int × Int × Int × Int)) : Option (St (List (Int × Int × Int × Int × Int × Int) × Int) (List (Int × Int × Int × Int × Int × Int))) :=
  some (.next (l3, (w64 (z1 + 1))))

noncomputable def gammon_home_moved_J7  (l1 : List (Int × Int × Int × Int × Int × Int)) (z1 : Int) (next1 : List Int) : Option (St (List (Int × Int × Int × Int × Int × Int) × Int) (List (Int × Int × Int × Int × Int × Int))) :=
  asrt ((l1.length : Int) + 1 ≤ bigK) <| (gammon_home_moved_J5 z1) (l1 ++ ([(geti next1 0, geti next1 1, geti next1 2, geti next1 3, geti next1 4, geti next1 5)] : List (Int × Int × Int × Int × Int × Int)))

noncomputable def gammon_home_moved_J6  (h1 : List Int) (pips1 : Int) (l1 : List (Int × Int × Int × Int × Int × Int)) (z1 : Int) : Option (St (List (Int × Int × Int × Int × Int × Int) × Int) (List (Int × Int × Int × Int × Int × Int))) :=
  asrt (0 ≤ z1 ∧ z1 < 6) <| asrt (0 ≤ z1 ∧ z1 < 6) <| asrt (z1 < (h1.length : Int)) <| if (decide ((0 : Int) ≤ (w64 (z1 - pips1)))) then (asrt (0 ≤ (w64 (z1 - pips1)) ∧ (w64 (z1 - pips1)) < 6) <| asrt (0 ≤ (w64 (z1 - pips1)) ∧ (w64 (z1 - pips1)) < 6) <| asrt ((w64 (z1 - pips1)) < ((h1.set (Int.toNat z1) (w64 ((geti h1 z1) - 1))).length : Int)) <| (gammon_home_moved_J7 l1 z1) ((h1.set (Int.toNat z1) (w64 ((geti h1 z1) - 1))).set (Int.toNat (w64 (z1 - pips1))) (w64 ((geti (h1.set (Int.toNat z1) (w64 ((geti h1 z1) - 1))) (w64 (z1 - pips1))) + 1)))) else ((gammon_home_moved_J7 l1 z1) (h1.set (Int.toNat z1) (w64 ((geti h1 z1) - 1))))

noncomputable def gammon_home_moved_J4  (h1 : List Int) (pips1 : Int) (far2 : Int) (l1 : List (Int × Int × Int × Int × Int × Int)) (z1 : Int) : Option (St (List (Int × Int × Int × Int × Int × Int) × Int) (List (Int × Int × Int × Int × Int × Int))) :=
  asrt (0 ≤ z1 ∧ z1 < 6) <| if (((geti h1 z1) == 0) || ((decide ((w64 (z1 - pips1)) < (-1))) && (z1 != far2))) then ((gammon_home_moved_J5 z1) l1) else ((gammon_home_moved_J6 h1 pips1 l1 z1))

noncomputable def gammon_home_moved_L2  (h1 : List Int) (pips1 : Int) (far2 : Int) : (List (Int × Int × Int × Int × Int × Int) × Int) → Option (St (List (Int × Int × Int × Int × Int × Int) × Int) (List (Int × Int × Int × Int × Int × Int))) :=
  fun (x : (List (Int × Int × Int × Int × Int × Int) × Int)) => match x with | (l1, z1) => if (decide (z1 < 6)) then ((gammon_home_moved_J4 h1 pips1 far2 l1 z1)) else (some (.done l1))

noncomputable def gammon_home_moved_J3  (l2 : List (Int × Int × Int × Int × Int × Int)) : Option (List (Int × Int × Int × Int × Int × Int)) :=
  some l2

noncomputable def gammon_home_moved_K2  : (List (Int × Int × Int × Int × Int × Int)) → Option (List (Int × Int × Int × Int × Int × Int)) :=
  fun (x : (List (Int × Int × Int × Int × Int × Int))) => match x with | l2 => gammon_home_moved_J3 l2

noncomputable def gammon_home_moved_J1  (h1 : List Int) (pips1 : Int) (far2 : Int) : Option (List (Int × Int × Int × Int × Int × Int)) :=
  (loop (gammon_home_moved_L2 h1 pips1 far2) (([] : List (Int × Int × Int × Int × Int × Int)), 0)).bind gammon_home_moved_K2

noncomputable def gammon_home_moved_K1  (h1 : List Int) (pips1 : Int) : Int → Option (List (Int × Int × Int × Int × Int × Int)) :=
  fun (x : Int) => match x with | far2 => (gammon_home_moved_J1 h1 pips1) far2

noncomputable def gammon_home_moved_L1  (h1 : List Int) : Int → Option (St Int Int) :=
  fun (x : Int) => match x with | far1 => asrt ((decide ((0 : Int) ≤ far1)) = true → 0 ≤ far1 ∧ far1 < 6) <| if ((decide ((0 : Int) ≤ far1)) && ((geti h1 far1) == 0)) then ((gammon_home_moved_J2 far1)) else (some (.done far1))

noncomputable def gammon_home_moved_m  (h1 : List Int) (pips1 : Int) : Option (List (Int × Int × Int × Int × Int × Int)) :=
  (loop (gammon_home_moved_L1 h1) 5).bind (gammon_home_moved_K1 h1 pips1)

set_option maxRecDepth 100000 in
set_option maxHeartbeats 4000000 in
theorem gammon_home_moved_w {h1 : List Int} {pips1 : Int} {r : (List (Int × Int × Int × Int × Int × Int))} {w0 w : World} {B : Nat} {fs : List HP} (hm : gammon_home_moved_m h1 pips1 = some r) (hS : Sep w0 B w (fs)) :
    Calls Try.prog 160 #[.agg (List.toArray (([] : List Value) ++ (arr1 (Value.int .i64) (0 : Int) 6 h1 ++ ([] : List Value)))), .int .i64 pips1] w fun e w' => ∃ v, e = .returned v ∧ ∃ (A5 : Option Addr) (c5 : Nat), v = .slice A5 r.length c5 ∧ Sep w0 B w' (ownK 133 6 A5 r.length c5 (List.flatMap enc133 r) :: fs) := by
  obtain ⟨i3, hi3, hz3, hs3, hb3⟩ := info_parts Info3
  obtain ⟨i133, hi133, hz133, hs133, hb133⟩ := info_parts Info133
  unfold gammon_home_moved_m at hm
  replace hm := start_b hm
  refine enter (l := [.agg (List.toArray (([] : List Value) ++ (arr1 (Value.int .i64) (0 : Int) 6 h1 ++ ([] : List Value)))), .int .i64 pips1]) (n := 59) Try.func160 rfl rfl (by simp) (fun a hF => ?_)
  refine seqR ?_
  refine at_do (d := 2) (s := vS (Instr.box 133 (.agg (List.toArray (([] : List Value) ++ (arr1 (Value.int .i64) (0 : Int) 6 h1 ++ ([] : List Value))))))) (v := .pointer (some ⟨w.heap.size, 0, none⟩)) (w' := w.alloc (.cells (List.toArray (([] : List Value) ++ (arr1 (Value.int .i64) (0 : Int) 6 h1 ++ ([] : List Value)))) 133)) hF (by kernel_rfl) (by kernel_rfl) (by kernel_rfl) (fun a hF => ?_)
  have hS : Sep w0 B (w.alloc (.cells (List.toArray (([] : List Value) ++ (arr1 (Value.int .i64) (0 : Int) 6 h1 ++ ([] : List Value)))) 133)) (blk w.heap.size 133 (List.toArray (([] : List Value) ++ (arr1 (Value.int .i64) (0 : Int) 6 h1 ++ ([] : List Value)))) :: (fs)) := hS.box 133 (List.toArray (([] : List Value) ++ (arr1 (Value.int .i64) (0 : Int) 6 h1 ++ ([] : List Value))))
  generalize w.heap.size = g1 at hF hS
  generalize w.alloc (.cells (List.toArray (([] : List Value) ++ (arr1 (Value.int .i64) (0 : Int) 6 h1 ++ ([] : List Value)))) 133) = w at hS ⊢
  refine at_run 1 [] [] [1, 2] [pl 1 (.int .i64 pips1), pl 2 (.pointer (some ⟨g1, 0, none⟩))] hF hS (by kernel_rfl) (by kernel_rfl) ?_ (fun a w hF hS => ?_)
  · exact obs_nil
  refine at_end [1, 2] [pl 1 (.int .i64 pips1), pl 2 (.pointer (some ⟨g1, 0, none⟩))] hF rfl (by kernel_rfl) (fun hF => ?_)
  refine then_n ?_
  refine reg [] [] [1, 2, 5] [pl 1 (.int .i64 pips1), pl 2 (.pointer (some ⟨g1, 0, none⟩)), pl 5 (.slice none 0 0)] hF hS Fol (by kernel_rfl) (by kernel_rfl) (by kernel_rfl) ?_ (fun a w hF hS => ?_)
  · exact obs_nil
  refine reg [] [] [1, 2, 5, 6] [pl 1 (.int .i64 pips1), pl 2 (.pointer (some ⟨g1, 0, none⟩)), pl 5 (.slice none 0 0), pl 6 (.int .i64 5)] hF hS Fol (by kernel_rfl) (by kernel_rfl) (by kernel_rfl) ?_ (fun a w hF hS => ?_)
  · exact obs_nil
  refine seq_cut (fun a w => ∃ (far2 : Int), Fr 59 [pl 1 (.int .i64 pips1), pl 2 (.pointer (some ⟨g1, 0, none⟩)), pl 5 (.slice none 0 0), pl 6 (.int .i64 far2)] a ∧ Sep w0 B w (blk g1 133 (List.toArray (([] : List Value) ++ (arr1 (Value.int .i64) (0 : Int) 6 h1 ++ ([] : List Value)))) :: fs) ∧ ((gammon_home_moved_J1 h1 pips1) far2).bind some = some r) ?_ ?_
  · rintro a w ⟨far2, hF, hS, hm⟩
    unfold gammon_home_moved_J1 at hm
    refine seq_cut (fun a w => ∃ (l2 : List (Int × Int × Int × Int × Int × Int)) (A2 : Option Addr) (c2 : Nat), Fr 59 [pl 5 (.slice A2 l2.length c2)] a ∧ Sep w0 B w (ownK 133 6 A2 l2.length c2 (List.flatMap enc133 l2) :: fs) ∧ (gammon_home_moved_J3 l2).bind some = some r) ?_ ?_
    · rintro a w ⟨l2, A2, c2, hF, hS, hm⟩
      unfold gammon_home_moved_J3 at hm
      refine reg [] [] [4] [pl 4 (.slice A2 l2.length c2)] hF hS Fol (by kernel_rfl) (by kernel_rfl) (by kernel_rfl) ?_ (fun a w hF hS => ?_)
      · exact obs_nil
      refine wpIn_ret ?_
      have hm : some l2 = some r := hm
      obtain rfl := Option.some.inj hm
      exact retV (rs := [.tmp 4]) (vs := [.slice A2 l2.length c2]) hF rfl (rv_t (by kernel_rfl) <| rv_nil) rfl ⟨_, rfl, A2, c2, rfl, hS⟩
    · refine reg [⟨false, [], vS (Instr.loadAt 133 (.pointer (some ⟨g1, 0, none⟩))), .agg (List.toArray (([] : List Value) ++ (arr1 (Value.int .i64) (0 : Int) 6 h1 ++ ([] : List Value))))⟩] [some (.agg (List.toArray (([] : List Value) ++ (arr1 (Value.int .i64) (0 : Int) 6 h1 ++ ([] : List Value))))), none] [1, 2, 5, 6, 21, 22] [pl 1 (.int .i64 pips1), pl 2 (.pointer (some ⟨g1, 0, none⟩)), pl 5 (.slice none 0 0), pl 6 (.int .i64 far2), pl 21 (.agg (List.toArray (([] : List Value) ++ (arr1 (Value.int .i64) (0 : Int) 6 h1 ++ ([] : List Value))))), pl 22 (.int .i64 0)] hF hS Fol (by kernel_rfl) (by kernel_rfl) (by kernel_rfl) ?_ (fun a w hF hS => ?_)
      · exact obs_cons (ob_loadA (cs := (List.toArray (([] : List Value) ++ (arr1 (Value.int .i64) (0 : Int) 6 h1 ++ ([] : List Value))))) (by kernel_rfl) (by kernel_rfl) (fun _ _ hS => (hS.at_ 0 rfl).cellsAt 0 (by rfl))) <| obs_nil
      refine wpIn_block ?_
      have hS : Sep w0 B w (ownK 133 6 none 0 0 (List.flatMap enc133 ([] : List (Int × Int × Int × Int × Int × Int))) :: blk g1 133 (List.toArray (([] : List Value) ++ (arr1 (Value.int .i64) (0 : Int) 6 h1 ++ ([] : List Value)))) :: fs) := hS.nilK 133 6 enc133
      have hl1 := (hS.at_ 0 rfl).lenK encK133
      have hS := (hS.at_ 0 rfl).reNK hl1
      have hS : Sep w0 B w (ownK 133 6 none (([] : List (Int × Int × Int × Int × Int × Int)).length) 0 (List.flatMap enc133 ([] : List (Int × Int × Int × Int × Int × Int))) :: blk g1 133 (List.toArray (([] : List Value) ++ (arr1 (Value.int .i64) (0 : Int) 6 h1 ++ ([] : List Value)))) :: fs) := hS
      have hF := hF.cast (t := 5) (v := .slice none 0 0) (v' := .slice none (([] : List (Int × Int × Int × Int × Int × Int)).length) 0) rfl rfl (congrArg (fun k => Value.slice none k 0) hl1)
      have hS := hS.pickN 2 [1, 0] (by decide)
      refine wp_loop_model (S := (List (Int × Int × Int × Int × Int × Int) × Int)) (R := (List (Int × Int × Int × Int × Int × Int))) (gammon_home_moved_L2 h1 pips1 far2) (fun x => (gammon_home_moved_K2 x).bind some) r (fun (x : (List (Int × Int × Int × Int × Int × Int) × Int)) a w => ∃ (A1 : Option Addr) (c1 : Nat), Fr 59 [pl 1 (.int .i64 pips1), pl 2 (.pointer (some ⟨g1, 0, none⟩)), pl 5 (.slice A1 x.1.length c1), pl 6 (.int .i64 far2), pl 21 (.agg (List.toArray (([] : List Value) ++ (arr1 (Value.int .i64) (0 : Int) 6 h1 ++ ([] : List Value))))), pl 22 (.int .i64 x.2)] a ∧ Sep w0 B w (blk g1 133 (List.toArray (([] : List Value) ++ (arr1 (Value.int .i64) (0 : Int) 6 h1 ++ ([] : List Value)))) :: ownK 133 6 A1 x.1.length c1 (List.flatMap enc133 x.1) :: fs)) (assoc_b hm) ⟨none, 0, hF.weak [1, 2, 5, 6, 21, 22] (by kernel_rfl), hS⟩ ?_
      clear hF hS hm
      rintro nn2 ⟨l1, z1⟩ a w ⟨A1, c1, hF, hS⟩ hm
      generalize hφ2 : stK (gammon_home_moved_L2 h1 pips1 far2) nn2 (fun x => (gammon_home_moved_K2 x).bind some) = φ2 at hm
      unfold gammon_home_moved_L2 at hm
      dsimp only at hF hS hm
      refine reg [] [] [1, 2, 5, 6, 21, 22, 23] [pl 1 (.int .i64 pips1), pl 2 (.pointer (some ⟨g1, 0, none⟩)), pl 5 (.slice A1 l1.length c1), pl 6 (.int .i64 far2), pl 21 (.agg (List.toArray (([] : List Value) ++ (arr1 (Value.int .i64) (0 : Int) 6 h1 ++ ([] : List Value))))), pl 22 (.int .i64 z1), pl 23 (.bool (decide (z1 < 6)))] hF hS Fol (by kernel_rfl) (by kernel_rfl) (by kernel_rfl) ?_ (fun a w hF hS => ?_)
      · exact obs_nil
      refine seq_cut (fun a w => Fr 59 [pl 1 (.int .i64 pips1), pl 2 (.pointer (some ⟨g1, 0, none⟩)), pl 5 (.slice A1 l1.length c1), pl 6 (.int .i64 far2), pl 21 (.agg (List.toArray (([] : List Value) ++ (arr1 (Value.int .i64) (0 : Int) 6 h1 ++ ([] : List Value))))), pl 22 (.int .i64 z1)] a ∧ Sep w0 B w (blk g1 133 (List.toArray (([] : List Value) ++ (arr1 (Value.int .i64) (0 : Int) 6 h1 ++ ([] : List Value)))) :: ownK 133 6 A1 l1.length c1 (List.flatMap enc133 l1) :: fs) ∧ ((gammon_home_moved_J4 h1 pips1 far2 l1 z1)).bind φ2 = some r) ?_ ?_
      · rintro a w ⟨hF, hS, hm⟩
        unfold gammon_home_moved_J4 at hm
        refine seq_cut (fun a w => ∃ (l3 : List (Int × Int × Int × Int × Int × Int)) (A3 : Option Addr) (c3 : Nat), Fr 59 [pl 1 (.int .i64 pips1), pl 2 (.pointer (some ⟨g1, 0, none⟩)), pl 5 (.slice A3 l3.length c3), pl 6 (.int .i64 far2), pl 21 (.agg (List.toArray (([] : List Value) ++ (arr1 (Value.int .i64) (0 : Int) 6 h1 ++ ([] : List Value))))), pl 22 (.int .i64 z1)] a ∧ Sep w0 B w (blk g1 133 (List.toArray (([] : List Value) ++ (arr1 (Value.int .i64) (0 : Int) 6 h1 ++ ([] : List Value)))) :: ownK 133 6 A3 l3.length c3 (List.flatMap enc133 l3) :: fs) ∧ ((gammon_home_moved_J5 z1) l3).bind φ2 = some r) ?_ ?_
        · rintro a w ⟨l3, A3, c3, hF, hS, hm⟩
          unfold gammon_home_moved_J5 at hm
          refine reg1 [] [] [1, 2, 5, 6, 21, 22] [pl 1 (.int .i64 pips1), pl 2 (.pointer (some ⟨g1, 0, none⟩)), pl 5 (.slice A3 l3.length c3), pl 6 (.int .i64 far2), pl 21 (.agg (List.toArray (([] : List Value) ++ (arr1 (Value.int .i64) (0 : Int) 6 h1 ++ ([] : List Value))))), pl 22 (.int .i64 (w64 (z1 + 1)))] hF hS Fol (by kernel_rfl) (by kernel_rfl) (by kernel_rfl) ?_ (fun a w hF hS => ?_)
          · exact obs_nil
          refine then_n ?_
          rw [← hφ2] at hm
          exact ⟨(l3, (w64 (z1 + 1))), ⟨A3, c3, hF.weak [1, 2, 5, 6, 21, 22] (by kernel_rfl), hS⟩, hm⟩
        · refine wpIn_block ?_
          obtain ⟨hp2, hm⟩ := asrt_b hm
          refine reg [⟨true, [], vS (Instr.index 133 (.agg (List.toArray (([] : List Value) ++ (arr1 (Value.int .i64) (0 : Int) 6 h1 ++ ([] : List Value))))) (.int .i64 z1)), .int .i64 (geti h1 z1)⟩] [none, some (.int .i64 (geti h1 z1)), none, none] [1, 2, 5, 6, 7, 8, 21, 22] [pl 1 (.int .i64 pips1), pl 2 (.pointer (some ⟨g1, 0, none⟩)), pl 5 (.slice A1 l1.length c1), pl 6 (.int .i64 far2), pl 7 (.int .i64 z1), pl 8 (.int .i64 (geti h1 z1)), pl 21 (.agg (List.toArray (([] : List Value) ++ (arr1 (Value.int .i64) (0 : Int) 6 h1 ++ ([] : List Value))))), pl 22 (.int .i64 z1)] hF hS Fol (by kernel_rfl) (by kernel_rfl) (by kernel_rfl) ?_ (fun a w hF hS => ?_)
          · exact obs_cons (ob_idx1 (f := (Value.int .i64)) (z := (0 : Int)) (m := h1) UndA133 (by kernel_rfl) (by kernel_rfl) (fun _ => hp2)) <| obs_nil
          refine reg [] [] [1, 2, 5, 6, 7, 8, 9, 21, 22] [pl 1 (.int .i64 pips1), pl 2 (.pointer (some ⟨g1, 0, none⟩)), pl 5 (.slice A1 l1.length c1), pl 6 (.int .i64 far2), pl 7 (.int .i64 z1), pl 8 (.int .i64 (geti h1 z1)), pl 9 (.int .i64 (w64 (z1 - pips1))), pl 21 (.agg (List.toArray (([] : List Value) ++ (arr1 (Value.int .i64) (0 : Int) 6 h1 ++ ([] : List Value))))), pl 22 (.int .i64 z1)] hF hS Fol (by kernel_rfl) (by kernel_rfl) (by kernel_rfl) ?_ (fun a w hF hS => ?_)
          · exact obs_nil
          refine seq_cut (fun a w => Fr 59 [pl 1 (.int .i64 pips1), pl 2 (.pointer (some ⟨g1, 0, none⟩)), pl 5 (.slice A1 l1.length c1), pl 6 (.int .i64 far2), pl 7 (.int .i64 z1), pl 9 (.int .i64 (w64 (z1 - pips1))), pl 21 (.agg (List.toArray (([] : List Value) ++ (arr1 (Value.int .i64) (0 : Int) 6 h1 ++ ([] : List Value))))), pl 22 (.int .i64 z1)] a ∧ Sep w0 B w (blk g1 133 (List.toArray (([] : List Value) ++ (arr1 (Value.int .i64) (0 : Int) 6 h1 ++ ([] : List Value)))) :: ownK 133 6 A1 l1.length c1 (List.flatMap enc133 l1) :: fs) ∧ ((gammon_home_moved_J6 h1 pips1 l1 z1)).bind φ2 = some r) ?_ ?_
          · rintro a w ⟨hF, hS, hm⟩
            unfold gammon_home_moved_J6 at hm
            refine seqR ?_
            refine at_run 1 [⟨false, [], vS (Instr.loadAt 133 (.pointer (some ⟨g1, 0, none⟩))), .agg (List.toArray (([] : List Value) ++ (arr1 (Value.int .i64) (0 : Int) 6 h1 ++ ([] : List Value))))⟩] [some (.agg (List.toArray (([] : List Value) ++ (arr1 (Value.int .i64) (0 : Int) 6 h1 ++ ([] : List Value)))))] [1, 2, 5, 6, 7, 9, 21, 22, 40] [pl 1 (.int .i64 pips1), pl 2 (.pointer (some ⟨g1, 0, none⟩)), pl 5 (.slice A1 l1.length c1), pl 6 (.int .i64 far2), pl 7 (.int .i64 z1), pl 9 (.int .i64 (w64 (z1 - pips1))), pl 21 (.agg (List.toArray (([] : List Value) ++ (arr1 (Value.int .i64) (0 : Int) 6 h1 ++ ([] : List Value))))), pl 22 (.int .i64 z1), pl 40 (.agg (List.toArray (([] : List Value) ++ (arr1 (Value.int .i64) (0 : Int) 6 h1 ++ ([] : List Value)))))] hF hS (by kernel_rfl) (by kernel_rfl) ?_ (fun a w hF hS => ?_)
            · exact obs_cons (ob_loadA (cs := (List.toArray (([] : List Value) ++ (arr1 (Value.int .i64) (0 : Int) 6 h1 ++ ([] : List Value))))) (by kernel_rfl) (by kernel_rfl) (fun _ _ hS => (hS.at_ 0 rfl).cellsAt 0 (by rfl))) <| obs_nil
            refine at_do (d := 10) (s := vS (Instr.alloc 133 true (.tuple #[]))) (v := .pointer (some ⟨w.heap.size, 0, none⟩)) (w' := w.alloc (.cells (List.toArray (([] : List Value) ++ (arr1 (Value.int .i64) (0 : Int) 6 (List.replicate 6 (0 : Int)) ++ ([] : List Value)))) 133)) hF (by kernel_rfl) (by kernel_rfl) (by kernel_rfl) (fun a hF => ?_)
            have hS : Sep w0 B (w.alloc (.cells (List.toArray (([] : List Value) ++ (arr1 (Value.int .i64) (0 : Int) 6 (List.replicate 6 (0 : Int)) ++ ([] : List Value)))) 133)) (blk w.heap.size 133 (List.toArray (([] : List Value) ++ (arr1 (Value.int .i64) (0 : Int) 6 (List.replicate 6 (0 : Int)) ++ ([] : List Value)))) :: (blk g1 133 (List.toArray (([] : List Value) ++ (arr1 (Value.int .i64) (0 : Int) 6 h1 ++ ([] : List Value)))) :: ownK 133 6 A1 l1.length c1 (List.flatMap enc133 l1) :: fs)) := hS.box 133 (List.toArray (([] : List Value) ++ (arr1 (Value.int .i64) (0 : Int) 6 (List.replicate 6 (0 : Int)) ++ ([] : List Value))))
            generalize w.heap.size = g2 at hF hS
            generalize w.alloc (.cells (List.toArray (([] : List Value) ++ (arr1 (Value.int .i64) (0 : Int) 6 (List.replicate 6 (0 : Int)) ++ ([] : List Value)))) 133) = w at hS ⊢
            obtain ⟨w, hrun, hS⟩ := run_putA (P := Try.prog) (t := 133) (us := (List.toArray (([] : List Value) ++ (arr1 (Value.int .i64) (0 : Int) 6 h1 ++ ([] : List Value))))) (o := 0) (hS.at_ 0 rfl) (by kernel_rfl) (all_one (by kernel_rfl)) (Nat.le_of_ble_eq_true (by kernel_rfl))
            refine at_skip hF (by kernel_rfl) hrun ?_
            have hS : Sep w0 B w (blk g2 133 (List.toArray (([] : List Value) ++ (arr1 (Value.int .i64) (0 : Int) 6 h1 ++ ([] : List Value)))) :: blk g1 133 (List.toArray (([] : List Value) ++ (arr1 (Value.int .i64) (0 : Int) 6 h1 ++ ([] : List Value)))) :: ownK 133 6 A1 l1.length c1 (List.flatMap enc133 l1) :: fs) := hS
            refine at_end [1, 2, 5, 6, 7, 9, 10, 21, 22] [pl 1 (.int .i64 pips1), pl 2 (.pointer (some ⟨g1, 0, none⟩)), pl 5 (.slice A1 l1.length c1), pl 6 (.int .i64 far2), pl 7 (.int .i64 z1), pl 9 (.int .i64 (w64 (z1 - pips1))), pl 10 (.pointer (some ⟨g2, 0, none⟩)), pl 21 (.agg (List.toArray (([] : List Value) ++ (arr1 (Value.int .i64) (0 : Int) 6 h1 ++ ([] : List Value))))), pl 22 (.int .i64 z1)] hF rfl (by kernel_rfl) (fun hF => ?_)
            refine then_n ?_
            refine seqR ?_
            obtain ⟨hp3, hm⟩ := asrt_b hm
            obtain ⟨hp4, hm⟩ := asrt_b hm
            obtain ⟨hp5, hm⟩ := asrt_b hm
            refine at_run 5 [⟨true, [], vS (Instr.indexAt 133 (.pointer (some ⟨g2, 0, none⟩)) (.int .i64 z1)), .pointer (some ((⟨g2, 0, none⟩ : Addr).add (Int.toNat z1 * 1)))⟩, ⟨false, [], vS (Instr.loadAt 3 (.pointer (some ((⟨g2, 0, none⟩ : Addr).add (Int.toNat z1 * 1))))), .int .i64 (geti h1 z1)⟩, ⟨true, [], vS (Instr.indexAt 133 (.pointer (some ⟨g2, 0, none⟩)) (.int .i64 z1)), .pointer (some ((⟨g2, 0, none⟩ : Addr).add (Int.toNat z1 * 1)))⟩] [none, some (.pointer (some ((⟨g2, 0, none⟩ : Addr).add (Int.toNat z1 * 1)))), some (.int .i64 (geti h1 z1)), none, some (.pointer (some ((⟨g2, 0, none⟩ : Addr).add (Int.toNat z1 * 1))))] [1, 2, 5, 6, 9, 10, 21, 22, 44, 45] [pl 1 (.int .i64 pips1), pl 2 (.pointer (some ⟨g1, 0, none⟩)), pl 5 (.slice A1 l1.length c1), pl 6 (.int .i64 far2), pl 9 (.int .i64 (w64 (z1 - pips1))), pl 10 (.pointer (some ⟨g2, 0, none⟩)), pl 21 (.agg (List.toArray (([] : List Value) ++ (arr1 (Value.int .i64) (0 : Int) 6 h1 ++ ([] : List Value))))), pl 22 (.int .i64 z1), pl 44 (.int .i64 (w64 ((geti h1 z1) - 1))), pl 45 (.pointer (some ((⟨g2, 0, none⟩ : Addr).add (Int.toNat z1 * 1))))] hF hS (by kernel_rfl) (by kernel_rfl) ?_ (fun a w hF hS => ?_)
            · exact obs_cons (ob_ixA UndA133 hi3 hs3 (fun _ => hp3)) <| obs_cons (ob_getA (m := h1) (Value.int .i64) (0 : Int) 6 ([] : List Value) ([] : List Value) z1 Agg3 rfl (fun _ hS => ⟨_, _, _, _, _, hS.at_ 0 rfl⟩) (fun hy => by have h0 := hp3; omega)) <| obs_cons (ob_ixA UndA133 hi3 hs3 (fun _ => hp4)) <| obs_nil
            obtain ⟨w, hrun, hS⟩ := run_setA (P := Try.prog) (t := 3) (x := (w64 ((geti h1 z1) - 1))) (i := z1) (m := h1) (d := Int.toNat z1 * 1) (Value.int .i64) (0 : Int) 6 ([] : List Value) ([] : List Value) (hS.at_ 0 rfl) rfl hi3 hs3 rfl (by have h0 := hp4; omega) (by have h0 := hp4; have h9 := hp5; omega)
            refine at_skip hF (by kernel_rfl) hrun ?_
            have hS : Sep w0 B w (blk g2 133 (List.toArray (([] : List Value) ++ (arr1 (Value.int .i64) (0 : Int) 6 (h1.set (Int.toNat z1) (w64 ((geti h1 z1) - 1))) ++ ([] : List Value)))) :: blk g1 133 (List.toArray (([] : List Value) ++ (arr1 (Value.int .i64) (0 : Int) 6 h1 ++ ([] : List Value)))) :: ownK 133 6 A1 l1.length c1 (List.flatMap enc133 l1) :: fs) := hS
            refine at_end [1, 2, 5, 6, 9, 10, 21, 22] [pl 1 (.int .i64 pips1), pl 2 (.pointer (some ⟨g1, 0, none⟩)), pl 5 (.slice A1 l1.length c1), pl 6 (.int .i64 far2), pl 9 (.int .i64 (w64 (z1 - pips1))), pl 10 (.pointer (some ⟨g2, 0, none⟩)), pl 21 (.agg (List.toArray (([] : List Value) ++ (arr1 (Value.int .i64) (0 : Int) 6 h1 ++ ([] : List Value))))), pl 22 (.int .i64 z1)] hF rfl (by kernel_rfl) (fun hF => ?_)
            refine then_n ?_
            refine seq_cut (fun a w => ∃ (next1 : List Int), Fr 59 [pl 1 (.int .i64 pips1), pl 2 (.pointer (some ⟨g1, 0, none⟩)), pl 5 (.slice A1 l1.length c1), pl 6 (.int .i64 far2), pl 10 (.pointer (some ⟨g2, 0, none⟩)), pl 21 (.agg (List.toArray (([] : List Value) ++ (arr1 (Value.int .i64) (0 : Int) 6 h1 ++ ([] : List Value))))), pl 22 (.int .i64 z1)] a ∧ Sep w0 B w (blk g1 133 (List.toArray (([] : List Value) ++ (arr1 (Value.int .i64) (0 : Int) 6 h1 ++ ([] : List Value)))) :: ownK 133 6 A1 l1.length c1 (List.flatMap enc133 l1) :: blk g2 133 (List.toArray (([] : List Value) ++ (arr1 (Value.int .i64) (0 : Int) 6 next1 ++ ([] : List Value)))) :: fs) ∧ ((gammon_home_moved_J7 l1 z1) next1).bind φ2 = some r) ?_ ?_
            · rintro a w ⟨next1, hF, hS, hm⟩
              unfold gammon_home_moved_J7 at hm
              refine oneR ?_
              obtain ⟨hp9, hm⟩ := asrt_b hm
              refine at_run 2 [⟨false, [], vS (Instr.loadAt 133 (.pointer (some ⟨g2, 0, none⟩))), .agg (List.toArray (([] : List Value) ++ (arr1 (Value.int .i64) (0 : Int) 6 next1 ++ ([] : List Value))))⟩] [none, some (.agg (List.toArray (([] : List Value) ++ (arr1 (Value.int .i64) (0 : Int) 6 next1 ++ ([] : List Value)))))] [1, 2, 6, 21, 22, 53, 54] [pl 1 (.int .i64 pips1), pl 2 (.pointer (some ⟨g1, 0, none⟩)), pl 6 (.int .i64 far2), pl 21 (.agg (List.toArray (([] : List Value) ++ (arr1 (Value.int .i64) (0 : Int) 6 h1 ++ ([] : List Value))))), pl 22 (.int .i64 z1), pl 53 (.slice A1 l1.length c1), pl 54 (.agg (List.toArray (([] : List Value) ++ (arr1 (Value.int .i64) (0 : Int) 6 next1 ++ ([] : List Value)))))] hF hS (by kernel_rfl) (by kernel_rfl) ?_ (fun a w hF hS => ?_)
              · exact obs_cons (ob_loadA (cs := (List.toArray (([] : List Value) ++ (arr1 (Value.int .i64) (0 : Int) 6 next1 ++ ([] : List Value))))) (by kernel_rfl) (by kernel_rfl) (fun _ _ hS => (hS.at_ 2 rfl).cellsAt 0 (by rfl))) <| obs_nil
              refine at_do (d := 55) (s := vS (Instr.buildSlice 196 1 #[(0, .agg (List.toArray (([] : List Value) ++ (arr1 (Value.int .i64) (0 : Int) 6 next1 ++ ([] : List Value)))))])) (v := .slice (some ⟨w.heap.size, 0, none⟩) 1 1) (w' := w.alloc (.cells #[.int .i64 (geti next1 0), .int .i64 (geti next1 1), .int .i64 (geti next1 2), .int .i64 (geti next1 3), .int .i64 (geti next1 4), .int .i64 (geti next1 5)] 133)) hF (by kernel_rfl) (by kernel_rfl) (by kernel_rfl) (fun a hF => ?_)
              have hS : Sep w0 B (w.alloc (.cells #[.int .i64 (geti next1 0), .int .i64 (geti next1 1), .int .i64 (geti next1 2), .int .i64 (geti next1 3), .int .i64 (geti next1 4), .int .i64 (geti next1 5)] 133)) (ownK 133 6 (some (⟨w.heap.size, 0, none⟩ : Addr)) 1 1 (List.flatMap enc133 ([(geti next1 0, geti next1 1, geti next1 2, geti next1 3, geti next1 4, geti next1 5)] : List (Int × Int × Int × Int × Int × Int))) :: (blk g1 133 (List.toArray (([] : List Value) ++ (arr1 (Value.int .i64) (0 : Int) 6 h1 ++ ([] : List Value)))) :: ownK 133 6 A1 l1.length c1 (List.flatMap enc133 l1) :: blk g2 133 (List.toArray (([] : List Value) ++ (arr1 (Value.int .i64) (0 : Int) 6 next1 ++ ([] : List Value)))) :: fs)) := hS.litK 133 6 #[.int .i64 (geti next1 0), .int .i64 (geti next1 1), .int .i64 (geti next1 2), .int .i64 (geti next1 3), .int .i64 (geti next1 4), .int .i64 (geti next1 5)] 1 rfl (by omega)
              generalize (some (⟨w.heap.size, 0, none⟩ : Addr)) = g3 at hF hS
              generalize w.alloc (.cells #[.int .i64 (geti next1 0), .int .i64 (geti next1 1), .int .i64 (geti next1 2), .int .i64 (geti next1 3), .int .i64 (geti next1 4), .int .i64 (geti next1 5)] 133) = w at hS ⊢
              obtain ⟨A4, c4, w, hrun, hS⟩ := run_appK (P := Try.prog) (t := 196) (m := l1) (ys := ([(geti next1 0, geti next1 1, geti next1 2, geti next1 3, geti next1 4, geti next1 5)] : List (Int × Int × Int × Int × Int × Int))) (A2 := g3) (m2 := 1) (c2 := 1) encK133 (hS.at_ 2 rfl) (hS.at_ 0 rfl).rdK ((hS.at_ 0 rfl).lenK encK133) 196 Und196 hi133 hz133 hs133 rfl (by omega) hp9
              have hS : Sep w0 B w (ownK 133 6 g3 1 1 (List.flatMap enc133 ([(geti next1 0, geti next1 1, geti next1 2, geti next1 3, geti next1 4, geti next1 5)] : List (Int × Int × Int × Int × Int × Int))) :: blk g1 133 (List.toArray (([] : List Value) ++ (arr1 (Value.int .i64) (0 : Int) 6 h1 ++ ([] : List Value)))) :: ownK 133 6 A4 ((l1 ++ ([(geti next1 0, geti next1 1, geti next1 2, geti next1 3, geti next1 4, geti next1 5)] : List (Int × Int × Int × Int × Int × Int))).length) c4 (List.flatMap enc133 (l1 ++ ([(geti next1 0, geti next1 1, geti next1 2, geti next1 3, geti next1 4, geti next1 5)] : List (Int × Int × Int × Int × Int × Int)))) :: blk g2 133 (List.toArray (([] : List Value) ++ (arr1 (Value.int .i64) (0 : Int) 6 next1 ++ ([] : List Value)))) :: fs) := hS
              refine at_do (d := 56) hF (by kernel_rfl) (by kernel_rfl) hrun (fun a hF => ?_)
              refine at_run 1 [] [] [1, 2, 5, 6, 21, 22] [pl 1 (.int .i64 pips1), pl 2 (.pointer (some ⟨g1, 0, none⟩)), pl 5 (.slice A4 ((l1 ++ ([(geti next1 0, geti next1 1, geti next1 2, geti next1 3, geti next1 4, geti next1 5)] : List (Int × Int × Int × Int × Int × Int))).length) c4), pl 6 (.int .i64 far2), pl 21 (.agg (List.toArray (([] : List Value) ++ (arr1 (Value.int .i64) (0 : Int) 6 h1 ++ ([] : List Value))))), pl 22 (.int .i64 z1)] hF hS (by kernel_rfl) (by kernel_rfl) ?_ (fun a w hF hS => ?_)
              · exact obs_nil
              refine at_end [1, 2, 5, 6, 21, 22] [pl 1 (.int .i64 pips1), pl 2 (.pointer (some ⟨g1, 0, none⟩)), pl 5 (.slice A4 ((l1 ++ ([(geti next1 0, geti next1 1, geti next1 2, geti next1 3, geti next1 4, geti next1 5)] : List (Int × Int × Int × Int × Int × Int))).length) c4), pl 6 (.int .i64 far2), pl 21 (.agg (List.toArray (([] : List Value) ++ (arr1 (Value.int .i64) (0 : Int) 6 h1 ++ ([] : List Value))))), pl 22 (.int .i64 z1)] hF rfl (by kernel_rfl) (fun hF => ?_)
              refine block_n ?_
              refine then_n ?_
              have hS := hS.pickN 4 [1, 2] (by decide)
              exact ⟨(l1 ++ ([(geti next1 0, geti next1 1, geti next1 2, geti next1 3, geti next1 4, geti next1 5)] : List (Int × Int × Int × Int × Int × Int))), A4, c4, hF.weak [1, 2, 5, 6, 21, 22] (by kernel_rfl), hS, hm⟩
            · refine reg [] [] [1, 2, 5, 6, 9, 10, 21, 22, 47] [pl 1 (.int .i64 pips1), pl 2 (.pointer (some ⟨g1, 0, none⟩)), pl 5 (.slice A1 l1.length c1), pl 6 (.int .i64 far2), pl 9 (.int .i64 (w64 (z1 - pips1))), pl 10 (.pointer (some ⟨g2, 0, none⟩)), pl 21 (.agg (List.toArray (([] : List Value) ++ (arr1 (Value.int .i64) (0 : Int) 6 h1 ++ ([] : List Value))))), pl 22 (.int .i64 z1), pl 47 (.bool (decide ((0 : Int) ≤ (w64 (z1 - pips1)))))] hF hS Fol (by kernel_rfl) (by kernel_rfl) (by kernel_rfl) ?_ (fun a w hF hS => ?_)
              · exact obs_nil
              refine cond_ev (t := 47) (b := decide ((0 : Int) ≤ (w64 (z1 - pips1)))) hF (by kernel_rfl) (fun hb => ?_) (fun hb => ?_)
              · replace hm := if_t hm hb
                refine oneR ?_
                obtain ⟨hp6, hm⟩ := asrt_b hm
                obtain ⟨hp7, hm⟩ := asrt_b hm
                obtain ⟨hp8, hm⟩ := asrt_b hm
                refine at_run 5 [⟨true, [], vS (Instr.indexAt 133 (.pointer (some ⟨g2, 0, none⟩)) (.int .i64 (w64 (z1 - pips1)))), .pointer (some ((⟨g2, 0, none⟩ : Addr).add (Int.toNat (w64 (z1 - pips1)) * 1)))⟩, ⟨false, [], vS (Instr.loadAt 3 (.pointer (some ((⟨g2, 0, none⟩ : Addr).add (Int.toNat (w64 (z1 - pips1)) * 1))))), .int .i64 (geti (h1.set (Int.toNat z1) (w64 ((geti h1 z1) - 1))) (w64 (z1 - pips1)))⟩, ⟨true, [], vS (Instr.indexAt 133 (.pointer (some ⟨g2, 0, none⟩)) (.int .i64 (w64 (z1 - pips1)))), .pointer (some ((⟨g2, 0, none⟩ : Addr).add (Int.toNat (w64 (z1 - pips1)) * 1)))⟩] [none, some (.pointer (some ((⟨g2, 0, none⟩ : Addr).add (Int.toNat (w64 (z1 - pips1)) * 1)))), some (.int .i64 (geti (h1.set (Int.toNat z1) (w64 ((geti h1 z1) - 1))) (w64 (z1 - pips1)))), none, some (.pointer (some ((⟨g2, 0, none⟩ : Addr).add (Int.toNat (w64 (z1 - pips1)) * 1))))] [1, 2, 5, 6, 10, 21, 22, 51, 52] [pl 1 (.int .i64 pips1), pl 2 (.pointer (some ⟨g1, 0, none⟩)), pl 5 (.slice A1 l1.length c1), pl 6 (.int .i64 far2), pl 10 (.pointer (some ⟨g2, 0, none⟩)), pl 21 (.agg (List.toArray (([] : List Value) ++ (arr1 (Value.int .i64) (0 : Int) 6 h1 ++ ([] : List Value))))), pl 22 (.int .i64 z1), pl 51 (.int .i64 (w64 ((geti (h1.set (Int.toNat z1) (w64 ((geti h1 z1) - 1))) (w64 (z1 - pips1))) + 1))), pl 52 (.pointer (some ((⟨g2, 0, none⟩ : Addr).add (Int.toNat (w64 (z1 - pips1)) * 1))))] hF hS (by kernel_rfl) (by kernel_rfl) ?_ (fun a w hF hS => ?_)
                · exact obs_cons (ob_ixA UndA133 hi3 hs3 (fun _ => hp6)) <| obs_cons (ob_getA (m := (h1.set (Int.toNat z1) (w64 ((geti h1 z1) - 1)))) (Value.int .i64) (0 : Int) 6 ([] : List Value) ([] : List Value) (w64 (z1 - pips1)) Agg3 rfl (fun _ hS => ⟨_, _, _, _, _, hS.at_ 0 rfl⟩) (fun hy => by have h0 := hp6; omega)) <| obs_cons (ob_ixA UndA133 hi3 hs3 (fun _ => hp7)) <| obs_nil
                obtain ⟨w, hrun, hS⟩ := run_setA (P := Try.prog) (t := 3) (x := (w64 ((geti (h1.set (Int.toNat z1) (w64 ((geti h1 z1) - 1))) (w64 (z1 - pips1))) + 1))) (i := (w64 (z1 - pips1))) (m := (h1.set (Int.toNat z1) (w64 ((geti h1 z1) - 1)))) (d := Int.toNat (w64 (z1 - pips1)) * 1) (Value.int .i64) (0 : Int) 6 ([] : List Value) ([] : List Value) (hS.at_ 0 rfl) rfl hi3 hs3 rfl (by have h0 := hp7; omega) (by have h0 := hp7; have h9 := hp8; omega)
                refine at_skip hF (by kernel_rfl) hrun ?_
                have hS : Sep w0 B w (blk g2 133 (List.toArray (([] : List Value) ++ (arr1 (Value.int .i64) (0 : Int) 6 ((h1.set (Int.toNat z1) (w64 ((geti h1 z1) - 1))).set (Int.toNat (w64 (z1 - pips1))) (w64 ((geti (h1.set (Int.toNat z1) (w64 ((geti h1 z1) - 1))) (w64 (z1 - pips1))) + 1))) ++ ([] : List Value)))) :: blk g1 133 (List.toArray (([] : List Value) ++ (arr1 (Value.int .i64) (0 : Int) 6 h1 ++ ([] : List Value)))) :: ownK 133 6 A1 l1.length c1 (List.flatMap enc133 l1) :: fs) := hS
                refine at_end [1, 2, 5, 6, 10, 21, 22] [pl 1 (.int .i64 pips1), pl 2 (.pointer (some ⟨g1, 0, none⟩)), pl 5 (.slice A1 l1.length c1), pl 6 (.int .i64 far2), pl 10 (.pointer (some ⟨g2, 0, none⟩)), pl 21 (.agg (List.toArray (([] : List Value) ++ (arr1 (Value.int .i64) (0 : Int) 6 h1 ++ ([] : List Value))))), pl 22 (.int .i64 z1)] hF rfl (by kernel_rfl) (fun hF => ?_)
                refine then_n ?_
                have hS := hS.pickN 3 [1, 2, 0] (by decide)
                exact ⟨((h1.set (Int.toNat z1) (w64 ((geti h1 z1) - 1))).set (Int.toNat (w64 (z1 - pips1))) (w64 ((geti (h1.set (Int.toNat z1) (w64 ((geti h1 z1) - 1))) (w64 (z1 - pips1))) + 1))), hF.weak [1, 2, 5, 6, 10, 21, 22] (by kernel_rfl), hS, hm⟩
              · replace hm := if_f hm hb
                refine wpIn_skip ?_
                refine then_n ?_
                have hS := hS.pickN 3 [1, 2, 0] (by decide)
                exact ⟨(h1.set (Int.toNat z1) (w64 ((geti h1 z1) - 1))), hF.weak [1, 2, 5, 6, 10, 21, 22] (by kernel_rfl), hS, hm⟩
          · refine reg [] [] [1, 2, 5, 6, 7, 9, 21, 22, 39] [pl 1 (.int .i64 pips1), pl 2 (.pointer (some ⟨g1, 0, none⟩)), pl 5 (.slice A1 l1.length c1), pl 6 (.int .i64 far2), pl 7 (.int .i64 z1), pl 9 (.int .i64 (w64 (z1 - pips1))), pl 21 (.agg (List.toArray (([] : List Value) ++ (arr1 (Value.int .i64) (0 : Int) 6 h1 ++ ([] : List Value))))), pl 22 (.int .i64 z1), pl 39 (.bool (((geti h1 z1) == 0) || ((decide ((w64 (z1 - pips1)) < (-1))) && (z1 != far2))))] hF hS Fol (by kernel_rfl) (by kernel_rfl) (by kernel_rfl) ?_ (fun a w hF hS => ?_)
            · exact obs_nil
            refine cond_ev (t := 39) (b := ((geti h1 z1) == 0) || ((decide ((w64 (z1 - pips1)) < (-1))) && (z1 != far2))) hF (by kernel_rfl) (fun hb => ?_) (fun hb => ?_)
            · replace hm := if_t hm hb
              refine wpIn_exit ?_
              refine then_e (block_e (then_n ?_))
              exact ⟨l1, A1, c1, hF.weak [1, 2, 5, 6, 21, 22] (by kernel_rfl), hS, hm⟩
            · replace hm := if_f hm hb
              refine wpIn_skip ?_
              refine then_n ?_
              exact ⟨hF.weak [1, 2, 5, 6, 7, 9, 21, 22] (by kernel_rfl), hS, hm⟩
      · refine cond_ev (t := 23) (b := decide (z1 < 6)) hF (by kernel_rfl) (fun hb => ?_) (fun hb => ?_)
        · replace hm := if_t hm hb
          refine wpIn_skip ?_
          refine then_n ?_
          exact ⟨hF.weak [1, 2, 5, 6, 21, 22] (by kernel_rfl), hS, hm⟩
        · replace hm := if_f hm hb
          refine wpIn_exit ?_
          refine then_e (then_e (block_e (then_n ?_)))
          have hS := hS.pickN 2 [1] (by decide)
          rw [← hφ2] at hm
          replace hm := done_b hm
          unfold gammon_home_moved_K2 at hm
          try dsimp only at hm
          have hm : (gammon_home_moved_J3 l1).bind some = some r := hm
          exact ⟨l1, A1, c1, hF.weak [5] (by kernel_rfl), hS, hm⟩
  · refine wpIn_block ?_
    refine wp_loop_model (S := Int) (R := Int) (gammon_home_moved_L1 h1) (fun x => ((gammon_home_moved_K1 h1 pips1) x).bind some) r (fun (x : Int) a w => Fr 59 [pl 1 (.int .i64 pips1), pl 2 (.pointer (some ⟨g1, 0, none⟩)), pl 5 (.slice none 0 0), pl 6 (.int .i64 x)] a ∧ Sep w0 B w (blk g1 133 (List.toArray (([] : List Value) ++ (arr1 (Value.int .i64) (0 : Int) 6 h1 ++ ([] : List Value)))) :: fs)) (assoc_b hm) ⟨hF.weak [1, 2, 5, 6] (by kernel_rfl), hS⟩ ?_
    clear hF hS hm
    rintro nn1 far1 a w ⟨hF, hS⟩ hm
    generalize hφ1 : stK (gammon_home_moved_L1 h1) nn1 (fun x => ((gammon_home_moved_K1 h1 pips1) x).bind some) = φ1 at hm
    unfold gammon_home_moved_L1 at hm
    dsimp only at hm
    refine seq_cut (fun a w => Fr 59 [pl 1 (.int .i64 pips1), pl 2 (.pointer (some ⟨g1, 0, none⟩)), pl 5 (.slice none 0 0), pl 6 (.int .i64 far1)] a ∧ Sep w0 B w (blk g1 133 (List.toArray (([] : List Value) ++ (arr1 (Value.int .i64) (0 : Int) 6 h1 ++ ([] : List Value)))) :: fs) ∧ ((gammon_home_moved_J2 far1)).bind φ1 = some r) ?_ ?_
    · rintro a w ⟨hF, hS, hm⟩
      unfold gammon_home_moved_J2 at hm
      refine wpIn_block ?_
      refine reg1 [] [] [1, 2, 5, 6] [pl 1 (.int .i64 pips1), pl 2 (.pointer (some ⟨g1, 0, none⟩)), pl 5 (.slice none 0 0), pl 6 (.int .i64 (w64 (far1 - 1)))] hF hS Fol (by kernel_rfl) (by kernel_rfl) (by kernel_rfl) ?_ (fun a w hF hS => ?_)
      · exact obs_nil
      refine block_n ?_
      refine then_n ?_
      rw [← hφ1] at hm
      exact ⟨(w64 (far1 - 1)), ⟨hF.weak [1, 2, 5, 6] (by kernel_rfl), hS⟩, hm⟩
    · obtain ⟨hp1, hm⟩ := asrt_b hm
      refine reg [⟨true, [(decide ((0 : Int) ≤ far1), true)], vS (Instr.indexAt 133 (.pointer (some ⟨g1, 0, none⟩)) (.int .i64 far1)), .pointer (some ((⟨g1, 0, none⟩ : Addr).add (Int.toNat far1 * 1)))⟩, ⟨false, [(decide ((0 : Int) ≤ far1), true)], vS (Instr.loadAt 3 (.pointer (some ((⟨g1, 0, none⟩ : Addr).add (Int.toNat far1 * 1))))), .int .i64 (geti h1 far1)⟩] [none, none, none, none, some (.pointer (some ((⟨g1, 0, none⟩ : Addr).add (Int.toNat far1 * 1)))), some (.int .i64 (geti h1 far1)), none, none] [1, 2, 5, 6, 18] [pl 1 (.int .i64 pips1), pl 2 (.pointer (some ⟨g1, 0, none⟩)), pl 5 (.slice none 0 0), pl 6 (.int .i64 far1), pl 18 (.bool ((decide ((0 : Int) ≤ far1)) && ((geti h1 far1) == 0)))] hF hS Fol (by kernel_rfl) (by kernel_rfl) (by kernel_rfl) ?_ (fun a w hF hS => ?_)
      · exact obs_cons (ob_ixA UndA133 hi3 hs3 (fun hy => hp1 (hy (decide ((0 : Int) ≤ far1), true) (by simp)))) <| obs_cons (ob_getA (m := h1) (Value.int .i64) (0 : Int) 6 ([] : List Value) ([] : List Value) far1 Agg3 rfl (fun _ hS => ⟨_, _, _, _, _, hS.at_ 0 rfl⟩) (fun hy => by have h0 := hp1 (hy (decide ((0 : Int) ≤ far1), true) (by simp)); omega)) <| obs_nil
      refine cond_ev (t := 18) (b := (decide ((0 : Int) ≤ far1)) && ((geti h1 far1) == 0)) hF (by kernel_rfl) (fun hb => ?_) (fun hb => ?_)
      · replace hm := if_t hm hb
        refine wpIn_skip ?_
        refine then_n ?_
        exact ⟨hF.weak [1, 2, 5, 6] (by kernel_rfl), hS, hm⟩
      · replace hm := if_f hm hb
        refine wpIn_exit ?_
        refine then_e (then_e (block_e (then_n ?_)))
        rw [← hφ1] at hm
        replace hm := done_b hm
        unfold gammon_home_moved_K1 at hm
        try dsimp only at hm
        have hm : ((gammon_home_moved_J1 h1 pips1) far1).bind some = some r := hm
        exact ⟨far1, hF.weak [1, 2, 5, 6] (by kernel_rfl), hS, hm⟩

noncomputable def gammon_means_best_J4  (z1 : Int) (m5 : List ((Int × Int × Int × Int × Int × Int) × Int)) (best3 : Int) : Option (St (List ((Int × Int × Int × Int × Int × Int) × Int) × Int × Int) (Int × List ((Int × Int × Int × Int × Int × Int) × Int))) :=
  some (.next (m5, best3, (w64 (z1 + 1))))

noncomputable def gammon_means_best_J3  (rec_gammon_means_best : List ((Int × Int × Int × Int × Int × Int) × Int) → List Int → List Int → Option (Int × List ((Int × Int × Int × Int × Int × Int) × Int))) (pips1 : List Int) (r3 : (List (Int × Int × Int × Int × Int × Int))) (m3 : List ((Int × Int × Int × Int × Int × Int) × Int)) (best1 : Int) (z1 : Int) : Option (St (List ((Int × Int × Int × Int × Int × Int) × Int) × Int × Int) (Int × List ((Int × Int × Int × Int × Int × Int) × Int))) :=
  asrt (0 ≤ z1 ∧ z1 < (r3.length : Int)) <| asrt (0 ≤ (1 : Int) ∧ (1 : Int) ≤ (pips1.length : Int) ∧ (pips1.length : Int) ≤ (pips1.length : Int)) <| (rec_gammon_means_best m3 ([(getd ((0, 0, 0, 0, 0, 0) : (Int × Int × Int × Int × Int × Int)) r3 z1).1, (getd ((0, 0, 0, 0, 0, 0) : (Int × Int × Int × Int × Int × Int)) r3 z1).2.1, (getd ((0, 0, 0, 0, 0, 0) : (Int × Int × Int × Int × Int × Int)) r3 z1).2.2.1, (getd ((0, 0, 0, 0, 0, 0) : (Int × Int × Int × Int × Int × Int)) r3 z1).2.2.2.1, (getd ((0, 0, 0, 0, 0, 0) : (Int × Int × Int × Int × Int × Int)) r3 z1).2.2.2.2.1, (getd ((0, 0, 0, 0, 0, 0) : (Int × Int × Int × Int × Int × Int)) r3 z1).2.2.2.2.2] : List Int) (cut pips1 (1 : Int) (pips1.length : Int))).bind fun r4 => if ((decide (best1 < 0)) || (decide (r4.1 < best1))) then ((gammon_means_best_J4 z1) r4.2 r4.1) else ((gammon_means_best_J4 z1) r4.2 best1)

noncomputable def gammon_means_best_J2  (best2 : Int) (m4 : List ((Int × Int × Int × Int × Int × Int) × Int)) : Option (Int × List ((Int × Int × Int × Int × Int × Int) × Int)) :=
  some (best2, m4)

noncomputable def gammon_means_best_K1  : (Int × List ((Int × Int × Int × Int × Int × Int) × Int)) → Option (Int × List ((Int × Int × Int × Int × Int × Int) × Int)) :=
  fun (x : (Int × List ((Int × Int × Int × Int × Int × Int) × Int))) => match x with | (best2, m4) => gammon_means_best_J2 best2 m4

noncomputable def gammon_means_best_L1  (rec_gammon_means_best : List ((Int × Int × Int × Int × Int × Int) × Int) → List Int → List Int → Option (Int × List ((Int × Int × Int × Int × Int × Int) × Int))) (pips1 : List Int) (r3 : (List (Int × Int × Int × Int × Int × Int))) : (List ((Int × Int × Int × Int × Int × Int) × Int) × Int × Int) → Option (St (List ((Int × Int × Int × Int × Int × Int) × Int) × Int × Int) (Int × List ((Int × Int × Int × Int × Int × Int) × Int))) :=
  fun (x : (List ((Int × Int × Int × Int × Int × Int) × Int) × Int × Int)) => match x with | (m3, best1, z1) => if (decide (z1 < (r3.length : Int))) then ((gammon_means_best_J3 rec_gammon_means_best pips1 r3 m3 best1 z1)) else (some (.done (best1, m3)))

noncomputable def gammon_means_best_J1  (rec_gammon_means_best : List ((Int × Int × Int × Int × Int × Int) × Int) → List Int → List Int → Option (Int × List ((Int × Int × Int × Int × Int × Int) × Int))) (m1 : List ((Int × Int × Int × Int × Int × Int) × Int)) (h1 : List Int) (pips1 : List Int) : Option (Int × List ((Int × Int × Int × Int × Int × Int) × Int)) :=
  asrt (0 ≤ (0 : Int) ∧ (0 : Int) < (pips1.length : Int)) <| (gammon_home_moved_m h1 (geti pips1 0)).bind fun r3 => (loop (gammon_means_best_L1 rec_gammon_means_best pips1 r3) (m1, (-1), 0)).bind gammon_means_best_K1

noncomputable def gammon_means_best_B (rec_gammon_means_of : List ((Int × Int × Int × Int × Int × Int) × Int) → List Int → Option (Int × List ((Int × Int × Int × Int × Int × Int) × Int))) (rec_gammon_means_best : List ((Int × Int × Int × Int × Int × Int) × Int) → List Int → List Int → Option (Int × List ((Int × Int × Int × Int × Int × Int) × Int))) (m1 : List ((Int × Int × Int × Int × Int × Int) × Int)) (h1 : List Int) (pips1 : List Int) : Option (Int × List ((Int × Int × Int × Int × Int × Int) × Int)) :=
  ((if (!((pips1.length : Int) == 0)) then gammon_home_empty_m h1 else some false)).bind fun r1 => if (((pips1.length : Int) == 0) || r1) then ((rec_gammon_means_of m1 h1).bind fun r2 => some (r2.1, r2.2)) else ((gammon_means_best_J1 rec_gammon_means_best m1 h1 pips1))

noncomputable def gammon_means_best_mF (rec_gammon_means_of : List ((Int × Int × Int × Int × Int × Int) × Int) → List Int → Option (Int × List ((Int × Int × Int × Int × Int × Int) × Int))) : Nat → List ((Int × Int × Int × Int × Int × Int) × Int) → List Int → List Int → Option (Int × List ((Int × Int × Int × Int × Int × Int) × Int))
  | 0 => fun _ _ _ => none
  | n + 1 => fun m1 h1 pips1 => gammon_means_best_B rec_gammon_means_of (gammon_means_best_mF rec_gammon_means_of n) m1 h1 pips1

noncomputable def gammon_means_best_m (rec_gammon_means_of : List ((Int × Int × Int × Int × Int × Int) × Int) → List Int → Option (Int × List ((Int × Int × Int × Int × Int × Int) × Int))) (m1 : List ((Int × Int × Int × Int × Int × Int) × Int)) (h1 : List Int) (pips1 : List Int) : Option (Int × List ((Int × Int × Int × Int × Int × Int) × Int)) :=
  recM fun n => gammon_means_best_mF rec_gammon_means_of n m1 h1 pips1

set_option maxRecDepth 100000 in
set_option maxHeartbeats 4000000 in
theorem gammon_means_best_wB {rec_gammon_means_of : List ((Int × Int × Int × Int × Int × Int) × Int) → List Int → Option (Int × List ((Int × Int × Int × Int × Int × Int) × Int))} (ih_gammon_means_of : ∀ {g1 : Nat} {m1 : List ((Int × Int × Int × Int × Int × Int) × Int)} {h1 : List Int} {r : (Int × List ((Int × Int × Int × Int × Int × Int) × Int))} {w0 w : World} {B : Nat} {fs : List HP} (_ : rec_gammon_means_of m1 h1 = some r) (_ : Sep w0 B w (mapH kf133 (Value.int .i64) g1 m1 :: fs)), Calls Try.prog 96 #[.map (some g1), .agg (List.toArray (([] : List Value) ++ (arr1 (Value.int .i64) (0 : Int) 6 h1 ++ ([] : List Value))))] w fun e w' => ∃ v, e = .returned v ∧ v = .int .i64 r.1 ∧ Sep w0 B w' (mapH kf133 (Value.int .i64) g1 r.2 :: fs)) {rec_gammon_means_best : List ((Int × Int × Int × Int × Int × Int) × Int) → List Int → List Int → Option (Int × List ((Int × Int × Int × Int × Int × Int) × Int))} (ih_gammon_means_best : ∀ {g1 : Nat} {m1 : List ((Int × Int × Int × Int × Int × Int) × Int)} {h1 : List Int} {A1 : Option Addr} {c1 : Nat} {n1 : Nat} {pips1 : List Int} {r : (Int × List ((Int × Int × Int × Int × Int × Int) × Int))} {w0 w : World} {B : Nat} {fs : List HP} (_ : rec_gammon_means_best m1 h1 pips1 = some r) (_ : Sep w0 B w (mapH kf133 (Value.int .i64) g1 m1 :: fs)) (hr_pips1 : RdF w0 B fs A1 (vI pips1)) (_hc_pips1 : pips1.length ≤ c1) (_hn_pips1 : n1 = pips1.length), Calls Try.prog 136 #[.map (some g1), .agg (List.toArray (([] : List Value) ++ (arr1 (Value.int .i64) (0 : Int) 6 h1 ++ ([] : List Value)))), .slice A1 n1 c1] w fun e w' => ∃ v, e = .returned v ∧ v = .int .i64 r.1 ∧ Sep w0 B w' (mapH kf133 (Value.int .i64) g1 r.2 :: fs)) {g1 : Nat} {m1 : List ((Int × Int × Int × Int × Int × Int) × Int)} {h1 : List Int} {A1 : Option Addr} {c1 : Nat} {n1 : Nat} {pips1 : List Int} {r : (Int × List ((Int × Int × Int × Int × Int × Int) × Int))} {w0 w : World} {B : Nat} {fs : List HP} (hm : gammon_means_best_B rec_gammon_means_of rec_gammon_means_best m1 h1 pips1 = some r) (hS : Sep w0 B w (mapH kf133 (Value.int .i64) g1 m1 :: fs)) (hr_pips1 : RdF w0 B fs A1 (vI pips1)) (_hc_pips1 : pips1.length ≤ c1) (_hn_pips1 : n1 = pips1.length) :
    Calls Try.prog 136 #[.map (some g1), .agg (List.toArray (([] : List Value) ++ (arr1 (Value.int .i64) (0 : Int) 6 h1 ++ ([] : List Value)))), .slice A1 n1 c1] w fun e w' => ∃ v, e = .returned v ∧ v = .int .i64 r.1 ∧ Sep w0 B w' (mapH kf133 (Value.int .i64) g1 r.2 :: fs) := by
  obtain ⟨i3, hi3, hz3, hs3, hb3⟩ := info_parts Info3
  obtain ⟨i133, hi133, hz133, hs133, hb133⟩ := info_parts Info133
  obtain rfl := _hn_pips1
  unfold gammon_means_best_B at hm
  replace hm := start_b hm
  refine enter (l := [.map (some g1), .agg (List.toArray (([] : List Value) ++ (arr1 (Value.int .i64) (0 : Int) 6 h1 ++ ([] : List Value)))), .slice A1 pips1.length c1]) (n := 46) Try.func136 rfl rfl (by simp) (fun a hF => ?_)
  refine seqR ?_
  refine at_do (d := 4) (s := vS (Instr.box 133 (.agg (List.toArray (([] : List Value) ++ (arr1 (Value.int .i64) (0 : Int) 6 h1 ++ ([] : List Value))))))) (v := .pointer (some ⟨w.heap.size, 0, none⟩)) (w' := w.alloc (.cells (List.toArray (([] : List Value) ++ (arr1 (Value.int .i64) (0 : Int) 6 h1 ++ ([] : List Value)))) 133)) hF (by kernel_rfl) (by kernel_rfl) (by kernel_rfl) (fun a hF => ?_)
  have hS : Sep w0 B (w.alloc (.cells (List.toArray (([] : List Value) ++ (arr1 (Value.int .i64) (0 : Int) 6 h1 ++ ([] : List Value)))) 133)) (blk w.heap.size 133 (List.toArray (([] : List Value) ++ (arr1 (Value.int .i64) (0 : Int) 6 h1 ++ ([] : List Value)))) :: (mapH kf133 (Value.int .i64) g1 m1 :: fs)) := hS.box 133 (List.toArray (([] : List Value) ++ (arr1 (Value.int .i64) (0 : Int) 6 h1 ++ ([] : List Value))))
  generalize w.heap.size = g2 at hF hS
  generalize w.alloc (.cells (List.toArray (([] : List Value) ++ (arr1 (Value.int .i64) (0 : Int) 6 h1 ++ ([] : List Value)))) 133) = w at hS ⊢
  refine at_run 1 [] [] [0, 2, 4] [pl 0 (.map (some g1)), pl 2 (.slice A1 pips1.length c1), pl 4 (.pointer (some ⟨g2, 0, none⟩))] hF hS (by kernel_rfl) (by kernel_rfl) ?_ (fun a w hF hS => ?_)
  · exact obs_nil
  refine at_end [0, 2, 4] [pl 0 (.map (some g1)), pl 2 (.slice A1 pips1.length c1), pl 4 (.pointer (some ⟨g2, 0, none⟩))] hF rfl (by kernel_rfl) (fun hF => ?_)
  refine then_n ?_
  refine seq_cut (fun a w => Fr 46 [pl 0 (.map (some g1)), pl 2 (.slice A1 pips1.length c1), pl 4 (.pointer (some ⟨g2, 0, none⟩))] a ∧ Sep w0 B w (mapH kf133 (Value.int .i64) g1 m1 :: blk g2 133 (List.toArray (([] : List Value) ++ (arr1 (Value.int .i64) (0 : Int) 6 h1 ++ ([] : List Value)))) :: fs) ∧ ((gammon_means_best_J1 rec_gammon_means_best m1 h1 pips1)).bind some = some r) ?_ ?_
  · rintro a w ⟨hF, hS, hm⟩
    unfold gammon_means_best_J1 at hm
    refine reg [] [] [0, 2, 4, 7] [pl 0 (.map (some g1)), pl 2 (.slice A1 pips1.length c1), pl 4 (.pointer (some ⟨g2, 0, none⟩)), pl 7 (.int .i64 (-1))] hF hS Fol (by kernel_rfl) (by kernel_rfl) (by kernel_rfl) ?_ (fun a w hF hS => ?_)
    · exact obs_nil
    refine seq_cut (fun a w => ∃ (best2 : Int) (m4 : List ((Int × Int × Int × Int × Int × Int) × Int)), Fr 46 [pl 7 (.int .i64 best2)] a ∧ Sep w0 B w (mapH kf133 (Value.int .i64) g1 m4 :: fs) ∧ (gammon_means_best_J2 best2 m4).bind some = some r) ?_ ?_
    · rintro a w ⟨best2, m4, hF, hS, hm⟩
      unfold gammon_means_best_J2 at hm
      refine reg [] [] [6] [pl 6 (.int .i64 best2)] hF hS Fol (by kernel_rfl) (by kernel_rfl) (by kernel_rfl) ?_ (fun a w hF hS => ?_)
      · exact obs_nil
      refine wpIn_ret ?_
      have hm : some (best2, m4) = some r := hm
      obtain rfl := Option.some.inj hm
      exact retV (rs := [.tmp 6]) (vs := [.int .i64 best2]) hF rfl (rv_t (by kernel_rfl) <| rv_nil) rfl ⟨_, rfl, rfl, hS⟩
    · refine wpIn_seq ?_
      obtain ⟨hp1, hm⟩ := asrt_b hm
      obtain ⟨r3, hr3, hm⟩ := call_b hm
      refine regMix4 [0, 1, 2, 3, 6] [4, 5] [⟨false, [], vS (Instr.loadAt 133 (.pointer (some ⟨g2, 0, none⟩))), .agg (List.toArray (([] : List Value) ++ (arr1 (Value.int .i64) (0 : Int) 6 h1 ++ ([] : List Value))))⟩, ⟨true, [], vS (Instr.indexAt 40 (.slice A1 pips1.length c1) (.int .i64 0)), .pointer (some (sAddr A1 0))⟩, ⟨false, [], vS (Instr.loadAt 3 (.pointer (some (sAddr A1 0)))), .int .i64 (geti pips1 0)⟩] [some (.agg (List.toArray (([] : List Value) ++ (arr1 (Value.int .i64) (0 : Int) 6 h1 ++ ([] : List Value))))), none, some (.pointer (some (sAddr A1 0))), some (.int .i64 (geti pips1 0)), none] [0, 2, 7, 21, 24, 27] [pl 0 (.map (some g1)), pl 2 (.slice A1 pips1.length c1), pl 7 (.int .i64 (-1)), pl 21 (.agg (List.toArray (([] : List Value) ++ (arr1 (Value.int .i64) (0 : Int) 6 h1 ++ ([] : List Value))))), pl 24 (.int .i64 (geti pips1 0)), pl 27 (.int .i64 0)] hF hS Fol (by kernel_rfl) (by kernel_rfl) (by kernel_rfl) (by kernel_rfl) (by kernel_rfl) ?_ (fun a w hF hS => ?_)
      · exact obs_cons (ob_loadA (cs := (List.toArray (([] : List Value) ++ (arr1 (Value.int .i64) (0 : Int) 6 h1 ++ ([] : List Value))))) (by kernel_rfl) (by kernel_rfl) (fun _ _ hS => (hS.at_ 1 rfl).cellsAt 0 (by rfl))) <| obs_cons (ob_ix1 (f := (Value.int .i64)) (m := pips1) Und40 hi3 hs3 (hr_pips1 _ (hS.dropN 2)) rfl (fun _ => hp1)) <| obs_cons (ob_get1 (n := pips1.length) (m := pips1) (Value.int .i64) (0 : Int) Agg3 (fun _ hS => ⟨_, (hr_pips1 _ (hS.dropN 2))⟩) (fun _ hS => rfl) (fun _ => hp1)) <| obs_nil
      refine at_call (f := 160) (args := #[.agg (List.toArray (([] : List Value) ++ (arr1 (Value.int .i64) (0 : Int) 6 h1 ++ ([] : List Value)))), .int .i64 (geti pips1 0)]) (d := 25) hF (by kernel_rfl) (by kernel_rfl) Try.func160 (by kernel_rfl) rfl (gammon_home_moved_w hr3 hS ) (fun v a w hR hF => ?_)
      clear hS
      obtain ⟨A2, c2, rfl, hS⟩ := hR
      have hS : Sep w0 B w (ownK 133 6 A2 r3.length c2 (List.flatMap enc133 r3) :: mapH kf133 (Value.int .i64) g1 m1 :: blk g2 133 (List.toArray (([] : List Value) ++ (arr1 (Value.int .i64) (0 : Int) 6 h1 ++ ([] : List Value)))) :: fs) := hS
      refine at_run 1 [] [] [0, 2, 7, 25, 26, 27] [pl 0 (.map (some g1)), pl 2 (.slice A1 pips1.length c1), pl 7 (.int .i64 (-1)), pl 25 (.slice A2 r3.length c2), pl 26 (.int .i64 (r3.length : Int)), pl 27 (.int .i64 0)] hF hS (by kernel_rfl) (by kernel_rfl) ?_ (fun a w hF hS => ?_)
      · exact obs_nil
      refine at_end [0, 2, 7, 25, 26, 27] [pl 0 (.map (some g1)), pl 2 (.slice A1 pips1.length c1), pl 7 (.int .i64 (-1)), pl 25 (.slice A2 r3.length c2), pl 26 (.int .i64 (r3.length : Int)), pl 27 (.int .i64 0)] hF rfl (by kernel_rfl) (fun hF => ?_)
      refine np_n ?_
      refine then_n ?_
      refine wpIn_block ?_
      have hS := hS.pickN 3 [1, 0] (by decide)
      refine wp_loop_model (S := (List ((Int × Int × Int × Int × Int × Int) × Int) × Int × Int)) (R := (Int × List ((Int × Int × Int × Int × Int × Int) × Int))) (gammon_means_best_L1 rec_gammon_means_best pips1 r3) (fun x => (gammon_means_best_K1 x).bind some) r (fun (x : (List ((Int × Int × Int × Int × Int × Int) × Int) × Int × Int)) a w => Fr 46 [pl 0 (.map (some g1)), pl 2 (.slice A1 pips1.length c1), pl 7 (.int .i64 x.2.1), pl 25 (.slice A2 r3.length c2), pl 26 (.int .i64 (r3.length : Int)), pl 27 (.int .i64 x.2.2)] a ∧ Sep w0 B w (mapH kf133 (Value.int .i64) g1 x.1 :: ownK 133 6 A2 r3.length c2 (List.flatMap enc133 r3) :: fs)) (assoc_b hm) ⟨hF.weak [0, 2, 7, 25, 26, 27] (by kernel_rfl), hS⟩ ?_
      clear hF hS hm
      rintro nn1 ⟨m3, best1, z1⟩ a w ⟨hF, hS⟩ hm
      generalize hφ1 : stK (gammon_means_best_L1 rec_gammon_means_best pips1 r3) nn1 (fun x => (gammon_means_best_K1 x).bind some) = φ1 at hm
      unfold gammon_means_best_L1 at hm
      dsimp only at hF hS hm
      refine reg [] [] [0, 2, 7, 25, 26, 27, 28] [pl 0 (.map (some g1)), pl 2 (.slice A1 pips1.length c1), pl 7 (.int .i64 best1), pl 25 (.slice A2 r3.length c2), pl 26 (.int .i64 (r3.length : Int)), pl 27 (.int .i64 z1), pl 28 (.bool (decide (z1 < (r3.length : Int))))] hF hS Fol (by kernel_rfl) (by kernel_rfl) (by kernel_rfl) ?_ (fun a w hF hS => ?_)
      · exact obs_nil
      refine seq_cut (fun a w => Fr 46 [pl 0 (.map (some g1)), pl 2 (.slice A1 pips1.length c1), pl 7 (.int .i64 best1), pl 25 (.slice A2 r3.length c2), pl 26 (.int .i64 (r3.length : Int)), pl 27 (.int .i64 z1)] a ∧ Sep w0 B w (mapH kf133 (Value.int .i64) g1 m3 :: ownK 133 6 A2 r3.length c2 (List.flatMap enc133 r3) :: fs) ∧ ((gammon_means_best_J3 rec_gammon_means_best pips1 r3 m3 best1 z1)).bind φ1 = some r) ?_ ?_
      · rintro a w ⟨hF, hS, hm⟩
        unfold gammon_means_best_J3 at hm
        refine seq_cut (fun a w => ∃ (m5 : List ((Int × Int × Int × Int × Int × Int) × Int)) (best3 : Int), Fr 46 [pl 0 (.map (some g1)), pl 2 (.slice A1 pips1.length c1), pl 7 (.int .i64 best3), pl 25 (.slice A2 r3.length c2), pl 26 (.int .i64 (r3.length : Int)), pl 27 (.int .i64 z1)] a ∧ Sep w0 B w (mapH kf133 (Value.int .i64) g1 m5 :: ownK 133 6 A2 r3.length c2 (List.flatMap enc133 r3) :: fs) ∧ ((gammon_means_best_J4 z1) m5 best3).bind φ1 = some r) ?_ ?_
        · rintro a w ⟨m5, best3, hF, hS, hm⟩
          unfold gammon_means_best_J4 at hm
          refine reg1 [] [] [0, 2, 7, 25, 26, 27] [pl 0 (.map (some g1)), pl 2 (.slice A1 pips1.length c1), pl 7 (.int .i64 best3), pl 25 (.slice A2 r3.length c2), pl 26 (.int .i64 (r3.length : Int)), pl 27 (.int .i64 (w64 (z1 + 1)))] hF hS Fol (by kernel_rfl) (by kernel_rfl) (by kernel_rfl) ?_ (fun a w hF hS => ?_)
          · exact obs_nil
          refine then_n ?_
          rw [← hφ1] at hm
          exact ⟨(m5, best3, (w64 (z1 + 1))), ⟨hF.weak [0, 2, 7, 25, 26, 27] (by kernel_rfl), hS⟩, hm⟩
        · refine wpIn_block ?_
          refine seqR ?_
          obtain ⟨hp2, hm⟩ := asrt_b hm
          refine at_run 2 [⟨true, [], vS (Instr.indexAt 196 (.slice A2 r3.length c2) (.int .i64 z1)), .pointer (some (sAddrK A2 6 z1))⟩, ⟨false, [], vS (Instr.loadAt 133 (.pointer (some (sAddrK A2 6 z1)))), .agg #[.int .i64 ((getd ((0, 0, 0, 0, 0, 0) : (Int × Int × Int × Int × Int × Int)) r3 z1).1), .int .i64 ((getd ((0, 0, 0, 0, 0, 0) : (Int × Int × Int × Int × Int × Int)) r3 z1).2.1), .int .i64 ((getd ((0, 0, 0, 0, 0, 0) : (Int × Int × Int × Int × Int × Int)) r3 z1).2.2.1), .int .i64 ((getd ((0, 0, 0, 0, 0, 0) : (Int × Int × Int × Int × Int × Int)) r3 z1).2.2.2.1), .int .i64 ((getd ((0, 0, 0, 0, 0, 0) : (Int × Int × Int × Int × Int × Int)) r3 z1).2.2.2.2.1), .int .i64 ((getd ((0, 0, 0, 0, 0, 0) : (Int × Int × Int × Int × Int × Int)) r3 z1).2.2.2.2.2)]⟩] [some (.pointer (some (sAddrK A2 6 z1))), some (.agg #[.int .i64 ((getd ((0, 0, 0, 0, 0, 0) : (Int × Int × Int × Int × Int × Int)) r3 z1).1), .int .i64 ((getd ((0, 0, 0, 0, 0, 0) : (Int × Int × Int × Int × Int × Int)) r3 z1).2.1), .int .i64 ((getd ((0, 0, 0, 0, 0, 0) : (Int × Int × Int × Int × Int × Int)) r3 z1).2.2.1), .int .i64 ((getd ((0, 0, 0, 0, 0, 0) : (Int × Int × Int × Int × Int × Int)) r3 z1).2.2.2.1), .int .i64 ((getd ((0, 0, 0, 0, 0, 0) : (Int × Int × Int × Int × Int × Int)) r3 z1).2.2.2.2.1), .int .i64 ((getd ((0, 0, 0, 0, 0, 0) : (Int × Int × Int × Int × Int × Int)) r3 z1).2.2.2.2.2)])] [0, 2, 7, 25, 26, 27, 30] [pl 0 (.map (some g1)), pl 2 (.slice A1 pips1.length c1), pl 7 (.int .i64 best1), pl 25 (.slice A2 r3.length c2), pl 26 (.int .i64 (r3.length : Int)), pl 27 (.int .i64 z1), pl 30 (.agg #[.int .i64 ((getd ((0, 0, 0, 0, 0, 0) : (Int × Int × Int × Int × Int × Int)) r3 z1).1), .int .i64 ((getd ((0, 0, 0, 0, 0, 0) : (Int × Int × Int × Int × Int × Int)) r3 z1).2.1), .int .i64 ((getd ((0, 0, 0, 0, 0, 0) : (Int × Int × Int × Int × Int × Int)) r3 z1).2.2.1), .int .i64 ((getd ((0, 0, 0, 0, 0, 0) : (Int × Int × Int × Int × Int × Int)) r3 z1).2.2.2.1), .int .i64 ((getd ((0, 0, 0, 0, 0, 0) : (Int × Int × Int × Int × Int × Int)) r3 z1).2.2.2.2.1), .int .i64 ((getd ((0, 0, 0, 0, 0, 0) : (Int × Int × Int × Int × Int × Int)) r3 z1).2.2.2.2.2)])] hF hS (by kernel_rfl) (by kernel_rfl) ?_ (fun a w hF hS => ?_)
          · exact obs_cons (ob_ixK (m := r3) encK133 Und196 hi133 hs133 (hS.at_ 1 rfl).rdK rfl (fun _ => hp2)) <| obs_cons (ob_getK (n := r3.length) (m := r3) encK133 ((0, 0, 0, 0, 0, 0) : (Int × Int × Int × Int × Int × Int)) (by kernel_rfl) (by kernel_rfl) (fun _ hS => ⟨_, (hS.at_ 1 rfl).rdK⟩) (fun _ hS => rfl) (fun _ => hp2)) <| obs_nil
          refine at_do (d := 9) (s := vS (Instr.alloc 133 true (.tuple #[]))) (v := .pointer (some ⟨w.heap.size, 0, none⟩)) (w' := w.alloc (.cells (List.toArray (([] : List Value) ++ (arr1 (Value.int .i64) (0 : Int) 6 (List.replicate 6 (0 : Int)) ++ ([] : List Value)))) 133)) hF (by kernel_rfl) (by kernel_rfl) (by kernel_rfl) (fun a hF => ?_)
          have hS : Sep w0 B (w.alloc (.cells (List.toArray (([] : List Value) ++ (arr1 (Value.int .i64) (0 : Int) 6 (List.replicate 6 (0 : Int)) ++ ([] : List Value)))) 133)) (blk w.heap.size 133 (List.toArray (([] : List Value) ++ (arr1 (Value.int .i64) (0 : Int) 6 (List.replicate 6 (0 : Int)) ++ ([] : List Value)))) :: (mapH kf133 (Value.int .i64) g1 m3 :: ownK 133 6 A2 r3.length c2 (List.flatMap enc133 r3) :: fs)) := hS.box 133 (List.toArray (([] : List Value) ++ (arr1 (Value.int .i64) (0 : Int) 6 (List.replicate 6 (0 : Int)) ++ ([] : List Value))))
          generalize w.heap.size = g3 at hF hS
          generalize w.alloc (.cells (List.toArray (([] : List Value) ++ (arr1 (Value.int .i64) (0 : Int) 6 (List.replicate 6 (0 : Int)) ++ ([] : List Value)))) 133) = w at hS ⊢
          obtain ⟨w, hrun, hS⟩ := run_putA (P := Try.prog) (t := 133) (us := (List.toArray (([] : List Value) ++ (arr1 (Value.int .i64) (0 : Int) 6 ([(getd ((0, 0, 0, 0, 0, 0) : (Int × Int × Int × Int × Int × Int)) r3 z1).1, (getd ((0, 0, 0, 0, 0, 0) : (Int × Int × Int × Int × Int × Int)) r3 z1).2.1, (getd ((0, 0, 0, 0, 0, 0) : (Int × Int × Int × Int × Int × Int)) r3 z1).2.2.1, (getd ((0, 0, 0, 0, 0, 0) : (Int × Int × Int × Int × Int × Int)) r3 z1).2.2.2.1, (getd ((0, 0, 0, 0, 0, 0) : (Int × Int × Int × Int × Int × Int)) r3 z1).2.2.2.2.1, (getd ((0, 0, 0, 0, 0, 0) : (Int × Int × Int × Int × Int × Int)) r3 z1).2.2.2.2.2] : List Int) ++ ([] : List Value))))) (o := 0) (hS.at_ 0 rfl) (by kernel_rfl) (all_one (by kernel_rfl)) (Nat.le_of_ble_eq_true (by kernel_rfl))
          refine at_skip hF (by kernel_rfl) hrun ?_
          have hS : Sep w0 B w (blk g3 133 (List.toArray (([] : List Value) ++ (arr1 (Value.int .i64) (0 : Int) 6 ([(getd ((0, 0, 0, 0, 0, 0) : (Int × Int × Int × Int × Int × Int)) r3 z1).1, (getd ((0, 0, 0, 0, 0, 0) : (Int × Int × Int × Int × Int × Int)) r3 z1).2.1, (getd ((0, 0, 0, 0, 0, 0) : (Int × Int × Int × Int × Int × Int)) r3 z1).2.2.1, (getd ((0, 0, 0, 0, 0, 0) : (Int × Int × Int × Int × Int × Int)) r3 z1).2.2.2.1, (getd ((0, 0, 0, 0, 0, 0) : (Int × Int × Int × Int × Int × Int)) r3 z1).2.2.2.2.1, (getd ((0, 0, 0, 0, 0, 0) : (Int × Int × Int × Int × Int × Int)) r3 z1).2.2.2.2.2] : List Int) ++ ([] : List Value)))) :: mapH kf133 (Value.int .i64) g1 m3 :: ownK 133 6 A2 r3.length c2 (List.flatMap enc133 r3) :: fs) := hS
          refine at_end [0, 2, 7, 9, 25, 26, 27] [pl 0 (.map (some g1)), pl 2 (.slice A1 pips1.length c1), pl 7 (.int .i64 best1), pl 9 (.pointer (some ⟨g3, 0, none⟩)), pl 25 (.slice A2 r3.length c2), pl 26 (.int .i64 (r3.length : Int)), pl 27 (.int .i64 z1)] hF rfl (by kernel_rfl) (fun hF => ?_)
          refine then_n ?_
          refine wpIn_seq ?_
          obtain ⟨hp3, hm⟩ := asrt_b hm
          obtain ⟨r4, hr4, hm⟩ := call_b hm
          refine regMix4 [0, 1, 2, 3] [4, 5] [⟨false, [], vS (Instr.loadAt 133 (.pointer (some ⟨g3, 0, none⟩))), .agg (List.toArray (([] : List Value) ++ (arr1 (Value.int .i64) (0 : Int) 6 ([(getd ((0, 0, 0, 0, 0, 0) : (Int × Int × Int × Int × Int × Int)) r3 z1).1, (getd ((0, 0, 0, 0, 0, 0) : (Int × Int × Int × Int × Int × Int)) r3 z1).2.1, (getd ((0, 0, 0, 0, 0, 0) : (Int × Int × Int × Int × Int × Int)) r3 z1).2.2.1, (getd ((0, 0, 0, 0, 0, 0) : (Int × Int × Int × Int × Int × Int)) r3 z1).2.2.2.1, (getd ((0, 0, 0, 0, 0, 0) : (Int × Int × Int × Int × Int × Int)) r3 z1).2.2.2.2.1, (getd ((0, 0, 0, 0, 0, 0) : (Int × Int × Int × Int × Int × Int)) r3 z1).2.2.2.2.2] : List Int) ++ ([] : List Value))))⟩, ⟨true, [], vS (Instr.sliceAt 40 (.slice A1 pips1.length c1) (some (.int .i64 (1 : Int))) none none), .slice (cutAddr A1 c1 (1 : Int)) ((cut pips1 (1 : Int) (pips1.length : Int)).length) (c1 - Int.toNat (1 : Int))⟩] [none, some (.agg (List.toArray (([] : List Value) ++ (arr1 (Value.int .i64) (0 : Int) 6 ([(getd ((0, 0, 0, 0, 0, 0) : (Int × Int × Int × Int × Int × Int)) r3 z1).1, (getd ((0, 0, 0, 0, 0, 0) : (Int × Int × Int × Int × Int × Int)) r3 z1).2.1, (getd ((0, 0, 0, 0, 0, 0) : (Int × Int × Int × Int × Int × Int)) r3 z1).2.2.1, (getd ((0, 0, 0, 0, 0, 0) : (Int × Int × Int × Int × Int × Int)) r3 z1).2.2.2.1, (getd ((0, 0, 0, 0, 0, 0) : (Int × Int × Int × Int × Int × Int)) r3 z1).2.2.2.2.1, (getd ((0, 0, 0, 0, 0, 0) : (Int × Int × Int × Int × Int × Int)) r3 z1).2.2.2.2.2] : List Int) ++ ([] : List Value))))), none, some (.slice (cutAddr A1 c1 (1 : Int)) ((cut pips1 (1 : Int) (pips1.length : Int)).length) (c1 - Int.toNat (1 : Int)))] [0, 2, 7, 25, 26, 27, 31, 32, 34] [pl 0 (.map (some g1)), pl 2 (.slice A1 pips1.length c1), pl 7 (.int .i64 best1), pl 25 (.slice A2 r3.length c2), pl 26 (.int .i64 (r3.length : Int)), pl 27 (.int .i64 z1), pl 31 (.map (some g1)), pl 32 (.agg (List.toArray (([] : List Value) ++ (arr1 (Value.int .i64) (0 : Int) 6 ([(getd ((0, 0, 0, 0, 0, 0) : (Int × Int × Int × Int × Int × Int)) r3 z1).1, (getd ((0, 0, 0, 0, 0, 0) : (Int × Int × Int × Int × Int × Int)) r3 z1).2.1, (getd ((0, 0, 0, 0, 0, 0) : (Int × Int × Int × Int × Int × Int)) r3 z1).2.2.1, (getd ((0, 0, 0, 0, 0, 0) : (Int × Int × Int × Int × Int × Int)) r3 z1).2.2.2.1, (getd ((0, 0, 0, 0, 0, 0) : (Int × Int × Int × Int × Int × Int)) r3 z1).2.2.2.2.1, (getd ((0, 0, 0, 0, 0, 0) : (Int × Int × Int × Int × Int × Int)) r3 z1).2.2.2.2.2] : List Int) ++ ([] : List Value))))), pl 34 (.slice (cutAddr A1 c1 (1 : Int)) ((cut pips1 (1 : Int) (pips1.length : Int)).length) (c1 - Int.toNat (1 : Int)))] hF hS Fol (by kernel_rfl) (by kernel_rfl) (by kernel_rfl) (by kernel_rfl) (by kernel_rfl) ?_ (fun a w hF hS => ?_)
          · exact obs_cons (ob_loadA (cs := (List.toArray (([] : List Value) ++ (arr1 (Value.int .i64) (0 : Int) 6 ([(getd ((0, 0, 0, 0, 0, 0) : (Int × Int × Int × Int × Int × Int)) r3 z1).1, (getd ((0, 0, 0, 0, 0, 0) : (Int × Int × Int × Int × Int × Int)) r3 z1).2.1, (getd ((0, 0, 0, 0, 0, 0) : (Int × Int × Int × Int × Int × Int)) r3 z1).2.2.1, (getd ((0, 0, 0, 0, 0, 0) : (Int × Int × Int × Int × Int × Int)) r3 z1).2.2.2.1, (getd ((0, 0, 0, 0, 0, 0) : (Int × Int × Int × Int × Int × Int)) r3 z1).2.2.2.2.1, (getd ((0, 0, 0, 0, 0, 0) : (Int × Int × Int × Int × Int × Int)) r3 z1).2.2.2.2.2] : List Int) ++ ([] : List Value))))) (by kernel_rfl) (by kernel_rfl) (fun _ _ hS => (hS.at_ 0 rfl).cellsAt 0 (by rfl))) <| obs_cons (ob_cutn (l := pips1) (k := .i64) (k' := .i64) Und40 hi3 hs3 rfl (.inl rfl) (.inr ⟨rfl, rfl⟩) (fun _ => hp3) _hc_pips1) <| obs_nil
          have hS : Sep w0 B w (mapH kf133 (Value.int .i64) g1 m3 :: blk g3 133 (List.toArray (([] : List Value) ++ (arr1 (Value.int .i64) (0 : Int) 6 ([(getd ((0, 0, 0, 0, 0, 0) : (Int × Int × Int × Int × Int × Int)) r3 z1).1, (getd ((0, 0, 0, 0, 0, 0) : (Int × Int × Int × Int × Int × Int)) r3 z1).2.1, (getd ((0, 0, 0, 0, 0, 0) : (Int × Int × Int × Int × Int × Int)) r3 z1).2.2.1, (getd ((0, 0, 0, 0, 0, 0) : (Int × Int × Int × Int × Int × Int)) r3 z1).2.2.2.1, (getd ((0, 0, 0, 0, 0, 0) : (Int × Int × Int × Int × Int × Int)) r3 z1).2.2.2.2.1, (getd ((0, 0, 0, 0, 0, 0) : (Int × Int × Int × Int × Int × Int)) r3 z1).2.2.2.2.2] : List Int) ++ ([] : List Value)))) :: ownK 133 6 A2 r3.length c2 (List.flatMap enc133 r3) :: fs) := hS.pickN 3 [1, 0, 2] (by decide)
          refine at_call (f := 136) (args := #[.map (some g1), .agg (List.toArray (([] : List Value) ++ (arr1 (Value.int .i64) (0 : Int) 6 ([(getd ((0, 0, 0, 0, 0, 0) : (Int × Int × Int × Int × Int × Int)) r3 z1).1, (getd ((0, 0, 0, 0, 0, 0) : (Int × Int × Int × Int × Int × Int)) r3 z1).2.1, (getd ((0, 0, 0, 0, 0, 0) : (Int × Int × Int × Int × Int × Int)) r3 z1).2.2.1, (getd ((0, 0, 0, 0, 0, 0) : (Int × Int × Int × Int × Int × Int)) r3 z1).2.2.2.1, (getd ((0, 0, 0, 0, 0, 0) : (Int × Int × Int × Int × Int × Int)) r3 z1).2.2.2.2.1, (getd ((0, 0, 0, 0, 0, 0) : (Int × Int × Int × Int × Int × Int)) r3 z1).2.2.2.2.2] : List Int) ++ ([] : List Value)))), .slice (cutAddr A1 c1 (1 : Int)) ((cut pips1 (1 : Int) (pips1.length : Int)).length) (c1 - Int.toNat (1 : Int))]) (d := 35) hF (by kernel_rfl) (by kernel_rfl) Try.func136 (by kernel_rfl) rfl (ih_gammon_means_best hr4 hS (fun _ hS => (Rd.cutF (hr_pips1 _ (hS.dropN 2)) hp3 _hc_pips1)) (cap_cut hp3 _hc_pips1) rfl) (fun v a w hR hF => ?_)
          clear hS
          obtain ⟨rfl, hS⟩ := hR
          have hS : Sep w0 B w (mapH kf133 (Value.int .i64) g1 r4.2 :: blk g3 133 (List.toArray (([] : List Value) ++ (arr1 (Value.int .i64) (0 : Int) 6 ([(getd ((0, 0, 0, 0, 0, 0) : (Int × Int × Int × Int × Int × Int)) r3 z1).1, (getd ((0, 0, 0, 0, 0, 0) : (Int × Int × Int × Int × Int × Int)) r3 z1).2.1, (getd ((0, 0, 0, 0, 0, 0) : (Int × Int × Int × Int × Int × Int)) r3 z1).2.2.1, (getd ((0, 0, 0, 0, 0, 0) : (Int × Int × Int × Int × Int × Int)) r3 z1).2.2.2.1, (getd ((0, 0, 0, 0, 0, 0) : (Int × Int × Int × Int × Int × Int)) r3 z1).2.2.2.2.1, (getd ((0, 0, 0, 0, 0, 0) : (Int × Int × Int × Int × Int × Int)) r3 z1).2.2.2.2.2] : List Int) ++ ([] : List Value)))) :: ownK 133 6 A2 r3.length c2 (List.flatMap enc133 r3) :: fs) := hS
          refine at_run 1 [] [] [0, 2, 7, 10, 25, 26, 27] [pl 0 (.map (some g1)), pl 2 (.slice A1 pips1.length c1), pl 7 (.int .i64 best1), pl 10 (.int .i64 r4.1), pl 25 (.slice A2 r3.length c2), pl 26 (.int .i64 (r3.length : Int)), pl 27 (.int .i64 z1)] hF hS (by kernel_rfl) (by kernel_rfl) ?_ (fun a w hF hS => ?_)
          · exact obs_nil
          refine at_end [0, 2, 7, 10, 25, 26, 27] [pl 0 (.map (some g1)), pl 2 (.slice A1 pips1.length c1), pl 7 (.int .i64 best1), pl 10 (.int .i64 r4.1), pl 25 (.slice A2 r3.length c2), pl 26 (.int .i64 (r3.length : Int)), pl 27 (.int .i64 z1)] hF rfl (by kernel_rfl) (fun hF => ?_)
          refine np_n ?_
          refine then_n ?_
          refine reg [] [] [0, 2, 7, 10, 25, 26, 27, 42] [pl 0 (.map (some g1)), pl 2 (.slice A1 pips1.length c1), pl 7 (.int .i64 best1), pl 10 (.int .i64 r4.1), pl 25 (.slice A2 r3.length c2), pl 26 (.int .i64 (r3.length : Int)), pl 27 (.int .i64 z1), pl 42 (.bool ((decide (best1 < 0)) || (decide (r4.1 < best1))))] hF hS Fol (by kernel_rfl) (by kernel_rfl) (by kernel_rfl) ?_ (fun a w hF hS => ?_)
          · exact obs_nil
          refine cond_ev (t := 42) (b := (decide (best1 < 0)) || (decide (r4.1 < best1))) hF (by kernel_rfl) (fun hb => ?_) (fun hb => ?_)
          · replace hm := if_t hm hb
            refine reg1 [] [] [0, 2, 7, 25, 26, 27] [pl 0 (.map (some g1)), pl 2 (.slice A1 pips1.length c1), pl 7 (.int .i64 r4.1), pl 25 (.slice A2 r3.length c2), pl 26 (.int .i64 (r3.length : Int)), pl 27 (.int .i64 z1)] hF hS Fol (by kernel_rfl) (by kernel_rfl) (by kernel_rfl) ?_ (fun a w hF hS => ?_)
            · exact obs_nil
            refine block_n ?_
            refine then_n ?_
            have hS := hS.pickN 3 [0, 2] (by decide)
            exact ⟨r4.2, r4.1, hF.weak [0, 2, 7, 25, 26, 27] (by kernel_rfl), hS, hm⟩
          · replace hm := if_f hm hb
            refine wpIn_skip ?_
            refine block_n ?_
            refine then_n ?_
            have hS := hS.pickN 3 [0, 2] (by decide)
            exact ⟨r4.2, best1, hF.weak [0, 2, 7, 25, 26, 27] (by kernel_rfl), hS, hm⟩
      · refine cond_ev (t := 28) (b := decide (z1 < (r3.length : Int))) hF (by kernel_rfl) (fun hb => ?_) (fun hb => ?_)
        · replace hm := if_t hm hb
          refine wpIn_skip ?_
          refine then_n ?_
          exact ⟨hF.weak [0, 2, 7, 25, 26, 27] (by kernel_rfl), hS, hm⟩
        · replace hm := if_f hm hb
          refine wpIn_exit ?_
          refine then_e (then_e (block_e (then_n ?_)))
          have hS := hS.pickN 2 [0] (by decide)
          rw [← hφ1] at hm
          replace hm := done_b hm
          unfold gammon_means_best_K1 at hm
          try dsimp only at hm
          have hm : (gammon_means_best_J2 best1 m3).bind some = some r := hm
          exact ⟨best1, m3, hF.weak [7] (by kernel_rfl), hS, hm⟩
  · obtain ⟨r1, hr1, hm⟩ := call_b hm
    refine reg [⟨false, [(((pips1.length : Int) == 0), false)], vS (Instr.loadAt 133 (.pointer (some ⟨g2, 0, none⟩))), .agg (List.toArray (([] : List Value) ++ (arr1 (Value.int .i64) (0 : Int) 6 h1 ++ ([] : List Value))))⟩, ⟨false, [(((pips1.length : Int) == 0), false)], callFunc 135 #[.agg (List.toArray (([] : List Value) ++ (arr1 (Value.int .i64) (0 : Int) 6 h1 ++ ([] : List Value))))], .bool r1⟩] [none, none, none, none, some (.agg (List.toArray (([] : List Value) ++ (arr1 (Value.int .i64) (0 : Int) 6 h1 ++ ([] : List Value))))), some (.bool r1), none] [0, 2, 4, 17] [pl 0 (.map (some g1)), pl 2 (.slice A1 pips1.length c1), pl 4 (.pointer (some ⟨g2, 0, none⟩)), pl 17 (.bool (((pips1.length : Int) == 0) || r1))] hF hS Fol (by kernel_rfl) (by kernel_rfl) (by kernel_rfl) ?_ (fun a w hF hS => ?_)
    · exact obs_cons (ob_loadA (cs := (List.toArray (([] : List Value) ++ (arr1 (Value.int .i64) (0 : Int) 6 h1 ++ ([] : List Value))))) (by kernel_rfl) (by kernel_rfl) (fun _ _ hS => (hS.at_ 0 rfl).cellsAt 0 (by rfl))) <| obs_cons (ob_call Try.func135 (by kernel_rfl) rfl (fun hy _ hS => gammon_home_empty_w (ite_some hr1 (by rw [show ((pips1.length : Int) == 0) = false from hy (((pips1.length : Int) == 0), false) (by simp)]; try rfl)) hS )) <| obs_nil
    refine cond_ev (t := 17) (b := ((pips1.length : Int) == 0) || r1) hF (by kernel_rfl) (fun hb => ?_) (fun hb => ?_)
    · replace hm := if_t hm hb
      refine seqR ?_
      obtain ⟨r2, hr2, hm⟩ := call_b hm
      refine at_run 2 [⟨false, [], vS (Instr.loadAt 133 (.pointer (some ⟨g2, 0, none⟩))), .agg (List.toArray (([] : List Value) ++ (arr1 (Value.int .i64) (0 : Int) 6 h1 ++ ([] : List Value))))⟩] [none, some (.agg (List.toArray (([] : List Value) ++ (arr1 (Value.int .i64) (0 : Int) 6 h1 ++ ([] : List Value)))))] [18, 19] [pl 18 (.map (some g1)), pl 19 (.agg (List.toArray (([] : List Value) ++ (arr1 (Value.int .i64) (0 : Int) 6 h1 ++ ([] : List Value)))))] hF hS (by kernel_rfl) (by kernel_rfl) ?_ (fun a w hF hS => ?_)
      · exact obs_cons (ob_loadA (cs := (List.toArray (([] : List Value) ++ (arr1 (Value.int .i64) (0 : Int) 6 h1 ++ ([] : List Value))))) (by kernel_rfl) (by kernel_rfl) (fun _ _ hS => (hS.at_ 0 rfl).cellsAt 0 (by rfl))) <| obs_nil
      have hS : Sep w0 B w (mapH kf133 (Value.int .i64) g1 m1 :: blk g2 133 (List.toArray (([] : List Value) ++ (arr1 (Value.int .i64) (0 : Int) 6 h1 ++ ([] : List Value)))) :: fs) := hS.pickN 2 [1, 0] (by decide)
      refine at_call (f := 96) (args := #[.map (some g1), .agg (List.toArray (([] : List Value) ++ (arr1 (Value.int .i64) (0 : Int) 6 h1 ++ ([] : List Value))))]) (d := 20) hF (by kernel_rfl) (by kernel_rfl) Try.func96 (by kernel_rfl) rfl (ih_gammon_means_of hr2 hS ) (fun v a w hR hF => ?_)
      clear hS
      obtain ⟨rfl, hS⟩ := hR
      have hS : Sep w0 B w (mapH kf133 (Value.int .i64) g1 r2.2 :: blk g2 133 (List.toArray (([] : List Value) ++ (arr1 (Value.int .i64) (0 : Int) 6 h1 ++ ([] : List Value)))) :: fs) := hS
      refine at_run 1 [] [] [6] [pl 6 (.int .i64 r2.1)] hF hS (by kernel_rfl) (by kernel_rfl) ?_ (fun a w hF hS => ?_)
      · exact obs_nil
      refine at_end [6] [pl 6 (.int .i64 r2.1)] hF rfl (by kernel_rfl) (fun hF => ?_)
      refine then_n ?_
      refine wpIn_ret ?_
      refine then_r ?_
      have hS := hS.pickN 2 [0] (by decide)
      have hm : some (r2.1, r2.2) = some r := hm
      obtain rfl := Option.some.inj hm
      exact retV (rs := [.tmp 6]) (vs := [.int .i64 r2.1]) hF rfl (rv_t (by kernel_rfl) <| rv_nil) rfl ⟨_, rfl, rfl, hS⟩
    · replace hm := if_f hm hb
      refine wpIn_skip ?_
      refine then_n ?_
      have hS := hS.pickN 2 [1, 0] (by decide)
      exact ⟨hF.weak [0, 2, 4] (by kernel_rfl), hS, hm⟩

theorem gammon_means_best_w {rec_gammon_means_of : List ((Int × Int × Int × Int × Int × Int) × Int) → List Int → Option (Int × List ((Int × Int × Int × Int × Int × Int) × Int))} (ih_gammon_means_of : ∀ {g1 : Nat} {m1 : List ((Int × Int × Int × Int × Int × Int) × Int)} {h1 : List Int} {r : (Int × List ((Int × Int × Int × Int × Int × Int) × Int))} {w0 w : World} {B : Nat} {fs : List HP} (_ : rec_gammon_means_of m1 h1 = some r) (_ : Sep w0 B w (mapH kf133 (Value.int .i64) g1 m1 :: fs)), Calls Try.prog 96 #[.map (some g1), .agg (List.toArray (([] : List Value) ++ (arr1 (Value.int .i64) (0 : Int) 6 h1 ++ ([] : List Value))))] w fun e w' => ∃ v, e = .returned v ∧ v = .int .i64 r.1 ∧ Sep w0 B w' (mapH kf133 (Value.int .i64) g1 r.2 :: fs)) {g1 : Nat} {m1 : List ((Int × Int × Int × Int × Int × Int) × Int)} {h1 : List Int} {A1 : Option Addr} {c1 : Nat} {n1 : Nat} {pips1 : List Int} {r : (Int × List ((Int × Int × Int × Int × Int × Int) × Int))} {w0 w : World} {B : Nat} {fs : List HP} (hm : gammon_means_best_m rec_gammon_means_of m1 h1 pips1 = some r) (hS : Sep w0 B w (mapH kf133 (Value.int .i64) g1 m1 :: fs)) (hr_pips1 : RdF w0 B fs A1 (vI pips1)) (_hc_pips1 : pips1.length ≤ c1) (_hn_pips1 : n1 = pips1.length) :
    Calls Try.prog 136 #[.map (some g1), .agg (List.toArray (([] : List Value) ++ (arr1 (Value.int .i64) (0 : Int) 6 h1 ++ ([] : List Value)))), .slice A1 n1 c1] w fun e w' => ∃ v, e = .returned v ∧ v = .int .i64 r.1 ∧ Sep w0 B w' (mapH kf133 (Value.int .i64) g1 r.2 :: fs) := by
  have key : ∀ (n : Nat) {g1 : Nat} {m1 : List ((Int × Int × Int × Int × Int × Int) × Int)} {h1 : List Int} {A1 : Option Addr} {c1 : Nat} {n1 : Nat} {pips1 : List Int} {r : (Int × List ((Int × Int × Int × Int × Int × Int) × Int))} {w0 w : World} {B : Nat} {fs : List HP} (_ : gammon_means_best_mF rec_gammon_means_of n m1 h1 pips1 = some r) (_ : Sep w0 B w (mapH kf133 (Value.int .i64) g1 m1 :: fs)) (hr_pips1 : RdF w0 B fs A1 (vI pips1)) (_hc_pips1 : pips1.length ≤ c1) (_hn_pips1 : n1 = pips1.length), Calls Try.prog 136 #[.map (some g1), .agg (List.toArray (([] : List Value) ++ (arr1 (Value.int .i64) (0 : Int) 6 h1 ++ ([] : List Value)))), .slice A1 n1 c1] w fun e w' => ∃ v, e = .returned v ∧ v = .int .i64 r.1 ∧ Sep w0 B w' (mapH kf133 (Value.int .i64) g1 r.2 :: fs) := by
    intro n
    induction n with
    | zero => intros; rename_i hm0 _ _ _ _; cases hm0
    | succ n ih => intros; rename_i hm0 hS0 h0 h1 h2; exact gammon_means_best_wB ih_gammon_means_of (rec_gammon_means_best := gammon_means_best_mF rec_gammon_means_of n) (fun hm hS h0 h1 h2 => ih hm hS h0 h1 h2) hm0 hS0 h0 h1 h2
  obtain ⟨n, hn⟩ := recM_some hm
  exact key n hn hS hr_pips1 _hc_pips1 _hn_pips1

set_option maxRecDepth 100000 in
theorem gammon_means_best_J3_le_gammon_means_best {rec_gammon_means_best1 rec_gammon_means_best2 : List ((Int × Int × Int × Int × Int × Int) × Int) → List Int → List Int → Option (Int × List ((Int × Int × Int × Int × Int × Int) × Int))} (h_rec_gammon_means_best : ∀ a0 a1 a2, Le (rec_gammon_means_best1 a0 a1 a2) (rec_gammon_means_best2 a0 a1 a2)) (pips1 : List Int) (r3 : (List (Int × Int × Int × Int × Int × Int))) (m3 : List ((Int × Int × Int × Int × Int × Int) × Int)) (best1 : Int) (z1 : Int) : Le (gammon_means_best_J3 rec_gammon_means_best1 pips1 r3 m3 best1 z1) (gammon_means_best_J3 rec_gammon_means_best2 pips1 r3 m3 best1 z1) := by
  unfold gammon_means_best_J3
  repeat' (first | with_reducible exact Le.refl _ | with_reducible exact h_rec_gammon_means_best _ _ _ | with_reducible refine Le.asrt ?_ | with_reducible refine Le.ite ?_ ?_ | refine Le.bind ?_ (fun _ => ?_) | refine Le.loop2 (fun _ => ?_) | refine Le.elim2 (fun _ => ?_) (fun _ => ?_))

set_option maxRecDepth 100000 in
theorem gammon_means_best_L1_le_gammon_means_best {rec_gammon_means_best1 rec_gammon_means_best2 : List ((Int × Int × Int × Int × Int × Int) × Int) → List Int → List Int → Option (Int × List ((Int × Int × Int × Int × Int × Int) × Int))} (h_rec_gammon_means_best : ∀ a0 a1 a2, Le (rec_gammon_means_best1 a0 a1 a2) (rec_gammon_means_best2 a0 a1 a2)) (pips1 : List Int) (r3 : (List (Int × Int × Int × Int × Int × Int))) (x : (List ((Int × Int × Int × Int × Int × Int) × Int) × Int × Int)) : Le (gammon_means_best_L1 rec_gammon_means_best1 pips1 r3 x) (gammon_means_best_L1 rec_gammon_means_best2 pips1 r3 x) := by
  rcases x with ⟨m3, best1, z1⟩
  all_goals
    unfold gammon_means_best_L1
    try dsimp only
    repeat' (first | with_reducible exact Le.refl _ | with_reducible exact h_rec_gammon_means_best _ _ _ | with_reducible exact gammon_means_best_J3_le_gammon_means_best h_rec_gammon_means_best _ _ _ _ _ | with_reducible refine Le.asrt ?_ | with_reducible refine Le.ite ?_ ?_ | refine Le.bind ?_ (fun _ => ?_) | refine Le.loop2 (fun _ => ?_) | refine Le.elim2 (fun _ => ?_) (fun _ => ?_))

set_option maxRecDepth 100000 in
theorem gammon_means_best_J1_le_gammon_means_best {rec_gammon_means_best1 rec_gammon_means_best2 : List ((Int × Int × Int × Int × Int × Int) × Int) → List Int → List Int → Option (Int × List ((Int × Int × Int × Int × Int × Int) × Int))} (h_rec_gammon_means_best : ∀ a0 a1 a2, Le (rec_gammon_means_best1 a0 a1 a2) (rec_gammon_means_best2 a0 a1 a2)) (m1 : List ((Int × Int × Int × Int × Int × Int) × Int)) (h1 : List Int) (pips1 : List Int) : Le (gammon_means_best_J1 rec_gammon_means_best1 m1 h1 pips1) (gammon_means_best_J1 rec_gammon_means_best2 m1 h1 pips1) := by
  unfold gammon_means_best_J1
  repeat' (first | with_reducible exact Le.refl _ | with_reducible exact h_rec_gammon_means_best _ _ _ | with_reducible exact gammon_means_best_L1_le_gammon_means_best h_rec_gammon_means_best _ _ _ | with_reducible refine Le.asrt ?_ | with_reducible refine Le.ite ?_ ?_ | refine Le.bind ?_ (fun _ => ?_) | refine Le.loop2 (fun _ => ?_) | refine Le.elim2 (fun _ => ?_) (fun _ => ?_))

set_option maxRecDepth 100000 in
theorem gammon_means_best_B_le (rec_gammon_means_of : List ((Int × Int × Int × Int × Int × Int) × Int) → List Int → Option (Int × List ((Int × Int × Int × Int × Int × Int) × Int))) {rec_gammon_means_best1 rec_gammon_means_best2 : List ((Int × Int × Int × Int × Int × Int) × Int) → List Int → List Int → Option (Int × List ((Int × Int × Int × Int × Int × Int) × Int))} (h_rec_gammon_means_best : ∀ a0 a1 a2, Le (rec_gammon_means_best1 a0 a1 a2) (rec_gammon_means_best2 a0 a1 a2)) (m1 : List ((Int × Int × Int × Int × Int × Int) × Int)) (h1 : List Int) (pips1 : List Int) : Le (gammon_means_best_B rec_gammon_means_of rec_gammon_means_best1 m1 h1 pips1) (gammon_means_best_B rec_gammon_means_of rec_gammon_means_best2 m1 h1 pips1) := by
  unfold gammon_means_best_B
  repeat' (first | with_reducible exact Le.refl _ | with_reducible exact h_rec_gammon_means_best _ _ _ | with_reducible exact gammon_means_best_J1_le_gammon_means_best h_rec_gammon_means_best _ _ _ | with_reducible refine Le.asrt ?_ | with_reducible refine Le.ite ?_ ?_ | refine Le.bind ?_ (fun _ => ?_) | refine Le.loop2 (fun _ => ?_) | refine Le.elim2 (fun _ => ?_) (fun _ => ?_))

set_option maxRecDepth 100000 in
theorem gammon_means_best_mF_le (rec_gammon_means_of : List ((Int × Int × Int × Int × Int × Int) × Int) → List Int → Option (Int × List ((Int × Int × Int × Int × Int × Int) × Int))) : ∀ (n : Nat) (m1 : List ((Int × Int × Int × Int × Int × Int) × Int)) (h1 : List Int) (pips1 : List Int), Le (gammon_means_best_mF rec_gammon_means_of n m1 h1 pips1) (gammon_means_best_mF rec_gammon_means_of (n + 1) m1 h1 pips1)
  | 0, _, _, _ => fun _ h => by cases h
  | n + 1, _, _, _ => gammon_means_best_B_le rec_gammon_means_of (fun a0 a1 a2 => gammon_means_best_mF_le rec_gammon_means_of n a0 a1 a2) _ _ _

set_option maxRecDepth 100000 in
theorem gammon_means_best_B_le_gammon_means_of {rec_gammon_means_of1 rec_gammon_means_of2 : List ((Int × Int × Int × Int × Int × Int) × Int) → List Int → Option (Int × List ((Int × Int × Int × Int × Int × Int) × Int))} (h_rec_gammon_means_of : ∀ a0 a1, Le (rec_gammon_means_of1 a0 a1) (rec_gammon_means_of2 a0 a1)) (rec_gammon_means_best : List ((Int × Int × Int × Int × Int × Int) × Int) → List Int → List Int → Option (Int × List ((Int × Int × Int × Int × Int × Int) × Int))) (m1 : List ((Int × Int × Int × Int × Int × Int) × Int)) (h1 : List Int) (pips1 : List Int) : Le (gammon_means_best_B rec_gammon_means_of1 rec_gammon_means_best m1 h1 pips1) (gammon_means_best_B rec_gammon_means_of2 rec_gammon_means_best m1 h1 pips1) := by
  unfold gammon_means_best_B
  repeat' (first | with_reducible exact Le.refl _ | with_reducible exact h_rec_gammon_means_of _ _ | with_reducible refine Le.asrt ?_ | with_reducible refine Le.ite ?_ ?_ | refine Le.bind ?_ (fun _ => ?_) | refine Le.loop2 (fun _ => ?_) | refine Le.elim2 (fun _ => ?_) (fun _ => ?_))

set_option maxRecDepth 100000 in
theorem gammon_means_best_mF_le_gammon_means_of {rec_gammon_means_of1 rec_gammon_means_of2 : List ((Int × Int × Int × Int × Int × Int) × Int) → List Int → Option (Int × List ((Int × Int × Int × Int × Int × Int) × Int))} (h_rec_gammon_means_of : ∀ a0 a1, Le (rec_gammon_means_of1 a0 a1) (rec_gammon_means_of2 a0 a1)) : ∀ (n : Nat) (m1 : List ((Int × Int × Int × Int × Int × Int) × Int)) (h1 : List Int) (pips1 : List Int), Le (gammon_means_best_mF rec_gammon_means_of1 n m1 h1 pips1) (gammon_means_best_mF rec_gammon_means_of2 n m1 h1 pips1)
  | 0, _, _, _ => fun _ h => by cases h
  | n + 1, _, _, _ => Le.trans' (gammon_means_best_B_le_gammon_means_of h_rec_gammon_means_of _ _ _ _) (gammon_means_best_B_le _ (fun a0 a1 a2 => gammon_means_best_mF_le_gammon_means_of h_rec_gammon_means_of n a0 a1 a2) _ _ _)

set_option maxRecDepth 100000 in
theorem gammon_means_best_m_le_gammon_means_of {rec_gammon_means_of1 rec_gammon_means_of2 : List ((Int × Int × Int × Int × Int × Int) × Int) → List Int → Option (Int × List ((Int × Int × Int × Int × Int × Int) × Int))} (h_rec_gammon_means_of : ∀ a0 a1, Le (rec_gammon_means_of1 a0 a1) (rec_gammon_means_of2 a0 a1)) (m1 : List ((Int × Int × Int × Int × Int × Int) × Int)) (h1 : List Int) (pips1 : List Int) : Le (gammon_means_best_m rec_gammon_means_of1 m1 h1 pips1) (gammon_means_best_m rec_gammon_means_of2 m1 h1 pips1) :=
  recM_le (fun n => gammon_means_best_mF_le_gammon_means_of h_rec_gammon_means_of n m1 h1 pips1) (fun n => gammon_means_best_mF_le _ n m1 h1 pips1)

noncomputable def gammon_means_of_J7  (y1 : Int) (m8 : List ((Int × Int × Int × Int × Int × Int) × Int)) (sum5 : Int) : Option (St (List ((Int × Int × Int × Int × Int × Int) × Int) × Int × Int) (List ((Int × Int × Int × Int × Int × Int) × Int) × Int)) :=
  some (.next (m8, sum5, (w64 (y1 + 1))))

noncomputable def gammon_means_of_J9  (sum3 : Int) (y1 : Int) (m7 : List ((Int × Int × Int × Int × Int × Int) × Int)) (best1 : Int) : Option (St (List ((Int × Int × Int × Int × Int × Int) × Int) × Int × Int) (List ((Int × Int × Int × Int × Int × Int) × Int) × Int)) :=
  (gammon_means_of_J7 y1) m7 (w64 (sum3 + best1))

noncomputable def gammon_means_of_J8  (rec_gammon_means_of : List ((Int × Int × Int × Int × Int × Int) × Int) → List Int → Option (Int × List ((Int × Int × Int × Int × Int × Int) × Int))) (h1 : List Int) (x1 : Int) (m5 : List ((Int × Int × Int × Int × Int × Int) × Int)) (sum3 : Int) (y1 : Int) (pips1 : List Int) : Option (St (List ((Int × Int × Int × Int × Int × Int) × Int) × Int × Int) (List ((Int × Int × Int × Int × Int × Int) × Int) × Int)) :=
  ((gammon_means_best_m rec_gammon_means_of) m5 h1 pips1).bind fun r2 => if (x1 != y1) then (((gammon_means_best_m rec_gammon_means_of) r2.2 h1 ([y1, x1] : List Int)).bind fun r3 => (gammon_means_of_J9 sum3 y1) r3.2 (minI r2.1 r3.1)) else ((gammon_means_of_J9 sum3 y1) r2.2 r2.1)

noncomputable def gammon_means_of_J6  (rec_gammon_means_of : List ((Int × Int × Int × Int × Int × Int) × Int) → List Int → Option (Int × List ((Int × Int × Int × Int × Int × Int) × Int))) (h1 : List Int) (x1 : Int) (m5 : List ((Int × Int × Int × Int × Int × Int) × Int)) (sum3 : Int) (y1 : Int) : Option (St (List ((Int × Int × Int × Int × Int × Int) × Int) × Int × Int) (List ((Int × Int × Int × Int × Int × Int) × Int) × Int)) :=
  if (x1 == y1) then ((gammon_means_of_J8 rec_gammon_means_of h1 x1 m5 sum3 y1) ([x1, x1, x1, x1] : List Int)) else ((gammon_means_of_J8 rec_gammon_means_of h1 x1 m5 sum3 y1) ([x1, y1] : List Int))

noncomputable def gammon_means_of_J5  (x1 : Int) (m6 : List ((Int × Int × Int × Int × Int × Int) × Int)) (sum4 : Int) : Option (St (List ((Int × Int × Int × Int × Int × Int) × Int) × Int × Int) (List ((Int × Int × Int × Int × Int × Int) × Int) × Int)) :=
  some (.next (m6, sum4, (w64 (x1 + 1))))

noncomputable def gammon_means_of_K2  (x1 : Int) : (List ((Int × Int × Int × Int × Int × Int) × Int) × Int) → Option (St (List ((Int × Int × Int × Int × Int × Int) × Int) × Int × Int) (List ((Int × Int × Int × Int × Int × Int) × Int) × Int)) :=
  fun (x : (List ((Int × Int × Int × Int × Int × Int) × Int) × Int)) => match x with | (m6, sum4) => (gammon_means_of_J5 x1) m6 sum4

noncomputable def gammon_means_of_L2  (rec_gammon_means_of : List ((Int × Int × Int × Int × Int × Int) × Int) → List Int → Option (Int × List ((Int × Int × Int × Int × Int × Int) × Int))) (h1 : List Int) (x1 : Int) : (List ((Int × Int × Int × Int × Int × Int) × Int) × Int × Int) → Option (St (List ((Int × Int × Int × Int × Int × Int) × Int) × Int × Int) (List ((Int × Int × Int × Int × Int × Int) × Int) × Int)) :=
  fun (x : (List ((Int × Int × Int × Int × Int × Int) × Int) × Int × Int)) => match x with | (m5, sum3, y1) => if (decide (y1 ≤ 6)) then ((gammon_means_of_J6 rec_gammon_means_of h1 x1 m5 sum3 y1)) else (some (.done (m5, sum3)))

noncomputable def gammon_means_of_J4  (rec_gammon_means_of : List ((Int × Int × Int × Int × Int × Int) × Int) → List Int → Option (Int × List ((Int × Int × Int × Int × Int × Int) × Int))) (h1 : List Int) (m3 : List ((Int × Int × Int × Int × Int × Int) × Int)) (sum1 : Int) (x1 : Int) : Option (St (List ((Int × Int × Int × Int × Int × Int) × Int) × Int × Int) (List ((Int × Int × Int × Int × Int × Int) × Int) × Int)) :=
  (loop (gammon_means_of_L2 rec_gammon_means_of h1 x1) (m3, sum1, 1)).bind (gammon_means_of_K2 x1)

noncomputable def gammon_means_of_J3  (h1 : List Int) (m4 : List ((Int × Int × Int × Int × Int × Int) × Int)) (sum2 : Int) : Option (Int × List ((Int × Int × Int × Int × Int × Int) × Int)) :=
  some ((mget (0 : Int) (geti h1 0, geti h1 1, geti h1 2, geti h1 3, geti h1 4, geti h1 5) (mput (geti h1 0, geti h1 1, geti h1 2, geti h1 3, geti h1 4, geti h1 5) (w64 (78364164096 + (w64 (Int.tdiv sum2 36)))) m4)), (mput (geti h1 0, geti h1 1, geti h1 2, geti h1 3, geti h1 4, geti h1 5) (w64 (78364164096 + (w64 (Int.tdiv sum2 36)))) m4))

noncomputable def gammon_means_of_K1  (h1 : List Int) : (List ((Int × Int × Int × Int × Int × Int) × Int) × Int) → Option (Int × List ((Int × Int × Int × Int × Int × Int) × Int)) :=
  fun (x : (List ((Int × Int × Int × Int × Int × Int) × Int) × Int)) => match x with | (m4, sum2) => (gammon_means_of_J3 h1) m4 sum2

noncomputable def gammon_means_of_L1  (rec_gammon_means_of : List ((Int × Int × Int × Int × Int × Int) × Int) → List Int → Option (Int × List ((Int × Int × Int × Int × Int × Int) × Int))) (h1 : List Int) : (List ((Int × Int × Int × Int × Int × Int) × Int) × Int × Int) → Option (St (List ((Int × Int × Int × Int × Int × Int) × Int) × Int × Int) (List ((Int × Int × Int × Int × Int × Int) × Int) × Int)) :=
  fun (x : (List ((Int × Int × Int × Int × Int × Int) × Int) × Int × Int)) => match x with | (m3, sum1, x1) => if (decide (x1 ≤ 6)) then ((gammon_means_of_J4 rec_gammon_means_of h1 m3 sum1 x1)) else (some (.done (m3, sum1)))

noncomputable def gammon_means_of_J2  (rec_gammon_means_of : List ((Int × Int × Int × Int × Int × Int) × Int) → List Int → Option (Int × List ((Int × Int × Int × Int × Int × Int) × Int))) (m1 : List ((Int × Int × Int × Int × Int × Int) × Int)) (h1 : List Int) : Option (Int × List ((Int × Int × Int × Int × Int × Int) × Int)) :=
  (loop (gammon_means_of_L1 rec_gammon_means_of h1) (m1, 0, 1)).bind (gammon_means_of_K1 h1)

noncomputable def gammon_means_of_J1  (rec_gammon_means_of : List ((Int × Int × Int × Int × Int × Int) × Int) → List Int → Option (Int × List ((Int × Int × Int × Int × Int × Int) × Int))) (m1 : List ((Int × Int × Int × Int × Int × Int) × Int)) (h1 : List Int) : Option (Int × List ((Int × Int × Int × Int × Int × Int) × Int)) :=
  if (mhas (geti h1 0, geti h1 1, geti h1 2, geti h1 3, geti h1 4, geti h1 5) m1) then (some ((mget (0 : Int) (geti h1 0, geti h1 1, geti h1 2, geti h1 3, geti h1 4, geti h1 5) m1), m1)) else ((gammon_means_of_J2 rec_gammon_means_of m1 h1))

noncomputable def gammon_means_of_B (rec_gammon_means_of : List ((Int × Int × Int × Int × Int × Int) × Int) → List Int → Option (Int × List ((Int × Int × Int × Int × Int × Int) × Int))) (m1 : List ((Int × Int × Int × Int × Int × Int) × Int)) (h1 : List Int) : Option (Int × List ((Int × Int × Int × Int × Int × Int) × Int)) :=
  (gammon_home_empty_m h1).bind fun r1 => if r1 then (some (0, m1)) else ((gammon_means_of_J1 rec_gammon_means_of m1 h1))

noncomputable def gammon_means_of_mF : Nat → List ((Int × Int × Int × Int × Int × Int) × Int) → List Int → Option (Int × List ((Int × Int × Int × Int × Int × Int) × Int))
  | 0 => fun _ _ => none
  | n + 1 => fun m1 h1 => gammon_means_of_B (gammon_means_of_mF n) m1 h1

noncomputable def gammon_means_of_m (m1 : List ((Int × Int × Int × Int × Int × Int) × Int)) (h1 : List Int) : Option (Int × List ((Int × Int × Int × Int × Int × Int) × Int)) :=
  recM fun n => gammon_means_of_mF n m1 h1

set_option maxRecDepth 100000 in
set_option maxHeartbeats 4000000 in
theorem gammon_means_of_wB {rec_gammon_means_of : List ((Int × Int × Int × Int × Int × Int) × Int) → List Int → Option (Int × List ((Int × Int × Int × Int × Int × Int) × Int))} (ih_gammon_means_of : ∀ {g1 : Nat} {m1 : List ((Int × Int × Int × Int × Int × Int) × Int)} {h1 : List Int} {r : (Int × List ((Int × Int × Int × Int × Int × Int) × Int))} {w0 w : World} {B : Nat} {fs : List HP} (_ : rec_gammon_means_of m1 h1 = some r) (_ : Sep w0 B w (mapH kf133 (Value.int .i64) g1 m1 :: fs)), Calls Try.prog 96 #[.map (some g1), .agg (List.toArray (([] : List Value) ++ (arr1 (Value.int .i64) (0 : Int) 6 h1 ++ ([] : List Value))))] w fun e w' => ∃ v, e = .returned v ∧ v = .int .i64 r.1 ∧ Sep w0 B w' (mapH kf133 (Value.int .i64) g1 r.2 :: fs)) {g1 : Nat} {m1 : List ((Int × Int × Int × Int × Int × Int) × Int)} {h1 : List Int} {r : (Int × List ((Int × Int × Int × Int × Int × Int) × Int))} {w0 w : World} {B : Nat} {fs : List HP} (hm : gammon_means_of_B rec_gammon_means_of m1 h1 = some r) (hS : Sep w0 B w (mapH kf133 (Value.int .i64) g1 m1 :: fs)) :
    Calls Try.prog 96 #[.map (some g1), .agg (List.toArray (([] : List Value) ++ (arr1 (Value.int .i64) (0 : Int) 6 h1 ++ ([] : List Value))))] w fun e w' => ∃ v, e = .returned v ∧ v = .int .i64 r.1 ∧ Sep w0 B w' (mapH kf133 (Value.int .i64) g1 r.2 :: fs) := by
  obtain ⟨i3, hi3, hz3, hs3, hb3⟩ := info_parts Info3
  unfold gammon_means_of_B at hm
  replace hm := start_b hm
  refine enter (l := [.map (some g1), .agg (List.toArray (([] : List Value) ++ (arr1 (Value.int .i64) (0 : Int) 6 h1 ++ ([] : List Value))))]) (n := 67) Try.func96 rfl rfl (by simp) (fun a hF => ?_)
  refine seqR ?_
  refine at_do (d := 3) (s := vS (Instr.box 133 (.agg (List.toArray (([] : List Value) ++ (arr1 (Value.int .i64) (0 : Int) 6 h1 ++ ([] : List Value))))))) (v := .pointer (some ⟨w.heap.size, 0, none⟩)) (w' := w.alloc (.cells (List.toArray (([] : List Value) ++ (arr1 (Value.int .i64) (0 : Int) 6 h1 ++ ([] : List Value)))) 133)) hF (by kernel_rfl) (by kernel_rfl) (by kernel_rfl) (fun a hF => ?_)
  have hS : Sep w0 B (w.alloc (.cells (List.toArray (([] : List Value) ++ (arr1 (Value.int .i64) (0 : Int) 6 h1 ++ ([] : List Value)))) 133)) (blk w.heap.size 133 (List.toArray (([] : List Value) ++ (arr1 (Value.int .i64) (0 : Int) 6 h1 ++ ([] : List Value)))) :: (mapH kf133 (Value.int .i64) g1 m1 :: fs)) := hS.box 133 (List.toArray (([] : List Value) ++ (arr1 (Value.int .i64) (0 : Int) 6 h1 ++ ([] : List Value))))
  generalize w.heap.size = g2 at hF hS
  generalize w.alloc (.cells (List.toArray (([] : List Value) ++ (arr1 (Value.int .i64) (0 : Int) 6 h1 ++ ([] : List Value)))) 133) = w at hS ⊢
  refine at_run 1 [] [] [0, 3] [pl 0 (.map (some g1)), pl 3 (.pointer (some ⟨g2, 0, none⟩))] hF hS (by kernel_rfl) (by kernel_rfl) ?_ (fun a w hF hS => ?_)
  · exact obs_nil
  refine at_end [0, 3] [pl 0 (.map (some g1)), pl 3 (.pointer (some ⟨g2, 0, none⟩))] hF rfl (by kernel_rfl) (fun hF => ?_)
  refine then_n ?_
  refine seq_cut (fun a w => Fr 67 [pl 0 (.map (some g1)), pl 3 (.pointer (some ⟨g2, 0, none⟩))] a ∧ Sep w0 B w (mapH kf133 (Value.int .i64) g1 m1 :: blk g2 133 (List.toArray (([] : List Value) ++ (arr1 (Value.int .i64) (0 : Int) 6 h1 ++ ([] : List Value)))) :: fs) ∧ ((gammon_means_of_J1 rec_gammon_means_of m1 h1)).bind some = some r) ?_ ?_
  · rintro a w ⟨hF, hS, hm⟩
    unfold gammon_means_of_J1 at hm
    refine seq_cut (fun a w => Fr 67 [pl 0 (.map (some g1)), pl 3 (.pointer (some ⟨g2, 0, none⟩))] a ∧ Sep w0 B w (mapH kf133 (Value.int .i64) g1 m1 :: blk g2 133 (List.toArray (([] : List Value) ++ (arr1 (Value.int .i64) (0 : Int) 6 h1 ++ ([] : List Value)))) :: fs) ∧ ((gammon_means_of_J2 rec_gammon_means_of m1 h1)).bind some = some r) ?_ ?_
    · rintro a w ⟨hF, hS, hm⟩
      unfold gammon_means_of_J2 at hm
      refine reg [] [] [0, 3, 7] [pl 0 (.map (some g1)), pl 3 (.pointer (some ⟨g2, 0, none⟩)), pl 7 (.int .i64 0)] hF hS Fol (by kernel_rfl) (by kernel_rfl) (by kernel_rfl) ?_ (fun a w hF hS => ?_)
      · exact obs_nil
      refine seq_cut (fun a w => ∃ (m4 : List ((Int × Int × Int × Int × Int × Int) × Int)) (sum2 : Int), Fr 67 [pl 0 (.map (some g1)), pl 3 (.pointer (some ⟨g2, 0, none⟩)), pl 7 (.int .i64 sum2)] a ∧ Sep w0 B w (mapH kf133 (Value.int .i64) g1 m4 :: blk g2 133 (List.toArray (([] : List Value) ++ (arr1 (Value.int .i64) (0 : Int) 6 h1 ++ ([] : List Value)))) :: fs) ∧ ((gammon_means_of_J3 h1) m4 sum2).bind some = some r) ?_ ?_
      · rintro a w ⟨m4, sum2, hF, hS, hm⟩
        unfold gammon_means_of_J3 at hm
        refine seqR ?_
        refine at_run 5 [⟨false, [], vS (Instr.loadAt 133 (.pointer (some ⟨g2, 0, none⟩))), .agg (List.toArray (([] : List Value) ++ (arr1 (Value.int .i64) (0 : Int) 6 h1 ++ ([] : List Value))))⟩] [none, some (.agg (List.toArray (([] : List Value) ++ (arr1 (Value.int .i64) (0 : Int) 6 h1 ++ ([] : List Value))))), none, none, none] [0, 3, 59, 60, 63] [pl 0 (.map (some g1)), pl 3 (.pointer (some ⟨g2, 0, none⟩)), pl 59 (.map (some g1)), pl 60 (.agg (List.toArray (([] : List Value) ++ (arr1 (Value.int .i64) (0 : Int) 6 h1 ++ ([] : List Value))))), pl 63 (.int .i64 (w64 (78364164096 + (w64 (Int.tdiv sum2 36)))))] hF hS (by kernel_rfl) (by kernel_rfl) ?_ (fun a w hF hS => ?_)
        · exact obs_cons (ob_loadA (cs := (List.toArray (([] : List Value) ++ (arr1 (Value.int .i64) (0 : Int) 6 h1 ++ ([] : List Value))))) (by kernel_rfl) (by kernel_rfl) (fun _ _ hS => (hS.at_ 1 rfl).cellsAt 0 (by rfl))) <| obs_nil
        obtain ⟨w, hrun, hS⟩ := run_mput (P := Try.prog) (t := 136) (vf := (Value.int .i64)) MK133 UndM136 (geti h1 0, geti h1 1, geti h1 2, geti h1 3, geti h1 4, geti h1 5) (w64 (78364164096 + (w64 (Int.tdiv sum2 36)))) (hS.at_ 0 rfl)
        refine at_skip hF (by kernel_rfl) hrun ?_
        have hS : Sep w0 B w (mapH kf133 (Value.int .i64) g1 (mput (geti h1 0, geti h1 1, geti h1 2, geti h1 3, geti h1 4, geti h1 5) (w64 (78364164096 + (w64 (Int.tdiv sum2 36)))) m4) :: blk g2 133 (List.toArray (([] : List Value) ++ (arr1 (Value.int .i64) (0 : Int) 6 h1 ++ ([] : List Value)))) :: fs) := hS
        refine at_end [0, 3] [pl 0 (.map (some g1)), pl 3 (.pointer (some ⟨g2, 0, none⟩))] hF rfl (by kernel_rfl) (fun hF => ?_)
        refine then_n ?_
        refine reg [⟨false, [], vS (Instr.loadAt 133 (.pointer (some ⟨g2, 0, none⟩))), .agg (List.toArray (([] : List Value) ++ (arr1 (Value.int .i64) (0 : Int) 6 h1 ++ ([] : List Value))))⟩, ⟨false, [], vS (Instr.lookup 136 (.map (some g1)) (.agg (List.toArray (([] : List Value) ++ (arr1 (Value.int .i64) (0 : Int) 6 h1 ++ ([] : List Value))))) false), .int .i64 (mget (0 : Int) (geti h1 0, geti h1 1, geti h1 2, geti h1 3, geti h1 4, geti h1 5) (mput (geti h1 0, geti h1 1, geti h1 2, geti h1 3, geti h1 4, geti h1 5) (w64 (78364164096 + (w64 (Int.tdiv sum2 36)))) m4))⟩] [none, some (.agg (List.toArray (([] : List Value) ++ (arr1 (Value.int .i64) (0 : Int) 6 h1 ++ ([] : List Value))))), some (.int .i64 (mget (0 : Int) (geti h1 0, geti h1 1, geti h1 2, geti h1 3, geti h1 4, geti h1 5) (mput (geti h1 0, geti h1 1, geti h1 2, geti h1 3, geti h1 4, geti h1 5) (w64 (78364164096 + (w64 (Int.tdiv sum2 36)))) m4))), none] [4] [pl 4 (.int .i64 (mget (0 : Int) (geti h1 0, geti h1 1, geti h1 2, geti h1 3, geti h1 4, geti h1 5) (mput (geti h1 0, geti h1 1, geti h1 2, geti h1 3, geti h1 4, geti h1 5) (w64 (78364164096 + (w64 (Int.tdiv sum2 36)))) m4)))] hF hS Fol (by kernel_rfl) (by kernel_rfl) (by kernel_rfl) ?_ (fun a w hF hS => ?_)
        · exact obs_cons (ob_loadA (cs := (List.toArray (([] : List Value) ++ (arr1 (Value.int .i64) (0 : Int) 6 h1 ++ ([] : List Value))))) (by kernel_rfl) (by kernel_rfl) (fun _ _ hS => (hS.at_ 1 rfl).cellsAt 0 (by rfl))) <| obs_cons (ob_look (k := (geti h1 0, geti h1 1, geti h1 2, geti h1 3, geti h1 4, geti h1 5)) (m := (mput (geti h1 0, geti h1 1, geti h1 2, geti h1 3, geti h1 4, geti h1 5) (w64 (78364164096 + (w64 (Int.tdiv sum2 36)))) m4)) MK133 UndM136 (z := (0 : Int)) MZ3 (fun _ hS => ⟨_, _, _, _, hS.at_ 0 rfl⟩)) <| obs_nil
        refine wpIn_ret ?_
        have hS := hS.pickN 2 [0] (by decide)
        have hm : some ((mget (0 : Int) (geti h1 0, geti h1 1, geti h1 2, geti h1 3, geti h1 4, geti h1 5) (mput (geti h1 0, geti h1 1, geti h1 2, geti h1 3, geti h1 4, geti h1 5) (w64 (78364164096 + (w64 (Int.tdiv sum2 36)))) m4)), (mput (geti h1 0, geti h1 1, geti h1 2, geti h1 3, geti h1 4, geti h1 5) (w64 (78364164096 + (w64 (Int.tdiv sum2 36)))) m4)) = some r := hm
        obtain rfl := Option.some.inj hm
        exact retV (rs := [.tmp 4]) (vs := [.int .i64 (mget (0 : Int) (geti h1 0, geti h1 1, geti h1 2, geti h1 3, geti h1 4, geti h1 5) (mput (geti h1 0, geti h1 1, geti h1 2, geti h1 3, geti h1 4, geti h1 5) (w64 (78364164096 + (w64 (Int.tdiv sum2 36)))) m4))]) hF rfl (rv_t (by kernel_rfl) <| rv_nil) rfl ⟨_, rfl, rfl, hS⟩
      · refine reg [] [] [0, 3, 7, 8] [pl 0 (.map (some g1)), pl 3 (.pointer (some ⟨g2, 0, none⟩)), pl 7 (.int .i64 0), pl 8 (.int .i64 1)] hF hS Fol (by kernel_rfl) (by kernel_rfl) (by kernel_rfl) ?_ (fun a w hF hS => ?_)
        · exact obs_nil
        refine wpIn_block ?_
        refine wp_loop_model (S := (List ((Int × Int × Int × Int × Int × Int) × Int) × Int × Int)) (R := (List ((Int × Int × Int × Int × Int × Int) × Int) × Int)) (gammon_means_of_L1 rec_gammon_means_of h1) (fun x => ((gammon_means_of_K1 h1) x).bind some) r (fun (x : (List ((Int × Int × Int × Int × Int × Int) × Int) × Int × Int)) a w => Fr 67 [pl 0 (.map (some g1)), pl 3 (.pointer (some ⟨g2, 0, none⟩)), pl 7 (.int .i64 x.2.1), pl 8 (.int .i64 x.2.2)] a ∧ Sep w0 B w (mapH kf133 (Value.int .i64) g1 x.1 :: blk g2 133 (List.toArray (([] : List Value) ++ (arr1 (Value.int .i64) (0 : Int) 6 h1 ++ ([] : List Value)))) :: fs)) (assoc_b hm) ⟨hF.weak [0, 3, 7, 8] (by kernel_rfl), hS⟩ ?_
        clear hF hS hm
        rintro nn1 ⟨m3, sum1, x1⟩ a w ⟨hF, hS⟩ hm
        generalize hφ1 : stK (gammon_means_of_L1 rec_gammon_means_of h1) nn1 (fun x => ((gammon_means_of_K1 h1) x).bind some) = φ1 at hm
        unfold gammon_means_of_L1 at hm
        dsimp only at hF hS hm
        refine seq_cut (fun a w => Fr 67 [pl 0 (.map (some g1)), pl 3 (.pointer (some ⟨g2, 0, none⟩)), pl 7 (.int .i64 sum1), pl 8 (.int .i64 x1)] a ∧ Sep w0 B w (mapH kf133 (Value.int .i64) g1 m3 :: blk g2 133 (List.toArray (([] : List Value) ++ (arr1 (Value.int .i64) (0 : Int) 6 h1 ++ ([] : List Value)))) :: fs) ∧ ((gammon_means_of_J4 rec_gammon_means_of h1 m3 sum1 x1)).bind φ1 = some r) ?_ ?_
        · rintro a w ⟨hF, hS, hm⟩
          unfold gammon_means_of_J4 at hm
          refine seq_cut (fun a w => ∃ (m6 : List ((Int × Int × Int × Int × Int × Int) × Int)) (sum4 : Int), Fr 67 [pl 0 (.map (some g1)), pl 3 (.pointer (some ⟨g2, 0, none⟩)), pl 7 (.int .i64 sum4), pl 8 (.int .i64 x1)] a ∧ Sep w0 B w (mapH kf133 (Value.int .i64) g1 m6 :: blk g2 133 (List.toArray (([] : List Value) ++ (arr1 (Value.int .i64) (0 : Int) 6 h1 ++ ([] : List Value)))) :: fs) ∧ ((gammon_means_of_J5 x1) m6 sum4).bind φ1 = some r) ?_ ?_
          · rintro a w ⟨m6, sum4, hF, hS, hm⟩
            unfold gammon_means_of_J5 at hm
            refine reg1 [] [] [0, 3, 7, 8] [pl 0 (.map (some g1)), pl 3 (.pointer (some ⟨g2, 0, none⟩)), pl 7 (.int .i64 sum4), pl 8 (.int .i64 (w64 (x1 + 1)))] hF hS Fol (by kernel_rfl) (by kernel_rfl) (by kernel_rfl) ?_ (fun a w hF hS => ?_)
            · exact obs_nil
            refine then_n ?_
            rw [← hφ1] at hm
            exact ⟨(m6, sum4, (w64 (x1 + 1))), ⟨hF.weak [0, 3, 7, 8] (by kernel_rfl), hS⟩, hm⟩
          · refine wpIn_block ?_
            refine reg [] [] [0, 3, 7, 8, 9] [pl 0 (.map (some g1)), pl 3 (.pointer (some ⟨g2, 0, none⟩)), pl 7 (.int .i64 sum1), pl 8 (.int .i64 x1), pl 9 (.int .i64 1)] hF hS Fol (by kernel_rfl) (by kernel_rfl) (by kernel_rfl) ?_ (fun a w hF hS => ?_)
            · exact obs_nil
            refine wpIn_block ?_
            refine wp_loop_model (S := (List ((Int × Int × Int × Int × Int × Int) × Int) × Int × Int)) (R := (List ((Int × Int × Int × Int × Int × Int) × Int) × Int)) (gammon_means_of_L2 rec_gammon_means_of h1 x1) (fun x => ((gammon_means_of_K2 x1) x).bind φ1) r (fun (x : (List ((Int × Int × Int × Int × Int × Int) × Int) × Int × Int)) a w => Fr 67 [pl 0 (.map (some g1)), pl 3 (.pointer (some ⟨g2, 0, none⟩)), pl 7 (.int .i64 x.2.1), pl 8 (.int .i64 x1), pl 9 (.int .i64 x.2.2)] a ∧ Sep w0 B w (mapH kf133 (Value.int .i64) g1 x.1 :: blk g2 133 (List.toArray (([] : List Value) ++ (arr1 (Value.int .i64) (0 : Int) 6 h1 ++ ([] : List Value)))) :: fs)) (assoc_b hm) ⟨hF.weak [0, 3, 7, 8, 9] (by kernel_rfl), hS⟩ ?_
            clear hF hS hm
            rintro nn2 ⟨m5, sum3, y1⟩ a w ⟨hF, hS⟩ hm
            generalize hφ2 : stK (gammon_means_of_L2 rec_gammon_means_of h1 x1) nn2 (fun x => ((gammon_means_of_K2 x1) x).bind φ1) = φ2 at hm
            unfold gammon_means_of_L2 at hm
            dsimp only at hF hS hm
            refine seq_cut (fun a w => Fr 67 [pl 0 (.map (some g1)), pl 3 (.pointer (some ⟨g2, 0, none⟩)), pl 7 (.int .i64 sum3), pl 8 (.int .i64 x1), pl 9 (.int .i64 y1)] a ∧ Sep w0 B w (mapH kf133 (Value.int .i64) g1 m5 :: blk g2 133 (List.toArray (([] : List Value) ++ (arr1 (Value.int .i64) (0 : Int) 6 h1 ++ ([] : List Value)))) :: fs) ∧ ((gammon_means_of_J6 rec_gammon_means_of h1 x1 m5 sum3 y1)).bind φ2 = some r) ?_ ?_
            · rintro a w ⟨hF, hS, hm⟩
              unfold gammon_means_of_J6 at hm
              refine seq_cut (fun a w => ∃ (m8 : List ((Int × Int × Int × Int × Int × Int) × Int)) (sum5 : Int), Fr 67 [pl 0 (.map (some g1)), pl 3 (.pointer (some ⟨g2, 0, none⟩)), pl 7 (.int .i64 sum5), pl 8 (.int .i64 x1), pl 9 (.int .i64 y1)] a ∧ Sep w0 B w (mapH kf133 (Value.int .i64) g1 m8 :: blk g2 133 (List.toArray (([] : List Value) ++ (arr1 (Value.int .i64) (0 : Int) 6 h1 ++ ([] : List Value)))) :: fs) ∧ ((gammon_means_of_J7 y1) m8 sum5).bind φ2 = some r) ?_ ?_
              · rintro a w ⟨m8, sum5, hF, hS, hm⟩
                unfold gammon_means_of_J7 at hm
                refine reg1 [] [] [0, 3, 7, 8, 9] [pl 0 (.map (some g1)), pl 3 (.pointer (some ⟨g2, 0, none⟩)), pl 7 (.int .i64 sum5), pl 8 (.int .i64 x1), pl 9 (.int .i64 (w64 (y1 + 1)))] hF hS Fol (by kernel_rfl) (by kernel_rfl) (by kernel_rfl) ?_ (fun a w hF hS => ?_)
                · exact obs_nil
                refine then_n ?_
                rw [← hφ2] at hm
                exact ⟨(m8, sum5, (w64 (y1 + 1))), ⟨hF.weak [0, 3, 7, 8, 9] (by kernel_rfl), hS⟩, hm⟩
              · refine wpIn_block ?_
                refine seqR ?_
                refine at_run 2 [] [] [0, 3, 7, 8, 9, 30, 31] [pl 0 (.map (some g1)), pl 3 (.pointer (some ⟨g2, 0, none⟩)), pl 7 (.int .i64 sum3), pl 8 (.int .i64 x1), pl 9 (.int .i64 y1), pl 30 (.int .i64 x1), pl 31 (.int .i64 y1)] hF hS (by kernel_rfl) (by kernel_rfl) ?_ (fun a w hF hS => ?_)
                · exact obs_nil
                refine at_do (d := 32) (s := vS (Instr.buildSlice 40 2 #[(0, .int .i64 x1), (1, .int .i64 y1)])) (v := .slice (some ⟨w.heap.size, 0, none⟩) 2 2) (w' := w.alloc (.cells #[.int .i64 x1, .int .i64 y1] 3)) hF (by kernel_rfl) (by kernel_rfl) (by kernel_rfl) (fun a hF => ?_)
                have hS : Sep w0 B (w.alloc (.cells #[.int .i64 x1, .int .i64 y1] 3)) (own 3 (.slice (some (⟨w.heap.size, 0, none⟩ : Addr)) 2 2) (vI ([x1, y1] : List Int)) :: (mapH kf133 (Value.int .i64) g1 m5 :: blk g2 133 (List.toArray (([] : List Value) ++ (arr1 (Value.int .i64) (0 : Int) 6 h1 ++ ([] : List Value)))) :: fs)) := hS.lit 3 #[.int .i64 x1, .int .i64 y1] 2 rfl (by omega)
                generalize (some (⟨w.heap.size, 0, none⟩ : Addr)) = g3 at hF hS
                generalize w.alloc (.cells #[.int .i64 x1, .int .i64 y1] 3) = w at hS ⊢
                refine at_run 1 [] [] [0, 3, 7, 8, 9, 10] [pl 0 (.map (some g1)), pl 3 (.pointer (some ⟨g2, 0, none⟩)), pl 7 (.int .i64 sum3), pl 8 (.int .i64 x1), pl 9 (.int .i64 y1), pl 10 (.slice g3 2 2)] hF hS (by kernel_rfl) (by kernel_rfl) ?_ (fun a w hF hS => ?_)
                · exact obs_nil
                refine at_end [0, 3, 7, 8, 9, 10] [pl 0 (.map (some g1)), pl 3 (.pointer (some ⟨g2, 0, none⟩)), pl 7 (.int .i64 sum3), pl 8 (.int .i64 x1), pl 9 (.int .i64 y1), pl 10 (.slice g3 2 2)] hF rfl (by kernel_rfl) (fun hF => ?_)
                refine then_n ?_
                refine seq_cut (fun a w => ∃ (pips1 : List Int) (A1 : Option Addr) (c1 : Nat), Fr 67 [pl 0 (.map (some g1)), pl 3 (.pointer (some ⟨g2, 0, none⟩)), pl 7 (.int .i64 sum3), pl 8 (.int .i64 x1), pl 9 (.int .i64 y1), pl 10 (.slice A1 pips1.length c1)] a ∧ Sep w0 B w (mapH kf133 (Value.int .i64) g1 m5 :: blk g2 133 (List.toArray (([] : List Value) ++ (arr1 (Value.int .i64) (0 : Int) 6 h1 ++ ([] : List Value)))) :: own 3 (.slice A1 pips1.length c1) (vI pips1) :: fs) ∧ ((gammon_means_of_J8 rec_gammon_means_of h1 x1 m5 sum3 y1) pips1).bind φ2 = some r) ?_ ?_
                · rintro a w ⟨pips1, A1, c1, hF, hS, hm⟩
                  unfold gammon_means_of_J8 at hm
                  refine seqR ?_
                  obtain ⟨r2, hr2, hm⟩ := call_b hm
                  refine at_run 3 [⟨false, [], vS (Instr.loadAt 133 (.pointer (some ⟨g2, 0, none⟩))), .agg (List.toArray (([] : List Value) ++ (arr1 (Value.int .i64) (0 : Int) 6 h1 ++ ([] : List Value))))⟩] [none, some (.agg (List.toArray (([] : List Value) ++ (arr1 (Value.int .i64) (0 : Int) 6 h1 ++ ([] : List Value))))), none] [0, 3, 7, 8, 9, 41, 42, 43] [pl 0 (.map (some g1)), pl 3 (.pointer (some ⟨g2, 0, none⟩)), pl 7 (.int .i64 sum3), pl 8 (.int .i64 x1), pl 9 (.int .i64 y1), pl 41 (.map (some g1)), pl 42 (.agg (List.toArray (([] : List Value) ++ (arr1 (Value.int .i64) (0 : Int) 6 h1 ++ ([] : List Value))))), pl 43 (.slice A1 pips1.length c1)] hF hS (by kernel_rfl) (by kernel_rfl) ?_ (fun a w hF hS => ?_)
                  · exact obs_cons (ob_loadA (cs := (List.toArray (([] : List Value) ++ (arr1 (Value.int .i64) (0 : Int) 6 h1 ++ ([] : List Value))))) (by kernel_rfl) (by kernel_rfl) (fun _ _ hS => (hS.at_ 1 rfl).cellsAt 0 (by rfl))) <| obs_nil
                  refine at_call (f := 136) (args := #[.map (some g1), .agg (List.toArray (([] : List Value) ++ (arr1 (Value.int .i64) (0 : Int) 6 h1 ++ ([] : List Value)))), .slice A1 pips1.length c1]) (d := 44) hF (by kernel_rfl) (by kernel_rfl) Try.func136 (by kernel_rfl) rfl (gammon_means_best_w ih_gammon_means_of hr2 hS (fun _ hS => (hS.at_ 1 rfl).rd) (((hS.dropN 1).at_ 1 rfl).cap1) rfl) (fun v a w hR hF => ?_)
                  clear hS
                  obtain ⟨rfl, hS⟩ := hR
                  have hS : Sep w0 B w (mapH kf133 (Value.int .i64) g1 r2.2 :: blk g2 133 (List.toArray (([] : List Value) ++ (arr1 (Value.int .i64) (0 : Int) 6 h1 ++ ([] : List Value)))) :: own 3 (.slice A1 pips1.length c1) (vI pips1) :: fs) := hS
                  refine at_run 1 [] [] [0, 3, 7, 8, 9, 11] [pl 0 (.map (some g1)), pl 3 (.pointer (some ⟨g2, 0, none⟩)), pl 7 (.int .i64 sum3), pl 8 (.int .i64 x1), pl 9 (.int .i64 y1), pl 11 (.int .i64 r2.1)] hF hS (by kernel_rfl) (by kernel_rfl) ?_ (fun a w hF hS => ?_)
                  · exact obs_nil
                  refine at_end [0, 3, 7, 8, 9, 11] [pl 0 (.map (some g1)), pl 3 (.pointer (some ⟨g2, 0, none⟩)), pl 7 (.int .i64 sum3), pl 8 (.int .i64 x1), pl 9 (.int .i64 y1), pl 11 (.int .i64 r2.1)] hF rfl (by kernel_rfl) (fun hF => ?_)
                  refine then_n ?_
                  refine seq_cut (fun a w => ∃ (m7 : List ((Int × Int × Int × Int × Int × Int) × Int)) (best1 : Int), Fr 67 [pl 0 (.map (some g1)), pl 3 (.pointer (some ⟨g2, 0, none⟩)), pl 7 (.int .i64 sum3), pl 8 (.int .i64 x1), pl 9 (.int .i64 y1), pl 11 (.int .i64 best1)] a ∧ Sep w0 B w (mapH kf133 (Value.int .i64) g1 m7 :: blk g2 133 (List.toArray (([] : List Value) ++ (arr1 (Value.int .i64) (0 : Int) 6 h1 ++ ([] : List Value)))) :: fs) ∧ ((gammon_means_of_J9 sum3 y1) m7 best1).bind φ2 = some r) ?_ ?_
                  · rintro a w ⟨m7, best1, hF, hS, hm⟩
                    unfold gammon_means_of_J9 at hm
                    refine reg1 [] [] [0, 3, 7, 8, 9] [pl 0 (.map (some g1)), pl 3 (.pointer (some ⟨g2, 0, none⟩)), pl 7 (.int .i64 (w64 (sum3 + best1))), pl 8 (.int .i64 x1), pl 9 (.int .i64 y1)] hF hS Fol (by kernel_rfl) (by kernel_rfl) (by kernel_rfl) ?_ (fun a w hF hS => ?_)
                    · exact obs_nil
                    refine block_n ?_
                    refine then_n ?_
                    exact ⟨m7, (w64 (sum3 + best1)), hF.weak [0, 3, 7, 8, 9] (by kernel_rfl), hS, hm⟩
                  · refine reg [] [] [0, 3, 7, 8, 9, 11, 47] [pl 0 (.map (some g1)), pl 3 (.pointer (some ⟨g2, 0, none⟩)), pl 7 (.int .i64 sum3), pl 8 (.int .i64 x1), pl 9 (.int .i64 y1), pl 11 (.int .i64 r2.1), pl 47 (.bool (x1 != y1))] hF hS Fol (by kernel_rfl) (by kernel_rfl) (by kernel_rfl) ?_ (fun a w hF hS => ?_)
                    · exact obs_nil
                    refine cond_ev (t := 47) (b := (x1 != y1)) hF (by kernel_rfl) (fun hb => ?_) (fun hb => ?_)
                    · replace hm := if_t hm hb
                      refine oneR ?_
                      obtain ⟨r3, hr3, hm⟩ := call_b hm
                      refine at_run 5 [⟨false, [], vS (Instr.loadAt 133 (.pointer (some ⟨g2, 0, none⟩))), .agg (List.toArray (([] : List Value) ++ (arr1 (Value.int .i64) (0 : Int) 6 h1 ++ ([] : List Value))))⟩] [none, none, some (.agg (List.toArray (([] : List Value) ++ (arr1 (Value.int .i64) (0 : Int) 6 h1 ++ ([] : List Value))))), none, none] [0, 3, 7, 8, 9, 48, 49, 50, 51, 52] [pl 0 (.map (some g1)), pl 3 (.pointer (some ⟨g2, 0, none⟩)), pl 7 (.int .i64 sum3), pl 8 (.int .i64 x1), pl 9 (.int .i64 y1), pl 48 (.int .i64 r2.1), pl 49 (.map (some g1)), pl 50 (.agg (List.toArray (([] : List Value) ++ (arr1 (Value.int .i64) (0 : Int) 6 h1 ++ ([] : List Value))))), pl 51 (.int .i64 y1), pl 52 (.int .i64 x1)] hF hS (by kernel_rfl) (by kernel_rfl) ?_ (fun a w hF hS => ?_)
                      · exact obs_cons (ob_loadA (cs := (List.toArray (([] : List Value) ++ (arr1 (Value.int .i64) (0 : Int) 6 h1 ++ ([] : List Value))))) (by kernel_rfl) (by kernel_rfl) (fun _ _ hS => (hS.at_ 1 rfl).cellsAt 0 (by rfl))) <| obs_nil
                      refine at_do (d := 53) (s := vS (Instr.buildSlice 40 2 #[(0, .int .i64 y1), (1, .int .i64 x1)])) (v := .slice (some ⟨w.heap.size, 0, none⟩) 2 2) (w' := w.alloc (.cells #[.int .i64 y1, .int .i64 x1] 3)) hF (by kernel_rfl) (by kernel_rfl) (by kernel_rfl) (fun a hF => ?_)
                      have hS : Sep w0 B (w.alloc (.cells #[.int .i64 y1, .int .i64 x1] 3)) (own 3 (.slice (some (⟨w.heap.size, 0, none⟩ : Addr)) 2 2) (vI ([y1, x1] : List Int)) :: (mapH kf133 (Value.int .i64) g1 r2.2 :: blk g2 133 (List.toArray (([] : List Value) ++ (arr1 (Value.int .i64) (0 : Int) 6 h1 ++ ([] : List Value)))) :: own 3 (.slice A1 pips1.length c1) (vI pips1) :: fs)) := hS.lit 3 #[.int .i64 y1, .int .i64 x1] 2 rfl (by omega)
                      generalize (some (⟨w.heap.size, 0, none⟩ : Addr)) = g5 at hF hS
                      generalize w.alloc (.cells #[.int .i64 y1, .int .i64 x1] 3) = w at hS ⊢
                      have hS : Sep w0 B w (mapH kf133 (Value.int .i64) g1 r2.2 :: own 3 (.slice g5 2 2) (vI ([y1, x1] : List Int)) :: blk g2 133 (List.toArray (([] : List Value) ++ (arr1 (Value.int .i64) (0 : Int) 6 h1 ++ ([] : List Value)))) :: own 3 (.slice A1 pips1.length c1) (vI pips1) :: fs) := hS.pickN 4 [1, 0, 2, 3] (by decide)
                      refine at_call (f := 136) (args := #[.map (some g1), .agg (List.toArray (([] : List Value) ++ (arr1 (Value.int .i64) (0 : Int) 6 h1 ++ ([] : List Value)))), .slice g5 2 2]) (d := 54) hF (by kernel_rfl) (by kernel_rfl) Try.func136 (by kernel_rfl) rfl (gammon_means_best_w ih_gammon_means_of hr3 hS (fun _ hS => (hS.at_ 0 rfl).rd) (((hS.dropN 1).at_ 0 rfl).cap1) (((hS.dropN 1).at_ 0 rfl).len1)) (fun v a w hR hF => ?_)
                      clear hS
                      obtain ⟨rfl, hS⟩ := hR
                      have hS : Sep w0 B w (mapH kf133 (Value.int .i64) g1 r3.2 :: own 3 (.slice g5 2 2) (vI ([y1, x1] : List Int)) :: blk g2 133 (List.toArray (([] : List Value) ++ (arr1 (Value.int .i64) (0 : Int) 6 h1 ++ ([] : List Value)))) :: own 3 (.slice A1 pips1.length c1) (vI pips1) :: fs) := hS
                      refine at_run 2 [⟨true, [], vS (Builtin.min_ #[3, 3] 3 #[.int .i64 r2.1, .int .i64 r3.1]), .int .i64 (minI r2.1 r3.1)⟩] [some (.int .i64 (minI r2.1 r3.1)), none] [0, 3, 7, 8, 9, 11] [pl 0 (.map (some g1)), pl 3 (.pointer (some ⟨g2, 0, none⟩)), pl 7 (.int .i64 sum3), pl 8 (.int .i64 x1), pl 9 (.int .i64 y1), pl 11 (.int .i64 (minI r2.1 r3.1))] hF hS (by kernel_rfl) (by kernel_rfl) ?_ (fun a w hF hS => ?_)
                      · exact obs_cons (ob_min rfl) <| obs_nil
                      refine at_end [0, 3, 7, 8, 9, 11] [pl 0 (.map (some g1)), pl 3 (.pointer (some ⟨g2, 0, none⟩)), pl 7 (.int .i64 sum3), pl 8 (.int .i64 x1), pl 9 (.int .i64 y1), pl 11 (.int .i64 (minI r2.1 r3.1))] hF rfl (by kernel_rfl) (fun hF => ?_)
                      refine then_n ?_
                      have hS := hS.pickN 4 [0, 2] (by decide)
                      exact ⟨r3.2, (minI r2.1 r3.1), hF.weak [0, 3, 7, 8, 9, 11] (by kernel_rfl), hS, hm⟩
                    · replace hm := if_f hm hb
                      refine wpIn_skip ?_
                      refine then_n ?_
                      have hS := hS.pickN 3 [0, 1] (by decide)
                      exact ⟨r2.2, r2.1, hF.weak [0, 3, 7, 8, 9, 11] (by kernel_rfl), hS, hm⟩
                · refine reg [] [] [0, 3, 7, 8, 9, 10, 35] [pl 0 (.map (some g1)), pl 3 (.pointer (some ⟨g2, 0, none⟩)), pl 7 (.int .i64 sum3), pl 8 (.int .i64 x1), pl 9 (.int .i64 y1), pl 10 (.slice g3 2 2), pl 35 (.bool (x1 == y1))] hF hS Fol (by kernel_rfl) (by kernel_rfl) (by kernel_rfl) ?_ (fun a w hF hS => ?_)
                  · exact obs_nil
                  refine cond_ev (t := 35) (b := (x1 == y1)) hF (by kernel_rfl) (fun hb => ?_) (fun hb => ?_)
                  · replace hm := if_t hm hb
                    refine oneR ?_
                    refine at_run 4 [] [] [0, 3, 7, 8, 9, 36, 37, 38, 39] [pl 0 (.map (some g1)), pl 3 (.pointer (some ⟨g2, 0, none⟩)), pl 7 (.int .i64 sum3), pl 8 (.int .i64 x1), pl 9 (.int .i64 y1), pl 36 (.int .i64 x1), pl 37 (.int .i64 x1), pl 38 (.int .i64 x1), pl 39 (.int .i64 x1)] hF hS (by kernel_rfl) (by kernel_rfl) ?_ (fun a w hF hS => ?_)
                    · exact obs_nil
                    refine at_do (d := 40) (s := vS (Instr.buildSlice 40 4 #[(0, .int .i64 x1), (1, .int .i64 x1), (2, .int .i64 x1), (3, .int .i64 x1)])) (v := .slice (some ⟨w.heap.size, 0, none⟩) 4 4) (w' := w.alloc (.cells #[.int .i64 x1, .int .i64 x1, .int .i64 x1, .int .i64 x1] 3)) hF (by kernel_rfl) (by kernel_rfl) (by kernel_rfl) (fun a hF => ?_)
                    have hS : Sep w0 B (w.alloc (.cells #[.int .i64 x1, .int .i64 x1, .int .i64 x1, .int .i64 x1] 3)) (own 3 (.slice (some (⟨w.heap.size, 0, none⟩ : Addr)) 4 4) (vI ([x1, x1, x1, x1] : List Int)) :: (own 3 (.slice g3 2 2) (vI ([x1, y1] : List Int)) :: mapH kf133 (Value.int .i64) g1 m5 :: blk g2 133 (List.toArray (([] : List Value) ++ (arr1 (Value.int .i64) (0 : Int) 6 h1 ++ ([] : List Value)))) :: fs)) := hS.lit 3 #[.int .i64 x1, .int .i64 x1, .int .i64 x1, .int .i64 x1] 4 rfl (by omega)
                    generalize (some (⟨w.heap.size, 0, none⟩ : Addr)) = g4 at hF hS
                    generalize w.alloc (.cells #[.int .i64 x1, .int .i64 x1, .int .i64 x1, .int .i64 x1] 3) = w at hS ⊢
                    refine at_run 1 [] [] [0, 3, 7, 8, 9, 10] [pl 0 (.map (some g1)), pl 3 (.pointer (some ⟨g2, 0, none⟩)), pl 7 (.int .i64 sum3), pl 8 (.int .i64 x1), pl 9 (.int .i64 y1), pl 10 (.slice g4 4 4)] hF hS (by kernel_rfl) (by kernel_rfl) ?_ (fun a w hF hS => ?_)
                    · exact obs_nil
                    refine at_end [0, 3, 7, 8, 9, 10] [pl 0 (.map (some g1)), pl 3 (.pointer (some ⟨g2, 0, none⟩)), pl 7 (.int .i64 sum3), pl 8 (.int .i64 x1), pl 9 (.int .i64 y1), pl 10 (.slice g4 4 4)] hF rfl (by kernel_rfl) (fun hF => ?_)
                    refine then_n ?_
                    have hl1 := (hS.at_ 0 rfl).len1
                    have hS := (hS.at_ 0 rfl).reN hl1
                    have hS : Sep w0 B w (own 3 (.slice g4 (([x1, x1, x1, x1] : List Int).length) 4) (vI ([x1, x1, x1, x1] : List Int)) :: own 3 (.slice g3 2 2) (vI ([x1, y1] : List Int)) :: mapH kf133 (Value.int .i64) g1 m5 :: blk g2 133 (List.toArray (([] : List Value) ++ (arr1 (Value.int .i64) (0 : Int) 6 h1 ++ ([] : List Value)))) :: fs) := hS
                    have hF := hF.cast (t := 10) (v := .slice g4 4 4) (v' := .slice g4 (([x1, x1, x1, x1] : List Int).length) 4) rfl rfl (congrArg (fun k => Value.slice g4 k 4) hl1)
                    have hS := hS.pickN 4 [2, 3, 0] (by decide)
                    exact ⟨([x1, x1, x1, x1] : List Int), g4, 4, hF.weak [0, 3, 7, 8, 9, 10] (by kernel_rfl), hS, hm⟩
                  · replace hm := if_f hm hb
                    refine wpIn_skip ?_
                    refine then_n ?_
                    have hl2 := (hS.at_ 0 rfl).len1
                    have hS := (hS.at_ 0 rfl).reN hl2
                    have hS : Sep w0 B w (own 3 (.slice g3 (([x1, y1] : List Int).length) 2) (vI ([x1, y1] : List Int)) :: mapH kf133 (Value.int .i64) g1 m5 :: blk g2 133 (List.toArray (([] : List Value) ++ (arr1 (Value.int .i64) (0 : Int) 6 h1 ++ ([] : List Value)))) :: fs) := hS
                    have hF := hF.cast (t := 10) (v := .slice g3 2 2) (v' := .slice g3 (([x1, y1] : List Int).length) 2) rfl rfl (congrArg (fun k => Value.slice g3 k 2) hl2)
                    have hS := hS.pickN 3 [1, 2, 0] (by decide)
                    exact ⟨([x1, y1] : List Int), g3, 2, hF.weak [0, 3, 7, 8, 9, 10] (by kernel_rfl), hS, hm⟩
            · refine reg [] [] [0, 3, 7, 8, 9, 27] [pl 0 (.map (some g1)), pl 3 (.pointer (some ⟨g2, 0, none⟩)), pl 7 (.int .i64 sum3), pl 8 (.int .i64 x1), pl 9 (.int .i64 y1), pl 27 (.bool (decide (y1 ≤ 6)))] hF hS Fol (by kernel_rfl) (by kernel_rfl) (by kernel_rfl) ?_ (fun a w hF hS => ?_)
              · exact obs_nil
              refine cond_ev (t := 27) (b := decide (y1 ≤ 6)) hF (by kernel_rfl) (fun hb => ?_) (fun hb => ?_)
              · replace hm := if_t hm hb
                refine wpIn_skip ?_
                refine then_n ?_
                exact ⟨hF.weak [0, 3, 7, 8, 9] (by kernel_rfl), hS, hm⟩
              · replace hm := if_f hm hb
                refine wpIn_exit ?_
                refine then_e (then_e (block_e (block_n (then_n ?_))))
                rw [← hφ2] at hm
                replace hm := done_b hm
                unfold gammon_means_of_K2 at hm
                try dsimp only at hm
                have hm : ((gammon_means_of_J5 x1) m5 sum3).bind φ1 = some r := hm
                exact ⟨m5, sum3, hF.weak [0, 3, 7, 8] (by kernel_rfl), hS, hm⟩
        · refine reg [] [] [0, 3, 7, 8, 23] [pl 0 (.map (some g1)), pl 3 (.pointer (some ⟨g2, 0, none⟩)), pl 7 (.int .i64 sum1), pl 8 (.int .i64 x1), pl 23 (.bool (decide (x1 ≤ 6)))] hF hS Fol (by kernel_rfl) (by kernel_rfl) (by kernel_rfl) ?_ (fun a w hF hS => ?_)
          · exact obs_nil
          refine cond_ev (t := 23) (b := decide (x1 ≤ 6)) hF (by kernel_rfl) (fun hb => ?_) (fun hb => ?_)
          · replace hm := if_t hm hb
            refine wpIn_skip ?_
            refine then_n ?_
            exact ⟨hF.weak [0, 3, 7, 8] (by kernel_rfl), hS, hm⟩
          · replace hm := if_f hm hb
            refine wpIn_exit ?_
            refine then_e (then_e (block_e (then_n ?_)))
            rw [← hφ1] at hm
            replace hm := done_b hm
            unfold gammon_means_of_K1 at hm
            try dsimp only at hm
            have hm : ((gammon_means_of_J3 h1) m3 sum1).bind some = some r := hm
            exact ⟨m3, sum1, hF.weak [0, 3, 7] (by kernel_rfl), hS, hm⟩
    · refine reg [⟨false, [], vS (Instr.loadAt 133 (.pointer (some ⟨g2, 0, none⟩))), .agg (List.toArray (([] : List Value) ++ (arr1 (Value.int .i64) (0 : Int) 6 h1 ++ ([] : List Value))))⟩, ⟨false, [], vS (Instr.lookup 136 (.map (some g1)) (.agg (List.toArray (([] : List Value) ++ (arr1 (Value.int .i64) (0 : Int) 6 h1 ++ ([] : List Value))))) true), .tuple #[.int .i64 (mget (0 : Int) (geti h1 0, geti h1 1, geti h1 2, geti h1 3, geti h1 4, geti h1 5) m1), .bool (mhas (geti h1 0, geti h1 1, geti h1 2, geti h1 3, geti h1 4, geti h1 5) m1)]⟩] [none, some (.agg (List.toArray (([] : List Value) ++ (arr1 (Value.int .i64) (0 : Int) 6 h1 ++ ([] : List Value))))), some (.tuple #[.int .i64 (mget (0 : Int) (geti h1 0, geti h1 1, geti h1 2, geti h1 3, geti h1 4, geti h1 5) m1), .bool (mhas (geti h1 0, geti h1 1, geti h1 2, geti h1 3, geti h1 4, geti h1 5) m1)]), none, none, none, none, none] [0, 3, 5, 6] [pl 0 (.map (some g1)), pl 3 (.pointer (some ⟨g2, 0, none⟩)), pl 5 (.int .i64 (mget (0 : Int) (geti h1 0, geti h1 1, geti h1 2, geti h1 3, geti h1 4, geti h1 5) m1)), pl 6 (.bool (mhas (geti h1 0, geti h1 1, geti h1 2, geti h1 3, geti h1 4, geti h1 5) m1))] hF hS Fol (by kernel_rfl) (by kernel_rfl) (by kernel_rfl) ?_ (fun a w hF hS => ?_)
      · exact obs_cons (ob_loadA (cs := (List.toArray (([] : List Value) ++ (arr1 (Value.int .i64) (0 : Int) 6 h1 ++ ([] : List Value))))) (by kernel_rfl) (by kernel_rfl) (fun _ _ hS => (hS.at_ 1 rfl).cellsAt 0 (by rfl))) <| obs_cons (ob_look2 (k := (geti h1 0, geti h1 1, geti h1 2, geti h1 3, geti h1 4, geti h1 5)) (m := m1) MK133 UndM136 (z := (0 : Int)) MZ3 (fun _ hS => ⟨_, _, _, _, hS.at_ 0 rfl⟩)) <| obs_nil
      refine reg [] [] [0, 3, 5, 20] [pl 0 (.map (some g1)), pl 3 (.pointer (some ⟨g2, 0, none⟩)), pl 5 (.int .i64 (mget (0 : Int) (geti h1 0, geti h1 1, geti h1 2, geti h1 3, geti h1 4, geti h1 5) m1)), pl 20 (.bool (mhas (geti h1 0, geti h1 1, geti h1 2, geti h1 3, geti h1 4, geti h1 5) m1))] hF hS Fol (by kernel_rfl) (by kernel_rfl) (by kernel_rfl) ?_ (fun a w hF hS => ?_)
      · exact obs_nil
      refine cond_ev (t := 20) (b := (mhas (geti h1 0, geti h1 1, geti h1 2, geti h1 3, geti h1 4, geti h1 5) m1)) hF (by kernel_rfl) (fun hb => ?_) (fun hb => ?_)
      · replace hm := if_t hm hb
        refine reg [] [] [4] [pl 4 (.int .i64 (mget (0 : Int) (geti h1 0, geti h1 1, geti h1 2, geti h1 3, geti h1 4, geti h1 5) m1))] hF hS Fol (by kernel_rfl) (by kernel_rfl) (by kernel_rfl) ?_ (fun a w hF hS => ?_)
        · exact obs_nil
        refine wpIn_ret ?_
        refine then_r ?_
        have hS := hS.pickN 2 [0] (by decide)
        have hm : some ((mget (0 : Int) (geti h1 0, geti h1 1, geti h1 2, geti h1 3, geti h1 4, geti h1 5) m1), m1) = some r := hm
        obtain rfl := Option.some.inj hm
        exact retV (rs := [.tmp 4]) (vs := [.int .i64 (mget (0 : Int) (geti h1 0, geti h1 1, geti h1 2, geti h1 3, geti h1 4, geti h1 5) m1)]) hF rfl (rv_t (by kernel_rfl) <| rv_nil) rfl ⟨_, rfl, rfl, hS⟩
      · replace hm := if_f hm hb
        refine wpIn_skip ?_
        refine then_n ?_
        exact ⟨hF.weak [0, 3] (by kernel_rfl), hS, hm⟩
  · obtain ⟨r1, hr1, hm⟩ := call_b hm
    refine reg [⟨false, [], vS (Instr.loadAt 133 (.pointer (some ⟨g2, 0, none⟩))), .agg (List.toArray (([] : List Value) ++ (arr1 (Value.int .i64) (0 : Int) 6 h1 ++ ([] : List Value))))⟩, ⟨false, [], callFunc 135 #[.agg (List.toArray (([] : List Value) ++ (arr1 (Value.int .i64) (0 : Int) 6 h1 ++ ([] : List Value))))], .bool r1⟩] [some (.agg (List.toArray (([] : List Value) ++ (arr1 (Value.int .i64) (0 : Int) 6 h1 ++ ([] : List Value))))), some (.bool r1)] [0, 3, 13] [pl 0 (.map (some g1)), pl 3 (.pointer (some ⟨g2, 0, none⟩)), pl 13 (.bool r1)] hF hS Fol (by kernel_rfl) (by kernel_rfl) (by kernel_rfl) ?_ (fun a w hF hS => ?_)
    · exact obs_cons (ob_loadA (cs := (List.toArray (([] : List Value) ++ (arr1 (Value.int .i64) (0 : Int) 6 h1 ++ ([] : List Value))))) (by kernel_rfl) (by kernel_rfl) (fun _ _ hS => (hS.at_ 0 rfl).cellsAt 0 (by rfl))) <| obs_cons (ob_call Try.func135 (by kernel_rfl) rfl (fun _ _ hS => gammon_home_empty_w hr1 hS )) <| obs_nil
    refine cond_ev (t := 13) (b := r1) hF (by kernel_rfl) (fun hb => ?_) (fun hb => ?_)
    · replace hm := if_t hm hb
      refine reg [] [] [4] [pl 4 (.int .i64 0)] hF hS Fol (by kernel_rfl) (by kernel_rfl) (by kernel_rfl) ?_ (fun a w hF hS => ?_)
      · exact obs_nil
      refine wpIn_ret ?_
      refine then_r ?_
      have hS := hS.pickN 2 [1] (by decide)
      have hm : some (0, m1) = some r := hm
      obtain rfl := Option.some.inj hm
      exact retV (rs := [.tmp 4]) (vs := [.int .i64 0]) hF rfl (rv_t (by kernel_rfl) <| rv_nil) rfl ⟨_, rfl, rfl, hS⟩
    · replace hm := if_f hm hb
      refine wpIn_skip ?_
      refine then_n ?_
      have hS := hS.pickN 2 [1, 0] (by decide)
      exact ⟨hF.weak [0, 3] (by kernel_rfl), hS, hm⟩

theorem gammon_means_of_w {g1 : Nat} {m1 : List ((Int × Int × Int × Int × Int × Int) × Int)} {h1 : List Int} {r : (Int × List ((Int × Int × Int × Int × Int × Int) × Int))} {w0 w : World} {B : Nat} {fs : List HP} (hm : gammon_means_of_m m1 h1 = some r) (hS : Sep w0 B w (mapH kf133 (Value.int .i64) g1 m1 :: fs)) :
    Calls Try.prog 96 #[.map (some g1), .agg (List.toArray (([] : List Value) ++ (arr1 (Value.int .i64) (0 : Int) 6 h1 ++ ([] : List Value))))] w fun e w' => ∃ v, e = .returned v ∧ v = .int .i64 r.1 ∧ Sep w0 B w' (mapH kf133 (Value.int .i64) g1 r.2 :: fs) := by
  have key : ∀ (n : Nat) {g1 : Nat} {m1 : List ((Int × Int × Int × Int × Int × Int) × Int)} {h1 : List Int} {r : (Int × List ((Int × Int × Int × Int × Int × Int) × Int))} {w0 w : World} {B : Nat} {fs : List HP} (_ : gammon_means_of_mF n m1 h1 = some r) (_ : Sep w0 B w (mapH kf133 (Value.int .i64) g1 m1 :: fs)), Calls Try.prog 96 #[.map (some g1), .agg (List.toArray (([] : List Value) ++ (arr1 (Value.int .i64) (0 : Int) 6 h1 ++ ([] : List Value))))] w fun e w' => ∃ v, e = .returned v ∧ v = .int .i64 r.1 ∧ Sep w0 B w' (mapH kf133 (Value.int .i64) g1 r.2 :: fs) := by
    intro n
    induction n with
    | zero => intros; rename_i hm0 _; cases hm0
    | succ n ih => intros; rename_i hm0 hS0; exact gammon_means_of_wB (rec_gammon_means_of := gammon_means_of_mF n) (fun hm hS => ih hm hS) hm0 hS0
  obtain ⟨n, hn⟩ := recM_some hm
  exact key n hn hS

set_option maxRecDepth 100000 in
theorem gammon_means_of_J8_le_gammon_means_of {rec_gammon_means_of1 rec_gammon_means_of2 : List ((Int × Int × Int × Int × Int × Int) × Int) → List Int → Option (Int × List ((Int × Int × Int × Int × Int × Int) × Int))} (h_rec_gammon_means_of : ∀ a0 a1, Le (rec_gammon_means_of1 a0 a1) (rec_gammon_means_of2 a0 a1)) (h1 : List Int) (x1 : Int) (m5 : List ((Int × Int × Int × Int × Int × Int) × Int)) (sum3 : Int) (y1 : Int) (pips1 : List Int) : Le (gammon_means_of_J8 rec_gammon_means_of1 h1 x1 m5 sum3 y1 pips1) (gammon_means_of_J8 rec_gammon_means_of2 h1 x1 m5 sum3 y1 pips1) := by
  unfold gammon_means_of_J8
  repeat' (first | with_reducible exact Le.refl _ | with_reducible exact h_rec_gammon_means_of _ _ | with_reducible exact gammon_means_best_m_le_gammon_means_of h_rec_gammon_means_of _ _ _ | with_reducible refine Le.asrt ?_ | with_reducible refine Le.ite ?_ ?_ | refine Le.bind ?_ (fun _ => ?_) | refine Le.loop2 (fun _ => ?_) | refine Le.elim2 (fun _ => ?_) (fun _ => ?_))

set_option maxRecDepth 100000 in
theorem gammon_means_of_J6_le_gammon_means_of {rec_gammon_means_of1 rec_gammon_means_of2 : List ((Int × Int × Int × Int × Int × Int) × Int) → List Int → Option (Int × List ((Int × Int × Int × Int × Int × Int) × Int))} (h_rec_gammon_means_of : ∀ a0 a1, Le (rec_gammon_means_of1 a0 a1) (rec_gammon_means_of2 a0 a1)) (h1 : List Int) (x1 : Int) (m5 : List ((Int × Int × Int × Int × Int × Int) × Int)) (sum3 : Int) (y1 : Int) : Le (gammon_means_of_J6 rec_gammon_means_of1 h1 x1 m5 sum3 y1) (gammon_means_of_J6 rec_gammon_means_of2 h1 x1 m5 sum3 y1) := by
  unfold gammon_means_of_J6
  repeat' (first | with_reducible exact Le.refl _ | with_reducible exact h_rec_gammon_means_of _ _ | with_reducible exact gammon_means_of_J8_le_gammon_means_of h_rec_gammon_means_of _ _ _ _ _ _ | with_reducible refine Le.asrt ?_ | with_reducible refine Le.ite ?_ ?_ | refine Le.bind ?_ (fun _ => ?_) | refine Le.loop2 (fun _ => ?_) | refine Le.elim2 (fun _ => ?_) (fun _ => ?_))

set_option maxRecDepth 100000 in
theorem gammon_means_of_L2_le_gammon_means_of {rec_gammon_means_of1 rec_gammon_means_of2 : List ((Int × Int × Int × Int × Int × Int) × Int) → List Int → Option (Int × List ((Int × Int × Int × Int × Int × Int) × Int))} (h_rec_gammon_means_of : ∀ a0 a1, Le (rec_gammon_means_of1 a0 a1) (rec_gammon_means_of2 a0 a1)) (h1 : List Int) (x1 : Int) (x : (List ((Int × Int × Int × Int × Int × Int) × Int) × Int × Int)) : Le (gammon_means_of_L2 rec_gammon_means_of1 h1 x1 x) (gammon_means_of_L2 rec_gammon_means_of2 h1 x1 x) := by
  rcases x with ⟨m5, sum3, y1⟩
  all_goals
    unfold gammon_means_of_L2
    try dsimp only
    repeat' (first | with_reducible exact Le.refl _ | with_reducible exact h_rec_gammon_means_of _ _ | with_reducible exact gammon_means_of_J6_le_gammon_means_of h_rec_gammon_means_of _ _ _ _ _ | with_reducible refine Le.asrt ?_ | with_reducible refine Le.ite ?_ ?_ | refine Le.bind ?_ (fun _ => ?_) | refine Le.loop2 (fun _ => ?_) | refine Le.elim2 (fun _ => ?_) (fun _ => ?_))

set_option maxRecDepth 100000 in
theorem gammon_means_of_J4_le_gammon_means_of {rec_gammon_means_of1 rec_gammon_means_of2 : List ((Int × Int × Int × Int × Int × Int) × Int) → List Int → Option (Int × List ((Int × Int × Int × Int × Int × Int) × Int))} (h_rec_gammon_means_of : ∀ a0 a1, Le (rec_gammon_means_of1 a0 a1) (rec_gammon_means_of2 a0 a1)) (h1 : List Int) (m3 : List ((Int × Int × Int × Int × Int × Int) × Int)) (sum1 : Int) (x1 : Int) : Le (gammon_means_of_J4 rec_gammon_means_of1 h1 m3 sum1 x1) (gammon_means_of_J4 rec_gammon_means_of2 h1 m3 sum1 x1) := by
  unfold gammon_means_of_J4
  repeat' (first | with_reducible exact Le.refl _ | with_reducible exact h_rec_gammon_means_of _ _ | with_reducible exact gammon_means_of_L2_le_gammon_means_of h_rec_gammon_means_of _ _ _ | with_reducible refine Le.asrt ?_ | with_reducible refine Le.ite ?_ ?_ | refine Le.bind ?_ (fun _ => ?_) | refine Le.loop2 (fun _ => ?_) | refine Le.elim2 (fun _ => ?_) (fun _ => ?_))

set_option maxRecDepth 100000 in
theorem gammon_means_of_L1_le_gammon_means_of {rec_gammon_means_of1 rec_gammon_means_of2 : List ((Int × Int × Int × Int × Int × Int) × Int) → List Int → Option (Int × List ((Int × Int × Int × Int × Int × Int) × Int))} (h_rec_gammon_means_of : ∀ a0 a1, Le (rec_gammon_means_of1 a0 a1) (rec_gammon_means_of2 a0 a1)) (h1 : List Int) (x : (List ((Int × Int × Int × Int × Int × Int) × Int) × Int × Int)) : Le (gammon_means_of_L1 rec_gammon_means_of1 h1 x) (gammon_means_of_L1 rec_gammon_means_of2 h1 x) := by
  rcases x with ⟨m3, sum1, x1⟩
  all_goals
    unfold gammon_means_of_L1
    try dsimp only
    repeat' (first | with_reducible exact Le.refl _ | with_reducible exact h_rec_gammon_means_of _ _ | with_reducible exact gammon_means_of_J4_le_gammon_means_of h_rec_gammon_means_of _ _ _ _ | with_reducible refine Le.asrt ?_ | with_reducible refine Le.ite ?_ ?_ | refine Le.bind ?_ (fun _ => ?_) | refine Le.loop2 (fun _ => ?_) | refine Le.elim2 (fun _ => ?_) (fun _ => ?_))

set_option maxRecDepth 100000 in
theorem gammon_means_of_J2_le_gammon_means_of {rec_gammon_means_of1 rec_gammon_means_of2 : List ((Int × Int × Int × Int × Int × Int) × Int) → List Int → Option (Int × List ((Int × Int × Int × Int × Int × Int) × Int))} (h_rec_gammon_means_of : ∀ a0 a1, Le (rec_gammon_means_of1 a0 a1) (rec_gammon_means_of2 a0 a1)) (m1 : List ((Int × Int × Int × Int × Int × Int) × Int)) (h1 : List Int) : Le (gammon_means_of_J2 rec_gammon_means_of1 m1 h1) (gammon_means_of_J2 rec_gammon_means_of2 m1 h1) := by
  unfold gammon_means_of_J2
  repeat' (first | with_reducible exact Le.refl _ | with_reducible exact h_rec_gammon_means_of _ _ | with_reducible exact gammon_means_of_L1_le_gammon_means_of h_rec_gammon_means_of _ _ | with_reducible refine Le.asrt ?_ | with_reducible refine Le.ite ?_ ?_ | refine Le.bind ?_ (fun _ => ?_) | refine Le.loop2 (fun _ => ?_) | refine Le.elim2 (fun _ => ?_) (fun _ => ?_))

set_option maxRecDepth 100000 in
theorem gammon_means_of_J1_le_gammon_means_of {rec_gammon_means_of1 rec_gammon_means_of2 : List ((Int × Int × Int × Int × Int × Int) × Int) → List Int → Option (Int × List ((Int × Int × Int × Int × Int × Int) × Int))} (h_rec_gammon_means_of : ∀ a0 a1, Le (rec_gammon_means_of1 a0 a1) (rec_gammon_means_of2 a0 a1)) (m1 : List ((Int × Int × Int × Int × Int × Int) × Int)) (h1 : List Int) : Le (gammon_means_of_J1 rec_gammon_means_of1 m1 h1) (gammon_means_of_J1 rec_gammon_means_of2 m1 h1) := by
  unfold gammon_means_of_J1
  repeat' (first | with_reducible exact Le.refl _ | with_reducible exact h_rec_gammon_means_of _ _ | with_reducible exact gammon_means_of_J2_le_gammon_means_of h_rec_gammon_means_of _ _ | with_reducible refine Le.asrt ?_ | with_reducible refine Le.ite ?_ ?_ | refine Le.bind ?_ (fun _ => ?_) | refine Le.loop2 (fun _ => ?_) | refine Le.elim2 (fun _ => ?_) (fun _ => ?_))

set_option maxRecDepth 100000 in
theorem gammon_means_of_B_le {rec_gammon_means_of1 rec_gammon_means_of2 : List ((Int × Int × Int × Int × Int × Int) × Int) → List Int → Option (Int × List ((Int × Int × Int × Int × Int × Int) × Int))} (h_rec_gammon_means_of : ∀ a0 a1, Le (rec_gammon_means_of1 a0 a1) (rec_gammon_means_of2 a0 a1)) (m1 : List ((Int × Int × Int × Int × Int × Int) × Int)) (h1 : List Int) : Le (gammon_means_of_B rec_gammon_means_of1 m1 h1) (gammon_means_of_B rec_gammon_means_of2 m1 h1) := by
  unfold gammon_means_of_B
  repeat' (first | with_reducible exact Le.refl _ | with_reducible exact h_rec_gammon_means_of _ _ | with_reducible exact gammon_means_of_J1_le_gammon_means_of h_rec_gammon_means_of _ _ | with_reducible refine Le.asrt ?_ | with_reducible refine Le.ite ?_ ?_ | refine Le.bind ?_ (fun _ => ?_) | refine Le.loop2 (fun _ => ?_) | refine Le.elim2 (fun _ => ?_) (fun _ => ?_))

set_option maxRecDepth 100000 in
theorem gammon_means_of_mF_le : ∀ (n : Nat) (m1 : List ((Int × Int × Int × Int × Int × Int) × Int)) (h1 : List Int), Le (gammon_means_of_mF n m1 h1) (gammon_means_of_mF (n + 1) m1 h1)
  | 0, _, _ => fun _ h => by cases h
  | n + 1, _, _ => gammon_means_of_B_le (fun a0 a1 => gammon_means_of_mF_le n a0 a1) _ _

set_option maxRecDepth 100000 in
theorem gammon_means_of_m_of (N : Nat) (m1 : List ((Int × Int × Int × Int × Int × Int) × Int)) (h1 : List Int) {r : (Int × List ((Int × Int × Int × Int × Int × Int) × Int))} (h : gammon_means_of_mF N m1 h1 = some r) : gammon_means_of_m m1 h1 = some r :=
  recM_mono (fun n => gammon_means_of_mF_le n _ _) h

noncomputable def gammon_Rolls_J5  (men1 : List Int) (h1 : List Int) (left1 : Int) (z1 : Int) : Option (St (List Int × Int × Int) (Fl (List Int) (Int × Int × Int))) :=
  some (.next ((h1.set (Int.toNat z1) (geti men1 z1)), (w64 (left1 - (geti men1 z1))), (w64 (z1 + 1))))

noncomputable def gammon_Rolls_J6  (men1 : List Int) (h1 : List Int) (left1 : Int) (z1 : Int) : Option (St (List Int × Int × Int) (Fl (List Int) (Int × Int × Int))) :=
  asrt (0 ≤ z1 ∧ z1 < 6) <| asrt (z1 < (h1.length : Int)) <| (gammon_Rolls_J5 men1 h1 left1 z1)

noncomputable def gammon_Rolls_J4  (men1 : List Int) (h1 : List Int) (left1 : Int) (z1 : Int) : Option (St (List Int × Int × Int) (Fl (List Int) (Int × Int × Int))) :=
  asrt (0 ≤ z1 ∧ z1 < (men1.length : Int)) <| if (decide (left1 < (geti men1 z1))) then (some (.done (.ret (0, 0, 11)))) else ((gammon_Rolls_J6 men1 h1 left1 z1))

noncomputable def gammon_Rolls_J8  (a1 : Int) (b1 : Int) : Option (St (Int × Int) Int) :=
  asrt (b1 ≠ (0 : Int)) <| some (.next (b1, (Int.tmod a1 b1)))

noncomputable def gammon_Rolls_L2  : (Int × Int) → Option (St (Int × Int) Int) :=
  fun (x : (Int × Int)) => match x with | (a1, b1) => if (b1 != 0) then ((gammon_Rolls_J8 a1 b1)) else (some (.done a1))

noncomputable def gammon_Rolls_J7  (r2 : (Int × List ((Int × Int × Int × Int × Int × Int) × Int))) (a2 : Int) : Option (Int × Int × Int) :=
  asrt (a2 ≠ (0 : Int)) <| asrt (a2 ≠ (0 : Int)) <| some ((w64 (Int.tdiv r2.1 a2)), (w64 (Int.tdiv 78364164096 a2)), 0)

noncomputable def gammon_Rolls_K2  (r2 : (Int × List ((Int × Int × Int × Int × Int × Int) × Int))) : Int → Option (Int × Int × Int) :=
  fun (x : Int) => match x with | a2 => (gammon_Rolls_J7 r2) a2

noncomputable def gammon_Rolls_J3  (h2 : List Int) : Option (Int × Int × Int) :=
  (gammon_means_of_m ([] : List ((Int × Int × Int × Int × Int × Int) × Int)) h2).bind fun r2 => (loop gammon_Rolls_L2 (r2.1, 78364164096)).bind (gammon_Rolls_K2 r2)

noncomputable def gammon_Rolls_K1  : (Fl (List Int) (Int × Int × Int)) → Option (Int × Int × Int) :=
  fun (x : (Fl (List Int) (Int × Int × Int))) => match x with | .go h2 => gammon_Rolls_J3 h2 | .ret x => some x

noncomputable def gammon_Rolls_L1  (men1 : List Int) : (List Int × Int × Int) → Option (St (List Int × Int × Int) (Fl (List Int) (Int × Int × Int))) :=
  fun (x : (List Int × Int × Int)) => match x with | (h1, left1, z1) => if (decide (z1 < (men1.length : Int))) then ((gammon_Rolls_J4 men1 h1 left1 z1)) else (some (.done (.go h1)))

noncomputable def gammon_Rolls_J2  (men1 : List Int) : Option (Int × Int × Int) :=
  (loop (gammon_Rolls_L1 men1) ((List.replicate 6 (0 : Int)), 3, 0)).bind gammon_Rolls_K1

noncomputable def gammon_Rolls_J1  (men1 : List Int) : Option (Int × Int × Int) :=
  (slices_ContainsFunc_m men1).bind fun r1 => if r1 then (some (0, 0, 3)) else ((gammon_Rolls_J2 men1))

noncomputable def gammon_Rolls_m  (men1 : List Int) : Option (Int × Int × Int) :=
  if (decide ((6 : Int) < (men1.length : Int))) then (some (0, 0, 2)) else ((gammon_Rolls_J1 men1))

set_option maxRecDepth 100000 in
set_option maxHeartbeats 4000000 in
theorem gammon_Rolls_w {A1 : Option Addr} {c1 : Nat} {n1 : Nat} {men1 : List Int} {r : (Int × Int × Int)} {w0 w : World} {B : Nat} {fs : List HP} (hm : gammon_Rolls_m men1 = some r) (hS : Sep w0 B w (fs)) (hr_men1 : RdF w0 B fs A1 (vI men1)) (_hc_men1 : men1.length ≤ c1) (_hn_men1 : n1 = men1.length) :
    Calls Try.prog 37 #[.slice A1 n1 c1] w fun e w' => e = .returned (.tuple #[.int .i64 r.1, .int .i64 r.2.1, .int .i64 r.2.2]) ∧ Sep w0 B w' (fs) := by
  obtain ⟨i3, hi3, hz3, hs3, hb3⟩ := info_parts Info3
  obtain rfl := _hn_men1
  unfold gammon_Rolls_m at hm
  replace hm := start_b hm
  refine enter (l := [.slice A1 men1.length c1]) (n := 52) Try.func37 rfl rfl (by simp) (fun a hF => ?_)
  refine reg [] [] [0] [pl 0 (.slice A1 men1.length c1)] hF hS Fol (by kernel_rfl) (by kernel_rfl) (by kernel_rfl) ?_ (fun a w hF hS => ?_)
  · exact obs_nil
  refine seqR ?_
  refine at_do (d := 5) (s := vS (Instr.alloc 133 true (.tuple #[]))) (v := .pointer (some ⟨w.heap.size, 0, none⟩)) (w' := w.alloc (.cells (List.toArray (([] : List Value) ++ (arr1 (Value.int .i64) (0 : Int) 6 (List.replicate 6 (0 : Int)) ++ ([] : List Value)))) 133)) hF (by kernel_rfl) (by kernel_rfl) (by kernel_rfl) (fun a hF => ?_)
  have hS : Sep w0 B (w.alloc (.cells (List.toArray (([] : List Value) ++ (arr1 (Value.int .i64) (0 : Int) 6 (List.replicate 6 (0 : Int)) ++ ([] : List Value)))) 133)) (blk w.heap.size 133 (List.toArray (([] : List Value) ++ (arr1 (Value.int .i64) (0 : Int) 6 (List.replicate 6 (0 : Int)) ++ ([] : List Value)))) :: (fs)) := hS.box 133 (List.toArray (([] : List Value) ++ (arr1 (Value.int .i64) (0 : Int) 6 (List.replicate 6 (0 : Int)) ++ ([] : List Value))))
  generalize w.heap.size = g1 at hF hS
  generalize w.alloc (.cells (List.toArray (([] : List Value) ++ (arr1 (Value.int .i64) (0 : Int) 6 (List.replicate 6 (0 : Int)) ++ ([] : List Value)))) 133) = w at hS ⊢
  refine at_end [0, 5] [pl 0 (.slice A1 men1.length c1), pl 5 (.pointer (some ⟨g1, 0, none⟩))] hF rfl (by kernel_rfl) (fun hF => ?_)
  refine then_n ?_
  refine seq_cut (fun a w => Fr 52 [pl 0 (.slice A1 men1.length c1), pl 5 (.pointer (some ⟨g1, 0, none⟩))] a ∧ Sep w0 B w (blk g1 133 (List.toArray (([] : List Value) ++ (arr1 (Value.int .i64) (0 : Int) 6 (List.replicate 6 (0 : Int)) ++ ([] : List Value)))) :: fs) ∧ ((gammon_Rolls_J1 men1)).bind some = some r) ?_ ?_
  · rintro a w ⟨hF, hS, hm⟩
    unfold gammon_Rolls_J1 at hm
    refine seq_cut (fun a w => Fr 52 [pl 0 (.slice A1 men1.length c1), pl 5 (.pointer (some ⟨g1, 0, none⟩))] a ∧ Sep w0 B w (blk g1 133 (List.toArray (([] : List Value) ++ (arr1 (Value.int .i64) (0 : Int) 6 (List.replicate 6 (0 : Int)) ++ ([] : List Value)))) :: fs) ∧ ((gammon_Rolls_J2 men1)).bind some = some r) ?_ ?_
    · rintro a w ⟨hF, hS, hm⟩
      unfold gammon_Rolls_J2 at hm
      refine reg [] [] [0, 5, 6] [pl 0 (.slice A1 men1.length c1), pl 5 (.pointer (some ⟨g1, 0, none⟩)), pl 6 (.int .i64 3)] hF hS Fol (by kernel_rfl) (by kernel_rfl) (by kernel_rfl) ?_ (fun a w hF hS => ?_)
      · exact obs_nil
      refine seq_cut (fun a w => ∃ (h2 : List Int), Fr 52 [pl 5 (.pointer (some ⟨g1, 0, none⟩))] a ∧ Sep w0 B w (blk g1 133 (List.toArray (([] : List Value) ++ (arr1 (Value.int .i64) (0 : Int) 6 h2 ++ ([] : List Value)))) :: fs) ∧ (gammon_Rolls_J3 h2).bind some = some r) ?_ ?_
      · rintro a w ⟨h2, hF, hS, hm⟩
        unfold gammon_Rolls_J3 at hm
        refine seqR ?_
        obtain ⟨r2, hr2, hm⟩ := call_b hm
        refine at_do (d := 35) (s := vS (Instr.makeMap 136 none)) (v := .map (some w.heap.size)) (w' := w.alloc (.map #[] 0)) hF (by kernel_rfl) (by kernel_rfl) (by kernel_rfl) (fun a hF => ?_)
        have hS : Sep w0 B (w.alloc (.map #[] 0)) (mapH kf133 (Value.int .i64) w.heap.size ([] : List ((Int × Int × Int × Int × Int × Int) × Int)) :: (blk g1 133 (List.toArray (([] : List Value) ++ (arr1 (Value.int .i64) (0 : Int) 6 h2 ++ ([] : List Value)))) :: fs)) := hS.mapNew _ _
        generalize w.heap.size = g2 at hF hS
        generalize w.alloc (.map #[] 0) = w at hS ⊢
        refine at_run 1 [⟨false, [], vS (Instr.loadAt 133 (.pointer (some ⟨g1, 0, none⟩))), .agg (List.toArray (([] : List Value) ++ (arr1 (Value.int .i64) (0 : Int) 6 h2 ++ ([] : List Value))))⟩] [some (.agg (List.toArray (([] : List Value) ++ (arr1 (Value.int .i64) (0 : Int) 6 h2 ++ ([] : List Value)))))] [35, 36] [pl 35 (.map (some g2)), pl 36 (.agg (List.toArray (([] : List Value) ++ (arr1 (Value.int .i64) (0 : Int) 6 h2 ++ ([] : List Value)))))] hF hS (by kernel_rfl) (by kernel_rfl) ?_ (fun a w hF hS => ?_)
        · exact obs_cons (ob_loadA (cs := (List.toArray (([] : List Value) ++ (arr1 (Value.int .i64) (0 : Int) 6 h2 ++ ([] : List Value))))) (by kernel_rfl) (by kernel_rfl) (fun _ _ hS => (hS.at_ 1 rfl).cellsAt 0 (by rfl))) <| obs_nil
        refine at_call (f := 96) (args := #[.map (some g2), .agg (List.toArray (([] : List Value) ++ (arr1 (Value.int .i64) (0 : Int) 6 h2 ++ ([] : List Value))))]) (d := 37) hF (by kernel_rfl) (by kernel_rfl) Try.func96 (by kernel_rfl) rfl (gammon_means_of_w hr2 hS ) (fun v a w hR hF => ?_)
        clear hS
        obtain ⟨rfl, hS⟩ := hR
        have hS : Sep w0 B w (mapH kf133 (Value.int .i64) g2 r2.2 :: blk g1 133 (List.toArray (([] : List Value) ++ (arr1 (Value.int .i64) (0 : Int) 6 h2 ++ ([] : List Value)))) :: fs) := hS
        refine at_run 2 [] [] [9, 10] [pl 9 (.int .i64 r2.1), pl 10 (.int .i64 78364164096)] hF hS (by kernel_rfl) (by kernel_rfl) ?_ (fun a w hF hS => ?_)
        · exact obs_nil
        refine at_end [9, 10] [pl 9 (.int .i64 r2.1), pl 10 (.int .i64 78364164096)] hF rfl (by kernel_rfl) (fun hF => ?_)
        refine then_n ?_
        refine reg [] [] [9, 10, 11, 12] [pl 9 (.int .i64 r2.1), pl 10 (.int .i64 78364164096), pl 11 (.int .i64 r2.1), pl 12 (.int .i64 78364164096)] hF hS Fol (by kernel_rfl) (by kernel_rfl) (by kernel_rfl) ?_ (fun a w hF hS => ?_)
        · exact obs_nil
        refine seq_cut (fun a w => ∃ (a2 : Int), Fr 52 [pl 9 (.int .i64 r2.1), pl 10 (.int .i64 78364164096), pl 11 (.int .i64 a2)] a ∧ Sep w0 B w (fs) ∧ ((gammon_Rolls_J7 r2) a2).bind some = some r) ?_ ?_
        · rintro a w ⟨a2, hF, hS, hm⟩
          unfold gammon_Rolls_J7 at hm
          obtain ⟨hp5, hm⟩ := asrt_b hm
          obtain ⟨hp6, hm⟩ := asrt_b hm
          refine reg [⟨true, [], vS (Op.intDiv .quo .i64 r2.1 a2), .int .i64 (w64 (Int.tdiv r2.1 a2))⟩, ⟨true, [], vS (Op.intDiv .quo .i64 78364164096 a2), .int .i64 (w64 (Int.tdiv 78364164096 a2))⟩] [none, none, some (.int .i64 (w64 (Int.tdiv r2.1 a2))), none, none, some (.int .i64 (w64 (Int.tdiv 78364164096 a2))), none, none, none] [2, 3, 4] [pl 2 (.int .i64 (w64 (Int.tdiv r2.1 a2))), pl 3 (.int .i64 (w64 (Int.tdiv 78364164096 a2))), pl 4 (.int .i64 0)] hF hS Fol (by kernel_rfl) (by kernel_rfl) (by kernel_rfl) ?_ (fun a w hF hS => ?_)
          · exact obs_cons (ob_quo rfl (fun _ => hp5)) <| obs_cons (ob_quo rfl (fun _ => hp6)) <| obs_nil
          refine wpIn_ret ?_
          have hm : some ((w64 (Int.tdiv r2.1 a2)), (w64 (Int.tdiv 78364164096 a2)), 0) = some r := hm
          obtain rfl := Option.some.inj hm
          exact retV (rs := [.tmp 2, .tmp 3, .tmp 4]) (vs := [.int .i64 (w64 (Int.tdiv r2.1 a2)), .int .i64 (w64 (Int.tdiv 78364164096 a2)), .int .i64 0]) hF rfl (rv_t (by kernel_rfl) <| rv_t (by kernel_rfl) <| rv_t (by kernel_rfl) <| rv_nil) rfl ⟨rfl, hS⟩
        · refine wpIn_block ?_
          have hS := hS.pickN 2 [] (by decide)
          refine wp_loop_model (S := (Int × Int)) (R := Int) gammon_Rolls_L2 (fun x => ((gammon_Rolls_K2 r2) x).bind some) r (fun (x : (Int × Int)) a w => Fr 52 [pl 9 (.int .i64 r2.1), pl 10 (.int .i64 78364164096), pl 11 (.int .i64 x.1), pl 12 (.int .i64 x.2)] a ∧ Sep w0 B w (fs)) (assoc_b hm) ⟨hF.weak [9, 10, 11, 12] (by kernel_rfl), hS⟩ ?_
          clear hF hS hm
          rintro nn2 ⟨a1, b1⟩ a w ⟨hF, hS⟩ hm
          generalize hφ2 : stK gammon_Rolls_L2 nn2 (fun x => ((gammon_Rolls_K2 r2) x).bind some) = φ2 at hm
          unfold gammon_Rolls_L2 at hm
          dsimp only at hF hS hm
          refine seq_cut (fun a w => Fr 52 [pl 9 (.int .i64 r2.1), pl 10 (.int .i64 78364164096), pl 11 (.int .i64 a1), pl 12 (.int .i64 b1)] a ∧ Sep w0 B w (fs) ∧ ((gammon_Rolls_J8 a1 b1)).bind φ2 = some r) ?_ ?_
          · rintro a w ⟨hF, hS, hm⟩
            unfold gammon_Rolls_J8 at hm
            refine wpIn_block ?_
            obtain ⟨hp4, hm⟩ := asrt_b hm
            refine reg1 [⟨true, [], vS (Op.intDiv .rem .i64 a1 b1), .int .i64 (Int.tmod a1 b1)⟩] [none, none, none, some (.int .i64 (Int.tmod a1 b1)), none, none] [9, 10, 11, 12] [pl 9 (.int .i64 r2.1), pl 10 (.int .i64 78364164096), pl 11 (.int .i64 b1), pl 12 (.int .i64 (Int.tmod a1 b1))] hF hS Fol (by kernel_rfl) (by kernel_rfl) (by kernel_rfl) ?_ (fun a w hF hS => ?_)
            · exact obs_cons (ob_rem rfl (fun _ => hp4)) <| obs_nil
            refine block_n ?_
            refine then_n ?_
            rw [← hφ2] at hm
            exact ⟨(b1, (Int.tmod a1 b1)), ⟨hF.weak [9, 10, 11, 12] (by kernel_rfl), hS⟩, hm⟩
          · refine reg [] [] [9, 10, 11, 12, 41] [pl 9 (.int .i64 r2.1), pl 10 (.int .i64 78364164096), pl 11 (.int .i64 a1), pl 12 (.int .i64 b1), pl 41 (.bool (b1 != 0))] hF hS Fol (by kernel_rfl) (by kernel_rfl) (by kernel_rfl) ?_ (fun a w hF hS => ?_)
            · exact obs_nil
            refine cond_ev (t := 41) (b := (b1 != 0)) hF (by kernel_rfl) (fun hb => ?_) (fun hb => ?_)
            · replace hm := if_t hm hb
              refine wpIn_skip ?_
              refine then_n ?_
              exact ⟨hF.weak [9, 10, 11, 12] (by kernel_rfl), hS, hm⟩
            · replace hm := if_f hm hb
              refine wpIn_exit ?_
              refine then_e (then_e (block_e (then_n ?_)))
              rw [← hφ2] at hm
              replace hm := done_b hm
              unfold gammon_Rolls_K2 at hm
              try dsimp only at hm
              have hm : ((gammon_Rolls_J7 r2) a1).bind some = some r := hm
              exact ⟨a1, hF.weak [9, 10, 11] (by kernel_rfl), hS, hm⟩
      · refine reg [] [] [5, 6, 18, 19, 20] [pl 5 (.pointer (some ⟨g1, 0, none⟩)), pl 6 (.int .i64 3), pl 18 (.slice A1 men1.length c1), pl 19 (.int .i64 (men1.length : Int)), pl 20 (.int .i64 0)] hF hS Fol (by kernel_rfl) (by kernel_rfl) (by kernel_rfl) ?_ (fun a w hF hS => ?_)
        · exact obs_nil
        refine wpIn_block ?_
        refine wp_loop_model (S := (List Int × Int × Int)) (R := (Fl (List Int) (Int × Int × Int))) (gammon_Rolls_L1 men1) (fun x => (gammon_Rolls_K1 x).bind some) r (fun (x : (List Int × Int × Int)) a w => Fr 52 [pl 5 (.pointer (some ⟨g1, 0, none⟩)), pl 6 (.int .i64 x.2.1), pl 18 (.slice A1 men1.length c1), pl 19 (.int .i64 (men1.length : Int)), pl 20 (.int .i64 x.2.2)] a ∧ Sep w0 B w (blk g1 133 (List.toArray (([] : List Value) ++ (arr1 (Value.int .i64) (0 : Int) 6 x.1 ++ ([] : List Value)))) :: fs)) (assoc_b hm) ⟨hF.weak [5, 6, 18, 19, 20] (by kernel_rfl), hS⟩ ?_
        clear hF hS hm
        rintro nn1 ⟨h1, left1, z1⟩ a w ⟨hF, hS⟩ hm
        generalize hφ1 : stK (gammon_Rolls_L1 men1) nn1 (fun x => (gammon_Rolls_K1 x).bind some) = φ1 at hm
        unfold gammon_Rolls_L1 at hm
        dsimp only at hF hS hm
        refine reg [] [] [5, 6, 18, 19, 20, 21] [pl 5 (.pointer (some ⟨g1, 0, none⟩)), pl 6 (.int .i64 left1), pl 18 (.slice A1 men1.length c1), pl 19 (.int .i64 (men1.length : Int)), pl 20 (.int .i64 z1), pl 21 (.bool (decide (z1 < (men1.length : Int))))] hF hS Fol (by kernel_rfl) (by kernel_rfl) (by kernel_rfl) ?_ (fun a w hF hS => ?_)
        · exact obs_nil
        refine seq_cut (fun a w => Fr 52 [pl 5 (.pointer (some ⟨g1, 0, none⟩)), pl 6 (.int .i64 left1), pl 18 (.slice A1 men1.length c1), pl 19 (.int .i64 (men1.length : Int)), pl 20 (.int .i64 z1)] a ∧ Sep w0 B w (blk g1 133 (List.toArray (([] : List Value) ++ (arr1 (Value.int .i64) (0 : Int) 6 h1 ++ ([] : List Value)))) :: fs) ∧ ((gammon_Rolls_J4 men1 h1 left1 z1)).bind φ1 = some r) ?_ ?_
        · rintro a w ⟨hF, hS, hm⟩
          unfold gammon_Rolls_J4 at hm
          refine seq_cut (fun a w => Fr 52 [pl 5 (.pointer (some ⟨g1, 0, none⟩)), pl 6 (.int .i64 (w64 (left1 - (geti men1 z1)))), pl 18 (.slice A1 men1.length c1), pl 19 (.int .i64 (men1.length : Int)), pl 20 (.int .i64 z1)] a ∧ Sep w0 B w (blk g1 133 (List.toArray (([] : List Value) ++ (arr1 (Value.int .i64) (0 : Int) 6 (h1.set (Int.toNat z1) (geti men1 z1)) ++ ([] : List Value)))) :: fs) ∧ ((gammon_Rolls_J5 men1 h1 left1 z1)).bind φ1 = some r) ?_ ?_
          · rintro a w ⟨hF, hS, hm⟩
            unfold gammon_Rolls_J5 at hm
            refine reg1 [] [] [5, 6, 18, 19, 20] [pl 5 (.pointer (some ⟨g1, 0, none⟩)), pl 6 (.int .i64 (w64 (left1 - (geti men1 z1)))), pl 18 (.slice A1 men1.length c1), pl 19 (.int .i64 (men1.length : Int)), pl 20 (.int .i64 (w64 (z1 + 1)))] hF hS Fol (by kernel_rfl) (by kernel_rfl) (by kernel_rfl) ?_ (fun a w hF hS => ?_)
            · exact obs_nil
            refine then_n ?_
            rw [← hφ1] at hm
            exact ⟨((h1.set (Int.toNat z1) (geti men1 z1)), (w64 (left1 - (geti men1 z1))), (w64 (z1 + 1))), ⟨hF.weak [5, 6, 18, 19, 20] (by kernel_rfl), hS⟩, hm⟩
          · refine wpIn_block ?_
            obtain ⟨hp1, hm⟩ := asrt_b hm
            refine reg [⟨true, [], vS (Instr.indexAt 40 (.slice A1 men1.length c1) (.int .i64 z1)), .pointer (some (sAddr A1 z1))⟩, ⟨false, [], vS (Instr.loadAt 3 (.pointer (some (sAddr A1 z1)))), .int .i64 (geti men1 z1)⟩] [none, some (.pointer (some (sAddr A1 z1))), some (.int .i64 (geti men1 z1)), none, none] [5, 6, 7, 8, 18, 19, 20] [pl 5 (.pointer (some ⟨g1, 0, none⟩)), pl 6 (.int .i64 left1), pl 7 (.int .i64 z1), pl 8 (.int .i64 (geti men1 z1)), pl 18 (.slice A1 men1.length c1), pl 19 (.int .i64 (men1.length : Int)), pl 20 (.int .i64 z1)] hF hS Fol (by kernel_rfl) (by kernel_rfl) (by kernel_rfl) ?_ (fun a w hF hS => ?_)
            · exact obs_cons (ob_ix1 (f := (Value.int .i64)) (m := men1) Und40 hi3 hs3 (hr_men1 _ (hS.dropN 1)) rfl (fun _ => hp1)) <| obs_cons (ob_get1 (n := men1.length) (m := men1) (Value.int .i64) (0 : Int) Agg3 (fun _ hS => ⟨_, (hr_men1 _ (hS.dropN 1))⟩) (fun _ hS => rfl) (fun _ => hp1)) <| obs_nil
            refine seq_cut (fun a w => Fr 52 [pl 5 (.pointer (some ⟨g1, 0, none⟩)), pl 6 (.int .i64 left1), pl 7 (.int .i64 z1), pl 8 (.int .i64 (geti men1 z1)), pl 18 (.slice A1 men1.length c1), pl 19 (.int .i64 (men1.length : Int)), pl 20 (.int .i64 z1)] a ∧ Sep w0 B w (blk g1 133 (List.toArray (([] : List Value) ++ (arr1 (Value.int .i64) (0 : Int) 6 h1 ++ ([] : List Value)))) :: fs) ∧ ((gammon_Rolls_J6 men1 h1 left1 z1)).bind φ1 = some r) ?_ ?_
            · rintro a w ⟨hF, hS, hm⟩
              unfold gammon_Rolls_J6 at hm
              refine reg [] [] [5, 6, 7, 8, 18, 19, 20] [pl 5 (.pointer (some ⟨g1, 0, none⟩)), pl 6 (.int .i64 (w64 (left1 - (geti men1 z1)))), pl 7 (.int .i64 z1), pl 8 (.int .i64 (geti men1 z1)), pl 18 (.slice A1 men1.length c1), pl 19 (.int .i64 (men1.length : Int)), pl 20 (.int .i64 z1)] hF hS Fol (by kernel_rfl) (by kernel_rfl) (by kernel_rfl) ?_ (fun a w hF hS => ?_)
              · exact obs_nil
              refine oneR ?_
              obtain ⟨hp2, hm⟩ := asrt_b hm
              obtain ⟨hp3, hm⟩ := asrt_b hm
              refine at_run 3 [⟨true, [], vS (Instr.indexAt 133 (.pointer (some ⟨g1, 0, none⟩)) (.int .i64 z1)), .pointer (some ((⟨g1, 0, none⟩ : Addr).add (Int.toNat z1 * 1)))⟩] [none, none, some (.pointer (some ((⟨g1, 0, none⟩ : Addr).add (Int.toNat z1 * 1))))] [5, 6, 18, 19, 20, 32, 33] [pl 5 (.pointer (some ⟨g1, 0, none⟩)), pl 6 (.int .i64 (w64 (left1 - (geti men1 z1)))), pl 18 (.slice A1 men1.length c1), pl 19 (.int .i64 (men1.length : Int)), pl 20 (.int .i64 z1), pl 32 (.int .i64 (geti men1 z1)), pl 33 (.pointer (some ((⟨g1, 0, none⟩ : Addr).add (Int.toNat z1 * 1))))] hF hS (by kernel_rfl) (by kernel_rfl) ?_ (fun a w hF hS => ?_)
              · exact obs_cons (ob_ixA UndA133 hi3 hs3 (fun _ => hp2)) <| obs_nil
              obtain ⟨w, hrun, hS⟩ := run_setA (P := Try.prog) (t := 3) (x := (geti men1 z1)) (i := z1) (m := h1) (d := Int.toNat z1 * 1) (Value.int .i64) (0 : Int) 6 ([] : List Value) ([] : List Value) (hS.at_ 0 rfl) rfl hi3 hs3 rfl (by have h0 := hp2; omega) (by have h0 := hp2; have h9 := hp3; omega)
              refine at_skip hF (by kernel_rfl) hrun ?_
              have hS : Sep w0 B w (blk g1 133 (List.toArray (([] : List Value) ++ (arr1 (Value.int .i64) (0 : Int) 6 (h1.set (Int.toNat z1) (geti men1 z1)) ++ ([] : List Value)))) :: fs) := hS
              refine at_end [5, 6, 18, 19, 20] [pl 5 (.pointer (some ⟨g1, 0, none⟩)), pl 6 (.int .i64 (w64 (left1 - (geti men1 z1)))), pl 18 (.slice A1 men1.length c1), pl 19 (.int .i64 (men1.length : Int)), pl 20 (.int .i64 z1)] hF rfl (by kernel_rfl) (fun hF => ?_)
              refine block_n ?_
              refine then_n ?_
              exact ⟨hF.weak [5, 6, 18, 19, 20] (by kernel_rfl), hS, hm⟩
            · refine reg [] [] [5, 6, 7, 8, 18, 19, 20, 27] [pl 5 (.pointer (some ⟨g1, 0, none⟩)), pl 6 (.int .i64 left1), pl 7 (.int .i64 z1), pl 8 (.int .i64 (geti men1 z1)), pl 18 (.slice A1 men1.length c1), pl 19 (.int .i64 (men1.length : Int)), pl 20 (.int .i64 z1), pl 27 (.bool (decide (left1 < (geti men1 z1))))] hF hS Fol (by kernel_rfl) (by kernel_rfl) (by kernel_rfl) ?_ (fun a w hF hS => ?_)
              · exact obs_nil
              refine cond_ev (t := 27) (b := decide (left1 < (geti men1 z1))) hF (by kernel_rfl) (fun hb => ?_) (fun hb => ?_)
              · replace hm := if_t hm hb
                refine reg [] [] [2, 3, 4] [pl 2 (.int .i64 0), pl 3 (.int .i64 0), pl 4 (.int .i64 11)] hF hS Fol (by kernel_rfl) (by kernel_rfl) (by kernel_rfl) ?_ (fun a w hF hS => ?_)
                · exact obs_nil
                refine wpIn_ret ?_
                refine then_r (block_r (then_r (then_r (block_r (then_r ?_)))))
                rw [← hφ1] at hm
                replace hm := done_b hm
                unfold gammon_Rolls_K1 at hm
                try dsimp only at hm
                have hS := hS.pickN 1 [] (by decide)
                have hm : some (0, 0, 11) = some r := hm
                obtain rfl := Option.some.inj hm
                exact retV (rs := [.tmp 2, .tmp 3, .tmp 4]) (vs := [.int .i64 0, .int .i64 0, .int .i64 11]) hF rfl (rv_t (by kernel_rfl) <| rv_t (by kernel_rfl) <| rv_t (by kernel_rfl) <| rv_nil) rfl ⟨rfl, hS⟩
              · replace hm := if_f hm hb
                refine wpIn_skip ?_
                refine then_n ?_
                exact ⟨hF.weak [5, 6, 7, 8, 18, 19, 20] (by kernel_rfl), hS, hm⟩
        · refine cond_ev (t := 21) (b := decide (z1 < (men1.length : Int))) hF (by kernel_rfl) (fun hb => ?_) (fun hb => ?_)
          · replace hm := if_t hm hb
            refine wpIn_skip ?_
            refine then_n ?_
            exact ⟨hF.weak [5, 6, 18, 19, 20] (by kernel_rfl), hS, hm⟩
          · replace hm := if_f hm hb
            refine wpIn_exit ?_
            refine then_e (then_e (block_e (then_n ?_)))
            rw [← hφ1] at hm
            replace hm := done_b hm
            unfold gammon_Rolls_K1 at hm
            try dsimp only at hm
            have hm : (gammon_Rolls_J3 h1).bind some = some r := hm
            exact ⟨h1, hF.weak [5] (by kernel_rfl), hS, hm⟩
    · obtain ⟨r1, hr1, hm⟩ := call_b hm
      refine reg [⟨false, [], callFunc 94 #[.slice A1 men1.length c1, .func (.func 95) #[] #[]], .bool r1⟩] [none, some (.bool r1)] [0, 5, 17] [pl 0 (.slice A1 men1.length c1), pl 5 (.pointer (some ⟨g1, 0, none⟩)), pl 17 (.bool r1)] hF hS Fol (by kernel_rfl) (by kernel_rfl) (by kernel_rfl) ?_ (fun a w hF hS => ?_)
      · exact obs_cons (ob_call Try.func94 (by kernel_rfl) rfl (fun _ _ hS => slices_ContainsFunc_w hr1 hS (fun _ hS => (hr_men1 _ (hS.dropN 1))) _hc_men1 rfl)) <| obs_nil
      refine cond_ev (t := 17) (b := r1) hF (by kernel_rfl) (fun hb => ?_) (fun hb => ?_)
      · replace hm := if_t hm hb
        refine reg [] [] [2, 3, 4] [pl 2 (.int .i64 0), pl 3 (.int .i64 0), pl 4 (.int .i64 3)] hF hS Fol (by kernel_rfl) (by kernel_rfl) (by kernel_rfl) ?_ (fun a w hF hS => ?_)
        · exact obs_nil
        refine wpIn_ret ?_
        refine then_r ?_
        have hS := hS.pickN 1 [] (by decide)
        have hm : some (0, 0, 3) = some r := hm
        obtain rfl := Option.some.inj hm
        exact retV (rs := [.tmp 2, .tmp 3, .tmp 4]) (vs := [.int .i64 0, .int .i64 0, .int .i64 3]) hF rfl (rv_t (by kernel_rfl) <| rv_t (by kernel_rfl) <| rv_t (by kernel_rfl) <| rv_nil) rfl ⟨rfl, hS⟩
      · replace hm := if_f hm hb
        refine wpIn_skip ?_
        refine then_n ?_
        exact ⟨hF.weak [0, 5] (by kernel_rfl), hS, hm⟩
  · refine reg [] [] [0, 5, 15] [pl 0 (.slice A1 men1.length c1), pl 5 (.pointer (some ⟨g1, 0, none⟩)), pl 15 (.bool (decide ((6 : Int) < (men1.length : Int))))] hF hS Fol (by kernel_rfl) (by kernel_rfl) (by kernel_rfl) ?_ (fun a w hF hS => ?_)
    · exact obs_nil
    refine cond_ev (t := 15) (b := decide ((6 : Int) < (men1.length : Int))) hF (by kernel_rfl) (fun hb => ?_) (fun hb => ?_)
    · replace hm := if_t hm hb
      refine reg [] [] [2, 3, 4] [pl 2 (.int .i64 0), pl 3 (.int .i64 0), pl 4 (.int .i64 2)] hF hS Fol (by kernel_rfl) (by kernel_rfl) (by kernel_rfl) ?_ (fun a w hF hS => ?_)
      · exact obs_nil
      refine wpIn_ret ?_
      refine then_r ?_
      have hS := hS.pickN 1 [] (by decide)
      have hm : some (0, 0, 2) = some r := hm
      obtain rfl := Option.some.inj hm
      exact retV (rs := [.tmp 2, .tmp 3, .tmp 4]) (vs := [.int .i64 0, .int .i64 0, .int .i64 2]) hF rfl (rv_t (by kernel_rfl) <| rv_t (by kernel_rfl) <| rv_t (by kernel_rfl) <| rv_nil) rfl ⟨rfl, hS⟩
    · replace hm := if_f hm hb
      refine wpIn_skip ?_
      refine then_n ?_
      exact ⟨hF.weak [0, 5] (by kernel_rfl), hS, hm⟩

noncomputable def gameroomref_RollsMay_J4  (i1 : Int) : Option (St Int (Fl Unit Int)) :=
  some (.next (w64 (i1 + 1)))

noncomputable def gameroomref_RollsMay_J3  (men1 : List Int) (i1 : Int) : Option (St Int (Fl Unit Int)) :=
  asrt (0 ≤ i1 ∧ i1 < (men1.length : Int)) <| if (decide ((geti men1 i1) < 0)) then (some (.done (.ret 3))) else ((gameroomref_RollsMay_J4 i1))

noncomputable def gameroomref_RollsMay_J7  (men1 : List Int) (sum1 : Int) (i2 : Int) : Option (St (Int × Int) (Fl Int Int)) :=
  some (.next ((w64 (sum1 + (geti men1 i2))), (w64 (i2 + 1))))

noncomputable def gameroomref_RollsMay_J8  (men1 : List Int) (sum1 : Int) (i2 : Int) : Option (St (Int × Int) (Fl Int Int)) :=
  asrt (0 ≤ i2 ∧ i2 < (men1.length : Int)) <| (gameroomref_RollsMay_J7 men1 sum1 i2)

noncomputable def gameroomref_RollsMay_J6  (men1 : List Int) (sum1 : Int) (i2 : Int) : Option (St (Int × Int) (Fl Int Int)) :=
  asrt (0 ≤ i2 ∧ i2 < (men1.length : Int)) <| if (decide ((3 : Int) < (geti men1 i2))) then (some (.done (.ret 11))) else ((gameroomref_RollsMay_J8 men1 sum1 i2))

noncomputable def gameroomref_RollsMay_L2  (men1 : List Int) : (Int × Int) → Option (St (Int × Int) (Fl Int Int)) :=
  fun (x : (Int × Int)) => match x with | (sum1, i2) => if (decide (i2 < (men1.length : Int))) then ((gameroomref_RollsMay_J6 men1 sum1 i2)) else (some (.done (.go sum1)))

noncomputable def gameroomref_RollsMay_J9  : Option Int :=
  some 0

noncomputable def gameroomref_RollsMay_J5  (sum2 : Int) : Option Int :=
  if (decide ((3 : Int) < sum2)) then (some 11) else (gameroomref_RollsMay_J9)

noncomputable def gameroomref_RollsMay_K2  : (Fl Int Int) → Option Int :=
  fun (x : (Fl Int Int)) => match x with | .go sum2 => gameroomref_RollsMay_J5 sum2 | .ret x => some x

noncomputable def gameroomref_RollsMay_J2  (men1 : List Int) : Option Int :=
  (loop (gameroomref_RollsMay_L2 men1) (0, 0)).bind gameroomref_RollsMay_K2

noncomputable def gameroomref_RollsMay_K1  (men1 : List Int) : (Fl Unit Int) → Option Int :=
  fun (x : (Fl Unit Int)) => match x with | .go _ => (gameroomref_RollsMay_J2 men1) | .ret x => some x

noncomputable def gameroomref_RollsMay_L1  (men1 : List Int) : Int → Option (St Int (Fl Unit Int)) :=
  fun (x : Int) => match x with | i1 => if (decide (i1 < (men1.length : Int))) then ((gameroomref_RollsMay_J3 men1 i1)) else (some (.done (.go ())))

noncomputable def gameroomref_RollsMay_J1  (men1 : List Int) : Option Int :=
  (loop (gameroomref_RollsMay_L1 men1) 0).bind (gameroomref_RollsMay_K1 men1)

noncomputable def gameroomref_RollsMay_m  (men1 : List Int) : Option Int :=
  if (decide ((6 : Int) < (men1.length : Int))) then (some 2) else ((gameroomref_RollsMay_J1 men1))

set_option maxRecDepth 100000 in
set_option maxHeartbeats 4000000 in
theorem gameroomref_RollsMay_w {A1 : Option Addr} {c1 : Nat} {n1 : Nat} {men1 : List Int} {r : Int} {w0 w : World} {B : Nat} {fs : List HP} (hm : gameroomref_RollsMay_m men1 = some r) (hS : Sep w0 B w (fs)) (hr_men1 : RdF w0 B fs A1 (vI men1)) (_hc_men1 : men1.length ≤ c1) (_hn_men1 : n1 = men1.length) :
    Calls Try.prog 38 #[.slice A1 n1 c1] w fun e w' => e = .returned (.int .i64 r) ∧ Sep w0 B w' (fs) := by
  obtain ⟨i3, hi3, hz3, hs3, hb3⟩ := info_parts Info3
  obtain rfl := _hn_men1
  unfold gameroomref_RollsMay_m at hm
  replace hm := start_b hm
  refine enter (l := [.slice A1 men1.length c1]) (n := 39) Try.func38 rfl rfl (by simp) (fun a hF => ?_)
  refine reg [] [] [0] [pl 0 (.slice A1 men1.length c1)] hF hS Fol (by kernel_rfl) (by kernel_rfl) (by kernel_rfl) ?_ (fun a w hF hS => ?_)
  · exact obs_nil
  refine seq_cut (fun a w => Fr 39 [pl 0 (.slice A1 men1.length c1)] a ∧ Sep w0 B w (fs) ∧ ((gameroomref_RollsMay_J1 men1)).bind some = some r) ?_ ?_
  · rintro a w ⟨hF, hS, hm⟩
    unfold gameroomref_RollsMay_J1 at hm
    refine seq_cut (fun a w => Fr 39 [pl 0 (.slice A1 men1.length c1)] a ∧ Sep w0 B w (fs) ∧ ((gameroomref_RollsMay_J2 men1)).bind some = some r) ?_ ?_
    · rintro a w ⟨hF, hS, hm⟩
      unfold gameroomref_RollsMay_J2 at hm
      refine reg [] [] [0, 4] [pl 0 (.slice A1 men1.length c1), pl 4 (.int .i64 0)] hF hS Fol (by kernel_rfl) (by kernel_rfl) (by kernel_rfl) ?_ (fun a w hF hS => ?_)
      · exact obs_nil
      refine seq_cut (fun a w => ∃ (sum2 : Int), Fr 39 [pl 4 (.int .i64 sum2)] a ∧ Sep w0 B w (fs) ∧ (gameroomref_RollsMay_J5 sum2).bind some = some r) ?_ ?_
      · rintro a w ⟨sum2, hF, hS, hm⟩
        unfold gameroomref_RollsMay_J5 at hm
        refine seq_cut (fun a w => Fr 39 [] a ∧ Sep w0 B w (fs) ∧ (gameroomref_RollsMay_J9).bind some = some r) ?_ ?_
        · rintro a w ⟨hF, hS, hm⟩
          unfold gameroomref_RollsMay_J9 at hm
          refine reg [] [] [2] [pl 2 (.int .i64 0)] hF hS Fol (by kernel_rfl) (by kernel_rfl) (by kernel_rfl) ?_ (fun a w hF hS => ?_)
          · exact obs_nil
          refine wpIn_ret ?_
          have hm : some 0 = some r := hm
          obtain rfl := Option.some.inj hm
          exact retV (rs := [.tmp 2]) (vs := [.int .i64 0]) hF rfl (rv_t (by kernel_rfl) <| rv_nil) rfl ⟨rfl, hS⟩
        · refine reg [] [] [38] [pl 38 (.bool (decide ((3 : Int) < sum2)))] hF hS Fol (by kernel_rfl) (by kernel_rfl) (by kernel_rfl) ?_ (fun a w hF hS => ?_)
          · exact obs_nil
          refine cond_ev (t := 38) (b := decide ((3 : Int) < sum2)) hF (by kernel_rfl) (fun hb => ?_) (fun hb => ?_)
          · replace hm := if_t hm hb
            refine reg [] [] [2] [pl 2 (.int .i64 11)] hF hS Fol (by kernel_rfl) (by kernel_rfl) (by kernel_rfl) ?_ (fun a w hF hS => ?_)
            · exact obs_nil
            refine wpIn_ret ?_
            refine then_r ?_
            have hm : some 11 = some r := hm
            obtain rfl := Option.some.inj hm
            exact retV (rs := [.tmp 2]) (vs := [.int .i64 11]) hF rfl (rv_t (by kernel_rfl) <| rv_nil) rfl ⟨rfl, hS⟩
          · replace hm := if_f hm hb
            refine wpIn_skip ?_
            refine then_n ?_
            exact ⟨hF.weak [] (by kernel_rfl), hS, hm⟩
      · refine reg [] [] [0, 4, 5] [pl 0 (.slice A1 men1.length c1), pl 4 (.int .i64 0), pl 5 (.int .i64 0)] hF hS Fol (by kernel_rfl) (by kernel_rfl) (by kernel_rfl) ?_ (fun a w hF hS => ?_)
        · exact obs_nil
        refine wpIn_block ?_
        refine wp_loop_model (S := (Int × Int)) (R := (Fl Int Int)) (gameroomref_RollsMay_L2 men1) (fun x => (gameroomref_RollsMay_K2 x).bind some) r (fun (x : (Int × Int)) a w => Fr 39 [pl 0 (.slice A1 men1.length c1), pl 4 (.int .i64 x.1), pl 5 (.int .i64 x.2)] a ∧ Sep w0 B w (fs)) (assoc_b hm) ⟨hF.weak [0, 4, 5] (by kernel_rfl), hS⟩ ?_
        clear hF hS hm
        rintro nn2 ⟨sum1, i2⟩ a w ⟨hF, hS⟩ hm
        generalize hφ2 : stK (gameroomref_RollsMay_L2 men1) nn2 (fun x => (gameroomref_RollsMay_K2 x).bind some) = φ2 at hm
        unfold gameroomref_RollsMay_L2 at hm
        dsimp only at hF hS hm
        refine seq_cut (fun a w => Fr 39 [pl 0 (.slice A1 men1.length c1), pl 4 (.int .i64 sum1), pl 5 (.int .i64 i2)] a ∧ Sep w0 B w (fs) ∧ ((gameroomref_RollsMay_J6 men1 sum1 i2)).bind φ2 = some r) ?_ ?_
        · rintro a w ⟨hF, hS, hm⟩
          unfold gameroomref_RollsMay_J6 at hm
          refine seq_cut (fun a w => Fr 39 [pl 0 (.slice A1 men1.length c1), pl 4 (.int .i64 (w64 (sum1 + (geti men1 i2)))), pl 5 (.int .i64 i2)] a ∧ Sep w0 B w (fs) ∧ ((gameroomref_RollsMay_J7 men1 sum1 i2)).bind φ2 = some r) ?_ ?_
          · rintro a w ⟨hF, hS, hm⟩
            unfold gameroomref_RollsMay_J7 at hm
            refine reg1 [] [] [0, 4, 5] [pl 0 (.slice A1 men1.length c1), pl 4 (.int .i64 (w64 (sum1 + (geti men1 i2)))), pl 5 (.int .i64 (w64 (i2 + 1)))] hF hS Fol (by kernel_rfl) (by kernel_rfl) (by kernel_rfl) ?_ (fun a w hF hS => ?_)
            · exact obs_nil
            refine then_n ?_
            rw [← hφ2] at hm
            exact ⟨((w64 (sum1 + (geti men1 i2))), (w64 (i2 + 1))), ⟨hF.weak [0, 4, 5] (by kernel_rfl), hS⟩, hm⟩
          · refine wpIn_block ?_
            refine seq_cut (fun a w => Fr 39 [pl 0 (.slice A1 men1.length c1), pl 4 (.int .i64 sum1), pl 5 (.int .i64 i2)] a ∧ Sep w0 B w (fs) ∧ ((gameroomref_RollsMay_J8 men1 sum1 i2)).bind φ2 = some r) ?_ ?_
            · rintro a w ⟨hF, hS, hm⟩
              unfold gameroomref_RollsMay_J8 at hm
              obtain ⟨hp3, hm⟩ := asrt_b hm
              refine reg1 [⟨true, [], vS (Instr.indexAt 40 (.slice A1 men1.length c1) (.int .i64 i2)), .pointer (some (sAddr A1 i2))⟩, ⟨false, [], vS (Instr.loadAt 3 (.pointer (some (sAddr A1 i2)))), .int .i64 (geti men1 i2)⟩] [none, none, none, some (.pointer (some (sAddr A1 i2))), some (.int .i64 (geti men1 i2)), none, none] [0, 4, 5] [pl 0 (.slice A1 men1.length c1), pl 4 (.int .i64 (w64 (sum1 + (geti men1 i2)))), pl 5 (.int .i64 i2)] hF hS Fol (by kernel_rfl) (by kernel_rfl) (by kernel_rfl) ?_ (fun a w hF hS => ?_)
              · exact obs_cons (ob_ix1 (f := (Value.int .i64)) (m := men1) Und40 hi3 hs3 (hr_men1 _ (hS.dropN 0)) rfl (fun _ => hp3)) <| obs_cons (ob_get1 (n := men1.length) (m := men1) (Value.int .i64) (0 : Int) Agg3 (fun _ hS => ⟨_, (hr_men1 _ (hS.dropN 0))⟩) (fun _ hS => rfl) (fun _ => hp3)) <| obs_nil
              refine block_n ?_
              refine then_n ?_
              exact ⟨hF.weak [0, 4, 5] (by kernel_rfl), hS, hm⟩
            · obtain ⟨hp2, hm⟩ := asrt_b hm
              refine reg [⟨true, [], vS (Instr.indexAt 40 (.slice A1 men1.length c1) (.int .i64 i2)), .pointer (some (sAddr A1 i2))⟩, ⟨false, [], vS (Instr.loadAt 3 (.pointer (some (sAddr A1 i2)))), .int .i64 (geti men1 i2)⟩] [none, none, some (.pointer (some (sAddr A1 i2))), some (.int .i64 (geti men1 i2)), none] [0, 4, 5, 30] [pl 0 (.slice A1 men1.length c1), pl 4 (.int .i64 sum1), pl 5 (.int .i64 i2), pl 30 (.bool (decide ((3 : Int) < (geti men1 i2))))] hF hS Fol (by kernel_rfl) (by kernel_rfl) (by kernel_rfl) ?_ (fun a w hF hS => ?_)
              · exact obs_cons (ob_ix1 (f := (Value.int .i64)) (m := men1) Und40 hi3 hs3 (hr_men1 _ (hS.dropN 0)) rfl (fun _ => hp2)) <| obs_cons (ob_get1 (n := men1.length) (m := men1) (Value.int .i64) (0 : Int) Agg3 (fun _ hS => ⟨_, (hr_men1 _ (hS.dropN 0))⟩) (fun _ hS => rfl) (fun _ => hp2)) <| obs_nil
              refine cond_ev (t := 30) (b := decide ((3 : Int) < (geti men1 i2))) hF (by kernel_rfl) (fun hb => ?_) (fun hb => ?_)
              · replace hm := if_t hm hb
                refine reg [] [] [2] [pl 2 (.int .i64 11)] hF hS Fol (by kernel_rfl) (by kernel_rfl) (by kernel_rfl) ?_ (fun a w hF hS => ?_)
                · exact obs_nil
                refine wpIn_ret ?_
                refine then_r (block_r (then_r (then_r (block_r (then_r ?_)))))
                rw [← hφ2] at hm
                replace hm := done_b hm
                unfold gameroomref_RollsMay_K2 at hm
                try dsimp only at hm
                have hm : some 11 = some r := hm
                obtain rfl := Option.some.inj hm
                exact retV (rs := [.tmp 2]) (vs := [.int .i64 11]) hF rfl (rv_t (by kernel_rfl) <| rv_nil) rfl ⟨rfl, hS⟩
              · replace hm := if_f hm hb
                refine wpIn_skip ?_
                refine then_n ?_
                exact ⟨hF.weak [0, 4, 5] (by kernel_rfl), hS, hm⟩
        · refine reg [] [] [0, 4, 5, 23] [pl 0 (.slice A1 men1.length c1), pl 4 (.int .i64 sum1), pl 5 (.int .i64 i2), pl 23 (.bool (decide (i2 < (men1.length : Int))))] hF hS Fol (by kernel_rfl) (by kernel_rfl) (by kernel_rfl) ?_ (fun a w hF hS => ?_)
          · exact obs_nil
          refine cond_ev (t := 23) (b := decide (i2 < (men1.length : Int))) hF (by kernel_rfl) (fun hb => ?_) (fun hb => ?_)
          · replace hm := if_t hm hb
            refine wpIn_skip ?_
            refine then_n ?_
            exact ⟨hF.weak [0, 4, 5] (by kernel_rfl), hS, hm⟩
          · replace hm := if_f hm hb
            refine wpIn_exit ?_
            refine then_e (then_e (block_e (then_n ?_)))
            rw [← hφ2] at hm
            replace hm := done_b hm
            unfold gameroomref_RollsMay_K2 at hm
            try dsimp only at hm
            have hm : (gameroomref_RollsMay_J5 sum1).bind some = some r := hm
            exact ⟨sum1, hF.weak [4] (by kernel_rfl), hS, hm⟩
    · refine reg [] [] [0, 3] [pl 0 (.slice A1 men1.length c1), pl 3 (.int .i64 0)] hF hS Fol (by kernel_rfl) (by kernel_rfl) (by kernel_rfl) ?_ (fun a w hF hS => ?_)
      · exact obs_nil
      refine wpIn_block ?_
      refine wp_loop_model (S := Int) (R := (Fl Unit Int)) (gameroomref_RollsMay_L1 men1) (fun x => ((gameroomref_RollsMay_K1 men1) x).bind some) r (fun (x : Int) a w => Fr 39 [pl 0 (.slice A1 men1.length c1), pl 3 (.int .i64 x)] a ∧ Sep w0 B w (fs)) (assoc_b hm) ⟨hF.weak [0, 3] (by kernel_rfl), hS⟩ ?_
      clear hF hS hm
      rintro nn1 i1 a w ⟨hF, hS⟩ hm
      generalize hφ1 : stK (gameroomref_RollsMay_L1 men1) nn1 (fun x => ((gameroomref_RollsMay_K1 men1) x).bind some) = φ1 at hm
      unfold gameroomref_RollsMay_L1 at hm
      dsimp only at hm
      refine seq_cut (fun a w => Fr 39 [pl 0 (.slice A1 men1.length c1), pl 3 (.int .i64 i1)] a ∧ Sep w0 B w (fs) ∧ ((gameroomref_RollsMay_J3 men1 i1)).bind φ1 = some r) ?_ ?_
      · rintro a w ⟨hF, hS, hm⟩
        unfold gameroomref_RollsMay_J3 at hm
        refine seq_cut (fun a w => Fr 39 [pl 0 (.slice A1 men1.length c1), pl 3 (.int .i64 i1)] a ∧ Sep w0 B w (fs) ∧ ((gameroomref_RollsMay_J4 i1)).bind φ1 = some r) ?_ ?_
        · rintro a w ⟨hF, hS, hm⟩
          unfold gameroomref_RollsMay_J4 at hm
          refine reg1 [] [] [0, 3] [pl 0 (.slice A1 men1.length c1), pl 3 (.int .i64 (w64 (i1 + 1)))] hF hS Fol (by kernel_rfl) (by kernel_rfl) (by kernel_rfl) ?_ (fun a w hF hS => ?_)
          · exact obs_nil
          refine then_n ?_
          rw [← hφ1] at hm
          exact ⟨(w64 (i1 + 1)), ⟨hF.weak [0, 3] (by kernel_rfl), hS⟩, hm⟩
        · refine wpIn_block ?_
          obtain ⟨hp1, hm⟩ := asrt_b hm
          refine reg [⟨true, [], vS (Instr.indexAt 40 (.slice A1 men1.length c1) (.int .i64 i1)), .pointer (some (sAddr A1 i1))⟩, ⟨false, [], vS (Instr.loadAt 3 (.pointer (some (sAddr A1 i1)))), .int .i64 (geti men1 i1)⟩] [none, none, some (.pointer (some (sAddr A1 i1))), some (.int .i64 (geti men1 i1)), none] [0, 3, 19] [pl 0 (.slice A1 men1.length c1), pl 3 (.int .i64 i1), pl 19 (.bool (decide ((geti men1 i1) < 0)))] hF hS Fol (by kernel_rfl) (by kernel_rfl) (by kernel_rfl) ?_ (fun a w hF hS => ?_)
          · exact obs_cons (ob_ix1 (f := (Value.int .i64)) (m := men1) Und40 hi3 hs3 (hr_men1 _ (hS.dropN 0)) rfl (fun _ => hp1)) <| obs_cons (ob_get1 (n := men1.length) (m := men1) (Value.int .i64) (0 : Int) Agg3 (fun _ hS => ⟨_, (hr_men1 _ (hS.dropN 0))⟩) (fun _ hS => rfl) (fun _ => hp1)) <| obs_nil
          refine cond_ev (t := 19) (b := decide ((geti men1 i1) < 0)) hF (by kernel_rfl) (fun hb => ?_) (fun hb => ?_)
          · replace hm := if_t hm hb
            refine reg [] [] [2] [pl 2 (.int .i64 3)] hF hS Fol (by kernel_rfl) (by kernel_rfl) (by kernel_rfl) ?_ (fun a w hF hS => ?_)
            · exact obs_nil
            refine wpIn_ret ?_
            refine block_r (then_r (then_r (block_r (then_r ?_))))
            rw [← hφ1] at hm
            replace hm := done_b hm
            unfold gameroomref_RollsMay_K1 at hm
            try dsimp only at hm
            have hm : some 3 = some r := hm
            obtain rfl := Option.some.inj hm
            exact retV (rs := [.tmp 2]) (vs := [.int .i64 3]) hF rfl (rv_t (by kernel_rfl) <| rv_nil) rfl ⟨rfl, hS⟩
          · replace hm := if_f hm hb
            refine wpIn_skip ?_
            refine block_n ?_
            refine then_n ?_
            exact ⟨hF.weak [0, 3] (by kernel_rfl), hS, hm⟩
      · refine reg [] [] [0, 3, 12] [pl 0 (.slice A1 men1.length c1), pl 3 (.int .i64 i1), pl 12 (.bool (decide (i1 < (men1.length : Int))))] hF hS Fol (by kernel_rfl) (by kernel_rfl) (by kernel_rfl) ?_ (fun a w hF hS => ?_)
        · exact obs_nil
        refine cond_ev (t := 12) (b := decide (i1 < (men1.length : Int))) hF (by kernel_rfl) (fun hb => ?_) (fun hb => ?_)
        · replace hm := if_t hm hb
          refine wpIn_skip ?_
          refine then_n ?_
          exact ⟨hF.weak [0, 3] (by kernel_rfl), hS, hm⟩
        · replace hm := if_f hm hb
          refine wpIn_exit ?_
          refine then_e (then_e (block_e (then_n ?_)))
          rw [← hφ1] at hm
          replace hm := done_b hm
          unfold gameroomref_RollsMay_K1 at hm
          try dsimp only at hm
          have hm : ((gameroomref_RollsMay_J2 men1)).bind some = some r := hm
          exact ⟨hF.weak [0] (by kernel_rfl), hS, hm⟩
  · refine reg [] [] [0, 8] [pl 0 (.slice A1 men1.length c1), pl 8 (.bool (decide ((6 : Int) < (men1.length : Int))))] hF hS Fol (by kernel_rfl) (by kernel_rfl) (by kernel_rfl) ?_ (fun a w hF hS => ?_)
    · exact obs_nil
    refine cond_ev (t := 8) (b := decide ((6 : Int) < (men1.length : Int))) hF (by kernel_rfl) (fun hb => ?_) (fun hb => ?_)
    · replace hm := if_t hm hb
      refine reg [] [] [2] [pl 2 (.int .i64 2)] hF hS Fol (by kernel_rfl) (by kernel_rfl) (by kernel_rfl) ?_ (fun a w hF hS => ?_)
      · exact obs_nil
      refine wpIn_ret ?_
      refine then_r ?_
      have hm : some 2 = some r := hm
      obtain rfl := Option.some.inj hm
      exact retV (rs := [.tmp 2]) (vs := [.int .i64 2]) hF rfl (rv_t (by kernel_rfl) <| rv_nil) rfl ⟨rfl, hS⟩
    · replace hm := if_f hm hb
      refine wpIn_skip ?_
      refine then_n ?_
      exact ⟨hF.weak [0] (by kernel_rfl), hS, hm⟩

noncomputable def gameroomref_Ints_m  (l1 : List Int) : Option (List Int) :=
  asrt ((0 : Int) + (l1.length : Int) ≤ bigN) <| some ([] ++ l1)

set_option maxRecDepth 100000 in
set_option maxHeartbeats 4000000 in
theorem gameroomref_Ints_w {A1 : Option Addr} {c1 : Nat} {n1 : Nat} {l1 : List Int} {r : (List Int)} {w0 w : World} {B : Nat} {fs : List HP} (hm : gameroomref_Ints_m l1 = some r) (hS : Sep w0 B w (fs)) (hr_l1 : RdF w0 B fs A1 (vI l1)) (_hc_l1 : l1.length ≤ c1) (_hn_l1 : n1 = l1.length) :
    Calls Try.prog 93 #[.slice A1 n1 c1] w fun e w' => ∃ v, e = .returned v ∧ ∃ (A3 : Option Addr) (c3 : Nat), v = .slice A3 r.length c3 ∧ Sep w0 B w' (own 3 (.slice A3 r.length c3) (vI r) :: fs) := by
  obtain ⟨i3, hi3, hz3, hs3, hb3⟩ := info_parts Info3
  obtain rfl := _hn_l1
  unfold gameroomref_Ints_m at hm
  replace hm := start_b hm
  refine enter (l := [.slice A1 l1.length c1]) (n := 5) Try.func93 rfl rfl (by simp) (fun a hF => ?_)
  refine reg [] [] [0] [pl 0 (.slice A1 l1.length c1)] hF hS Fol (by kernel_rfl) (by kernel_rfl) (by kernel_rfl) ?_ (fun a w hF hS => ?_)
  · exact obs_nil
  refine seqR ?_
  obtain ⟨hp1, hm⟩ := asrt_b hm
  refine at_run 1 [] [] [3] [pl 3 (.slice A1 l1.length c1)] hF hS (by kernel_rfl) (by kernel_rfl) ?_ (fun a w hF hS => ?_)
  · exact obs_nil
  have hS : Sep w0 B w (own 3 (.slice none 0 0) (vI ([] : List Int)) :: fs) := hS.nil 3
  obtain ⟨A2, c2, w, hrun, hS⟩ := run_app1 (P := Try.prog) (t := 40) (m := ([] : List Int)) (ys := l1) (A2 := A1) (m2 := l1.length) (c2 := c1) (Value.int .i64) (0 : Int) (hS.at_ 0 rfl) (hr_l1 _ (hS.dropN 1)) rfl 40 Und40 hi3 hz3 hs3 (by omega) rfl (fun _ => rfl) hp1
  have hS : Sep w0 B w (own 3 (.slice A2 (([] ++ l1).length) c2) (vI ([] ++ l1)) :: fs) := hS
  refine at_do (d := 4) hF (by kernel_rfl) (by kernel_rfl) hrun (fun a hF => ?_)
  refine at_run 1 [] [] [2] [pl 2 (.slice A2 (([] ++ l1).length) c2)] hF hS (by kernel_rfl) (by kernel_rfl) ?_ (fun a w hF hS => ?_)
  · exact obs_nil
  refine at_end [2] [pl 2 (.slice A2 (([] ++ l1).length) c2)] hF rfl (by kernel_rfl) (fun hF => ?_)
  refine then_n ?_
  refine wpIn_ret ?_
  have hm : some ([] ++ l1) = some r := hm
  obtain rfl := Option.some.inj hm
  exact retV (rs := [.tmp 2]) (vs := [.slice A2 (([] ++ l1).length) c2]) hF rfl (rv_t (by kernel_rfl) <| rv_nil) rfl ⟨_, rfl, A2, c2, rfl, hS⟩

noncomputable def gameroomref_sameInts_J4  (i1 : Int) : Option (St Int (Fl Unit Bool)) :=
  some (.next (w64 (i1 + 1)))

noncomputable def gameroomref_sameInts_J3  (a1 : List Int) (b1 : List Int) (i1 : Int) : Option (St Int (Fl Unit Bool)) :=
  asrt (0 ≤ i1 ∧ i1 < (a1.length : Int)) <| asrt (0 ≤ i1 ∧ i1 < (b1.length : Int)) <| if ((geti a1 i1) != (geti b1 i1)) then (some (.done (.ret false))) else ((gameroomref_sameInts_J4 i1))

noncomputable def gameroomref_sameInts_J2  : Option Bool :=
  some true

noncomputable def gameroomref_sameInts_K1  : (Fl Unit Bool) → Option Bool :=
  fun (x : (Fl Unit Bool)) => match x with | .go _ => gameroomref_sameInts_J2 | .ret x => some x

noncomputable def gameroomref_sameInts_L1  (a1 : List Int) (b1 : List Int) : Int → Option (St Int (Fl Unit Bool)) :=
  fun (x : Int) => match x with | i1 => if (decide (i1 < (a1.length : Int))) then ((gameroomref_sameInts_J3 a1 b1 i1)) else (some (.done (.go ())))

noncomputable def gameroomref_sameInts_J1  (a1 : List Int) (b1 : List Int) : Option Bool :=
  (loop (gameroomref_sameInts_L1 a1 b1) 0).bind gameroomref_sameInts_K1

noncomputable def gameroomref_sameInts_m  (a1 : List Int) (b1 : List Int) : Option Bool :=
  if ((a1.length : Int) != (b1.length : Int)) then (some false) else ((gameroomref_sameInts_J1 a1 b1))

set_option maxRecDepth 100000 in
set_option maxHeartbeats 4000000 in
theorem gameroomref_sameInts_w {A1 : Option Addr} {c1 : Nat} {n1 : Nat} {a1 : List Int} {A2 : Option Addr} {c2 : Nat} {n2 : Nat} {b1 : List Int} {r : Bool} {w0 w : World} {B : Nat} {fs : List HP} (hm : gameroomref_sameInts_m a1 b1 = some r) (hS : Sep w0 B w (fs)) (hr_a1 : RdF w0 B fs A1 (vI a1)) (_hc_a1 : a1.length ≤ c1) (_hn_a1 : n1 = a1.length) (hr_b1 : RdF w0 B fs A2 (vI b1)) (_hc_b1 : b1.length ≤ c2) (_hn_b1 : n2 = b1.length) :
    Calls Try.prog 137 #[.slice A1 n1 c1, .slice A2 n2 c2] w fun e w' => e = .returned (.bool r) ∧ Sep w0 B w' (fs) := by
  obtain ⟨i3, hi3, hz3, hs3, hb3⟩ := info_parts Info3
  obtain rfl := _hn_a1
  obtain rfl := _hn_b1
  unfold gameroomref_sameInts_m at hm
  replace hm := start_b hm
  refine enter (l := [.slice A1 a1.length c1, .slice A2 b1.length c2]) (n := 26) Try.func137 rfl rfl (by simp) (fun a hF => ?_)
  refine reg [] [] [0, 1] [pl 0 (.slice A1 a1.length c1), pl 1 (.slice A2 b1.length c2)] hF hS Fol (by kernel_rfl) (by kernel_rfl) (by kernel_rfl) ?_ (fun a w hF hS => ?_)
  · exact obs_nil
  refine seq_cut (fun a w => Fr 26 [pl 0 (.slice A1 a1.length c1), pl 1 (.slice A2 b1.length c2)] a ∧ Sep w0 B w (fs) ∧ ((gameroomref_sameInts_J1 a1 b1)).bind some = some r) ?_ ?_
  · rintro a w ⟨hF, hS, hm⟩
    unfold gameroomref_sameInts_J1 at hm
    refine seq_cut (fun a w => Fr 26 [] a ∧ Sep w0 B w (fs) ∧ (gameroomref_sameInts_J2).bind some = some r) ?_ ?_
    · rintro a w ⟨hF, hS, hm⟩
      unfold gameroomref_sameInts_J2 at hm
      refine reg [] [] [4] [pl 4 (.bool true)] hF hS Fol (by kernel_rfl) (by kernel_rfl) (by kernel_rfl) ?_ (fun a w hF hS => ?_)
      · exact obs_nil
      refine wpIn_ret ?_
      have hm : some true = some r := hm
      obtain rfl := Option.some.inj hm
      exact retV (rs := [.tmp 4]) (vs := [.bool true]) hF rfl (rv_t (by kernel_rfl) <| rv_nil) rfl ⟨rfl, hS⟩
    · refine reg [] [] [0, 1, 5] [pl 0 (.slice A1 a1.length c1), pl 1 (.slice A2 b1.length c2), pl 5 (.int .i64 0)] hF hS Fol (by kernel_rfl) (by kernel_rfl) (by kernel_rfl) ?_ (fun a w hF hS => ?_)
      · exact obs_nil
      refine wpIn_block ?_
      refine wp_loop_model (S := Int) (R := (Fl Unit Bool)) (gameroomref_sameInts_L1 a1 b1) (fun x => (gameroomref_sameInts_K1 x).bind some) r (fun (x : Int) a w => Fr 26 [pl 0 (.slice A1 a1.length c1), pl 1 (.slice A2 b1.length c2), pl 5 (.int .i64 x)] a ∧ Sep w0 B w (fs)) (assoc_b hm) ⟨hF.weak [0, 1, 5] (by kernel_rfl), hS⟩ ?_
      clear hF hS hm
      rintro nn1 i1 a w ⟨hF, hS⟩ hm
      generalize hφ1 : stK (gameroomref_sameInts_L1 a1 b1) nn1 (fun x => (gameroomref_sameInts_K1 x).bind some) = φ1 at hm
      unfold gameroomref_sameInts_L1 at hm
      dsimp only at hm
      refine seq_cut (fun a w => Fr 26 [pl 0 (.slice A1 a1.length c1), pl 1 (.slice A2 b1.length c2), pl 5 (.int .i64 i1)] a ∧ Sep w0 B w (fs) ∧ ((gameroomref_sameInts_J3 a1 b1 i1)).bind φ1 = some r) ?_ ?_
      · rintro a w ⟨hF, hS, hm⟩
        unfold gameroomref_sameInts_J3 at hm
        refine seq_cut (fun a w => Fr 26 [pl 0 (.slice A1 a1.length c1), pl 1 (.slice A2 b1.length c2), pl 5 (.int .i64 i1)] a ∧ Sep w0 B w (fs) ∧ ((gameroomref_sameInts_J4 i1)).bind φ1 = some r) ?_ ?_
        · rintro a w ⟨hF, hS, hm⟩
          unfold gameroomref_sameInts_J4 at hm
          refine reg1 [] [] [0, 1, 5] [pl 0 (.slice A1 a1.length c1), pl 1 (.slice A2 b1.length c2), pl 5 (.int .i64 (w64 (i1 + 1)))] hF hS Fol (by kernel_rfl) (by kernel_rfl) (by kernel_rfl) ?_ (fun a w hF hS => ?_)
          · exact obs_nil
          refine then_n ?_
          rw [← hφ1] at hm
          exact ⟨(w64 (i1 + 1)), ⟨hF.weak [0, 1, 5] (by kernel_rfl), hS⟩, hm⟩
        · refine wpIn_block ?_
          obtain ⟨hp1, hm⟩ := asrt_b hm
          obtain ⟨hp2, hm⟩ := asrt_b hm
          refine reg [⟨true, [], vS (Instr.indexAt 40 (.slice A1 a1.length c1) (.int .i64 i1)), .pointer (some (sAddr A1 i1))⟩, ⟨false, [], vS (Instr.loadAt 3 (.pointer (some (sAddr A1 i1)))), .int .i64 (geti a1 i1)⟩, ⟨true, [], vS (Instr.indexAt 40 (.slice A2 b1.length c2) (.int .i64 i1)), .pointer (some (sAddr A2 i1))⟩, ⟨false, [], vS (Instr.loadAt 3 (.pointer (some (sAddr A2 i1)))), .int .i64 (geti b1 i1)⟩] [none, none, some (.pointer (some (sAddr A1 i1))), some (.int .i64 (geti a1 i1)), none, none, some (.pointer (some (sAddr A2 i1))), some (.int .i64 (geti b1 i1)), none] [0, 1, 5, 25] [pl 0 (.slice A1 a1.length c1), pl 1 (.slice A2 b1.length c2), pl 5 (.int .i64 i1), pl 25 (.bool ((geti a1 i1) != (geti b1 i1)))] hF hS Fol (by kernel_rfl) (by kernel_rfl) (by kernel_rfl) ?_ (fun a w hF hS => ?_)
          · exact obs_cons (ob_ix1 (f := (Value.int .i64)) (m := a1) Und40 hi3 hs3 (hr_a1 _ (hS.dropN 0)) rfl (fun _ => hp1)) <| obs_cons (ob_get1 (n := a1.length) (m := a1) (Value.int .i64) (0 : Int) Agg3 (fun _ hS => ⟨_, (hr_a1 _ (hS.dropN 0))⟩) (fun _ hS => rfl) (fun _ => hp1)) <| obs_cons (ob_ix1 (f := (Value.int .i64)) (m := b1) Und40 hi3 hs3 (hr_b1 _ (hS.dropN 0)) rfl (fun _ => hp2)) <| obs_cons (ob_get1 (n := b1.length) (m := b1) (Value.int .i64) (0 : Int) Agg3 (fun _ hS => ⟨_, (hr_b1 _ (hS.dropN 0))⟩) (fun _ hS => rfl) (fun _ => hp2)) <| obs_nil
          refine cond_ev (t := 25) (b := ((geti a1 i1) != (geti b1 i1))) hF (by kernel_rfl) (fun hb => ?_) (fun hb => ?_)
          · replace hm := if_t hm hb
            refine reg [] [] [4] [pl 4 (.bool false)] hF hS Fol (by kernel_rfl) (by kernel_rfl) (by kernel_rfl) ?_ (fun a w hF hS => ?_)
            · exact obs_nil
            refine wpIn_ret ?_
            refine block_r (then_r (then_r (block_r (then_r ?_))))
            rw [← hφ1] at hm
            replace hm := done_b hm
            unfold gameroomref_sameInts_K1 at hm
            try dsimp only at hm
            have hm : some false = some r := hm
            obtain rfl := Option.some.inj hm
            exact retV (rs := [.tmp 4]) (vs := [.bool false]) hF rfl (rv_t (by kernel_rfl) <| rv_nil) rfl ⟨rfl, hS⟩
          · replace hm := if_f hm hb
            refine wpIn_skip ?_
            refine block_n ?_
            refine then_n ?_
            exact ⟨hF.weak [0, 1, 5] (by kernel_rfl), hS, hm⟩
      · refine reg [] [] [0, 1, 5, 14] [pl 0 (.slice A1 a1.length c1), pl 1 (.slice A2 b1.length c2), pl 5 (.int .i64 i1), pl 14 (.bool (decide (i1 < (a1.length : Int))))] hF hS Fol (by kernel_rfl) (by kernel_rfl) (by kernel_rfl) ?_ (fun a w hF hS => ?_)
        · exact obs_nil
        refine cond_ev (t := 14) (b := decide (i1 < (a1.length : Int))) hF (by kernel_rfl) (fun hb => ?_) (fun hb => ?_)
        · replace hm := if_t hm hb
          refine wpIn_skip ?_
          refine then_n ?_
          exact ⟨hF.weak [0, 1, 5] (by kernel_rfl), hS, hm⟩
        · replace hm := if_f hm hb
          refine wpIn_exit ?_
          refine then_e (then_e (block_e (then_n ?_)))
          rw [← hφ1] at hm
          replace hm := done_b hm
          unfold gameroomref_sameInts_K1 at hm
          try dsimp only at hm
          have hm : (gameroomref_sameInts_J2).bind some = some r := hm
          exact ⟨hF.weak [] (by kernel_rfl), hS, hm⟩
  · refine reg [] [] [0, 1, 10] [pl 0 (.slice A1 a1.length c1), pl 1 (.slice A2 b1.length c2), pl 10 (.bool ((a1.length : Int) != (b1.length : Int)))] hF hS Fol (by kernel_rfl) (by kernel_rfl) (by kernel_rfl) ?_ (fun a w hF hS => ?_)
    · exact obs_nil
    refine cond_ev (t := 10) (b := ((a1.length : Int) != (b1.length : Int))) hF (by kernel_rfl) (fun hb => ?_) (fun hb => ?_)
    · replace hm := if_t hm hb
      refine reg [] [] [4] [pl 4 (.bool false)] hF hS Fol (by kernel_rfl) (by kernel_rfl) (by kernel_rfl) ?_ (fun a w hF hS => ?_)
      · exact obs_nil
      refine wpIn_ret ?_
      refine then_r ?_
      have hm : some false = some r := hm
      obtain rfl := Option.some.inj hm
      exact retV (rs := [.tmp 4]) (vs := [.bool false]) hF rfl (rv_t (by kernel_rfl) <| rv_nil) rfl ⟨rfl, hS⟩
    · replace hm := if_f hm hb
      refine wpIn_skip ?_
      refine then_n ?_
      exact ⟨hF.weak [0, 1] (by kernel_rfl), hS, hm⟩

noncomputable def gameroomref_known_least_J3  (i1 : Int) (far3 : Int) : Option (St (Int × Int) Int) :=
  some (.next (far3, (w64 (i1 + 1))))

noncomputable def gameroomref_known_least_J2  (men1 : List Int) (far1 : Int) (i1 : Int) : Option (St (Int × Int) Int) :=
  asrt (0 ≤ i1 ∧ i1 < (men1.length : Int)) <| if (decide ((0 : Int) < (geti men1 i1))) then ((gameroomref_known_least_J3 i1) i1) else ((gameroomref_known_least_J3 i1) far1)

noncomputable def gameroomref_known_least_J7  (i2 : Int) (k7 : List (List Int)) (k8 : List Int) (best3 : Int) : Option (St (List (List Int) × List Int × Int × Int) (Int × List (List Int) × List Int)) :=
  some (.next (k7, k8, best3, (w64 (i2 + 1))))

noncomputable def gameroomref_known_least_J9  (rec_gameroomref_known_least : List (List Int) → List Int → List Int → List Int → Option (Int × List (List Int) × List Int)) (pips1 : List Int) (k3 : List (List Int)) (k4 : List Int) (best1 : Int) (i2 : Int) (next1 : List Int) : Option (St (List (List Int) × List Int × Int × Int) (Int × List (List Int) × List Int)) :=
  asrt (0 ≤ (1 : Int) ∧ (1 : Int) ≤ (pips1.length : Int) ∧ (pips1.length : Int) ≤ (pips1.length : Int)) <| (rec_gameroomref_known_least k3 k4 next1 (cut pips1 (1 : Int) (pips1.length : Int))).bind fun r3 => if ((decide (best1 < 0)) || (decide (r3.1 < best1))) then ((gameroomref_known_least_J7 i2) r3.2.1 r3.2.2 r3.1) else ((gameroomref_known_least_J7 i2) r3.2.1 r3.2.2 best1)

noncomputable def gameroomref_known_least_J8  (rec_gameroomref_known_least : List (List Int) → List Int → List Int → List Int → Option (Int × List (List Int) × List Int)) (men1 : List Int) (pips1 : List Int) (k3 : List (List Int)) (k4 : List Int) (best1 : Int) (i2 : Int) : Option (St (List (List Int) × List Int × Int × Int) (Int × List (List Int) × List Int)) :=
  (gameroomref_Ints_m men1).bind fun r2 => asrt (0 ≤ i2 ∧ i2 < (r2.length : Int)) <| asrt (0 ≤ i2 ∧ i2 < (r2.length : Int)) <| asrt (0 ≤ (0 : Int) ∧ (0 : Int) < (pips1.length : Int)) <| if (decide ((0 : Int) ≤ (w64 (i2 - (geti pips1 0))))) then (asrt (0 ≤ (0 : Int) ∧ (0 : Int) < (pips1.length : Int)) <| asrt (0 ≤ (w64 (i2 - (geti pips1 0))) ∧ (w64 (i2 - (geti pips1 0))) < (r2.length : Int)) <| asrt (0 ≤ (w64 (i2 - (geti pips1 0))) ∧ (w64 (i2 - (geti pips1 0))) < (r2.length : Int)) <| (gameroomref_known_least_J9 rec_gameroomref_known_least pips1 k3 k4 best1 i2) ((r2.set (Int.toNat i2) (w64 ((geti r2 i2) - 1))).set (Int.toNat (w64 (i2 - (geti pips1 0)))) (w64 ((geti (r2.set (Int.toNat i2) (w64 ((geti r2 i2) - 1))) (w64 (i2 - (geti pips1 0)))) + 1)))) else ((gameroomref_known_least_J9 rec_gameroomref_known_least pips1 k3 k4 best1 i2) (r2.set (Int.toNat i2) (w64 ((geti r2 i2) - 1))))

noncomputable def gameroomref_known_least_J6  (rec_gameroomref_known_least : List (List Int) → List Int → List Int → List Int → Option (Int × List (List Int) × List Int)) (men1 : List Int) (pips1 : List Int) (far2 : Int) (k3 : List (List Int)) (k4 : List Int) (best1 : Int) (i2 : Int) : Option (St (List (List Int) × List Int × Int × Int) (Int × List (List Int) × List Int)) :=
  asrt (0 ≤ i2 ∧ i2 < (men1.length : Int)) <| asrt (((geti men1 i2) == 0) = false → 0 ≤ (0 : Int) ∧ (0 : Int) < (pips1.length : Int)) <| if (((geti men1 i2) == 0) || ((decide ((w64 (i2 + 1)) < (geti pips1 0))) && (i2 != far2))) then ((gameroomref_known_least_J7 i2) k3 k4 best1) else ((gameroomref_known_least_J8 rec_gameroomref_known_least men1 pips1 k3 k4 best1 i2))

noncomputable def gameroomref_known_least_L2  (rec_gameroomref_known_least : List (List Int) → List Int → List Int → List Int → Option (Int × List (List Int) × List Int)) (men1 : List Int) (pips1 : List Int) (far2 : Int) : (List (List Int) × List Int × Int × Int) → Option (St (List (List Int) × List Int × Int × Int) (Int × List (List Int) × List Int)) :=
  fun (x : (List (List Int) × List Int × Int × Int)) => match x with | (k3, k4, best1, i2) => if (decide (i2 ≤ far2)) then ((gameroomref_known_least_J6 rec_gameroomref_known_least men1 pips1 far2 k3 k4 best1 i2)) else (some (.done (best1, k3, k4)))

noncomputable def gameroomref_known_least_J5  (best2 : Int) (k5 : List (List Int)) (k6 : List Int) : Option (Int × List (List Int) × List Int) :=
  some (best2, k5, k6)

noncomputable def gameroomref_known_least_K2  : (Int × List (List Int) × List Int) → Option (Int × List (List Int) × List Int) :=
  fun (x : (Int × List (List Int) × List Int)) => match x with | (best2, k5, k6) => gameroomref_known_least_J5 best2 k5 k6

noncomputable def gameroomref_known_least_J4  (rec_gameroomref_known_least : List (List Int) → List Int → List Int → List Int → Option (Int × List (List Int) × List Int)) (k_men1 : List (List Int)) (k_mean1 : List Int) (men1 : List Int) (pips1 : List Int) (far2 : Int) : Option (Int × List (List Int) × List Int) :=
  (loop (gameroomref_known_least_L2 rec_gameroomref_known_least men1 pips1 far2) (k_men1, k_mean1, (-1), 0)).bind gameroomref_known_least_K2

noncomputable def gameroomref_known_least_J1  (rec_gameroomref_known_of : List (List Int) → List Int → List Int → Option (Int × List (List Int) × List Int)) (rec_gameroomref_known_least : List (List Int) → List Int → List Int → List Int → Option (Int × List (List Int) × List Int)) (k_men1 : List (List Int)) (k_mean1 : List Int) (men1 : List Int) (pips1 : List Int) (far2 : Int) : Option (Int × List (List Int) × List Int) :=
  if ((decide (far2 < 0)) || ((pips1.length : Int) == 0)) then ((rec_gameroomref_known_of k_men1 k_mean1 men1).bind fun r1 => some (r1.1, r1.2.1, r1.2.2)) else ((gameroomref_known_least_J4 rec_gameroomref_known_least k_men1 k_mean1 men1 pips1 far2))

noncomputable def gameroomref_known_least_K1  (rec_gameroomref_known_of : List (List Int) → List Int → List Int → Option (Int × List (List Int) × List Int)) (rec_gameroomref_known_least : List (List Int) → List Int → List Int → List Int → Option (Int × List (List Int) × List Int)) (k_men1 : List (List Int)) (k_mean1 : List Int) (men1 : List Int) (pips1 : List Int) : Int → Option (Int × List (List Int) × List Int) :=
  fun (x : Int) => match x with | far2 => (gameroomref_known_least_J1 rec_gameroomref_known_of rec_gameroomref_known_least k_men1 k_mean1 men1 pips1) far2

noncomputable def gameroomref_known_least_L1  (men1 : List Int) : (Int × Int) → Option (St (Int × Int) Int) :=
  fun (x : (Int × Int)) => match x with | (far1, i1) => if (decide (i1 < 6)) then ((gameroomref_known_least_J2 men1 far1 i1)) else (some (.done far1))

noncomputable def gameroomref_known_least_B (rec_gameroomref_known_of : List (List Int) → List Int → List Int → Option (Int × List (List Int) × List Int)) (rec_gameroomref_known_least : List (List Int) → List Int → List Int → List Int → Option (Int × List (List Int) × List Int)) (k_men1 : List (List Int)) (k_mean1 : List Int) (men1 : List Int) (pips1 : List Int) : Option (Int × List (List Int) × List Int) :=
  (loop (gameroomref_known_least_L1 men1) ((-1), 0)).bind (gameroomref_known_least_K1 rec_gameroomref_known_of rec_gameroomref_known_least k_men1 k_mean1 men1 pips1)

noncomputable def gameroomref_known_least_mF (rec_gameroomref_known_of : List (List Int) → List Int → List Int → Option (Int × List (List Int) × List Int)) : Nat → List (List Int) → List Int → List Int → List Int → Option (Int × List (List Int) × List Int)
  | 0 => fun _ _ _ _ => none
  | n + 1 => fun k_men1 k_mean1 men1 pips1 => gameroomref_known_least_B rec_gameroomref_known_of (gameroomref_known_least_mF rec_gameroomref_known_of n) k_men1 k_mean1 men1 pips1
end Go.Proofs.Ytbmhcapeikebgaa
