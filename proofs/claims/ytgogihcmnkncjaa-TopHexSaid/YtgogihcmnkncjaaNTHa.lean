/-
  Models and walks, printed by our own program (wip/gen).
-/
import Derived.Test.YtgogihcmnkncjaaFB
import Derived.Test.YtgogihcmnkncjaaLibD
import Derived.Test.YtgogihcmnkncjaaLibRF
import Derived.Test.YtgogihcmnkncjaaSH
namespace Go.Proofs.Ytgogihcmnkncjaa
open Go Go.GL Go.RowKit




noncomputable def gameroomtop_picked_J1  (of1 : Int) (n2 : Int) : Option Int :=
  asrt (of1 ≠ (0 : Int)) <| some (Int.tmod n2 of1)

noncomputable def gameroomtop_picked_m  (n1 : Int) (of1 : Int) : Option Int :=
  if (decide (n1 < 0)) then ((gameroomtop_picked_J1 of1) (w64 (0 - (w64 (n1 + 1))))) else ((gameroomtop_picked_J1 of1) n1)

set_option maxRecDepth 100000 in
set_option maxHeartbeats 4000000 in
theorem gameroomtop_picked_w {n1 : Int} {of1 : Int} {r : Int} {w0 w : World} {B : Nat} {fs : List HP} (hm : gameroomtop_picked_m n1 of1 = some r) (hS : Sep w0 B w (fs)) :
    Calls Try.prog 33 #[.int .i64 n1, .int .i64 of1] w fun e w' => e = .returned (.int .i64 r) ∧ Sep w0 B w' (fs) := by
  unfold gameroomtop_picked_m at hm
  replace hm := start_b hm
  refine enter (l := [.int .i64 n1, .int .i64 of1]) (n := 13) Try.func33 rfl rfl (by simp) (fun a hF => ?_)
  refine reg [] [] [0, 1] [pl 0 (.int .i64 n1), pl 1 (.int .i64 of1)] hF hS Fol (by kernel_rfl) (by kernel_rfl) (by kernel_rfl) ?_ (fun a w hF hS => ?_)
  · exact obs_nil
  refine seq_cut (fun a w => ∃ (n2 : Int), Fr 13 [pl 0 (.int .i64 n2), pl 1 (.int .i64 of1)] a ∧ Sep w0 B w (fs) ∧ ((gameroomtop_picked_J1 of1) n2).bind some = some r) ?_ ?_
  · rintro a w ⟨n2, hF, hS, hm⟩
    unfold gameroomtop_picked_J1 at hm
    obtain ⟨hp1, hm⟩ := asrt_b hm
    refine reg [⟨true, [], vS (Op.intDiv .rem .i64 n2 of1), .int .i64 (Int.tmod n2 of1)⟩] [none, none, some (.int .i64 (Int.tmod n2 of1)), none] [4] [pl 4 (.int .i64 (Int.tmod n2 of1))] hF hS Fol (by kernel_rfl) (by kernel_rfl) (by kernel_rfl) ?_ (fun a w hF hS => ?_)
    · exact obs_cons (ob_rem rfl (fun _ => hp1)) <| obs_nil
    refine wpIn_ret ?_
    have hm : some (Int.tmod n2 of1) = some r := hm
    obtain rfl := Option.some.inj hm
    exact retV (rs := [.tmp 4]) (vs := [.int .i64 (Int.tmod n2 of1)]) hF rfl (rv_t (by kernel_rfl) <| rv_nil) rfl ⟨rfl, hS⟩
  · refine reg [] [] [0, 1, 6] [pl 0 (.int .i64 n1), pl 1 (.int .i64 of1), pl 6 (.bool (decide (n1 < 0)))] hF hS Fol (by kernel_rfl) (by kernel_rfl) (by kernel_rfl) ?_ (fun a w hF hS => ?_)
    · exact obs_nil
    refine cond_ev (t := 6) (b := decide (n1 < 0)) hF (by kernel_rfl) (fun hb => ?_) (fun hb => ?_)
    · replace hm := if_t hm hb
      refine reg1 [] [] [0, 1] [pl 0 (.int .i64 (w64 (0 - (w64 (n1 + 1))))), pl 1 (.int .i64 of1)] hF hS Fol (by kernel_rfl) (by kernel_rfl) (by kernel_rfl) ?_ (fun a w hF hS => ?_)
      · exact obs_nil
      refine then_n ?_
      exact ⟨(w64 (0 - (w64 (n1 + 1)))), hF.weak [0, 1] (by kernel_rfl), hS, hm⟩
    · replace hm := if_f hm hb
      refine wpIn_skip ?_
      refine then_n ?_
      exact ⟨n1, hF.weak [0, 1] (by kernel_rfl), hS, hm⟩

noncomputable def rows_May_1_m  (c1 : Int) : Option Bool :=
  some ((decide (c1 < 0)) || (decide ((2 : Int) < c1)))

set_option maxRecDepth 100000 in
set_option maxHeartbeats 4000000 in
theorem rows_May_1_w {c1 : Int} {r : Bool} {w0 w : World} {B : Nat} {fs : List HP} (hm : rows_May_1_m c1 = some r) (hS : Sep w0 B w (fs)) :
    Calls Try.prog 187 #[.int .i64 c1] w fun e w' => e = .returned (.bool r) ∧ Sep w0 B w' (fs) := by
  unfold rows_May_1_m at hm
  replace hm := start_b hm
  refine enter (l := [.int .i64 c1]) (n := 9) Try.func187 rfl rfl (by simp) (fun a hF => ?_)
  refine reg [] [] [0] [pl 0 (.int .i64 c1)] hF hS Fol (by kernel_rfl) (by kernel_rfl) (by kernel_rfl) ?_ (fun a w hF hS => ?_)
  · exact obs_nil
  refine reg [] [] [2] [pl 2 (.bool ((decide (c1 < 0)) || (decide ((2 : Int) < c1))))] hF hS Fol (by kernel_rfl) (by kernel_rfl) (by kernel_rfl) ?_ (fun a w hF hS => ?_)
  · exact obs_nil
  refine wpIn_ret ?_
  have hm : some ((decide (c1 < 0)) || (decide ((2 : Int) < c1))) = some r := hm
  obtain rfl := Option.some.inj hm
  exact retV (rs := [.tmp 2]) (vs := [.bool ((decide (c1 < 0)) || (decide ((2 : Int) < c1)))]) hF rfl (rv_t (by kernel_rfl) <| rv_nil) rfl ⟨rfl, hS⟩

noncomputable def slices_IndexFunc_J3  (z1 : Int) : Option (St Int (Fl Unit Int)) :=
  some (.next (w64 (z1 + 1)))

noncomputable def slices_IndexFunc_J2  (s1 : List Int) (z1 : Int) : Option (St Int (Fl Unit Int)) :=
  asrt (0 ≤ z1 ∧ z1 < (s1.length : Int)) <| (rows_May_1_m (geti s1 z1)).bind fun r1 => if r1 then (some (.done (.ret z1))) else ((slices_IndexFunc_J3 z1))

noncomputable def slices_IndexFunc_J1  : Option Int :=
  some (-1)

noncomputable def slices_IndexFunc_K1  : (Fl Unit Int) → Option Int :=
  fun (x : (Fl Unit Int)) => match x with | .go _ => slices_IndexFunc_J1 | .ret x => some x

noncomputable def slices_IndexFunc_L1  (s1 : List Int) : Int → Option (St Int (Fl Unit Int)) :=
  fun (x : Int) => match x with | z1 => if (decide (z1 < (s1.length : Int))) then ((slices_IndexFunc_J2 s1 z1)) else (some (.done (.go ())))

noncomputable def slices_IndexFunc_m  (s1 : List Int) : Option Int :=
  (loop (slices_IndexFunc_L1 s1) 0).bind slices_IndexFunc_K1

set_option maxRecDepth 100000 in
set_option maxHeartbeats 4000000 in
theorem slices_IndexFunc_w {A1 : Option Addr} {c1 : Nat} {n1 : Nat} {s1 : List Int} {r : Int} {w0 w : World} {B : Nat} {fs : List HP} (hm : slices_IndexFunc_m s1 = some r) (hS : Sep w0 B w (fs)) (hr_s1 : RdF w0 B fs A1 (vI s1)) (_hc_s1 : s1.length ≤ c1) (_hn_s1 : n1 = s1.length) :
    Calls Try.prog 179 #[.slice A1 n1 c1, .func (.func 187) #[] #[]] w fun e w' => e = .returned (.int .i64 r) ∧ Sep w0 B w' (fs) := by
  obtain ⟨i3, hi3, hz3, hs3, hb3⟩ := info_parts Info3
  obtain rfl := _hn_s1
  unfold slices_IndexFunc_m at hm
  replace hm := start_b hm
  refine enter (l := [.slice A1 s1.length c1, .func (.func 187) #[] #[]]) (n := 19) Try.func179 rfl rfl (by simp) (fun a hF => ?_)
  refine reg [] [] [0, 1] [pl 0 (.slice A1 s1.length c1), pl 1 (.func (.func 187) #[] #[])] hF hS Fol (by kernel_rfl) (by kernel_rfl) (by kernel_rfl) ?_ (fun a w hF hS => ?_)
  · exact obs_nil
  refine seq_cut (fun a w => Fr 19 [] a ∧ Sep w0 B w (fs) ∧ (slices_IndexFunc_J1).bind some = some r) ?_ ?_
  · rintro a w ⟨hF, hS, hm⟩
    unfold slices_IndexFunc_J1 at hm
    refine reg [] [] [4] [pl 4 (.int .i64 (-1))] hF hS Fol (by kernel_rfl) (by kernel_rfl) (by kernel_rfl) ?_ (fun a w hF hS => ?_)
    · exact obs_nil
    refine wpIn_ret ?_
    have hm : some (-1) = some r := hm
    obtain rfl := Option.some.inj hm
    exact retV (rs := [.tmp 4]) (vs := [.int .i64 (-1)]) hF rfl (rv_t (by kernel_rfl) <| rv_nil) rfl ⟨rfl, hS⟩
  · refine reg [] [] [0, 1, 7, 8] [pl 0 (.slice A1 s1.length c1), pl 1 (.func (.func 187) #[] #[]), pl 7 (.int .i64 (s1.length : Int)), pl 8 (.int .i64 0)] hF hS Fol (by kernel_rfl) (by kernel_rfl) (by kernel_rfl) ?_ (fun a w hF hS => ?_)
    · exact obs_nil
    refine wpIn_block ?_
    refine wp_loop_model (S := Int) (R := (Fl Unit Int)) (slices_IndexFunc_L1 s1) (fun x => (slices_IndexFunc_K1 x).bind some) r (fun (x : Int) a w => Fr 19 [pl 0 (.slice A1 s1.length c1), pl 1 (.func (.func 187) #[] #[]), pl 7 (.int .i64 (s1.length : Int)), pl 8 (.int .i64 x)] a ∧ Sep w0 B w (fs)) (assoc_b hm) ⟨hF.weak [0, 1, 7, 8] (by kernel_rfl), hS⟩ ?_
    clear hF hS hm
    rintro nn1 z1 a w ⟨hF, hS⟩ hm
    generalize hφ1 : stK (slices_IndexFunc_L1 s1) nn1 (fun x => (slices_IndexFunc_K1 x).bind some) = φ1 at hm
    unfold slices_IndexFunc_L1 at hm
    dsimp only at hm
    refine reg [] [] [0, 1, 7, 8, 9] [pl 0 (.slice A1 s1.length c1), pl 1 (.func (.func 187) #[] #[]), pl 7 (.int .i64 (s1.length : Int)), pl 8 (.int .i64 z1), pl 9 (.bool (decide (z1 < (s1.length : Int))))] hF hS Fol (by kernel_rfl) (by kernel_rfl) (by kernel_rfl) ?_ (fun a w hF hS => ?_)
    · exact obs_nil
    refine seq_cut (fun a w => Fr 19 [pl 0 (.slice A1 s1.length c1), pl 1 (.func (.func 187) #[] #[]), pl 7 (.int .i64 (s1.length : Int)), pl 8 (.int .i64 z1)] a ∧ Sep w0 B w (fs) ∧ ((slices_IndexFunc_J2 s1 z1)).bind φ1 = some r) ?_ ?_
    · rintro a w ⟨hF, hS, hm⟩
      unfold slices_IndexFunc_J2 at hm
      refine seq_cut (fun a w => Fr 19 [pl 0 (.slice A1 s1.length c1), pl 1 (.func (.func 187) #[] #[]), pl 7 (.int .i64 (s1.length : Int)), pl 8 (.int .i64 z1)] a ∧ Sep w0 B w (fs) ∧ ((slices_IndexFunc_J3 z1)).bind φ1 = some r) ?_ ?_
      · rintro a w ⟨hF, hS, hm⟩
        unfold slices_IndexFunc_J3 at hm
        refine reg1 [] [] [0, 1, 7, 8] [pl 0 (.slice A1 s1.length c1), pl 1 (.func (.func 187) #[] #[]), pl 7 (.int .i64 (s1.length : Int)), pl 8 (.int .i64 (w64 (z1 + 1)))] hF hS Fol (by kernel_rfl) (by kernel_rfl) (by kernel_rfl) ?_ (fun a w hF hS => ?_)
        · exact obs_nil
        refine then_n ?_
        rw [← hφ1] at hm
        exact ⟨(w64 (z1 + 1)), ⟨hF.weak [0, 1, 7, 8] (by kernel_rfl), hS⟩, hm⟩
      · refine wpIn_block ?_
        refine reg [] [] [0, 1, 5, 7, 8] [pl 0 (.slice A1 s1.length c1), pl 1 (.func (.func 187) #[] #[]), pl 5 (.int .i64 z1), pl 7 (.int .i64 (s1.length : Int)), pl 8 (.int .i64 z1)] hF hS Fol (by kernel_rfl) (by kernel_rfl) (by kernel_rfl) ?_ (fun a w hF hS => ?_)
        · exact obs_nil
        obtain ⟨hp1, hm⟩ := asrt_b hm
        obtain ⟨r1, hr1, hm⟩ := call_b hm
        refine reg [⟨true, [], vS (Instr.indexAt 22 (.slice A1 s1.length c1) (.int .i64 z1)), .pointer (some (sAddr A1 z1))⟩, ⟨false, [], vS (Instr.loadAt 3 (.pointer (some (sAddr A1 z1)))), .int .i64 (geti s1 z1)⟩, ⟨false, [], callFunc 187 #[.int .i64 (geti s1 z1)], .bool r1⟩] [none, none, none, some (.pointer (some (sAddr A1 z1))), some (.int .i64 (geti s1 z1)), some (.bool r1)] [0, 1, 5, 7, 8, 16] [pl 0 (.slice A1 s1.length c1), pl 1 (.func (.func 187) #[] #[]), pl 5 (.int .i64 z1), pl 7 (.int .i64 (s1.length : Int)), pl 8 (.int .i64 z1), pl 16 (.bool r1)] hF hS Fol (by kernel_rfl) (by kernel_rfl) (by kernel_rfl) ?_ (fun a w hF hS => ?_)
        · exact obs_cons (ob_ix1 (f := (Value.int .i64)) (m := s1) Und22 hi3 hs3 (hr_s1 _ (hS.dropN 0)) rfl (fun _ => hp1)) <| obs_cons (ob_get1 (n := s1.length) (m := s1) (Value.int .i64) (0 : Int) Agg3 (fun _ hS => ⟨_, (hr_s1 _ (hS.dropN 0))⟩) (fun _ hS => rfl) (fun _ => hp1)) <| obs_cons (ob_call Try.func187 (by kernel_rfl) rfl (fun _ _ hS => rows_May_1_w hr1 hS )) <| obs_nil
        refine cond_ev (t := 16) (b := r1) hF (by kernel_rfl) (fun hb => ?_) (fun hb => ?_)
        · replace hm := if_t hm hb
          refine reg [] [] [4] [pl 4 (.int .i64 z1)] hF hS Fol (by kernel_rfl) (by kernel_rfl) (by kernel_rfl) ?_ (fun a w hF hS => ?_)
          · exact obs_nil
          refine wpIn_ret ?_
          refine block_r (then_r (then_r (block_r (then_r ?_))))
          rw [← hφ1] at hm
          replace hm := done_b hm
          unfold slices_IndexFunc_K1 at hm
          try dsimp only at hm
          have hm : some z1 = some r := hm
          obtain rfl := Option.some.inj hm
          exact retV (rs := [.tmp 4]) (vs := [.int .i64 z1]) hF rfl (rv_t (by kernel_rfl) <| rv_nil) rfl ⟨rfl, hS⟩
        · replace hm := if_f hm hb
          refine wpIn_skip ?_
          refine block_n ?_
          refine then_n ?_
          exact ⟨hF.weak [0, 1, 7, 8] (by kernel_rfl), hS, hm⟩
    · refine cond_ev (t := 9) (b := decide (z1 < (s1.length : Int))) hF (by kernel_rfl) (fun hb => ?_) (fun hb => ?_)
      · replace hm := if_t hm hb
        refine wpIn_skip ?_
        refine then_n ?_
        exact ⟨hF.weak [0, 1, 7, 8] (by kernel_rfl), hS, hm⟩
      · replace hm := if_f hm hb
        refine wpIn_exit ?_
        refine then_e (then_e (block_e (then_n ?_)))
        rw [← hφ1] at hm
        replace hm := done_b hm
        unfold slices_IndexFunc_K1 at hm
        try dsimp only at hm
        have hm : (slices_IndexFunc_J1).bind some = some r := hm
        exact ⟨hF.weak [] (by kernel_rfl), hS, hm⟩

noncomputable def slices_ContainsFunc_m  (s1 : List Int) : Option Bool :=
  (slices_IndexFunc_m s1).bind fun r1 => some (decide ((0 : Int) ≤ r1))

set_option maxRecDepth 100000 in
set_option maxHeartbeats 4000000 in
theorem slices_ContainsFunc_w {A1 : Option Addr} {c1 : Nat} {n1 : Nat} {s1 : List Int} {r : Bool} {w0 w : World} {B : Nat} {fs : List HP} (hm : slices_ContainsFunc_m s1 = some r) (hS : Sep w0 B w (fs)) (hr_s1 : RdF w0 B fs A1 (vI s1)) (_hc_s1 : s1.length ≤ c1) (_hn_s1 : n1 = s1.length) :
    Calls Try.prog 129 #[.slice A1 n1 c1, .func (.func 187) #[] #[]] w fun e w' => e = .returned (.bool r) ∧ Sep w0 B w' (fs) := by
  obtain ⟨i3, hi3, hz3, hs3, hb3⟩ := info_parts Info3
  obtain rfl := _hn_s1
  unfold slices_ContainsFunc_m at hm
  replace hm := start_b hm
  refine enter (l := [.slice A1 s1.length c1, .func (.func 187) #[] #[]]) (n := 9) Try.func129 rfl rfl (by simp) (fun a hF => ?_)
  refine reg [] [] [0, 1] [pl 0 (.slice A1 s1.length c1), pl 1 (.func (.func 187) #[] #[])] hF hS Fol (by kernel_rfl) (by kernel_rfl) (by kernel_rfl) ?_ (fun a w hF hS => ?_)
  · exact obs_nil
  obtain ⟨r1, hr1, hm⟩ := call_b hm
  refine reg [⟨false, [], callFunc 179 #[.slice A1 s1.length c1, .func (.func 187) #[] #[]], .int .i64 r1⟩] [none, none, some (.int .i64 r1), none, none] [4] [pl 4 (.bool (decide ((0 : Int) ≤ r1)))] hF hS Fol (by kernel_rfl) (by kernel_rfl) (by kernel_rfl) ?_ (fun a w hF hS => ?_)
  · exact obs_cons (ob_call Try.func179 (by kernel_rfl) rfl (fun _ _ hS => slices_IndexFunc_w hr1 hS (fun _ hS => (hr_s1 _ (hS.dropN 0))) _hc_s1 rfl)) <| obs_nil
  refine wpIn_ret ?_
  have hm : some (decide ((0 : Int) ≤ r1)) = some r := hm
  obtain rfl := Option.some.inj hm
  exact retV (rs := [.tmp 4]) (vs := [.bool (decide ((0 : Int) ≤ r1))]) hF rfl (rv_t (by kernel_rfl) <| rv_nil) rfl ⟨rfl, hS⟩

noncomputable def rows_May_m  (g1 : Int) (g2 : Int) (g3 : List Int) : Option Bool :=
  ((if (((((decide ((1 : Int) ≤ g1)) && (decide (g1 ≤ 10))) && (decide ((1 : Int) ≤ g2))) && (decide (g2 ≤ 10))) && ((g3.length : Int) == (w64 (g1 * g2)))) then slices_ContainsFunc_m g3 else some false)).bind fun r1 => some ((((((decide ((1 : Int) ≤ g1)) && (decide (g1 ≤ 10))) && (decide ((1 : Int) ≤ g2))) && (decide (g2 ≤ 10))) && ((g3.length : Int) == (w64 (g1 * g2)))) && (!r1))

set_option maxRecDepth 100000 in
set_option maxHeartbeats 4000000 in
theorem rows_May_w {g1 : Int} {g2 : Int} {A1 : Option Addr} {c1 : Nat} {n1 : Nat} {g3 : List Int} {r : Bool} {w0 w : World} {B : Nat} {fs : List HP} (hm : rows_May_m g1 g2 g3 = some r) (hS : Sep w0 B w (fs)) (hr_g3 : RdF w0 B fs A1 (vI g3)) (_hc_g3 : g3.length ≤ c1) (_hn_g3 : n1 = g3.length) :
    Calls Try.prog 143 #[.agg #[.int .i64 g1, .int .i64 g2, .slice A1 n1 c1]] w fun e w' => e = .returned (.bool r) ∧ Sep w0 B w' (fs) := by
  obtain ⟨i3, hi3, hz3, hs3, hb3⟩ := info_parts Info3
  obtain rfl := _hn_g3
  unfold rows_May_m at hm
  replace hm := start_b hm
  refine enter (l := [.agg #[.int .i64 g1, .int .i64 g2, .slice A1 g3.length c1]]) (n := 38) Try.func143 rfl rfl (by simp) (fun a hF => ?_)
  refine seqR ?_
  refine at_do (d := 1) (s := vS (Instr.box 24 (.agg #[.int .i64 g1, .int .i64 g2, .slice A1 g3.length c1]))) (v := .pointer (some ⟨w.heap.size, 0, none⟩)) (w' := w.alloc (.cells #[.int .i64 g1, .int .i64 g2, .slice A1 g3.length c1] 24)) hF (by kernel_rfl) (by kernel_rfl) (by kernel_rfl) (fun a hF => ?_)
  have hS : Sep w0 B (w.alloc (.cells #[.int .i64 g1, .int .i64 g2, .slice A1 g3.length c1] 24)) (blk w.heap.size 24 #[.int .i64 g1, .int .i64 g2, .slice A1 g3.length c1] :: (fs)) := hS.box 24 #[.int .i64 g1, .int .i64 g2, .slice A1 g3.length c1]
  generalize w.heap.size = g4 at hF hS
  generalize w.alloc (.cells #[.int .i64 g1, .int .i64 g2, .slice A1 g3.length c1] 24) = w at hS ⊢
  refine at_run 1 [] [] [1] [pl 1 (.pointer (some ⟨g4, 0, none⟩))] hF hS (by kernel_rfl) (by kernel_rfl) ?_ (fun a w hF hS => ?_)
  · exact obs_nil
  refine at_end [1] [pl 1 (.pointer (some ⟨g4, 0, none⟩))] hF rfl (by kernel_rfl) (fun hF => ?_)
  refine then_n ?_
  obtain ⟨r1, hr1, hm⟩ := call_b hm
  refine reg [⟨false, [], vS (Instr.loadAt 3 (.pointer (some ⟨g4, 0, none⟩))), .int .i64 g1⟩, ⟨false, [(decide ((1 : Int) ≤ g1), true)], vS (Instr.loadAt 3 (.pointer (some ⟨g4, 0, none⟩))), .int .i64 g1⟩, ⟨false, [((decide ((1 : Int) ≤ g1)) && (decide (g1 ≤ 10)), true)], vS (Instr.loadAt 3 (.pointer (some ⟨g4, 1, none⟩))), .int .i64 g2⟩, ⟨false, [(((decide ((1 : Int) ≤ g1)) && (decide (g1 ≤ 10))) && (decide ((1 : Int) ≤ g2)), true)], vS (Instr.loadAt 3 (.pointer (some ⟨g4, 1, none⟩))), .int .i64 g2⟩, ⟨false, [((((decide ((1 : Int) ≤ g1)) && (decide (g1 ≤ 10))) && (decide ((1 : Int) ≤ g2))) && (decide (g2 ≤ 10)), true)], vS (Instr.loadAt 22 (.pointer (some ⟨g4, 2, none⟩))), .slice A1 g3.length c1⟩, ⟨false, [((((decide ((1 : Int) ≤ g1)) && (decide (g1 ≤ 10))) && (decide ((1 : Int) ≤ g2))) && (decide (g2 ≤ 10)), true)], vS (Instr.loadAt 3 (.pointer (some ⟨g4, 0, none⟩))), .int .i64 g1⟩, ⟨false, [((((decide ((1 : Int) ≤ g1)) && (decide (g1 ≤ 10))) && (decide ((1 : Int) ≤ g2))) && (decide (g2 ≤ 10)), true)], vS (Instr.loadAt 3 (.pointer (some ⟨g4, 1, none⟩))), .int .i64 g2⟩, ⟨false, [(((((decide ((1 : Int) ≤ g1)) && (decide (g1 ≤ 10))) && (decide ((1 : Int) ≤ g2))) && (decide (g2 ≤ 10))) && ((g3.length : Int) == (w64 (g1 * g2))), true)], vS (Instr.loadAt 22 (.pointer (some ⟨g4, 2, none⟩))), .slice A1 g3.length c1⟩, ⟨false, [(((((decide ((1 : Int) ≤ g1)) && (decide (g1 ≤ 10))) && (decide ((1 : Int) ≤ g2))) && (decide (g2 ≤ 10))) && ((g3.length : Int) == (w64 (g1 * g2))), true)], callFunc 129 #[.slice A1 g3.length c1, .func (.func 187) #[] #[]], .bool r1⟩] [none, some (.int .i64 g1), none, none, none, some (.int .i64 g1), none, none, none, none, some (.int .i64 g2), none, none, none, none, some (.int .i64 g2), none, none, none, none, some (.slice A1 g3.length c1), none, none, some (.int .i64 g1), none, some (.int .i64 g2), none, none, none, none, none, some (.slice A1 g3.length c1), some (.bool r1), none, none, none] [2] [pl 2 (.bool ((((((decide ((1 : Int) ≤ g1)) && (decide (g1 ≤ 10))) && (decide ((1 : Int) ≤ g2))) && (decide (g2 ≤ 10))) && ((g3.length : Int) == (w64 (g1 * g2)))) && (!r1)))] hF hS Fol (by kernel_rfl) (by kernel_rfl) (by kernel_rfl) ?_ (fun a w hF hS => ?_)
  · exact obs_cons (ob_load Agg3 (fun _ _ hS => (hS.at_ 0 rfl).cell rfl)) <| obs_cons (ob_load Agg3 (fun _ _ hS => (hS.at_ 0 rfl).cell rfl)) <| obs_cons (ob_load Agg3 (fun _ _ hS => (hS.at_ 0 rfl).cell rfl)) <| obs_cons (ob_load Agg3 (fun _ _ hS => (hS.at_ 0 rfl).cell rfl)) <| obs_cons (ob_load Agg22 (fun _ _ hS => (hS.at_ 0 rfl).cell rfl)) <| obs_cons (ob_load Agg3 (fun _ _ hS => (hS.at_ 0 rfl).cell rfl)) <| obs_cons (ob_load Agg3 (fun _ _ hS => (hS.at_ 0 rfl).cell rfl)) <| obs_cons (ob_load Agg22 (fun _ _ hS => (hS.at_ 0 rfl).cell rfl)) <| obs_cons (ob_call Try.func129 (by kernel_rfl) rfl (fun hy _ hS => slices_ContainsFunc_w (ite_some hr1 (by rw [show (((((decide ((1 : Int) ≤ g1)) && (decide (g1 ≤ 10))) && (decide ((1 : Int) ≤ g2))) && (decide (g2 ≤ 10))) && ((g3.length : Int) == (w64 (g1 * g2)))) = true from hy (((((decide ((1 : Int) ≤ g1)) && (decide (g1 ≤ 10))) && (decide ((1 : Int) ≤ g2))) && (decide (g2 ≤ 10))) && ((g3.length : Int) == (w64 (g1 * g2))), true) (by simp)]; try rfl)) hS (fun _ hS => (hr_g3 _ (hS.dropN 1))) _hc_g3 rfl)) <| obs_nil
  refine wpIn_ret ?_
  have hS := hS.pickN 1 [] (by decide)
  have hm : some ((((((decide ((1 : Int) ≤ g1)) && (decide (g1 ≤ 10))) && (decide ((1 : Int) ≤ g2))) && (decide (g2 ≤ 10))) && ((g3.length : Int) == (w64 (g1 * g2)))) && (!r1)) = some r := hm
  obtain rfl := Option.some.inj hm
  exact retV (rs := [.tmp 2]) (vs := [.bool ((((((decide ((1 : Int) ≤ g1)) && (decide (g1 ≤ 10))) && (decide ((1 : Int) ≤ g2))) && (decide (g2 ≤ 10))) && ((g3.length : Int) == (w64 (g1 * g2)))) && (!r1))]) hF rfl (rv_t (by kernel_rfl) <| rv_nil) rfl ⟨rfl, hS⟩

noncomputable def hex_check_J1  : Option Int :=
  some 0

noncomputable def hex_check_m  (g1 : Int) (g2 : Int) (g3 : List Int) : Option Int :=
  (rows_May_m g1 g2 g3).bind fun r1 => if ((!r1) || (g1 != g2)) then (some 12) else (hex_check_J1)

set_option maxRecDepth 100000 in
set_option maxHeartbeats 4000000 in
theorem hex_check_w {g1 : Int} {g2 : Int} {A1 : Option Addr} {c1 : Nat} {n1 : Nat} {g3 : List Int} {r : Int} {w0 w : World} {B : Nat} {fs : List HP} (hm : hex_check_m g1 g2 g3 = some r) (hS : Sep w0 B w (fs)) (hr_g3 : RdF w0 B fs A1 (vI g3)) (_hc_g3 : g3.length ≤ c1) (_hn_g3 : n1 = g3.length) :
    Calls Try.prog 92 #[.agg #[.int .i64 g1, .int .i64 g2, .slice A1 n1 c1]] w fun e w' => e = .returned (.int .i64 r) ∧ Sep w0 B w' (fs) := by
  obtain ⟨i3, hi3, hz3, hs3, hb3⟩ := info_parts Info3
  obtain rfl := _hn_g3
  unfold hex_check_m at hm
  replace hm := start_b hm
  refine enter (l := [.agg #[.int .i64 g1, .int .i64 g2, .slice A1 g3.length c1]]) (n := 13) Try.func92 rfl rfl (by simp) (fun a hF => ?_)
  refine seqR ?_
  refine at_do (d := 1) (s := vS (Instr.box 24 (.agg #[.int .i64 g1, .int .i64 g2, .slice A1 g3.length c1]))) (v := .pointer (some ⟨w.heap.size, 0, none⟩)) (w' := w.alloc (.cells #[.int .i64 g1, .int .i64 g2, .slice A1 g3.length c1] 24)) hF (by kernel_rfl) (by kernel_rfl) (by kernel_rfl) (fun a hF => ?_)
  have hS : Sep w0 B (w.alloc (.cells #[.int .i64 g1, .int .i64 g2, .slice A1 g3.length c1] 24)) (blk w.heap.size 24 #[.int .i64 g1, .int .i64 g2, .slice A1 g3.length c1] :: (fs)) := hS.box 24 #[.int .i64 g1, .int .i64 g2, .slice A1 g3.length c1]
  generalize w.heap.size = g4 at hF hS
  generalize w.alloc (.cells #[.int .i64 g1, .int .i64 g2, .slice A1 g3.length c1] 24) = w at hS ⊢
  refine at_run 1 [] [] [1] [pl 1 (.pointer (some ⟨g4, 0, none⟩))] hF hS (by kernel_rfl) (by kernel_rfl) ?_ (fun a w hF hS => ?_)
  · exact obs_nil
  refine at_end [1] [pl 1 (.pointer (some ⟨g4, 0, none⟩))] hF rfl (by kernel_rfl) (fun hF => ?_)
  refine then_n ?_
  refine seq_cut (fun a w => Fr 13 [] a ∧ Sep w0 B w (fs) ∧ (hex_check_J1).bind some = some r) ?_ ?_
  · rintro a w ⟨hF, hS, hm⟩
    unfold hex_check_J1 at hm
    refine reg [] [] [2] [pl 2 (.int .i64 0)] hF hS Fol (by kernel_rfl) (by kernel_rfl) (by kernel_rfl) ?_ (fun a w hF hS => ?_)
    · exact obs_nil
    refine wpIn_ret ?_
    have hm : some 0 = some r := hm
    obtain rfl := Option.some.inj hm
    exact retV (rs := [.tmp 2]) (vs := [.int .i64 0]) hF rfl (rv_t (by kernel_rfl) <| rv_nil) rfl ⟨rfl, hS⟩
  · obtain ⟨r1, hr1, hm⟩ := call_b hm
    refine reg [⟨false, [], vS (Instr.loadAt 24 (.pointer (some ⟨g4, 0, none⟩))), .agg #[.int .i64 g1, .int .i64 g2, .slice A1 g3.length c1]⟩, ⟨false, [], callFunc 143 #[.agg #[.int .i64 g1, .int .i64 g2, .slice A1 g3.length c1]], .bool r1⟩, ⟨false, [(!r1, false)], vS (Instr.loadAt 3 (.pointer (some ⟨g4, 0, none⟩))), .int .i64 g1⟩, ⟨false, [(!r1, false)], vS (Instr.loadAt 3 (.pointer (some ⟨g4, 1, none⟩))), .int .i64 g2⟩] [some (.agg #[.int .i64 g1, .int .i64 g2, .slice A1 g3.length c1]), some (.bool r1), none, none, none, some (.int .i64 g1), none, some (.int .i64 g2), none, none] [12] [pl 12 (.bool ((!r1) || (g1 != g2)))] hF hS Fol (by kernel_rfl) (by kernel_rfl) (by kernel_rfl) ?_ (fun a w hF hS => ?_)
    · exact obs_cons (ob_loadA (cs := #[.int .i64 g1, .int .i64 g2, .slice A1 g3.length c1]) (by kernel_rfl) (by kernel_rfl) (fun _ _ hS => (hS.at_ 0 rfl).cellsAt 0 (by rfl))) <| obs_cons (ob_call Try.func143 (by kernel_rfl) rfl (fun _ _ hS => rows_May_w hr1 hS (fun _ hS => (hr_g3 _ (hS.dropN 1))) _hc_g3 rfl)) <| obs_cons (ob_load Agg3 (fun _ _ hS => (hS.at_ 0 rfl).cell rfl)) <| obs_cons (ob_load Agg3 (fun _ _ hS => (hS.at_ 0 rfl).cell rfl)) <| obs_nil
    refine cond_ev (t := 12) (b := (!r1) || (g1 != g2)) hF (by kernel_rfl) (fun hb => ?_) (fun hb => ?_)
    · replace hm := if_t hm hb
      refine reg [] [] [2] [pl 2 (.int .i64 12)] hF hS Fol (by kernel_rfl) (by kernel_rfl) (by kernel_rfl) ?_ (fun a w hF hS => ?_)
      · exact obs_nil
      refine wpIn_ret ?_
      refine then_r ?_
      have hS := hS.pickN 1 [] (by decide)
      have hm : some 12 = some r := hm
      obtain rfl := Option.some.inj hm
      exact retV (rs := [.tmp 2]) (vs := [.int .i64 12]) hF rfl (rv_t (by kernel_rfl) <| rv_nil) rfl ⟨rfl, hS⟩
    · replace hm := if_f hm hb
      refine wpIn_skip ?_
      refine then_n ?_
      have hS := hS.pickN 1 [] (by decide)
      exact ⟨hF.weak [] (by kernel_rfl), hS, hm⟩

noncomputable def hex_near_m  (n1 : Int) (at1 : Int) : Option (Int × Int) :=
  some (at1, n1)

set_option maxRecDepth 100000 in
set_option maxHeartbeats 4000000 in
theorem hex_near_w {n1 : Int} {at1 : Int} {r : (Int × Int)} {w0 w : World} {B : Nat} {fs : List HP} (hm : hex_near_m n1 at1 = some r) (hS : Sep w0 B w (fs)) :
    Calls Try.prog 99 #[.int .i64 n1, .int .i64 at1] w fun e w' => ∃ v, e = .returned v ∧ ∃ (g3 : Nat) (g4 : Nat), v = .func (.func 149) #[] #[.pointer (some ⟨g3, 0, none⟩), .pointer (some ⟨g4, 0, none⟩)] ∧ Sep w0 B w' (blk g3 3 #[.int .i64 r.1] :: blk g4 3 #[.int .i64 r.2] :: fs) := by
  unfold hex_near_m at hm
  replace hm := start_b hm
  refine enter (l := [.int .i64 n1, .int .i64 at1]) (n := 6) Try.func99 rfl rfl (by simp) (fun a hF => ?_)
  refine seqR ?_
  refine at_do (d := 2) (s := vS (Instr.box 3 (.int .i64 n1))) (v := .pointer (some ⟨w.heap.size, 0, none⟩)) (w' := w.alloc (.cells #[.int .i64 n1] 3)) hF (by kernel_rfl) (by kernel_rfl) (by kernel_rfl) (fun a hF => ?_)
  have hS : Sep w0 B (w.alloc (.cells #[.int .i64 n1] 3)) (blk w.heap.size 3 #[.int .i64 n1] :: (fs)) := hS.box 3 #[.int .i64 n1]
  generalize w.heap.size = g1 at hF hS
  generalize w.alloc (.cells #[.int .i64 n1] 3) = w at hS ⊢
  refine at_do (d := 3) (s := vS (Instr.box 3 (.int .i64 at1))) (v := .pointer (some ⟨w.heap.size, 0, none⟩)) (w' := w.alloc (.cells #[.int .i64 at1] 3)) hF (by kernel_rfl) (by kernel_rfl) (by kernel_rfl) (fun a hF => ?_)
  have hS : Sep w0 B (w.alloc (.cells #[.int .i64 at1] 3)) (blk w.heap.size 3 #[.int .i64 at1] :: (blk g1 3 #[.int .i64 n1] :: fs)) := hS.box 3 #[.int .i64 at1]
  generalize w.heap.size = g2 at hF hS
  generalize w.alloc (.cells #[.int .i64 at1] 3) = w at hS ⊢
  refine at_run 1 [] [] [2, 3] [pl 2 (.pointer (some ⟨g1, 0, none⟩)), pl 3 (.pointer (some ⟨g2, 0, none⟩))] hF hS (by kernel_rfl) (by kernel_rfl) ?_ (fun a w hF hS => ?_)
  · exact obs_nil
  refine at_end [2, 3] [pl 2 (.pointer (some ⟨g1, 0, none⟩)), pl 3 (.pointer (some ⟨g2, 0, none⟩))] hF rfl (by kernel_rfl) (fun hF => ?_)
  refine then_n ?_
  refine reg [] [] [4] [pl 4 (.func (.func 149) #[] #[.pointer (some ⟨g2, 0, none⟩), .pointer (some ⟨g1, 0, none⟩)])] hF hS Fol (by kernel_rfl) (by kernel_rfl) (by kernel_rfl) ?_ (fun a w hF hS => ?_)
  · exact obs_nil
  refine wpIn_ret ?_
  have hm : some (at1, n1) = some r := hm
  obtain rfl := Option.some.inj hm
  exact retV (rs := [.tmp 4]) (vs := [.func (.func 149) #[] #[.pointer (some ⟨g2, 0, none⟩), .pointer (some ⟨g1, 0, none⟩)]]) hF rfl (rv_t (by kernel_rfl) <| rv_nil) rfl ⟨_, rfl, g2, g1, rfl, hS⟩

noncomputable def hex_near_1_J3 {S : Type}  (z1 : Int) (yield3 : S) : Option (St (S × Int) (Fl S S)) :=
  some (.next (yield3, (w64 (z1 + 1))))

noncomputable def hex_near_1_J4 {S : Type}  (z1 : Int) (yield2 : S) (z2 : Bool) : Option (St (S × Int) (Fl S S)) :=
  if z2 then (some (.done (.ret yield2))) else ((hex_near_1_J3 z1) yield2)

noncomputable def hex_near_1_J2 {S : Type}  (yd1 : Int → S → Option (S × Bool)) (p11 : Int) (p21 : Int) (yield1 : S) (z1 : Int) : Option (St (S × Int) (Fl S S)) :=
  asrt (0 ≤ z1 ∧ z1 < 6) <| if ((((decide ((0 : Int) ≤ (w64 ((Int.tmod p11 p21) + (geti ([(-1), 0, 1, 0, 0, (-1), 1, (-1), (-1), 1, 0, 1] : List Int) (z1 * 2)))))) && (decide ((w64 ((Int.tmod p11 p21) + (geti ([(-1), 0, 1, 0, 0, (-1), 1, (-1), (-1), 1, 0, 1] : List Int) (z1 * 2)))) < p21))) && (decide ((0 : Int) ≤ (w64 ((w64 (Int.tdiv p11 p21)) + (geti ([(-1), 0, 1, 0, 0, (-1), 1, (-1), (-1), 1, 0, 1] : List Int) (z1 * 2 + 1))))))) && (decide ((w64 ((w64 (Int.tdiv p11 p21)) + (geti ([(-1), 0, 1, 0, 0, (-1), 1, (-1), (-1), 1, 0, 1] : List Int) (z1 * 2 + 1)))) < p21))) then ((yd1 (w64 ((w64 ((w64 ((w64 (Int.tdiv p11 p21)) + (geti ([(-1), 0, 1, 0, 0, (-1), 1, (-1), (-1), 1, 0, 1] : List Int) (z1 * 2 + 1)))) * p21)) + (w64 ((Int.tmod p11 p21) + (geti ([(-1), 0, 1, 0, 0, (-1), 1, (-1), (-1), 1, 0, 1] : List Int) (z1 * 2)))))) yield1).bind fun r1 => (hex_near_1_J4 z1) r1.1 (((((decide ((0 : Int) ≤ (w64 ((Int.tmod p11 p21) + (geti ([(-1), 0, 1, 0, 0, (-1), 1, (-1), (-1), 1, 0, 1] : List Int) (z1 * 2)))))) && (decide ((w64 ((Int.tmod p11 p21) + (geti ([(-1), 0, 1, 0, 0, (-1), 1, (-1), (-1), 1, 0, 1] : List Int) (z1 * 2)))) < p21))) && (decide ((0 : Int) ≤ (w64 ((w64 (Int.tdiv p11 p21)) + (geti ([(-1), 0, 1, 0, 0, (-1), 1, (-1), (-1), 1, 0, 1] : List Int) (z1 * 2 + 1))))))) && (decide ((w64 ((w64 (Int.tdiv p11 p21)) + (geti ([(-1), 0, 1, 0, 0, (-1), 1, (-1), (-1), 1, 0, 1] : List Int) (z1 * 2 + 1)))) < p21))) && (!r1.2))) else ((hex_near_1_J4 z1) yield1 (((((decide ((0 : Int) ≤ (w64 ((Int.tmod p11 p21) + (geti ([(-1), 0, 1, 0, 0, (-1), 1, (-1), (-1), 1, 0, 1] : List Int) (z1 * 2)))))) && (decide ((w64 ((Int.tmod p11 p21) + (geti ([(-1), 0, 1, 0, 0, (-1), 1, (-1), (-1), 1, 0, 1] : List Int) (z1 * 2)))) < p21))) && (decide ((0 : Int) ≤ (w64 ((w64 (Int.tdiv p11 p21)) + (geti ([(-1), 0, 1, 0, 0, (-1), 1, (-1), (-1), 1, 0, 1] : List Int) (z1 * 2 + 1))))))) && (decide ((w64 ((w64 (Int.tdiv p11 p21)) + (geti ([(-1), 0, 1, 0, 0, (-1), 1, (-1), (-1), 1, 0, 1] : List Int) (z1 * 2 + 1)))) < p21))) && true))

noncomputable def hex_near_1_J1 {S : Type}  (sv3 : S) : Option S :=
  some sv3

noncomputable def hex_near_1_K1 {S : Type}  : (Fl S S) → Option S :=
  fun (x : (Fl S S)) => match x with | .go sv3 => hex_near_1_J1 sv3 | .ret x => some x

noncomputable def hex_near_1_L1 {S : Type}  (yd1 : Int → S → Option (S × Bool)) (p11 : Int) (p21 : Int) : (S × Int) → Option (St (S × Int) (Fl S S)) :=
  fun (x : (S × Int)) => match x with | (yield1, z1) => if (decide (z1 < 6)) then ((hex_near_1_J2 yd1 p11 p21 yield1 z1)) else (some (.done (.go yield1)))

noncomputable def hex_near_1_m {S : Type}  (yd1 : Int → S → Option (S × Bool)) (sv1 : S) (p11 : Int) (p21 : Int) : Option S :=
  asrt (p21 ≠ (0 : Int)) <| asrt (p21 ≠ (0 : Int)) <| (loop (hex_near_1_L1 yd1 p11 p21) (sv1, 0)).bind hex_near_1_K1

set_option maxRecDepth 100000 in
set_option maxHeartbeats 4000000 in
theorem hex_near_1_w {l1 : Nat} {S : Type} {RS : S → List HP → Prop} {yd1 : Int → S → Option (S × Bool)} {sv1 : S} {g1 : Nat} {p11 : Int} {g2 : Nat} {p21 : Int} {r : S} {w0 w : World} {B : Nat} {fs : List HP} (hm : hex_near_1_m yd1 sv1 p11 p21 = some r) (hS : Sep w0 B w (stateH RS sv1 :: blk g1 3 #[.int .i64 p11] :: blk g2 3 #[.int .i64 p21] :: fs)) (hY : YieldC Try.prog w0 B l1 (fun (x : Int) => #[.int .i64 x]) RS yd1 (blk g1 3 #[.int .i64 p11] :: blk g2 3 #[.int .i64 p21] :: fs)) :
    Calls Try.prog 149 #[.func (.yield l1) #[] #[], .pointer (some ⟨g1, 0, none⟩), .pointer (some ⟨g2, 0, none⟩)] w fun e w' => ∃ v, e = .returned v ∧ v = .tuple #[] ∧ Sep w0 B w' (stateH RS r :: blk g1 3 #[.int .i64 p11] :: blk g2 3 #[.int .i64 p21] :: fs) := by
  unfold hex_near_1_m at hm
  replace hm := start_b hm
  refine enter (l := [.func (.yield l1) #[] #[], .pointer (some ⟨g1, 0, none⟩), .pointer (some ⟨g2, 0, none⟩)]) (n := 61) Try.func149 rfl rfl (by simp) (fun a hF => ?_)
  refine end_cut (fun a w => ∃ (sv3 : S), Fr 61 [] a ∧ Sep w0 B w (stateH RS sv3 :: blk g1 3 #[.int .i64 p11] :: blk g2 3 #[.int .i64 p21] :: fs) ∧ (hex_near_1_J1 sv3).bind some = some r) ?_ ?_
  · rintro a w ⟨sv3, hF, hS, hm⟩
    unfold hex_near_1_J1 at hm
    have hm : some sv3 = some r := hm
    obtain rfl := Option.some.inj hm
    exact endV (rs := []) (vs := []) hF rfl (rv_nil) rfl ⟨_, rfl, rfl, hS⟩ rfl
  · obtain ⟨hp1, hm⟩ := asrt_b hm
    obtain ⟨hp2, hm⟩ := asrt_b hm
    refine reg [⟨false, [], vS (Instr.loadAt 3 (.pointer (some ⟨g1, 0, none⟩))), .int .i64 p11⟩, ⟨false, [], vS (Instr.loadAt 3 (.pointer (some ⟨g2, 0, none⟩))), .int .i64 p21⟩, ⟨true, [], vS (Op.intDiv .rem .i64 p11 p21), .int .i64 (Int.tmod p11 p21)⟩, ⟨false, [], vS (Instr.loadAt 3 (.pointer (some ⟨g1, 0, none⟩))), .int .i64 p11⟩, ⟨false, [], vS (Instr.loadAt 3 (.pointer (some ⟨g2, 0, none⟩))), .int .i64 p21⟩, ⟨true, [], vS (Op.intDiv .quo .i64 p11 p21), .int .i64 (w64 (Int.tdiv p11 p21))⟩] [some (.int .i64 p11), some (.int .i64 p21), some (.int .i64 (Int.tmod p11 p21)), some (.int .i64 p11), some (.int .i64 p21), some (.int .i64 (w64 (Int.tdiv p11 p21))), none, none] [0, 2, 4, 5] [pl 0 (.func (.yield l1) #[] #[]), pl 2 (.pointer (some ⟨g2, 0, none⟩)), pl 4 (.int .i64 (Int.tmod p11 p21)), pl 5 (.int .i64 (w64 (Int.tdiv p11 p21)))] hF hS Fol (by kernel_rfl) (by kernel_rfl) (by kernel_rfl) ?_ (fun a w hF hS => ?_)
    · exact obs_cons (ob_load Agg3 (fun _ _ hS => (hS.at_ 1 rfl).cell rfl)) <| obs_cons (ob_load Agg3 (fun _ _ hS => (hS.at_ 2 rfl).cell rfl)) <| obs_cons (ob_rem rfl (fun _ => hp1)) <| obs_cons (ob_load Agg3 (fun _ _ hS => (hS.at_ 1 rfl).cell rfl)) <| obs_cons (ob_load Agg3 (fun _ _ hS => (hS.at_ 2 rfl).cell rfl)) <| obs_cons (ob_quo rfl (fun _ => hp2)) <| obs_nil
    refine reg [] [] [0, 2, 4, 5, 22, 23] [pl 0 (.func (.yield l1) #[] #[]), pl 2 (.pointer (some ⟨g2, 0, none⟩)), pl 4 (.int .i64 (Int.tmod p11 p21)), pl 5 (.int .i64 (w64 (Int.tdiv p11 p21))), pl 22 (.agg (List.toArray (([] : List Value) ++ (arr1 (Value.int .i64) (0 : Int) 12 ([(-1), 0, 1, 0, 0, (-1), 1, (-1), (-1), 1, 0, 1] : List Int) ++ ([] : List Value))))), pl 23 (.int .i64 0)] hF hS Fol (by kernel_rfl) (by kernel_rfl) (by kernel_rfl) ?_ (fun a w hF hS => ?_)
    · exact obs_nil
    refine wpIn_block ?_
    have hS := hS.pickN 3 [0, 2, 1] (by decide)
    refine wp_loop_model (S := (S × Int)) (R := (Fl S S)) (hex_near_1_L1 yd1 p11 p21) (fun x => (hex_near_1_K1 x).bind some) r (fun (x : (S × Int)) a w => Fr 61 [pl 0 (.func (.yield l1) #[] #[]), pl 2 (.pointer (some ⟨g2, 0, none⟩)), pl 4 (.int .i64 (Int.tmod p11 p21)), pl 5 (.int .i64 (w64 (Int.tdiv p11 p21))), pl 22 (.agg (List.toArray (([] : List Value) ++ (arr1 (Value.int .i64) (0 : Int) 12 ([(-1), 0, 1, 0, 0, (-1), 1, (-1), (-1), 1, 0, 1] : List Int) ++ ([] : List Value))))), pl 23 (.int .i64 x.2)] a ∧ Sep w0 B w (stateH RS x.1 :: blk g2 3 #[.int .i64 p21] :: blk g1 3 #[.int .i64 p11] :: fs)) (assoc_b hm) ⟨hF.weak [0, 2, 4, 5, 22, 23] (by kernel_rfl), hS⟩ ?_
    clear hF hS hm
    rintro nn1 ⟨yield1, z1⟩ a w ⟨hF, hS⟩ hm
    generalize hφ1 : stK (hex_near_1_L1 yd1 p11 p21) nn1 (fun x => (hex_near_1_K1 x).bind some) = φ1 at hm
    unfold hex_near_1_L1 at hm
    dsimp only at hF hS hm
    refine reg [] [] [0, 2, 4, 5, 22, 23, 24] [pl 0 (.func (.yield l1) #[] #[]), pl 2 (.pointer (some ⟨g2, 0, none⟩)), pl 4 (.int .i64 (Int.tmod p11 p21)), pl 5 (.int .i64 (w64 (Int.tdiv p11 p21))), pl 22 (.agg (List.toArray (([] : List Value) ++ (arr1 (Value.int .i64) (0 : Int) 12 ([(-1), 0, 1, 0, 0, (-1), 1, (-1), (-1), 1, 0, 1] : List Int) ++ ([] : List Value))))), pl 23 (.int .i64 z1), pl 24 (.bool (decide (z1 < 6)))] hF hS Fol (by kernel_rfl) (by kernel_rfl) (by kernel_rfl) ?_ (fun a w hF hS => ?_)
    · exact obs_nil
    refine seq_cut (fun a w => Fr 61 [pl 0 (.func (.yield l1) #[] #[]), pl 2 (.pointer (some ⟨g2, 0, none⟩)), pl 4 (.int .i64 (Int.tmod p11 p21)), pl 5 (.int .i64 (w64 (Int.tdiv p11 p21))), pl 22 (.agg (List.toArray (([] : List Value) ++ (arr1 (Value.int .i64) (0 : Int) 12 ([(-1), 0, 1, 0, 0, (-1), 1, (-1), (-1), 1, 0, 1] : List Int) ++ ([] : List Value))))), pl 23 (.int .i64 z1)] a ∧ Sep w0 B w (stateH RS yield1 :: blk g2 3 #[.int .i64 p21] :: blk g1 3 #[.int .i64 p11] :: fs) ∧ ((hex_near_1_J2 yd1 p11 p21 yield1 z1)).bind φ1 = some r) ?_ ?_
    · rintro a w ⟨hF, hS, hm⟩
      unfold hex_near_1_J2 at hm
      refine seq_cut (fun a w => ∃ (yield3 : S), Fr 61 [pl 0 (.func (.yield l1) #[] #[]), pl 2 (.pointer (some ⟨g2, 0, none⟩)), pl 4 (.int .i64 (Int.tmod p11 p21)), pl 5 (.int .i64 (w64 (Int.tdiv p11 p21))), pl 22 (.agg (List.toArray (([] : List Value) ++ (arr1 (Value.int .i64) (0 : Int) 12 ([(-1), 0, 1, 0, 0, (-1), 1, (-1), (-1), 1, 0, 1] : List Int) ++ ([] : List Value))))), pl 23 (.int .i64 z1)] a ∧ Sep w0 B w (stateH RS yield3 :: blk g2 3 #[.int .i64 p21] :: blk g1 3 #[.int .i64 p11] :: fs) ∧ ((hex_near_1_J3 z1) yield3).bind φ1 = some r) ?_ ?_
      · rintro a w ⟨yield3, hF, hS, hm⟩
        unfold hex_near_1_J3 at hm
        refine reg1 [] [] [0, 2, 4, 5, 22, 23] [pl 0 (.func (.yield l1) #[] #[]), pl 2 (.pointer (some ⟨g2, 0, none⟩)), pl 4 (.int .i64 (Int.tmod p11 p21)), pl 5 (.int .i64 (w64 (Int.tdiv p11 p21))), pl 22 (.agg (List.toArray (([] : List Value) ++ (arr1 (Value.int .i64) (0 : Int) 12 ([(-1), 0, 1, 0, 0, (-1), 1, (-1), (-1), 1, 0, 1] : List Int) ++ ([] : List Value))))), pl 23 (.int .i64 (w64 (z1 + 1)))] hF hS Fol (by kernel_rfl) (by kernel_rfl) (by kernel_rfl) ?_ (fun a w hF hS => ?_)
        · exact obs_nil
        refine then_n ?_
        rw [← hφ1] at hm
        exact ⟨(yield3, (w64 (z1 + 1))), ⟨hF.weak [0, 2, 4, 5, 22, 23] (by kernel_rfl), hS⟩, hm⟩
      · refine wpIn_block ?_
        refine seqR ?_
        obtain ⟨hp3, hm⟩ := asrt_b hm
        refine at_run 1 [⟨true, [], vS (Instr.index 190 (.agg (List.toArray (([] : List Value) ++ (arr1 (Value.int .i64) (0 : Int) 12 ([(-1), 0, 1, 0, 0, (-1), 1, (-1), (-1), 1, 0, 1] : List Int) ++ ([] : List Value))))) (.int .i64 z1)), .agg #[.int .i64 (geti ([(-1), 0, 1, 0, 0, (-1), 1, (-1), (-1), 1, 0, 1] : List Int) (z1 * 2)), .int .i64 (geti ([(-1), 0, 1, 0, 0, (-1), 1, (-1), (-1), 1, 0, 1] : List Int) (z1 * 2 + 1))]⟩] [some (.agg #[.int .i64 (geti ([(-1), 0, 1, 0, 0, (-1), 1, (-1), (-1), 1, 0, 1] : List Int) (z1 * 2)), .int .i64 (geti ([(-1), 0, 1, 0, 0, (-1), 1, (-1), (-1), 1, 0, 1] : List Int) (z1 * 2 + 1))])] [0, 2, 4, 5, 22, 23, 25] [pl 0 (.func (.yield l1) #[] #[]), pl 2 (.pointer (some ⟨g2, 0, none⟩)), pl 4 (.int .i64 (Int.tmod p11 p21)), pl 5 (.int .i64 (w64 (Int.tdiv p11 p21))), pl 22 (.agg (List.toArray (([] : List Value) ++ (arr1 (Value.int .i64) (0 : Int) 12 ([(-1), 0, 1, 0, 0, (-1), 1, (-1), (-1), 1, 0, 1] : List Int) ++ ([] : List Value))))), pl 23 (.int .i64 z1), pl 25 (.agg #[.int .i64 (geti ([(-1), 0, 1, 0, 0, (-1), 1, (-1), (-1), 1, 0, 1] : List Int) (z1 * 2)), .int .i64 (geti ([(-1), 0, 1, 0, 0, (-1), 1, (-1), (-1), 1, 0, 1] : List Int) (z1 * 2 + 1))])] hF hS (by kernel_rfl) (by kernel_rfl) ?_ (fun a w hF hS => ?_)
        · exact obs_cons (ob_idxP2 (f := (Value.int .i64)) (z := (0 : Int)) (m := ([(-1), 0, 1, 0, 0, (-1), 1, (-1), (-1), 1, 0, 1] : List Int)) UndA190 (by kernel_rfl) (by kernel_rfl) rfl (fun _ => hp3)) <| obs_nil
        refine at_do (d := 7) (s := vS (Instr.alloc 189 true (.tuple #[]))) (v := .pointer (some ⟨w.heap.size, 0, none⟩)) (w' := w.alloc (.cells #[.int .i64 0, .int .i64 0] 189)) hF (by kernel_rfl) (by kernel_rfl) (by kernel_rfl) (fun a hF => ?_)
        have hS : Sep w0 B (w.alloc (.cells #[.int .i64 0, .int .i64 0] 189)) (blk w.heap.size 189 #[.int .i64 0, .int .i64 0] :: (stateH RS yield1 :: blk g2 3 #[.int .i64 p21] :: blk g1 3 #[.int .i64 p11] :: fs)) := hS.box 189 #[.int .i64 0, .int .i64 0]
        generalize w.heap.size = g3 at hF hS
        generalize w.alloc (.cells #[.int .i64 0, .int .i64 0] 189) = w at hS ⊢
        obtain ⟨w, hrun, hS⟩ := run_putA (P := Try.prog) (t := 189) (us := #[.int .i64 (geti ([(-1), 0, 1, 0, 0, (-1), 1, (-1), (-1), 1, 0, 1] : List Int) (z1 * 2)), .int .i64 (geti ([(-1), 0, 1, 0, 0, (-1), 1, (-1), (-1), 1, 0, 1] : List Int) (z1 * 2 + 1))]) (o := 0) (hS.at_ 0 rfl) (by kernel_rfl) (all_one (by kernel_rfl)) (Nat.le_of_ble_eq_true (by kernel_rfl))
        refine at_skip hF (by kernel_rfl) hrun ?_
        have hS : Sep w0 B w (blk g3 189 #[.int .i64 (geti ([(-1), 0, 1, 0, 0, (-1), 1, (-1), (-1), 1, 0, 1] : List Int) (z1 * 2)), .int .i64 (geti ([(-1), 0, 1, 0, 0, (-1), 1, (-1), (-1), 1, 0, 1] : List Int) (z1 * 2 + 1))] :: stateH RS yield1 :: blk g2 3 #[.int .i64 p21] :: blk g1 3 #[.int .i64 p11] :: fs) := hS
        refine at_end [0, 2, 4, 5, 7, 22, 23] [pl 0 (.func (.yield l1) #[] #[]), pl 2 (.pointer (some ⟨g2, 0, none⟩)), pl 4 (.int .i64 (Int.tmod p11 p21)), pl 5 (.int .i64 (w64 (Int.tdiv p11 p21))), pl 7 (.pointer (some ⟨g3, 0, none⟩)), pl 22 (.agg (List.toArray (([] : List Value) ++ (arr1 (Value.int .i64) (0 : Int) 12 ([(-1), 0, 1, 0, 0, (-1), 1, (-1), (-1), 1, 0, 1] : List Int) ++ ([] : List Value))))), pl 23 (.int .i64 z1)] hF rfl (by kernel_rfl) (fun hF => ?_)
        refine then_n ?_
        refine reg [⟨false, [], vS (Instr.loadAt 3 (.pointer (some ⟨g3, 0, none⟩))), .int .i64 (geti ([(-1), 0, 1, 0, 0, (-1), 1, (-1), (-1), 1, 0, 1] : List Int) (z1 * 2))⟩, ⟨false, [], vS (Instr.loadAt 3 (.pointer (some ⟨g3, 1, none⟩))), .int .i64 (geti ([(-1), 0, 1, 0, 0, (-1), 1, (-1), (-1), 1, 0, 1] : List Int) (z1 * 2 + 1))⟩] [none, none, some (.int .i64 (geti ([(-1), 0, 1, 0, 0, (-1), 1, (-1), (-1), 1, 0, 1] : List Int) (z1 * 2))), none, none, none, some (.int .i64 (geti ([(-1), 0, 1, 0, 0, (-1), 1, (-1), (-1), 1, 0, 1] : List Int) (z1 * 2 + 1))), none, none, none] [0, 2, 4, 5, 8, 9, 22, 23] [pl 0 (.func (.yield l1) #[] #[]), pl 2 (.pointer (some ⟨g2, 0, none⟩)), pl 4 (.int .i64 (Int.tmod p11 p21)), pl 5 (.int .i64 (w64 (Int.tdiv p11 p21))), pl 8 (.int .i64 (w64 ((Int.tmod p11 p21) + (geti ([(-1), 0, 1, 0, 0, (-1), 1, (-1), (-1), 1, 0, 1] : List Int) (z1 * 2))))), pl 9 (.int .i64 (w64 ((w64 (Int.tdiv p11 p21)) + (geti ([(-1), 0, 1, 0, 0, (-1), 1, (-1), (-1), 1, 0, 1] : List Int) (z1 * 2 + 1))))), pl 22 (.agg (List.toArray (([] : List Value) ++ (arr1 (Value.int .i64) (0 : Int) 12 ([(-1), 0, 1, 0, 0, (-1), 1, (-1), (-1), 1, 0, 1] : List Int) ++ ([] : List Value))))), pl 23 (.int .i64 z1)] hF hS Fol (by kernel_rfl) (by kernel_rfl) (by kernel_rfl) ?_ (fun a w hF hS => ?_)
        · exact obs_cons (ob_load Agg3 (fun _ _ hS => (hS.at_ 0 rfl).cell rfl)) <| obs_cons (ob_load Agg3 (fun _ _ hS => (hS.at_ 0 rfl).cell rfl)) <| obs_nil
        refine seq_cut (fun a w => ∃ (yield2 : S) (z2 : Bool), Fr 61 [pl 0 (.func (.yield l1) #[] #[]), pl 2 (.pointer (some ⟨g2, 0, none⟩)), pl 4 (.int .i64 (Int.tmod p11 p21)), pl 5 (.int .i64 (w64 (Int.tdiv p11 p21))), pl 22 (.agg (List.toArray (([] : List Value) ++ (arr1 (Value.int .i64) (0 : Int) 12 ([(-1), 0, 1, 0, 0, (-1), 1, (-1), (-1), 1, 0, 1] : List Int) ++ ([] : List Value))))), pl 23 (.int .i64 z1), pl 59 (.bool z2)] a ∧ Sep w0 B w (stateH RS yield2 :: blk g2 3 #[.int .i64 p21] :: blk g1 3 #[.int .i64 p11] :: fs) ∧ ((hex_near_1_J4 z1) yield2 z2).bind φ1 = some r) ?_ ?_
        · rintro a w ⟨yield2, z2, hF, hS, hm⟩
          unfold hex_near_1_J4 at hm
          refine cond_ev (t := 59) (b := z2) hF (by kernel_rfl) (fun hb => ?_) (fun hb => ?_)
          · replace hm := if_t hm hb
            refine wpIn_ret ?_
            refine block_r (then_r (then_r (block_r (then_r ?_))))
            rw [← hφ1] at hm
            replace hm := done_b hm
            unfold hex_near_1_K1 at hm
            try dsimp only at hm
            have hS := hS.pickN 3 [0, 2, 1] (by decide)
            have hm : some yield2 = some r := hm
            obtain rfl := Option.some.inj hm
            exact retV (rs := []) (vs := []) hF rfl (rv_nil) rfl ⟨_, rfl, rfl, hS⟩
          · replace hm := if_f hm hb
            refine wpIn_skip ?_
            refine block_n ?_
            refine then_n ?_
            exact ⟨yield2, hF.weak [0, 2, 4, 5, 22, 23] (by kernel_rfl), hS, hm⟩
        · refine oneR ?_
          refine at_run 23 [⟨false, [(decide ((0 : Int) ≤ (w64 ((Int.tmod p11 p21) + (geti ([(-1), 0, 1, 0, 0, (-1), 1, (-1), (-1), 1, 0, 1] : List Int) (z1 * 2))))), true)], vS (Instr.loadAt 3 (.pointer (some ⟨g2, 0, none⟩))), .int .i64 p21⟩, ⟨false, [(((decide ((0 : Int) ≤ (w64 ((Int.tmod p11 p21) + (geti ([(-1), 0, 1, 0, 0, (-1), 1, (-1), (-1), 1, 0, 1] : List Int) (z1 * 2)))))) && (decide ((w64 ((Int.tmod p11 p21) + (geti ([(-1), 0, 1, 0, 0, (-1), 1, (-1), (-1), 1, 0, 1] : List Int) (z1 * 2)))) < p21))) && (decide ((0 : Int) ≤ (w64 ((w64 (Int.tdiv p11 p21)) + (geti ([(-1), 0, 1, 0, 0, (-1), 1, (-1), (-1), 1, 0, 1] : List Int) (z1 * 2 + 1)))))), true)], vS (Instr.loadAt 3 (.pointer (some ⟨g2, 0, none⟩))), .int .i64 p21⟩, ⟨false, [((((decide ((0 : Int) ≤ (w64 ((Int.tmod p11 p21) + (geti ([(-1), 0, 1, 0, 0, (-1), 1, (-1), (-1), 1, 0, 1] : List Int) (z1 * 2)))))) && (decide ((w64 ((Int.tmod p11 p21) + (geti ([(-1), 0, 1, 0, 0, (-1), 1, (-1), (-1), 1, 0, 1] : List Int) (z1 * 2)))) < p21))) && (decide ((0 : Int) ≤ (w64 ((w64 (Int.tdiv p11 p21)) + (geti ([(-1), 0, 1, 0, 0, (-1), 1, (-1), (-1), 1, 0, 1] : List Int) (z1 * 2 + 1))))))) && (decide ((w64 ((w64 (Int.tdiv p11 p21)) + (geti ([(-1), 0, 1, 0, 0, (-1), 1, (-1), (-1), 1, 0, 1] : List Int) (z1 * 2 + 1)))) < p21)), true)], vS (Instr.loadAt 3 (.pointer (some ⟨g2, 0, none⟩))), .int .i64 p21⟩] [none, none, none, none, some (.int .i64 p21), none, none, none, none, none, none, none, none, some (.int .i64 p21), none, none, none, none, none, some (.int .i64 p21), none, none, none] [0, 2, 4, 5, 22, 23, 50, 51, 56] [pl 0 (.func (.yield l1) #[] #[]), pl 2 (.pointer (some ⟨g2, 0, none⟩)), pl 4 (.int .i64 (Int.tmod p11 p21)), pl 5 (.int .i64 (w64 (Int.tdiv p11 p21))), pl 22 (.agg (List.toArray (([] : List Value) ++ (arr1 (Value.int .i64) (0 : Int) 12 ([(-1), 0, 1, 0, 0, (-1), 1, (-1), (-1), 1, 0, 1] : List Int) ++ ([] : List Value))))), pl 23 (.int .i64 z1), pl 50 (.bool ((((decide ((0 : Int) ≤ (w64 ((Int.tmod p11 p21) + (geti ([(-1), 0, 1, 0, 0, (-1), 1, (-1), (-1), 1, 0, 1] : List Int) (z1 * 2)))))) && (decide ((w64 ((Int.tmod p11 p21) + (geti ([(-1), 0, 1, 0, 0, (-1), 1, (-1), (-1), 1, 0, 1] : List Int) (z1 * 2)))) < p21))) && (decide ((0 : Int) ≤ (w64 ((w64 (Int.tdiv p11 p21)) + (geti ([(-1), 0, 1, 0, 0, (-1), 1, (-1), (-1), 1, 0, 1] : List Int) (z1 * 2 + 1))))))) && (decide ((w64 ((w64 (Int.tdiv p11 p21)) + (geti ([(-1), 0, 1, 0, 0, (-1), 1, (-1), (-1), 1, 0, 1] : List Int) (z1 * 2 + 1)))) < p21)))), ⟨51, [(50, true)], .func (.yield l1) #[] #[]⟩, ⟨56, [(50, true)], .int .i64 (w64 ((w64 ((w64 ((w64 (Int.tdiv p11 p21)) + (geti ([(-1), 0, 1, 0, 0, (-1), 1, (-1), (-1), 1, 0, 1] : List Int) (z1 * 2 + 1)))) * p21)) + (w64 ((Int.tmod p11 p21) + (geti ([(-1), 0, 1, 0, 0, (-1), 1, (-1), (-1), 1, 0, 1] : List Int) (z1 * 2))))))⟩] hF hS (by kernel_rfl) (by kernel_rfl) ?_ (fun a w hF hS => ?_)
          · exact obs_cons (ob_load Agg3 (fun _ _ hS => (hS.at_ 2 rfl).cell rfl)) <| obs_cons (ob_load Agg3 (fun _ _ hS => (hS.at_ 2 rfl).cell rfl)) <| obs_cons (ob_load Agg3 (fun _ _ hS => (hS.at_ 2 rfl).cell rfl)) <| obs_nil
          rcases Bool.eq_false_or_eq_true ((((decide ((0 : Int) ≤ (w64 ((Int.tmod p11 p21) + (geti ([(-1), 0, 1, 0, 0, (-1), 1, (-1), (-1), 1, 0, 1] : List Int) (z1 * 2)))))) && (decide ((w64 ((Int.tmod p11 p21) + (geti ([(-1), 0, 1, 0, 0, (-1), 1, (-1), (-1), 1, 0, 1] : List Int) (z1 * 2)))) < p21))) && (decide ((0 : Int) ≤ (w64 ((w64 (Int.tdiv p11 p21)) + (geti ([(-1), 0, 1, 0, 0, (-1), 1, (-1), (-1), 1, 0, 1] : List Int) (z1 * 2 + 1))))))) && (decide ((w64 ((w64 (Int.tdiv p11 p21)) + (geti ([(-1), 0, 1, 0, 0, (-1), 1, (-1), (-1), 1, 0, 1] : List Int) (z1 * 2 + 1)))) < p21))) with hg1 | hg1
          · replace hm := if_t hm hg1
            obtain ⟨r1, hr1, hm⟩ := call_b hm
            have hS := hS.pickN 4 [0, 1, 3, 2] (by decide)
            refine at_gyield (hs := [((((decide ((0 : Int) ≤ (w64 ((Int.tmod p11 p21) + (geti ([(-1), 0, 1, 0, 0, (-1), 1, (-1), (-1), 1, 0, 1] : List Int) (z1 * 2)))))) && (decide ((w64 ((Int.tmod p11 p21) + (geti ([(-1), 0, 1, 0, 0, (-1), 1, (-1), (-1), 1, 0, 1] : List Int) (z1 * 2)))) < p21))) && (decide ((0 : Int) ≤ (w64 ((w64 (Int.tdiv p11 p21)) + (geti ([(-1), 0, 1, 0, 0, (-1), 1, (-1), (-1), 1, 0, 1] : List Int) (z1 * 2 + 1))))))) && (decide ((w64 ((w64 (Int.tdiv p11 p21)) + (geti ([(-1), 0, 1, 0, 0, (-1), 1, (-1), (-1), 1, 0, 1] : List Int) (z1 * 2 + 1)))) < p21)), true)]) (fun y hy => by simp only [List.mem_cons, List.not_mem_nil, or_false] at hy; subst hy; first | exact hg1) (d := 57) hF (by kernel_rfl) (by kernel_rfl) (hY [blk g3 189 #[.int .i64 (geti ([(-1), 0, 1, 0, 0, (-1), 1, (-1), (-1), 1, 0, 1] : List Int) (z1 * 2)), .int .i64 (geti ([(-1), 0, 1, 0, 0, (-1), 1, (-1), (-1), 1, 0, 1] : List Int) (z1 * 2 + 1))]] (w64 ((w64 ((w64 ((w64 (Int.tdiv p11 p21)) + (geti ([(-1), 0, 1, 0, 0, (-1), 1, (-1), (-1), 1, 0, 1] : List Int) (z1 * 2 + 1)))) * p21)) + (w64 ((Int.tmod p11 p21) + (geti ([(-1), 0, 1, 0, 0, (-1), 1, (-1), (-1), 1, 0, 1] : List Int) (z1 * 2)))))) yield1 _ _ hr1 (Sep.rot (us := [blk g3 189 #[.int .i64 (geti ([(-1), 0, 1, 0, 0, (-1), 1, (-1), (-1), 1, 0, 1] : List Int) (z1 * 2)), .int .i64 (geti ([(-1), 0, 1, 0, 0, (-1), 1, (-1), (-1), 1, 0, 1] : List Int) (z1 * 2 + 1))]]) hS)) (fun v a w hR hF => ?_)
            obtain ⟨rfl, hS⟩ := hR
            have hS : Sep w0 B w (blk g3 189 #[.int .i64 (geti ([(-1), 0, 1, 0, 0, (-1), 1, (-1), (-1), 1, 0, 1] : List Int) (z1 * 2)), .int .i64 (geti ([(-1), 0, 1, 0, 0, (-1), 1, (-1), (-1), 1, 0, 1] : List Int) (z1 * 2 + 1))] :: stateH RS r1.1 :: blk g1 3 #[.int .i64 p11] :: blk g2 3 #[.int .i64 p21] :: fs) := Sep.unrot (us := [blk g3 189 #[.int .i64 (geti ([(-1), 0, 1, 0, 0, (-1), 1, (-1), (-1), 1, 0, 1] : List Int) (z1 * 2)), .int .i64 (geti ([(-1), 0, 1, 0, 0, (-1), 1, (-1), (-1), 1, 0, 1] : List Int) (z1 * 2 + 1))]]) hS
            refine at_run 2 [] [] [0, 2, 4, 5, 22, 23, 59] [pl 0 (.func (.yield l1) #[] #[]), pl 2 (.pointer (some ⟨g2, 0, none⟩)), pl 4 (.int .i64 (Int.tmod p11 p21)), pl 5 (.int .i64 (w64 (Int.tdiv p11 p21))), pl 22 (.agg (List.toArray (([] : List Value) ++ (arr1 (Value.int .i64) (0 : Int) 12 ([(-1), 0, 1, 0, 0, (-1), 1, (-1), (-1), 1, 0, 1] : List Int) ++ ([] : List Value))))), pl 23 (.int .i64 z1), pl 59 (.bool (((((decide ((0 : Int) ≤ (w64 ((Int.tmod p11 p21) + (geti ([(-1), 0, 1, 0, 0, (-1), 1, (-1), (-1), 1, 0, 1] : List Int) (z1 * 2)))))) && (decide ((w64 ((Int.tmod p11 p21) + (geti ([(-1), 0, 1, 0, 0, (-1), 1, (-1), (-1), 1, 0, 1] : List Int) (z1 * 2)))) < p21))) && (decide ((0 : Int) ≤ (w64 ((w64 (Int.tdiv p11 p21)) + (geti ([(-1), 0, 1, 0, 0, (-1), 1, (-1), (-1), 1, 0, 1] : List Int) (z1 * 2 + 1))))))) && (decide ((w64 ((w64 (Int.tdiv p11 p21)) + (geti ([(-1), 0, 1, 0, 0, (-1), 1, (-1), (-1), 1, 0, 1] : List Int) (z1 * 2 + 1)))) < p21))) && (!r1.2)))] hF hS (by kernel_rfl) (by kernel_rfl) ?_ (fun a w hF hS => ?_)
            · exact obs_nil
            refine at_end [0, 2, 4, 5, 22, 23, 59] [pl 0 (.func (.yield l1) #[] #[]), pl 2 (.pointer (some ⟨g2, 0, none⟩)), pl 4 (.int .i64 (Int.tmod p11 p21)), pl 5 (.int .i64 (w64 (Int.tdiv p11 p21))), pl 22 (.agg (List.toArray (([] : List Value) ++ (arr1 (Value.int .i64) (0 : Int) 12 ([(-1), 0, 1, 0, 0, (-1), 1, (-1), (-1), 1, 0, 1] : List Int) ++ ([] : List Value))))), pl 23 (.int .i64 z1), pl 59 (.bool (((((decide ((0 : Int) ≤ (w64 ((Int.tmod p11 p21) + (geti ([(-1), 0, 1, 0, 0, (-1), 1, (-1), (-1), 1, 0, 1] : List Int) (z1 * 2)))))) && (decide ((w64 ((Int.tmod p11 p21) + (geti ([(-1), 0, 1, 0, 0, (-1), 1, (-1), (-1), 1, 0, 1] : List Int) (z1 * 2)))) < p21))) && (decide ((0 : Int) ≤ (w64 ((w64 (Int.tdiv p11 p21)) + (geti ([(-1), 0, 1, 0, 0, (-1), 1, (-1), (-1), 1, 0, 1] : List Int) (z1 * 2 + 1))))))) && (decide ((w64 ((w64 (Int.tdiv p11 p21)) + (geti ([(-1), 0, 1, 0, 0, (-1), 1, (-1), (-1), 1, 0, 1] : List Int) (z1 * 2 + 1)))) < p21))) && (!r1.2)))] hF rfl (by kernel_rfl) (fun hF => ?_)
            refine then_n ?_
            have hS := hS.pickN 4 [1, 3, 2] (by decide)
            exact ⟨r1.1, (((((decide ((0 : Int) ≤ (w64 ((Int.tmod p11 p21) + (geti ([(-1), 0, 1, 0, 0, (-1), 1, (-1), (-1), 1, 0, 1] : List Int) (z1 * 2)))))) && (decide ((w64 ((Int.tmod p11 p21) + (geti ([(-1), 0, 1, 0, 0, (-1), 1, (-1), (-1), 1, 0, 1] : List Int) (z1 * 2)))) < p21))) && (decide ((0 : Int) ≤ (w64 ((w64 (Int.tdiv p11 p21)) + (geti ([(-1), 0, 1, 0, 0, (-1), 1, (-1), (-1), 1, 0, 1] : List Int) (z1 * 2 + 1))))))) && (decide ((w64 ((w64 (Int.tdiv p11 p21)) + (geti ([(-1), 0, 1, 0, 0, (-1), 1, (-1), (-1), 1, 0, 1] : List Int) (z1 * 2 + 1)))) < p21))) && (!r1.2)), hF.weak [0, 2, 4, 5, 22, 23, 59] (by kernel_rfl), hS, hm⟩
          · replace hm := if_f hm hg1
            refine at_gskip (d := 57) (v := .bool false) (hs := [((((decide ((0 : Int) ≤ (w64 ((Int.tmod p11 p21) + (geti ([(-1), 0, 1, 0, 0, (-1), 1, (-1), (-1), 1, 0, 1] : List Int) (z1 * 2)))))) && (decide ((w64 ((Int.tmod p11 p21) + (geti ([(-1), 0, 1, 0, 0, (-1), 1, (-1), (-1), 1, 0, 1] : List Int) (z1 * 2)))) < p21))) && (decide ((0 : Int) ≤ (w64 ((w64 (Int.tdiv p11 p21)) + (geti ([(-1), 0, 1, 0, 0, (-1), 1, (-1), (-1), 1, 0, 1] : List Int) (z1 * 2 + 1))))))) && (decide ((w64 ((w64 (Int.tdiv p11 p21)) + (geti ([(-1), 0, 1, 0, 0, (-1), 1, (-1), (-1), 1, 0, 1] : List Int) (z1 * 2 + 1)))) < p21)), true)]) (ctx := [(50, true)]) hF (by kernel_rfl) (by kernel_rfl) (fun h => absurd (h ((((decide ((0 : Int) ≤ (w64 ((Int.tmod p11 p21) + (geti ([(-1), 0, 1, 0, 0, (-1), 1, (-1), (-1), 1, 0, 1] : List Int) (z1 * 2)))))) && (decide ((w64 ((Int.tmod p11 p21) + (geti ([(-1), 0, 1, 0, 0, (-1), 1, (-1), (-1), 1, 0, 1] : List Int) (z1 * 2)))) < p21))) && (decide ((0 : Int) ≤ (w64 ((w64 (Int.tdiv p11 p21)) + (geti ([(-1), 0, 1, 0, 0, (-1), 1, (-1), (-1), 1, 0, 1] : List Int) (z1 * 2 + 1))))))) && (decide ((w64 ((w64 (Int.tdiv p11 p21)) + (geti ([(-1), 0, 1, 0, 0, (-1), 1, (-1), (-1), 1, 0, 1] : List Int) (z1 * 2 + 1)))) < p21)), true) (by simp)) (by simp [hg1])) (fun a hF => ?_)
            refine at_run 2 [] [] [0, 2, 4, 5, 22, 23, 59] [pl 0 (.func (.yield l1) #[] #[]), pl 2 (.pointer (some ⟨g2, 0, none⟩)), pl 4 (.int .i64 (Int.tmod p11 p21)), pl 5 (.int .i64 (w64 (Int.tdiv p11 p21))), pl 22 (.agg (List.toArray (([] : List Value) ++ (arr1 (Value.int .i64) (0 : Int) 12 ([(-1), 0, 1, 0, 0, (-1), 1, (-1), (-1), 1, 0, 1] : List Int) ++ ([] : List Value))))), pl 23 (.int .i64 z1), pl 59 (.bool (((((decide ((0 : Int) ≤ (w64 ((Int.tmod p11 p21) + (geti ([(-1), 0, 1, 0, 0, (-1), 1, (-1), (-1), 1, 0, 1] : List Int) (z1 * 2)))))) && (decide ((w64 ((Int.tmod p11 p21) + (geti ([(-1), 0, 1, 0, 0, (-1), 1, (-1), (-1), 1, 0, 1] : List Int) (z1 * 2)))) < p21))) && (decide ((0 : Int) ≤ (w64 ((w64 (Int.tdiv p11 p21)) + (geti ([(-1), 0, 1, 0, 0, (-1), 1, (-1), (-1), 1, 0, 1] : List Int) (z1 * 2 + 1))))))) && (decide ((w64 ((w64 (Int.tdiv p11 p21)) + (geti ([(-1), 0, 1, 0, 0, (-1), 1, (-1), (-1), 1, 0, 1] : List Int) (z1 * 2 + 1)))) < p21))) && true))] hF hS (by kernel_rfl) (by kernel_rfl) ?_ (fun a w hF hS => ?_)
            · exact obs_nil
            refine at_end [0, 2, 4, 5, 22, 23, 59] [pl 0 (.func (.yield l1) #[] #[]), pl 2 (.pointer (some ⟨g2, 0, none⟩)), pl 4 (.int .i64 (Int.tmod p11 p21)), pl 5 (.int .i64 (w64 (Int.tdiv p11 p21))), pl 22 (.agg (List.toArray (([] : List Value) ++ (arr1 (Value.int .i64) (0 : Int) 12 ([(-1), 0, 1, 0, 0, (-1), 1, (-1), (-1), 1, 0, 1] : List Int) ++ ([] : List Value))))), pl 23 (.int .i64 z1), pl 59 (.bool (((((decide ((0 : Int) ≤ (w64 ((Int.tmod p11 p21) + (geti ([(-1), 0, 1, 0, 0, (-1), 1, (-1), (-1), 1, 0, 1] : List Int) (z1 * 2)))))) && (decide ((w64 ((Int.tmod p11 p21) + (geti ([(-1), 0, 1, 0, 0, (-1), 1, (-1), (-1), 1, 0, 1] : List Int) (z1 * 2)))) < p21))) && (decide ((0 : Int) ≤ (w64 ((w64 (Int.tdiv p11 p21)) + (geti ([(-1), 0, 1, 0, 0, (-1), 1, (-1), (-1), 1, 0, 1] : List Int) (z1 * 2 + 1))))))) && (decide ((w64 ((w64 (Int.tdiv p11 p21)) + (geti ([(-1), 0, 1, 0, 0, (-1), 1, (-1), (-1), 1, 0, 1] : List Int) (z1 * 2 + 1)))) < p21))) && true))] hF rfl (by kernel_rfl) (fun hF => ?_)
            refine then_n ?_
            have hS := hS.pickN 4 [1, 2, 3] (by decide)
            exact ⟨yield1, (((((decide ((0 : Int) ≤ (w64 ((Int.tmod p11 p21) + (geti ([(-1), 0, 1, 0, 0, (-1), 1, (-1), (-1), 1, 0, 1] : List Int) (z1 * 2)))))) && (decide ((w64 ((Int.tmod p11 p21) + (geti ([(-1), 0, 1, 0, 0, (-1), 1, (-1), (-1), 1, 0, 1] : List Int) (z1 * 2)))) < p21))) && (decide ((0 : Int) ≤ (w64 ((w64 (Int.tdiv p11 p21)) + (geti ([(-1), 0, 1, 0, 0, (-1), 1, (-1), (-1), 1, 0, 1] : List Int) (z1 * 2 + 1))))))) && (decide ((w64 ((w64 (Int.tdiv p11 p21)) + (geti ([(-1), 0, 1, 0, 0, (-1), 1, (-1), (-1), 1, 0, 1] : List Int) (z1 * 2 + 1)))) < p21))) && true), hF.weak [0, 2, 4, 5, 22, 23, 59] (by kernel_rfl), hS, hm⟩
    · refine cond_ev (t := 24) (b := decide (z1 < 6)) hF (by kernel_rfl) (fun hb => ?_) (fun hb => ?_)
      · replace hm := if_t hm hb
        refine wpIn_skip ?_
        refine then_n ?_
        exact ⟨hF.weak [0, 2, 4, 5, 22, 23] (by kernel_rfl), hS, hm⟩
      · replace hm := if_f hm hb
        refine wpIn_exit ?_
        refine then_e (then_e (block_e (then_n ?_)))
        have hS := hS.pickN 3 [0, 2, 1] (by decide)
        rw [← hφ1] at hm
        replace hm := done_b hm
        unfold hex_near_1_K1 at hm
        try dsimp only at hm
        have hm : (hex_near_1_J1 yield1).bind some = some r := hm
        exact ⟨yield1, hF.weak [] (by kernel_rfl), hS, hm⟩

noncomputable def slices_Sort_2_m (x1 : List Int) : Option (List Int) :=
  asrt ((x1.length : Int) ≤ bigN) <| some (sortI x1)

theorem slices_Sort_2_w {A1 : Option Addr} {c1 : Nat} {n1 : Nat} {x1 : List Int} {r : (List Int)} {w0 w : World} {B : Nat} {fs : List HP} (hm : slices_Sort_2_m x1 = some r) (hS : Sep w0 B w (own 3 (.slice A1 n1 c1) (vI x1) :: fs)) :
    Calls Try.prog 147 #[.slice A1 n1 c1] w fun e w' => ∃ v, e = .returned v ∧ v = .tuple #[] ∧ Sep w0 B w' (own 3 (.slice A1 n1 c1) (vI r) :: fs) := by
  unfold slices_Sort_2_m at hm
  obtain ⟨hb, hm⟩ := asrt_b (start_b hm)
  obtain rfl := Option.some.inj hm
  exact sort_own SortL hS hb

noncomputable def hex_groups_J7  (i1 : Int) (seen6 : List Bool) (group4 : List Int) : Option (St (List Bool × List Int × Int) (List Bool × List Int)) :=
  some (.next (seen6, group4, (w64 (i1 + 1))))

noncomputable def hex_groups_K3  (i1 : Int) : (St (List Bool × List Int) Unit) → Option (St (List Bool × List Int × Int) (List Bool × List Int)) :=
  fun (x : St (List Bool × List Int) Unit) => match x with | .next (seen5, group3) => (hex_groups_J7 i1) seen5 group3 | .done _ => none

noncomputable def hex_groups_L3  (g3 : List Int) (who1 : Int) : (Int × (List Bool × List Int)) → Option (St (List Bool × List Int) Unit) :=
  fun (x : Int × (List Bool × List Int)) => match x with | (x1, (seen5, group3)) => asrt (0 ≤ x1 ∧ x1 < (g3.length : Int)) <| asrt (((geti g3 x1) == who1) = true → 0 ≤ x1 ∧ x1 < (((Int.toNat (g3.length : Int)) : Nat) : Int)) <| if (((geti g3 x1) == who1) && (!(getb seen5 x1))) then (asrt (0 ≤ x1 ∧ x1 < (((Int.toNat (g3.length : Int)) : Nat) : Int)) <| asrt ((group3.length : Int) + 1 ≤ bigN) <| some (.next ((seen5.set (Int.toNat x1) true), (group3 ++ ([x1] : List Int))))) else (some (.next (seen5, group3)))

noncomputable def hex_groups_J6  (g1 : Int) (g3 : List Int) (who1 : Int) (seen3 : List Bool) (group1 : List Int) (i1 : Int) : Option (St (List Bool × List Int × Int) (List Bool × List Int)) :=
  asrt (0 ≤ i1 ∧ i1 < (group1.length : Int)) <| (hex_near_m g1 (geti group1 i1)).bind fun r1 => (hex_near_1_m (ydOf (fun x s => (hex_groups_L3 g3 who1) (x, s))) (.next (seen3, group1)) r1.1 r1.2).bind (hex_groups_K3 i1)

noncomputable def hex_groups_J3  (z1 : Int) (l3 : List (List Int)) (seen2 : List Bool) : Option (St (List (List Int) × List Bool × Int) (List (List Int))) :=
  some (.next (l3, seen2, (w64 (z1 + 1))))

noncomputable def hex_groups_J5  (l1 : List (List Int)) (z1 : Int) (seen4 : List Bool) (group2 : List Int) : Option (St (List (List Int) × List Bool × Int) (List (List Int))) :=
  (slices_Sort_2_m group2).bind fun r2 => asrt (((l1.length : Int) : Int) + 1 ≤ bigR) <| (hex_groups_J3 z1) (l1 ++ [r2]) seen4

noncomputable def hex_groups_K2  (l1 : List (List Int)) (z1 : Int) : (List Bool × List Int) → Option (St (List (List Int) × List Bool × Int) (List (List Int))) :=
  fun (x : (List Bool × List Int)) => match x with | (seen4, group2) => (hex_groups_J5 l1 z1) seen4 group2

noncomputable def hex_groups_L2  (g1 : Int) (g3 : List Int) (who1 : Int) : (List Bool × List Int × Int) → Option (St (List Bool × List Int × Int) (List Bool × List Int)) :=
  fun (x : (List Bool × List Int × Int)) => match x with | (seen3, group1, i1) => if (decide (i1 < (group1.length : Int))) then ((hex_groups_J6 g1 g3 who1 seen3 group1 i1)) else (some (.done (seen3, group1)))

noncomputable def hex_groups_J4  (g1 : Int) (g3 : List Int) (who1 : Int) (l1 : List (List Int)) (seen1 : List Bool) (z1 : Int) : Option (St (List (List Int) × List Bool × Int) (List (List Int))) :=
  asrt (0 ≤ z1 ∧ z1 < (((Int.toNat (g3.length : Int)) : Nat) : Int)) <| (loop (hex_groups_L2 g1 g3 who1) ((seen1.set (Int.toNat z1) true), ([z1] : List Int), 0)).bind (hex_groups_K2 l1 z1)

noncomputable def hex_groups_J2  (g1 : Int) (g3 : List Int) (who1 : Int) (l1 : List (List Int)) (seen1 : List Bool) (z1 : Int) : Option (St (List (List Int) × List Bool × Int) (List (List Int))) :=
  asrt (0 ≤ z1 ∧ z1 < (g3.length : Int)) <| asrt (((geti g3 z1) != who1) = false → 0 ≤ z1 ∧ z1 < (((Int.toNat (g3.length : Int)) : Nat) : Int)) <| if (((geti g3 z1) != who1) || (getb seen1 z1)) then ((hex_groups_J3 z1) l1 seen1) else ((hex_groups_J4 g1 g3 who1 l1 seen1 z1))

noncomputable def hex_groups_J1  (l2 : List (List Int)) : Option (List (List Int)) :=
  some l2

noncomputable def hex_groups_K1  : (List (List Int)) → Option (List (List Int)) :=
  fun (x : (List (List Int))) => match x with | l2 => hex_groups_J1 l2

noncomputable def hex_groups_L1  (g1 : Int) (g3 : List Int) (who1 : Int) : (List (List Int) × List Bool × Int) → Option (St (List (List Int) × List Bool × Int) (List (List Int))) :=
  fun (x : (List (List Int) × List Bool × Int)) => match x with | (l1, seen1, z1) => if (decide (z1 < (g3.length : Int))) then ((hex_groups_J2 g1 g3 who1 l1 seen1 z1)) else (some (.done l1))

noncomputable def hex_groups_m  (g1 : Int) (g2 : Int) (g3 : List Int) (who1 : Int) : Option (List (List Int)) :=
  asrt ((0 : Int) ≤ (g3.length : Int) ∧ (g3.length : Int) ≤ bigN) <| (loop (hex_groups_L1 g1 g3 who1) (([] : List (List Int)), (List.replicate (Int.toNat (g3.length : Int)) false), 0)).bind hex_groups_K1

set_option maxRecDepth 100000 in
set_option maxHeartbeats 4000000 in
theorem hex_groups_w {g1 : Int} {g2 : Int} {A1 : Option Addr} {c1 : Nat} {n1 : Nat} {g3 : List Int} {who1 : Int} {r : (List (List Int))} {w0 w : World} {B : Nat} {fs : List HP} (hm : hex_groups_m g1 g2 g3 who1 = some r) (hS : Sep w0 B w (fs)) (hr_g3 : RdF w0 B fs A1 (vI g3)) (_hc_g3 : g3.length ≤ c1) (_hn_g3 : n1 = g3.length) :
    Calls Try.prog 144 #[.agg #[.int .i64 g1, .int .i64 g2, .slice A1 n1 c1], .int .i64 who1] w fun e w' => ∃ v, e = .returned v ∧ ∃ (A12 : Option Addr) (c12 : Nat) (hd4 : List Hd), v = .slice A12 r.length c12 ∧ Sep w0 B w' (rows 22 3 (.slice A12 r.length c12) hd4 r :: fs) := by
  obtain ⟨i3, hi3, hz3, hs3, hb3⟩ := info_parts Info3
  obtain ⟨i4, hi4, hz4, hs4, hb4⟩ := info_parts Info4
  obtain ⟨i22, hi22, hz22, hs22, hb22⟩ := info_parts Info22
  obtain ⟨i114, hi114, hz114, hs114, hb114⟩ := info_parts Info114
  obtain rfl := _hn_g3
  unfold hex_groups_m at hm
  replace hm := start_b hm
  refine enter (l := [.agg #[.int .i64 g1, .int .i64 g2, .slice A1 g3.length c1], .int .i64 who1]) (n := 81) Try.func144 rfl rfl (by simp) (fun a hF => ?_)
  have hS := hS.defs0
  refine seqR ?_
  refine at_do (d := 2) (s := vS (Instr.box 24 (.agg #[.int .i64 g1, .int .i64 g2, .slice A1 g3.length c1]))) (v := .pointer (some ⟨w.heap.size, 0, none⟩)) (w' := w.alloc (.cells #[.int .i64 g1, .int .i64 g2, .slice A1 g3.length c1] 24)) hF (by kernel_rfl) (by kernel_rfl) (by kernel_rfl) (fun a hF => ?_)
  have hS : Sep w0 B (w.alloc (.cells #[.int .i64 g1, .int .i64 g2, .slice A1 g3.length c1] 24)) (blk w.heap.size 24 #[.int .i64 g1, .int .i64 g2, .slice A1 g3.length c1] :: (defsH ([]) :: fs)) := hS.box 24 #[.int .i64 g1, .int .i64 g2, .slice A1 g3.length c1]
  generalize w.heap.size = g4 at hF hS
  generalize w.alloc (.cells #[.int .i64 g1, .int .i64 g2, .slice A1 g3.length c1] 24) = w at hS ⊢
  refine at_do (d := 3) (s := vS (Instr.box 3 (.int .i64 who1))) (v := .pointer (some ⟨w.heap.size, 0, none⟩)) (w' := w.alloc (.cells #[.int .i64 who1] 3)) hF (by kernel_rfl) (by kernel_rfl) (by kernel_rfl) (fun a hF => ?_)
  have hS : Sep w0 B (w.alloc (.cells #[.int .i64 who1] 3)) (blk w.heap.size 3 #[.int .i64 who1] :: (blk g4 24 #[.int .i64 g1, .int .i64 g2, .slice A1 g3.length c1] :: defsH ([]) :: fs)) := hS.box 3 #[.int .i64 who1]
  generalize w.heap.size = g5 at hF hS
  generalize w.alloc (.cells #[.int .i64 who1] 3) = w at hS ⊢
  refine at_run 1 [] [] [2, 3] [pl 2 (.pointer (some ⟨g4, 0, none⟩)), pl 3 (.pointer (some ⟨g5, 0, none⟩))] hF hS (by kernel_rfl) (by kernel_rfl) ?_ (fun a w hF hS => ?_)
  · exact obs_nil
  refine at_end [2, 3] [pl 2 (.pointer (some ⟨g4, 0, none⟩)), pl 3 (.pointer (some ⟨g5, 0, none⟩))] hF rfl (by kernel_rfl) (fun hF => ?_)
  refine then_n ?_
  refine reg [] [] [2, 3, 5] [pl 2 (.pointer (some ⟨g4, 0, none⟩)), pl 3 (.pointer (some ⟨g5, 0, none⟩)), pl 5 (.slice none 0 0)] hF hS Fol (by kernel_rfl) (by kernel_rfl) (by kernel_rfl) ?_ (fun a w hF hS => ?_)
  · exact obs_nil
  refine seqR ?_
  obtain ⟨hp1, hm⟩ := asrt_b hm
  refine at_run 3 [⟨false, [], vS (Instr.loadAt 22 (.pointer (some ⟨g4, 2, none⟩))), .slice A1 g3.length c1⟩] [none, some (.slice A1 g3.length c1), none] [2, 3, 5, 14] [pl 2 (.pointer (some ⟨g4, 0, none⟩)), pl 3 (.pointer (some ⟨g5, 0, none⟩)), pl 5 (.slice none 0 0), pl 14 (.int .i64 (g3.length : Int))] hF hS (by kernel_rfl) (by kernel_rfl) ?_ (fun a w hF hS => ?_)
  · exact obs_cons (ob_load Agg22 (fun _ _ hS => (hS.at_ 1 rfl).cell rfl)) <| obs_nil
  obtain ⟨A2, c2, w, hrun, hS⟩ := run_mk1 (P := Try.prog) (t := 114) Value.bool false hS .i64 .i64 Und114 hi4 hz4 hs4 (by omega) rfl hp1
  have hS : Sep w0 B w (own 4 (.slice A2 (Int.toNat (g3.length : Int)) c2) (vB (List.replicate (Int.toNat (g3.length : Int)) false)) :: blk g5 3 #[.int .i64 who1] :: blk g4 24 #[.int .i64 g1, .int .i64 g2, .slice A1 g3.length c1] :: defsH ([]) :: fs) := hS
  refine at_do (d := 15) hF (by kernel_rfl) (by kernel_rfl) hrun (fun a hF => ?_)
  refine at_do (d := 6) (s := vS (Instr.alloc 114 true (.tuple #[]))) (v := .pointer (some ⟨w.heap.size, 0, none⟩)) (w' := w.alloc (.cells #[.slice none 0 0] 114)) hF (by kernel_rfl) (by kernel_rfl) (by kernel_rfl) (fun a hF => ?_)
  have hS : Sep w0 B (w.alloc (.cells #[.slice none 0 0] 114)) (blk w.heap.size 114 #[.slice none 0 0] :: (own 4 (.slice A2 (Int.toNat (g3.length : Int)) c2) (vB (List.replicate (Int.toNat (g3.length : Int)) false)) :: blk g5 3 #[.int .i64 who1] :: blk g4 24 #[.int .i64 g1, .int .i64 g2, .slice A1 g3.length c1] :: defsH ([]) :: fs)) := hS.box 114 #[.slice none 0 0]
  generalize w.heap.size = g6 at hF hS
  generalize w.alloc (.cells #[.slice none 0 0] 114) = w at hS ⊢
  obtain ⟨w, hrun, hS⟩ := run_put (P := Try.prog) (t := 114) (u := .slice A2 (Int.toNat (g3.length : Int)) c2) (i := 0) (hS.at_ 0 rfl) hi114 hs114 rfl (Nat.lt_of_lt_of_eq (Nat.lt_of_succ_le (Nat.le_of_ble_eq_true (by kernel_rfl))) rfl)
  refine at_skip hF (by kernel_rfl) hrun ?_
  have hS : Sep w0 B w (blk g6 114 #[.slice A2 (Int.toNat (g3.length : Int)) c2] :: own 4 (.slice A2 (Int.toNat (g3.length : Int)) c2) (vB (List.replicate (Int.toNat (g3.length : Int)) false)) :: blk g5 3 #[.int .i64 who1] :: blk g4 24 #[.int .i64 g1, .int .i64 g2, .slice A1 g3.length c1] :: defsH ([]) :: fs) := hS
  refine at_end [2, 3, 5, 6] [pl 2 (.pointer (some ⟨g4, 0, none⟩)), pl 3 (.pointer (some ⟨g5, 0, none⟩)), pl 5 (.slice none 0 0), pl 6 (.pointer (some ⟨g6, 0, none⟩))] hF rfl (by kernel_rfl) (fun hF => ?_)
  refine then_n ?_
  refine seq_cut (fun a w => ∃ (l2 : List (List Int)) (A4 : Option Addr) (c4 : Nat) (hd2 : List Hd) (Ds3 : List Nat), FrD Ds3 81 [pl 5 (.slice A4 l2.length c4)] a ∧ Sep w0 B w (rows 22 3 (.slice A4 l2.length c4) hd2 l2 :: defsH Ds3 :: fs) ∧ (hex_groups_J1 l2).bind some = some r) ?_ ?_
  · rintro a w ⟨l2, A4, c4, hd2, Ds3, hF, hS, hm⟩
    unfold hex_groups_J1 at hm
    refine reg [] [] [4] [pl 4 (.slice A4 l2.length c4)] hF hS Fol (by kernel_rfl) (by kernel_rfl) (by kernel_rfl) ?_ (fun a w hF hS => ?_)
    · exact obs_nil
    refine wpIn_ret ?_
    have hS := hS.pickN 2 [1, 0] (by decide)
    have hm : some l2 = some r := hm
    obtain rfl := Option.some.inj hm
    exact retD (rs := [.tmp 4]) (vs := [.slice A4 l2.length c4]) hF hS rfl (fun w hS => by exact rv_t (by kernel_rfl) <| rv_nil) rfl (fun w hS => ⟨_, rfl, A4, c4, hd2, rfl, hS⟩)
  · refine reg [⟨false, [], vS (Instr.loadAt 22 (.pointer (some ⟨g4, 2, none⟩))), .slice A1 g3.length c1⟩] [none, some (.slice A1 g3.length c1), none, none] [2, 3, 5, 6, 17, 18, 19] [pl 2 (.pointer (some ⟨g4, 0, none⟩)), pl 3 (.pointer (some ⟨g5, 0, none⟩)), pl 5 (.slice none 0 0), pl 6 (.pointer (some ⟨g6, 0, none⟩)), pl 17 (.slice A1 g3.length c1), pl 18 (.int .i64 (g3.length : Int)), pl 19 (.int .i64 0)] hF hS Fol (by kernel_rfl) (by kernel_rfl) (by kernel_rfl) ?_ (fun a w hF hS => ?_)
    · exact obs_cons (ob_load Agg22 (fun _ _ hS => (hS.at_ 3 rfl).cell rfl)) <| obs_nil
    refine wpIn_block ?_
    have hS := hS.nilRows0 22 3
    have hl1 := (hS.at_ 0 rfl).lenR
    have hS := (hS.at_ 0 rfl).reNR hl1
    have hS : Sep w0 B w (rows 22 3 (.slice none (([] : List (List Int)).length) 0) ([]) ([] : List (List Int)) :: blk g6 114 #[.slice A2 (Int.toNat (g3.length : Int)) c2] :: own 4 (.slice A2 (Int.toNat (g3.length : Int)) c2) (vB (List.replicate (Int.toNat (g3.length : Int)) false)) :: blk g5 3 #[.int .i64 who1] :: blk g4 24 #[.int .i64 g1, .int .i64 g2, .slice A1 g3.length c1] :: defsH ([]) :: fs) := hS
    have hF := hF.cast (t := 5) (v := .slice none 0 0) (v' := .slice none (([] : List (List Int)).length) 0) rfl rfl (congrArg (fun k => Value.slice none k 0) hl1)
    have hS := hS.pickN 6 [4, 3, 0, 1, 2, 5] (by decide)
    refine wp_loop_model (S := (List (List Int) × List Bool × Int)) (R := (List (List Int))) (hex_groups_L1 g1 g3 who1) (fun x => (hex_groups_K1 x).bind some) r (fun (x : (List (List Int) × List Bool × Int)) a w => ∃ (A3 : Option Addr) (c3 : Nat) (hd1 : List Hd) (Ds1 : List Nat), FrD Ds1 81 [pl 2 (.pointer (some ⟨g4, 0, none⟩)), pl 3 (.pointer (some ⟨g5, 0, none⟩)), pl 5 (.slice A3 x.1.length c3), pl 6 (.pointer (some ⟨g6, 0, none⟩)), pl 17 (.slice A1 g3.length c1), pl 18 (.int .i64 (g3.length : Int)), pl 19 (.int .i64 x.2.2)] a ∧ Sep w0 B w (blk g4 24 #[.int .i64 g1, .int .i64 g2, .slice A1 g3.length c1] :: blk g5 3 #[.int .i64 who1] :: rows 22 3 (.slice A3 x.1.length c3) hd1 x.1 :: blk g6 114 #[.slice A2 (Int.toNat (g3.length : Int)) c2] :: own 4 (.slice A2 (Int.toNat (g3.length : Int)) c2) (vB x.2.1) :: defsH Ds1 :: fs)) (assoc_b hm) ⟨none, 0, ([]), ([]), hF.weak [2, 3, 5, 6, 17, 18, 19] (by kernel_rfl), hS⟩ ?_
    clear hF hS hm
    rintro nn1 ⟨l1, seen1, z1⟩ a w ⟨A3, c3, hd1, Ds1, hF, hS⟩ hm
    generalize hφ1 : stK (hex_groups_L1 g1 g3 who1) nn1 (fun x => (hex_groups_K1 x).bind some) = φ1 at hm
    unfold hex_groups_L1 at hm
    dsimp only at hF hS hm
    refine reg [] [] [2, 3, 5, 6, 17, 18, 19, 20] [pl 2 (.pointer (some ⟨g4, 0, none⟩)), pl 3 (.pointer (some ⟨g5, 0, none⟩)), pl 5 (.slice A3 l1.length c3), pl 6 (.pointer (some ⟨g6, 0, none⟩)), pl 17 (.slice A1 g3.length c1), pl 18 (.int .i64 (g3.length : Int)), pl 19 (.int .i64 z1), pl 20 (.bool (decide (z1 < (g3.length : Int))))] hF hS Fol (by kernel_rfl) (by kernel_rfl) (by kernel_rfl) ?_ (fun a w hF hS => ?_)
    · exact obs_nil
    refine seq_cut (fun a w => ∃ (Ds2 : List Nat), FrD Ds2 81 [pl 2 (.pointer (some ⟨g4, 0, none⟩)), pl 3 (.pointer (some ⟨g5, 0, none⟩)), pl 5 (.slice A3 l1.length c3), pl 6 (.pointer (some ⟨g6, 0, none⟩)), pl 17 (.slice A1 g3.length c1), pl 18 (.int .i64 (g3.length : Int)), pl 19 (.int .i64 z1)] a ∧ Sep w0 B w (blk g4 24 #[.int .i64 g1, .int .i64 g2, .slice A1 g3.length c1] :: blk g5 3 #[.int .i64 who1] :: rows 22 3 (.slice A3 l1.length c3) hd1 l1 :: blk g6 114 #[.slice A2 (Int.toNat (g3.length : Int)) c2] :: own 4 (.slice A2 (Int.toNat (g3.length : Int)) c2) (vB seen1) :: defsH Ds2 :: fs) ∧ ((hex_groups_J2 g1 g3 who1 l1 seen1 z1)).bind φ1 = some r) ?_ ?_
    · rintro a w ⟨Ds2, hF, hS, hm⟩
      unfold hex_groups_J2 at hm
      refine seq_cut (fun a w => ∃ (l3 : List (List Int)) (seen2 : List Bool) (A5 : Option Addr) (c5 : Nat) (hd3 : List Hd) (Ds4 : List Nat), FrD Ds4 81 [pl 2 (.pointer (some ⟨g4, 0, none⟩)), pl 3 (.pointer (some ⟨g5, 0, none⟩)), pl 5 (.slice A5 l3.length c5), pl 6 (.pointer (some ⟨g6, 0, none⟩)), pl 17 (.slice A1 g3.length c1), pl 18 (.int .i64 (g3.length : Int)), pl 19 (.int .i64 z1)] a ∧ Sep w0 B w (blk g4 24 #[.int .i64 g1, .int .i64 g2, .slice A1 g3.length c1] :: blk g5 3 #[.int .i64 who1] :: rows 22 3 (.slice A5 l3.length c5) hd3 l3 :: blk g6 114 #[.slice A2 (Int.toNat (g3.length : Int)) c2] :: own 4 (.slice A2 (Int.toNat (g3.length : Int)) c2) (vB seen2) :: defsH Ds4 :: fs) ∧ ((hex_groups_J3 z1) l3 seen2).bind φ1 = some r) ?_ ?_
      · rintro a w ⟨l3, seen2, A5, c5, hd3, Ds4, hF, hS, hm⟩
        unfold hex_groups_J3 at hm
        refine reg1 [] [] [2, 3, 5, 6, 17, 18, 19] [pl 2 (.pointer (some ⟨g4, 0, none⟩)), pl 3 (.pointer (some ⟨g5, 0, none⟩)), pl 5 (.slice A5 l3.length c5), pl 6 (.pointer (some ⟨g6, 0, none⟩)), pl 17 (.slice A1 g3.length c1), pl 18 (.int .i64 (g3.length : Int)), pl 19 (.int .i64 (w64 (z1 + 1)))] hF hS Fol (by kernel_rfl) (by kernel_rfl) (by kernel_rfl) ?_ (fun a w hF hS => ?_)
        · exact obs_nil
        refine then_n ?_
        rw [← hφ1] at hm
        exact ⟨(l3, seen2, (w64 (z1 + 1))), ⟨A5, c5, hd3, Ds4, hF.weak [2, 3, 5, 6, 17, 18, 19] (by kernel_rfl), hS⟩, hm⟩
      · refine wpIn_block ?_
        obtain ⟨hp2, hm⟩ := asrt_b hm
        refine reg [⟨true, [], vS (Instr.indexAt 22 (.slice A1 g3.length c1) (.int .i64 z1)), .pointer (some (sAddr A1 z1))⟩, ⟨false, [], vS (Instr.loadAt 3 (.pointer (some (sAddr A1 z1)))), .int .i64 (geti g3 z1)⟩] [none, some (.pointer (some (sAddr A1 z1))), some (.int .i64 (geti g3 z1)), none, none] [2, 3, 5, 6, 7, 8, 17, 18, 19] [pl 2 (.pointer (some ⟨g4, 0, none⟩)), pl 3 (.pointer (some ⟨g5, 0, none⟩)), pl 5 (.slice A3 l1.length c3), pl 6 (.pointer (some ⟨g6, 0, none⟩)), pl 7 (.int .i64 z1), pl 8 (.int .i64 (geti g3 z1)), pl 17 (.slice A1 g3.length c1), pl 18 (.int .i64 (g3.length : Int)), pl 19 (.int .i64 z1)] hF hS Fol (by kernel_rfl) (by kernel_rfl) (by kernel_rfl) ?_ (fun a w hF hS => ?_)
        · exact obs_cons (ob_ix1 (f := (Value.int .i64)) (m := g3) Und22 hi3 hs3 (hr_g3 _ (hS.dropN 6)) rfl (fun _ => hp2)) <| obs_cons (ob_get1 (n := g3.length) (m := g3) (Value.int .i64) (0 : Int) Agg3 (fun _ hS => ⟨_, (hr_g3 _ (hS.dropN 6))⟩) (fun _ hS => rfl) (fun _ => hp2)) <| obs_nil
        refine seq_cut (fun a w => ∃ (Ds5 : List Nat), FrD Ds5 81 [pl 2 (.pointer (some ⟨g4, 0, none⟩)), pl 3 (.pointer (some ⟨g5, 0, none⟩)), pl 5 (.slice A3 l1.length c3), pl 6 (.pointer (some ⟨g6, 0, none⟩)), pl 7 (.int .i64 z1), pl 17 (.slice A1 g3.length c1), pl 18 (.int .i64 (g3.length : Int)), pl 19 (.int .i64 z1)] a ∧ Sep w0 B w (blk g4 24 #[.int .i64 g1, .int .i64 g2, .slice A1 g3.length c1] :: blk g5 3 #[.int .i64 who1] :: rows 22 3 (.slice A3 l1.length c3) hd1 l1 :: blk g6 114 #[.slice A2 (Int.toNat (g3.length : Int)) c2] :: own 4 (.slice A2 (Int.toNat (g3.length : Int)) c2) (vB seen1) :: defsH Ds5 :: fs) ∧ ((hex_groups_J4 g1 g3 who1 l1 seen1 z1)).bind φ1 = some r) ?_ ?_
        · rintro a w ⟨Ds5, hF, hS, hm⟩
          unfold hex_groups_J4 at hm
          refine seqR ?_
          obtain ⟨hp4, hm⟩ := asrt_b hm
          refine at_run 3 [⟨false, [], vS (Instr.loadAt 114 (.pointer (some ⟨g6, 0, none⟩))), .slice A2 (Int.toNat (g3.length : Int)) c2⟩, ⟨true, [], vS (Instr.indexAt 114 (.slice A2 (Int.toNat (g3.length : Int)) c2) (.int .i64 z1)), .pointer (some (sAddr A2 z1))⟩] [some (.slice A2 (Int.toNat (g3.length : Int)) c2), none, some (.pointer (some (sAddr A2 z1)))] [2, 3, 5, 6, 7, 17, 18, 19, 35] [pl 2 (.pointer (some ⟨g4, 0, none⟩)), pl 3 (.pointer (some ⟨g5, 0, none⟩)), pl 5 (.slice A3 l1.length c3), pl 6 (.pointer (some ⟨g6, 0, none⟩)), pl 7 (.int .i64 z1), pl 17 (.slice A1 g3.length c1), pl 18 (.int .i64 (g3.length : Int)), pl 19 (.int .i64 z1), pl 35 (.pointer (some (sAddr A2 z1)))] hF hS (by kernel_rfl) (by kernel_rfl) ?_ (fun a w hF hS => ?_)
          · exact obs_cons (ob_load Agg114 (fun _ _ hS => (hS.at_ 3 rfl).cell rfl)) <| obs_cons (ob_ix1 (f := Value.bool) (m := seen1) Und114 hi4 hs4 (hS.at_ 4 rfl).rd ((hS.at_ 4 rfl).len1) (fun _ => hp4)) <| obs_nil
          obtain ⟨w, hrun, hS⟩ := run_set1 (P := Try.prog) (t := 4) (x := true) Value.bool (hS.at_ 4 rfl) hi4 hs4 rfl rfl hp4
          refine at_skip hF (by kernel_rfl) hrun ?_
          have hS : Sep w0 B w (blk g4 24 #[.int .i64 g1, .int .i64 g2, .slice A1 g3.length c1] :: blk g5 3 #[.int .i64 who1] :: rows 22 3 (.slice A3 l1.length c3) hd1 l1 :: blk g6 114 #[.slice A2 (Int.toNat (g3.length : Int)) c2] :: own 4 (.slice A2 (Int.toNat (g3.length : Int)) c2) (vB (seen1.set (Int.toNat z1) true)) :: defsH Ds5 :: fs) := hS
          refine at_end [2, 3, 5, 6, 7, 17, 18, 19] [pl 2 (.pointer (some ⟨g4, 0, none⟩)), pl 3 (.pointer (some ⟨g5, 0, none⟩)), pl 5 (.slice A3 l1.length c3), pl 6 (.pointer (some ⟨g6, 0, none⟩)), pl 7 (.int .i64 z1), pl 17 (.slice A1 g3.length c1), pl 18 (.int .i64 (g3.length : Int)), pl 19 (.int .i64 z1)] hF rfl (by kernel_rfl) (fun hF => ?_)
          refine then_n ?_
          refine seqR ?_
          refine at_run 1 [] [] [2, 3, 5, 6, 17, 18, 19, 36] [pl 2 (.pointer (some ⟨g4, 0, none⟩)), pl 3 (.pointer (some ⟨g5, 0, none⟩)), pl 5 (.slice A3 l1.length c3), pl 6 (.pointer (some ⟨g6, 0, none⟩)), pl 17 (.slice A1 g3.length c1), pl 18 (.int .i64 (g3.length : Int)), pl 19 (.int .i64 z1), pl 36 (.int .i64 z1)] hF hS (by kernel_rfl) (by kernel_rfl) ?_ (fun a w hF hS => ?_)
          · exact obs_nil
          refine at_do (d := 37) (s := vS (Instr.buildSlice 22 1 #[(0, .int .i64 z1)])) (v := .slice (some ⟨w.heap.size, 0, none⟩) 1 1) (w' := w.alloc (.cells #[.int .i64 z1] 3)) hF (by kernel_rfl) (by kernel_rfl) (by kernel_rfl) (fun a hF => ?_)
          have hS : Sep w0 B (w.alloc (.cells #[.int .i64 z1] 3)) (own 3 (.slice (some (⟨w.heap.size, 0, none⟩ : Addr)) 1 1) (vI ([z1] : List Int)) :: (blk g4 24 #[.int .i64 g1, .int .i64 g2, .slice A1 g3.length c1] :: blk g5 3 #[.int .i64 who1] :: rows 22 3 (.slice A3 l1.length c3) hd1 l1 :: blk g6 114 #[.slice A2 (Int.toNat (g3.length : Int)) c2] :: own 4 (.slice A2 (Int.toNat (g3.length : Int)) c2) (vB (seen1.set (Int.toNat z1) true)) :: defsH Ds5 :: fs)) := hS.lit 3 #[.int .i64 z1] 1 rfl (by omega)
          generalize (some (⟨w.heap.size, 0, none⟩ : Addr)) = g7 at hF hS
          generalize w.alloc (.cells #[.int .i64 z1] 3) = w at hS ⊢
          refine at_do (d := 9) (s := vS (Instr.alloc 22 true (.tuple #[]))) (v := .pointer (some ⟨w.heap.size, 0, none⟩)) (w' := w.alloc (.cells #[.slice none 0 0] 22)) hF (by kernel_rfl) (by kernel_rfl) (by kernel_rfl) (fun a hF => ?_)
          have hS : Sep w0 B (w.alloc (.cells #[.slice none 0 0] 22)) (blk w.heap.size 22 #[.slice none 0 0] :: (own 3 (.slice g7 1 1) (vI ([z1] : List Int)) :: blk g4 24 #[.int .i64 g1, .int .i64 g2, .slice A1 g3.length c1] :: blk g5 3 #[.int .i64 who1] :: rows 22 3 (.slice A3 l1.length c3) hd1 l1 :: blk g6 114 #[.slice A2 (Int.toNat (g3.length : Int)) c2] :: own 4 (.slice A2 (Int.toNat (g3.length : Int)) c2) (vB (seen1.set (Int.toNat z1) true)) :: defsH Ds5 :: fs)) := hS.box 22 #[.slice none 0 0]
          generalize w.heap.size = g8 at hF hS
          generalize w.alloc (.cells #[.slice none 0 0] 22) = w at hS ⊢
          obtain ⟨w, hrun, hS⟩ := run_put (P := Try.prog) (t := 22) (u := .slice g7 1 1) (i := 0) (hS.at_ 0 rfl) hi22 hs22 rfl (Nat.lt_of_lt_of_eq (Nat.lt_of_succ_le (Nat.le_of_ble_eq_true (by kernel_rfl))) rfl)
          refine at_skip hF (by kernel_rfl) hrun ?_
          have hS : Sep w0 B w (blk g8 22 #[.slice g7 1 1] :: own 3 (.slice g7 1 1) (vI ([z1] : List Int)) :: blk g4 24 #[.int .i64 g1, .int .i64 g2, .slice A1 g3.length c1] :: blk g5 3 #[.int .i64 who1] :: rows 22 3 (.slice A3 l1.length c3) hd1 l1 :: blk g6 114 #[.slice A2 (Int.toNat (g3.length : Int)) c2] :: own 4 (.slice A2 (Int.toNat (g3.length : Int)) c2) (vB (seen1.set (Int.toNat z1) true)) :: defsH Ds5 :: fs) := hS
          refine at_end [2, 3, 5, 6, 9, 17, 18, 19] [pl 2 (.pointer (some ⟨g4, 0, none⟩)), pl 3 (.pointer (some ⟨g5, 0, none⟩)), pl 5 (.slice A3 l1.length c3), pl 6 (.pointer (some ⟨g6, 0, none⟩)), pl 9 (.pointer (some ⟨g8, 0, none⟩)), pl 17 (.slice A1 g3.length c1), pl 18 (.int .i64 (g3.length : Int)), pl 19 (.int .i64 z1)] hF rfl (by kernel_rfl) (fun hF => ?_)
          refine then_n ?_
          refine seq_cut (fun a w => ∃ (seen4 : List Bool) (group2 : List Int) (A7 : Option Addr) (c7 : Nat) (Ds8 : List Nat), FrD Ds8 81 [pl 2 (.pointer (some ⟨g4, 0, none⟩)), pl 3 (.pointer (some ⟨g5, 0, none⟩)), pl 5 (.slice A3 l1.length c3), pl 6 (.pointer (some ⟨g6, 0, none⟩)), pl 9 (.pointer (some ⟨g8, 0, none⟩)), pl 17 (.slice A1 g3.length c1), pl 18 (.int .i64 (g3.length : Int)), pl 19 (.int .i64 z1)] a ∧ Sep w0 B w (blk g4 24 #[.int .i64 g1, .int .i64 g2, .slice A1 g3.length c1] :: blk g5 3 #[.int .i64 who1] :: rows 22 3 (.slice A3 l1.length c3) hd1 l1 :: blk g6 114 #[.slice A2 (Int.toNat (g3.length : Int)) c2] :: own 4 (.slice A2 (Int.toNat (g3.length : Int)) c2) (vB seen4) :: blk g8 22 #[.slice A7 group2.length c7] :: own 3 (.slice A7 group2.length c7) (vI group2) :: defsH Ds8 :: fs) ∧ ((hex_groups_J5 l1 z1) seen4 group2).bind φ1 = some r) ?_ ?_
          · rintro a w ⟨seen4, group2, A7, c7, Ds8, hF, hS, hm⟩
            unfold hex_groups_J5 at hm
            refine seqR ?_
            obtain ⟨r2, hr2, hm⟩ := call_b hm
            refine at_run 1 [⟨false, [], vS (Instr.loadAt 22 (.pointer (some ⟨g8, 0, none⟩))), .slice A7 group2.length c7⟩] [some (.slice A7 group2.length c7)] [2, 3, 5, 6, 9, 17, 18, 19, 73] [pl 2 (.pointer (some ⟨g4, 0, none⟩)), pl 3 (.pointer (some ⟨g5, 0, none⟩)), pl 5 (.slice A3 l1.length c3), pl 6 (.pointer (some ⟨g6, 0, none⟩)), pl 9 (.pointer (some ⟨g8, 0, none⟩)), pl 17 (.slice A1 g3.length c1), pl 18 (.int .i64 (g3.length : Int)), pl 19 (.int .i64 z1), pl 73 (.slice A7 group2.length c7)] hF hS (by kernel_rfl) (by kernel_rfl) ?_ (fun a w hF hS => ?_)
            · exact obs_cons (ob_load Agg22 (fun _ _ hS => (hS.at_ 5 rfl).cell rfl)) <| obs_nil
            have hS : Sep w0 B w (own 3 (.slice A7 group2.length c7) (vI group2) :: blk g4 24 #[.int .i64 g1, .int .i64 g2, .slice A1 g3.length c1] :: blk g5 3 #[.int .i64 who1] :: rows 22 3 (.slice A3 l1.length c3) hd1 l1 :: blk g6 114 #[.slice A2 (Int.toNat (g3.length : Int)) c2] :: own 4 (.slice A2 (Int.toNat (g3.length : Int)) c2) (vB seen4) :: blk g8 22 #[.slice A7 group2.length c7] :: defsH Ds8 :: fs) := hS.pickN 8 [6, 0, 1, 2, 3, 4, 5, 7] (by decide)
            refine at_call (f := 147) (args := #[.slice A7 group2.length c7]) (d := 74) hF (by kernel_rfl) (by kernel_rfl) Try.func147 (by kernel_rfl) rfl (slices_Sort_2_w hr2 hS ) (fun v a w hR hF => ?_)
            clear hS
            obtain ⟨rfl, hS⟩ := hR
            have hS : Sep w0 B w (own 3 (.slice A7 group2.length c7) (vI r2) :: blk g4 24 #[.int .i64 g1, .int .i64 g2, .slice A1 g3.length c1] :: blk g5 3 #[.int .i64 who1] :: rows 22 3 (.slice A3 l1.length c3) hd1 l1 :: blk g6 114 #[.slice A2 (Int.toNat (g3.length : Int)) c2] :: own 4 (.slice A2 (Int.toNat (g3.length : Int)) c2) (vB seen4) :: blk g8 22 #[.slice A7 group2.length c7] :: defsH Ds8 :: fs) := hS
            refine at_end [2, 3, 5, 6, 9, 17, 18, 19] [pl 2 (.pointer (some ⟨g4, 0, none⟩)), pl 3 (.pointer (some ⟨g5, 0, none⟩)), pl 5 (.slice A3 l1.length c3), pl 6 (.pointer (some ⟨g6, 0, none⟩)), pl 9 (.pointer (some ⟨g8, 0, none⟩)), pl 17 (.slice A1 g3.length c1), pl 18 (.int .i64 (g3.length : Int)), pl 19 (.int .i64 z1)] hF rfl (by kernel_rfl) (fun hF => ?_)
            refine then_n ?_
            refine oneR ?_
            obtain ⟨hp10, hm⟩ := asrt_b hm
            refine at_run 2 [⟨false, [], vS (Instr.loadAt 22 (.pointer (some ⟨g8, 0, none⟩))), .slice A7 group2.length c7⟩] [none, some (.slice A7 group2.length c7)] [2, 3, 6, 17, 18, 19, 75, 76] [pl 2 (.pointer (some ⟨g4, 0, none⟩)), pl 3 (.pointer (some ⟨g5, 0, none⟩)), pl 6 (.pointer (some ⟨g6, 0, none⟩)), pl 17 (.slice A1 g3.length c1), pl 18 (.int .i64 (g3.length : Int)), pl 19 (.int .i64 z1), pl 75 (.slice A3 l1.length c3), pl 76 (.slice A7 group2.length c7)] hF hS (by kernel_rfl) (by kernel_rfl) ?_ (fun a w hF hS => ?_)
            · exact obs_cons (ob_load Agg22 (fun _ _ hS => (hS.at_ 6 rfl).cell rfl)) <| obs_nil
            refine at_do (d := 77) (s := vS (Instr.buildSlice 40 1 #[(0, .slice A7 group2.length c7)])) (v := .slice (some ⟨w.heap.size, 0, none⟩) 1 1) (w' := w.alloc (.cells #[.slice A7 group2.length c7] 22)) hF (by kernel_rfl) (by kernel_rfl) (by kernel_rfl) (fun a hF => ?_)
            have hS : Sep w0 B (w.alloc (.cells #[.slice A7 group2.length c7] 22)) (own 22 (.slice (some (⟨w.heap.size, 0, none⟩ : Addr)) 1 1) [.slice A7 group2.length c7] :: (own 3 (.slice A7 group2.length c7) (vI r2) :: blk g4 24 #[.int .i64 g1, .int .i64 g2, .slice A1 g3.length c1] :: blk g5 3 #[.int .i64 who1] :: rows 22 3 (.slice A3 l1.length c3) hd1 l1 :: blk g6 114 #[.slice A2 (Int.toNat (g3.length : Int)) c2] :: own 4 (.slice A2 (Int.toNat (g3.length : Int)) c2) (vB seen4) :: blk g8 22 #[.slice A7 group2.length c7] :: defsH Ds8 :: fs)) := hS.lit 22 #[.slice A7 group2.length c7] 1 rfl (by omega)
            generalize (some (⟨w.heap.size, 0, none⟩ : Addr)) = g12 at hF hS
            generalize w.alloc (.cells #[.slice A7 group2.length c7] 22) = w at hS ⊢
            have hl3 := (hS.at_ 1 rfl).len1
            have hS := (hS.at_ 1 rfl).reN hl3
            have hS := (hS.at_ 7 rfl).reBlk (congrArg (fun k9 => (#[.slice A7 k9 c7] : Array Value)) hl3)
            have hS : Sep w0 B w (own 22 (.slice g12 1 1) [.slice A7 group2.length c7] :: own 3 (.slice A7 r2.length c7) (vI r2) :: blk g4 24 #[.int .i64 g1, .int .i64 g2, .slice A1 g3.length c1] :: blk g5 3 #[.int .i64 who1] :: rows 22 3 (.slice A3 l1.length c3) hd1 l1 :: blk g6 114 #[.slice A2 (Int.toNat (g3.length : Int)) c2] :: own 4 (.slice A2 (Int.toNat (g3.length : Int)) c2) (vB seen4) :: blk g8 22 #[.slice A7 r2.length c7] :: defsH Ds8 :: fs) := hS
            have hS := (hS.at_ 0 rfl).reOwn (congrArg (fun k => [Value.slice A7 k c7]) hl3)
            have hS : Sep w0 B w (own 22 (.slice g12 1 1) [.slice A7 r2.length c7] :: own 3 (.slice A7 r2.length c7) (vI r2) :: blk g4 24 #[.int .i64 g1, .int .i64 g2, .slice A1 g3.length c1] :: blk g5 3 #[.int .i64 who1] :: rows 22 3 (.slice A3 l1.length c3) hd1 l1 :: blk g6 114 #[.slice A2 (Int.toNat (g3.length : Int)) c2] :: own 4 (.slice A2 (Int.toNat (g3.length : Int)) c2) (vB seen4) :: blk g8 22 #[.slice A7 r2.length c7] :: defsH Ds8 :: fs) := hS
            have hS := hS.pickN 9 [1, 0, 2, 3, 4, 5, 6, 7, 8] (by decide)
            have hS : Sep w0 B w (own 3 (.slice A7 r2.length c7) (vI r2) :: own 22 (.slice g12 1 1) [.slice A7 r2.length c7] :: blk g4 24 #[.int .i64 g1, .int .i64 g2, .slice A1 g3.length c1] :: blk g5 3 #[.int .i64 who1] :: rows 22 3 (.slice A3 l1.length c3) hd1 l1 :: blk g6 114 #[.slice A2 (Int.toNat (g3.length : Int)) c2] :: own 4 (.slice A2 (Int.toNat (g3.length : Int)) c2) (vB seen4) :: blk g8 22 #[.slice A7 r2.length c7] :: defsH Ds8 :: fs) := hS
            obtain ⟨A11, c11, w, hrun, hS⟩ := run_appRow (P := Try.prog) (t := 40) (A2 := g12) (c2 := 1) (hS.at2 3 rfl) (hS.at_ 1 rfl).rd 40 Und40 hi22 hz22 hs22 hb22 hp10
            have hS : Sep w0 B w (own 22 (.slice g12 1 1) [.slice A7 r2.length c7] :: blk g4 24 #[.int .i64 g1, .int .i64 g2, .slice A1 g3.length c1] :: blk g5 3 #[.int .i64 who1] :: rows 22 3 (.slice A11 ((l1 ++ [r2]).length) c11) (hd1 ++ [(A7, c7)]) (l1 ++ [r2]) :: blk g6 114 #[.slice A2 (Int.toNat (g3.length : Int)) c2] :: own 4 (.slice A2 (Int.toNat (g3.length : Int)) c2) (vB seen4) :: blk g8 22 #[.slice A7 r2.length c7] :: defsH Ds8 :: fs) := hS
            refine at_do (d := 78) hF (by kernel_rfl) (by kernel_rfl) hrun (fun a hF => ?_)
            refine at_run 1 [] [] [2, 3, 5, 6, 17, 18, 19] [pl 2 (.pointer (some ⟨g4, 0, none⟩)), pl 3 (.pointer (some ⟨g5, 0, none⟩)), pl 5 (.slice A11 ((l1 ++ [r2]).length) c11), pl 6 (.pointer (some ⟨g6, 0, none⟩)), pl 17 (.slice A1 g3.length c1), pl 18 (.int .i64 (g3.length : Int)), pl 19 (.int .i64 z1)] hF hS (by kernel_rfl) (by kernel_rfl) ?_ (fun a w hF hS => ?_)
            · exact obs_nil
            refine at_end [2, 3, 5, 6, 17, 18, 19] [pl 2 (.pointer (some ⟨g4, 0, none⟩)), pl 3 (.pointer (some ⟨g5, 0, none⟩)), pl 5 (.slice A11 ((l1 ++ [r2]).length) c11), pl 6 (.pointer (some ⟨g6, 0, none⟩)), pl 17 (.slice A1 g3.length c1), pl 18 (.int .i64 (g3.length : Int)), pl 19 (.int .i64 z1)] hF rfl (by kernel_rfl) (fun hF => ?_)
            refine block_n ?_
            refine then_n ?_
            have hS := hS.pickN 8 [1, 2, 3, 4, 5, 7] (by decide)
            exact ⟨(l1 ++ [r2]), seen4, A11, c11, (hd1 ++ [(A7, c7)]), Ds8, hF.weak [2, 3, 5, 6, 17, 18, 19] (by kernel_rfl), hS, hm⟩
          · refine reg [] [] [2, 3, 5, 6, 9, 10, 17, 18, 19] [pl 2 (.pointer (some ⟨g4, 0, none⟩)), pl 3 (.pointer (some ⟨g5, 0, none⟩)), pl 5 (.slice A3 l1.length c3), pl 6 (.pointer (some ⟨g6, 0, none⟩)), pl 9 (.pointer (some ⟨g8, 0, none⟩)), pl 10 (.int .i64 0), pl 17 (.slice A1 g3.length c1), pl 18 (.int .i64 (g3.length : Int)), pl 19 (.int .i64 z1)] hF hS Fol (by kernel_rfl) (by kernel_rfl) (by kernel_rfl) ?_ (fun a w hF hS => ?_)
            · exact obs_nil
            refine wpIn_block ?_
            have hl2 := (hS.at_ 1 rfl).len1
            have hS := (hS.at_ 1 rfl).reN hl2
            have hS := (hS.at_ 0 rfl).reBlk (congrArg (fun k9 => (#[.slice g7 k9 1] : Array Value)) hl2)
            have hS : Sep w0 B w (blk g8 22 #[.slice g7 (([z1] : List Int).length) 1] :: own 3 (.slice g7 (([z1] : List Int).length) 1) (vI ([z1] : List Int)) :: blk g4 24 #[.int .i64 g1, .int .i64 g2, .slice A1 g3.length c1] :: blk g5 3 #[.int .i64 who1] :: rows 22 3 (.slice A3 l1.length c3) hd1 l1 :: blk g6 114 #[.slice A2 (Int.toNat (g3.length : Int)) c2] :: own 4 (.slice A2 (Int.toNat (g3.length : Int)) c2) (vB (seen1.set (Int.toNat z1) true)) :: defsH Ds5 :: fs) := hS
            have hS := hS.pickN 8 [2, 3, 4, 5, 6, 0, 1, 7] (by decide)
            refine wp_loop_model (S := (List Bool × List Int × Int)) (R := (List Bool × List Int)) (hex_groups_L2 g1 g3 who1) (fun x => ((hex_groups_K2 l1 z1) x).bind φ1) r (fun (x : (List Bool × List Int × Int)) a w => ∃ (A6 : Option Addr) (c6 : Nat) (Ds6 : List Nat), FrD Ds6 81 [pl 2 (.pointer (some ⟨g4, 0, none⟩)), pl 3 (.pointer (some ⟨g5, 0, none⟩)), pl 5 (.slice A3 l1.length c3), pl 6 (.pointer (some ⟨g6, 0, none⟩)), pl 9 (.pointer (some ⟨g8, 0, none⟩)), pl 10 (.int .i64 x.2.2), pl 17 (.slice A1 g3.length c1), pl 18 (.int .i64 (g3.length : Int)), pl 19 (.int .i64 z1)] a ∧ Sep w0 B w (blk g4 24 #[.int .i64 g1, .int .i64 g2, .slice A1 g3.length c1] :: blk g5 3 #[.int .i64 who1] :: rows 22 3 (.slice A3 l1.length c3) hd1 l1 :: blk g6 114 #[.slice A2 (Int.toNat (g3.length : Int)) c2] :: own 4 (.slice A2 (Int.toNat (g3.length : Int)) c2) (vB x.1) :: blk g8 22 #[.slice A6 x.2.1.length c6] :: own 3 (.slice A6 x.2.1.length c6) (vI x.2.1) :: defsH Ds6 :: fs)) (assoc_b hm) ⟨g7, 1, Ds5, hF.weak [2, 3, 5, 6, 9, 10, 17, 18, 19] (by kernel_rfl), hS⟩ ?_
            clear hF hS hm
            rintro nn2 ⟨seen3, group1, i1⟩ a w ⟨A6, c6, Ds6, hF, hS⟩ hm
            generalize hφ2 : stK (hex_groups_L2 g1 g3 who1) nn2 (fun x => ((hex_groups_K2 l1 z1) x).bind φ1) = φ2 at hm
            unfold hex_groups_L2 at hm
            dsimp only at hF hS hm
            refine seq_cut (fun a w => ∃ (Ds7 : List Nat), FrD Ds7 81 [pl 2 (.pointer (some ⟨g4, 0, none⟩)), pl 3 (.pointer (some ⟨g5, 0, none⟩)), pl 5 (.slice A3 l1.length c3), pl 6 (.pointer (some ⟨g6, 0, none⟩)), pl 9 (.pointer (some ⟨g8, 0, none⟩)), pl 10 (.int .i64 i1), pl 17 (.slice A1 g3.length c1), pl 18 (.int .i64 (g3.length : Int)), pl 19 (.int .i64 z1)] a ∧ Sep w0 B w (blk g4 24 #[.int .i64 g1, .int .i64 g2, .slice A1 g3.length c1] :: blk g5 3 #[.int .i64 who1] :: rows 22 3 (.slice A3 l1.length c3) hd1 l1 :: blk g6 114 #[.slice A2 (Int.toNat (g3.length : Int)) c2] :: own 4 (.slice A2 (Int.toNat (g3.length : Int)) c2) (vB seen3) :: blk g8 22 #[.slice A6 group1.length c6] :: own 3 (.slice A6 group1.length c6) (vI group1) :: defsH Ds7 :: fs) ∧ ((hex_groups_J6 g1 g3 who1 seen3 group1 i1)).bind φ2 = some r) ?_ ?_
            · rintro a w ⟨Ds7, hF, hS, hm⟩
              unfold hex_groups_J6 at hm
              refine seq_cut (fun a w => ∃ (seen6 : List Bool) (group4 : List Int) (A10 : Option Addr) (c10 : Nat) (Ds10 : List Nat), FrD Ds10 81 [pl 2 (.pointer (some ⟨g4, 0, none⟩)), pl 3 (.pointer (some ⟨g5, 0, none⟩)), pl 5 (.slice A3 l1.length c3), pl 6 (.pointer (some ⟨g6, 0, none⟩)), pl 9 (.pointer (some ⟨g8, 0, none⟩)), pl 10 (.int .i64 i1), pl 17 (.slice A1 g3.length c1), pl 18 (.int .i64 (g3.length : Int)), pl 19 (.int .i64 z1)] a ∧ Sep w0 B w (blk g4 24 #[.int .i64 g1, .int .i64 g2, .slice A1 g3.length c1] :: blk g5 3 #[.int .i64 who1] :: rows 22 3 (.slice A3 l1.length c3) hd1 l1 :: blk g6 114 #[.slice A2 (Int.toNat (g3.length : Int)) c2] :: own 4 (.slice A2 (Int.toNat (g3.length : Int)) c2) (vB seen6) :: blk g8 22 #[.slice A10 group4.length c10] :: own 3 (.slice A10 group4.length c10) (vI group4) :: defsH Ds10 :: fs) ∧ ((hex_groups_J7 i1) seen6 group4).bind φ2 = some r) ?_ ?_
              · rintro a w ⟨seen6, group4, A10, c10, Ds10, hF, hS, hm⟩
                unfold hex_groups_J7 at hm
                refine reg1 [] [] [2, 3, 5, 6, 9, 10, 17, 18, 19] [pl 2 (.pointer (some ⟨g4, 0, none⟩)), pl 3 (.pointer (some ⟨g5, 0, none⟩)), pl 5 (.slice A3 l1.length c3), pl 6 (.pointer (some ⟨g6, 0, none⟩)), pl 9 (.pointer (some ⟨g8, 0, none⟩)), pl 10 (.int .i64 (w64 (i1 + 1))), pl 17 (.slice A1 g3.length c1), pl 18 (.int .i64 (g3.length : Int)), pl 19 (.int .i64 z1)] hF hS Fol (by kernel_rfl) (by kernel_rfl) (by kernel_rfl) ?_ (fun a w hF hS => ?_)
                · exact obs_nil
                refine then_n ?_
                rw [← hφ2] at hm
                exact ⟨(seen6, group4, (w64 (i1 + 1))), ⟨A10, c10, Ds10, hF.weak [2, 3, 5, 6, 9, 10, 17, 18, 19] (by kernel_rfl), hS⟩, hm⟩
              · refine wpIn_block ?_
                refine wpIn_seq ?_
                obtain ⟨hp5, hm⟩ := asrt_b hm
                obtain ⟨r1, hr1, hm⟩ := call_b hm
                refine regMix4 [0, 1, 2, 3, 4, 5] [6] [⟨false, [], vS (Instr.loadAt 3 (.pointer (some ⟨g4, 0, none⟩))), .int .i64 g1⟩, ⟨false, [], vS (Instr.loadAt 22 (.pointer (some ⟨g8, 0, none⟩))), .slice A6 group1.length c6⟩, ⟨true, [], vS (Instr.indexAt 22 (.slice A6 group1.length c6) (.int .i64 i1)), .pointer (some (sAddr A6 i1))⟩, ⟨false, [], vS (Instr.loadAt 3 (.pointer (some (sAddr A6 i1)))), .int .i64 (geti group1 i1)⟩] [none, some (.int .i64 g1), some (.slice A6 group1.length c6), none, some (.pointer (some (sAddr A6 i1))), some (.int .i64 (geti group1 i1))] [2, 3, 5, 6, 9, 10, 17, 18, 19, 45, 49] [pl 2 (.pointer (some ⟨g4, 0, none⟩)), pl 3 (.pointer (some ⟨g5, 0, none⟩)), pl 5 (.slice A3 l1.length c3), pl 6 (.pointer (some ⟨g6, 0, none⟩)), pl 9 (.pointer (some ⟨g8, 0, none⟩)), pl 10 (.int .i64 i1), pl 17 (.slice A1 g3.length c1), pl 18 (.int .i64 (g3.length : Int)), pl 19 (.int .i64 z1), pl 45 (.int .i64 g1), pl 49 (.int .i64 (geti group1 i1))] hF hS Fol (by kernel_rfl) (by kernel_rfl) (by kernel_rfl) (by kernel_rfl) (by kernel_rfl) ?_ (fun a w hF hS => ?_)
                · exact obs_cons (ob_load Agg3 (fun _ _ hS => (hS.at_ 0 rfl).cell rfl)) <| obs_cons (ob_load Agg22 (fun _ _ hS => (hS.at_ 5 rfl).cell rfl)) <| obs_cons (ob_ix1 (f := (Value.int .i64)) (m := group1) Und22 hi3 hs3 (hS.at_ 6 rfl).rd rfl (fun _ => hp5)) <| obs_cons (ob_get1 (n := group1.length) (m := group1) (Value.int .i64) (0 : Int) Agg3 (fun _ hS => ⟨_, (hS.at_ 6 rfl).rd⟩) (fun _ hS => rfl) (fun _ => hp5)) <| obs_nil
                refine at_call (f := 99) (args := #[.int .i64 g1, .int .i64 (geti group1 i1)]) (d := 50) hF (by kernel_rfl) (by kernel_rfl) Try.func99 (by kernel_rfl) rfl (hex_near_w hr1 hS ) (fun v a w hR hF => ?_)
                clear hS
                obtain ⟨g9, g10, rfl, hS⟩ := hR
                have hS : Sep w0 B w (blk g9 3 #[.int .i64 r1.1] :: blk g10 3 #[.int .i64 r1.2] :: blk g4 24 #[.int .i64 g1, .int .i64 g2, .slice A1 g3.length c1] :: blk g5 3 #[.int .i64 who1] :: rows 22 3 (.slice A3 l1.length c3) hd1 l1 :: blk g6 114 #[.slice A2 (Int.toNat (g3.length : Int)) c2] :: own 4 (.slice A2 (Int.toNat (g3.length : Int)) c2) (vB seen3) :: blk g8 22 #[.slice A6 group1.length c6] :: own 3 (.slice A6 group1.length c6) (vI group1) :: defsH Ds7 :: fs) := hS
                refine at_end [2, 3, 5, 6, 9, 10, 17, 18, 19, 50] [pl 2 (.pointer (some ⟨g4, 0, none⟩)), pl 3 (.pointer (some ⟨g5, 0, none⟩)), pl 5 (.slice A3 l1.length c3), pl 6 (.pointer (some ⟨g6, 0, none⟩)), pl 9 (.pointer (some ⟨g8, 0, none⟩)), pl 10 (.int .i64 i1), pl 17 (.slice A1 g3.length c1), pl 18 (.int .i64 (g3.length : Int)), pl 19 (.int .i64 z1), pl 50 (.func (.func 149) #[] #[.pointer (some ⟨g9, 0, none⟩), .pointer (some ⟨g10, 0, none⟩)])] hF rfl (by kernel_rfl) (fun hF => ?_)
                refine np_n ?_
                refine then_n ?_
                refine wpIn_block ?_
                have hS := hS.pickN 10 [6, 7, 8, 9, 2, 3, 4, 5, 0, 1] (by decide)
                obtain ⟨y1, hy1, hm⟩ := call_b hm
                refine range_out (ρ := [pl 2 (.pointer (some ⟨g4, 0, none⟩)), pl 3 (.pointer (some ⟨g5, 0, none⟩)), pl 5 (.slice A3 l1.length c3), pl 6 (.pointer (some ⟨g6, 0, none⟩)), pl 9 (.pointer (some ⟨g8, 0, none⟩)), pl 10 (.int .i64 i1), pl 17 (.slice A1 g3.length c1), pl 18 (.int .i64 (g3.length : Int)), pl 19 (.int .i64 z1), pl 50 (.func (.func 149) #[] #[.pointer (some ⟨g9, 0, none⟩), .pointer (some ⟨g10, 0, none⟩)])]) (lb := [.pointer (some ⟨g9, 0, none⟩), .pointer (some ⟨g10, 0, none⟩)]) (y := y1) (enc := (fun (x : Int) => #[.int .i64 x])) (qs := [own 4 (.slice A2 (Int.toNat (g3.length : Int)) c2) (vB seen3), blk g8 22 #[.slice A6 group1.length c6], own 3 (.slice A6 group1.length c6) (vI group1)]) (fun (x : Int) => [(51, .int .i64 x)]) (fun (s : (List Bool × List Int)) qs => ∃ (A8 : Option Addr) (c8 : Nat), qs = [own 4 (.slice A2 (Int.toNat (g3.length : Int)) c2) (vB s.1), blk g8 22 #[.slice A8 s.2.length c8], own 3 (.slice A8 s.2.length c8) (vI s.2)]) (fun (_ : Unit) _ _ => False) (fun x s => (hex_groups_L3 g3 who1) (x, s)) (seen3, group1) (hF.weak [2, 3, 5, 6, 9, 10, 17, 18, 19, 50] (by kernel_rfl)) hS (by kernel_rfl) Try.func149 (by kernel_rfl) rfl (by kernel_rfl) (by intro x; simp) (fun _ => rfl) (fun x p hp => ?_) ⟨A6, c6, rfl⟩ ?_ ?_ ?_ ?_
                · simp only [List.mem_cons, List.not_mem_nil, or_false] at hp
                  rcases hp with rfl <;> (dsimp only; decide)
                · intro lr1 D1 RS w hY hS
                  exact Calls.mono (hex_near_1_w hy1 (hS.pickN 8 [0, 6, 7, 1, 2, 3, 4, 5] (by decide)) (YieldC.perm (blk g9 3 #[.int .i64 r1.1] :: blk g10 3 #[.int .i64 r1.2] :: defsH (D1 :: Ds7) :: blk g4 24 #[.int .i64 g1, .int .i64 g2, .slice A1 g3.length c1] :: blk g5 3 #[.int .i64 who1] :: rows 22 3 (.slice A3 l1.length c3) hd1 l1 :: blk g6 114 #[.slice A2 (Int.toNat (g3.length : Int)) c2] :: fs) hY (fun hS => hS.pickN 8 [0, 3, 4, 5, 6, 7, 1, 2] (by decide)) (fun hS => hS.pickN 8 [0, 6, 7, 1, 2, 3, 4, 5] (by decide))) ) (fun e w' h => by obtain ⟨_, rfl, _, hS⟩ := h; exact hS.pickN 8 [0, 3, 4, 5, 6, 7, 1, 2] (by decide))
                · rintro lr1 D1 rr1 x1 ⟨seen5, group3⟩ r qs us1 a w hrr1 hm hI hF hS
                  obtain ⟨A8, c8, rfl⟩ := hI
                  replace hm := start_b hm
                  unfold hex_groups_L3 at hm
                  dsimp only at hm hF hS
                  have hF : Fr 81 [pl 2 (.pointer (some ⟨g4, 0, none⟩)), pl 3 (.pointer (some ⟨g5, 0, none⟩)), pl 5 (.slice A3 l1.length c3), pl 6 (.pointer (some ⟨g6, 0, none⟩)), pl 9 (.pointer (some ⟨g8, 0, none⟩)), pl 10 (.int .i64 i1), pl 17 (.slice A1 g3.length c1), pl 18 (.int .i64 (g3.length : Int)), pl 19 (.int .i64 z1), pl 50 (.func (.func 149) #[] #[.pointer (some ⟨g9, 0, none⟩), .pointer (some ⟨g10, 0, none⟩)]), pl 51 (.int .i64 x1)] a := hF.weak [2, 3, 5, 6, 9, 10, 17, 18, 19, 50, 51] (by kernel_rfl)
                  have hS : Sep w0 B w (recH lr1 rr1 :: own 4 (.slice A2 (Int.toNat (g3.length : Int)) c2) (vB seen5) :: blk g8 22 #[.slice A8 group3.length c8] :: own 3 (.slice A8 group3.length c8) (vI group3) :: defsH (D1 :: Ds7) :: blk g4 24 #[.int .i64 g1, .int .i64 g2, .slice A1 g3.length c1] :: blk g5 3 #[.int .i64 who1] :: rows 22 3 (.slice A3 l1.length c3) hd1 l1 :: blk g6 114 #[.slice A2 (Int.toNat (g3.length : Int)) c2] :: blk g9 3 #[.int .i64 r1.1] :: blk g10 3 #[.int .i64 r1.2] :: (fs ++ us1)) := hS
                  refine reg1 [] [] [2, 3, 6, 9, 11] [pl 2 (.pointer (some ⟨g4, 0, none⟩)), pl 3 (.pointer (some ⟨g5, 0, none⟩)), pl 6 (.pointer (some ⟨g6, 0, none⟩)), pl 9 (.pointer (some ⟨g8, 0, none⟩)), pl 11 (.int .i64 x1)] hF hS Fol (by kernel_rfl) (by kernel_rfl) (by kernel_rfl) ?_ (fun a w hF hS => ?_)
                  · exact obs_nil
                  refine then_n ?_
                  refine begin_r hS hrr1 (fun w hS => ?_)
                  have hS : Sep w0 B w (recH lr1 { rr1 with state := .busy } :: own 4 (.slice A2 (Int.toNat (g3.length : Int)) c2) (vB seen5) :: blk g8 22 #[.slice A8 group3.length c8] :: own 3 (.slice A8 group3.length c8) (vI group3) :: defsH (D1 :: Ds7) :: blk g4 24 #[.int .i64 g1, .int .i64 g2, .slice A1 g3.length c1] :: blk g5 3 #[.int .i64 who1] :: rows 22 3 (.slice A3 l1.length c3) hd1 l1 :: blk g6 114 #[.slice A2 (Int.toNat (g3.length : Int)) c2] :: blk g9 3 #[.int .i64 r1.1] :: blk g10 3 #[.int .i64 r1.2] :: (fs ++ us1)) := hS
                  refine wpIn_block ?_
                  obtain ⟨hp6, hm⟩ := asrt_b hm
                  obtain ⟨hp7, hm⟩ := asrt_b hm
                  refine reg [⟨false, [], vS (Instr.loadAt 22 (.pointer (some ⟨g4, 2, none⟩))), .slice A1 g3.length c1⟩, ⟨true, [], vS (Instr.indexAt 22 (.slice A1 g3.length c1) (.int .i64 x1)), .pointer (some (sAddr A1 x1))⟩, ⟨false, [], vS (Instr.loadAt 3 (.pointer (some (sAddr A1 x1)))), .int .i64 (geti g3 x1)⟩, ⟨false, [], vS (Instr.loadAt 3 (.pointer (some ⟨g5, 0, none⟩))), .int .i64 who1⟩, ⟨false, [(((geti g3 x1) == who1), true)], vS (Instr.loadAt 114 (.pointer (some ⟨g6, 0, none⟩))), .slice A2 (Int.toNat (g3.length : Int)) c2⟩, ⟨true, [(((geti g3 x1) == who1), true)], vS (Instr.indexAt 114 (.slice A2 (Int.toNat (g3.length : Int)) c2) (.int .i64 x1)), .pointer (some (sAddr A2 x1))⟩, ⟨false, [(((geti g3 x1) == who1), true)], vS (Instr.loadAt 4 (.pointer (some (sAddr A2 x1)))), .bool (getb seen5 x1)⟩] [none, some (.slice A1 g3.length c1), none, some (.pointer (some (sAddr A1 x1))), some (.int .i64 (geti g3 x1)), some (.int .i64 who1), none, none, some (.slice A2 (Int.toNat (g3.length : Int)) c2), none, some (.pointer (some (sAddr A2 x1))), some (.bool (getb seen5 x1)), none, none] [6, 9, 11, 65] [pl 6 (.pointer (some ⟨g6, 0, none⟩)), pl 9 (.pointer (some ⟨g8, 0, none⟩)), pl 11 (.int .i64 x1), pl 65 (.bool (((geti g3 x1) == who1) && (!(getb seen5 x1))))] hF hS Fol (by kernel_rfl) (by kernel_rfl) (by kernel_rfl) ?_ (fun a w hF hS => ?_)
                  · exact obs_cons (ob_load Agg22 (fun _ _ hS => (hS.at_ 5 rfl).cell rfl)) <| obs_cons (ob_ix1 (f := (Value.int .i64)) (m := g3) Und22 hi3 hs3 (hr_g3 _ (hS.dropN 11).pre) rfl (fun _ => hp6)) <| obs_cons (ob_get1 (n := g3.length) (m := g3) (Value.int .i64) (0 : Int) Agg3 (fun _ hS => ⟨_, (hr_g3 _ (hS.dropN 11).pre)⟩) (fun _ hS => rfl) (fun _ => hp6)) <| obs_cons (ob_load Agg3 (fun _ _ hS => (hS.at_ 6 rfl).cell rfl)) <| obs_cons (ob_load Agg114 (fun _ _ hS => (hS.at_ 8 rfl).cell rfl)) <| obs_cons (ob_ix1 (f := Value.bool) (m := seen5) Und114 hi4 hs4 (hS.at_ 1 rfl).rd ((hS.at_ 1 rfl).len1) (fun hy => hp7 (hy (((geti g3 x1) == who1), true) (by simp)))) <| obs_cons (ob_get1 (n := (Int.toNat (g3.length : Int))) (m := seen5) Value.bool false Agg4 (fun _ hS => ⟨_, (hS.at_ 1 rfl).rd⟩) (fun _ hS => ((hS.at_ 1 rfl).len1)) (fun hy => hp7 (hy (((geti g3 x1) == who1), true) (by simp)))) <| obs_nil
                  refine cond_ev (t := 65) (b := ((geti g3 x1) == who1) && (!(getb seen5 x1))) hF (by kernel_rfl) (fun hb => ?_) (fun hb => ?_)
                  · replace hm := if_t hm hb
                    refine seqR ?_
                    obtain ⟨hp8, hm⟩ := asrt_b hm
                    refine at_run 3 [⟨false, [], vS (Instr.loadAt 114 (.pointer (some ⟨g6, 0, none⟩))), .slice A2 (Int.toNat (g3.length : Int)) c2⟩, ⟨true, [], vS (Instr.indexAt 114 (.slice A2 (Int.toNat (g3.length : Int)) c2) (.int .i64 x1)), .pointer (some (sAddr A2 x1))⟩] [some (.slice A2 (Int.toNat (g3.length : Int)) c2), none, some (.pointer (some (sAddr A2 x1)))] [9, 11, 68] [pl 9 (.pointer (some ⟨g8, 0, none⟩)), pl 11 (.int .i64 x1), pl 68 (.pointer (some (sAddr A2 x1)))] hF hS (by kernel_rfl) (by kernel_rfl) ?_ (fun a w hF hS => ?_)
                    · exact obs_cons (ob_load Agg114 (fun _ _ hS => (hS.at_ 8 rfl).cell rfl)) <| obs_cons (ob_ix1 (f := Value.bool) (m := seen5) Und114 hi4 hs4 (hS.at_ 1 rfl).rd ((hS.at_ 1 rfl).len1) (fun _ => hp8)) <| obs_nil
                    obtain ⟨w, hrun, hS⟩ := run_set1 (P := Try.prog) (t := 4) (x := true) Value.bool (hS.at_ 1 rfl) hi4 hs4 rfl rfl hp8
                    refine at_skip hF (by kernel_rfl) hrun ?_
                    have hS : Sep w0 B w (recH lr1 { rr1 with state := .busy } :: own 4 (.slice A2 (Int.toNat (g3.length : Int)) c2) (vB (seen5.set (Int.toNat x1) true)) :: blk g8 22 #[.slice A8 group3.length c8] :: own 3 (.slice A8 group3.length c8) (vI group3) :: defsH (D1 :: Ds7) :: blk g4 24 #[.int .i64 g1, .int .i64 g2, .slice A1 g3.length c1] :: blk g5 3 #[.int .i64 who1] :: rows 22 3 (.slice A3 l1.length c3) hd1 l1 :: blk g6 114 #[.slice A2 (Int.toNat (g3.length : Int)) c2] :: blk g9 3 #[.int .i64 r1.1] :: blk g10 3 #[.int .i64 r1.2] :: (fs ++ us1)) := hS
                    refine at_end [9, 11] [pl 9 (.pointer (some ⟨g8, 0, none⟩)), pl 11 (.int .i64 x1)] hF rfl (by kernel_rfl) (fun hF => ?_)
                    refine then_n ?_
                    refine oneR ?_
                    obtain ⟨hp9, hm⟩ := asrt_b hm
                    refine at_run 2 [⟨false, [], vS (Instr.loadAt 22 (.pointer (some ⟨g8, 0, none⟩))), .slice A8 group3.length c8⟩] [some (.slice A8 group3.length c8), none] [9, 69, 70] [pl 9 (.pointer (some ⟨g8, 0, none⟩)), pl 69 (.slice A8 group3.length c8), pl 70 (.int .i64 x1)] hF hS (by kernel_rfl) (by kernel_rfl) ?_ (fun a w hF hS => ?_)
                    · exact obs_cons (ob_load Agg22 (fun _ _ hS => (hS.at_ 2 rfl).cell rfl)) <| obs_nil
                    refine at_do (d := 71) (s := vS (Instr.buildSlice 22 1 #[(0, .int .i64 x1)])) (v := .slice (some ⟨w.heap.size, 0, none⟩) 1 1) (w' := w.alloc (.cells #[.int .i64 x1] 3)) hF (by kernel_rfl) (by kernel_rfl) (by kernel_rfl) (fun a hF => ?_)
                    have hS : Sep w0 B (w.alloc (.cells #[.int .i64 x1] 3)) (own 3 (.slice (some (⟨w.heap.size, 0, none⟩ : Addr)) 1 1) (vI ([x1] : List Int)) :: (recH lr1 { rr1 with state := .busy } :: own 4 (.slice A2 (Int.toNat (g3.length : Int)) c2) (vB (seen5.set (Int.toNat x1) true)) :: blk g8 22 #[.slice A8 group3.length c8] :: own 3 (.slice A8 group3.length c8) (vI group3) :: defsH (D1 :: Ds7) :: blk g4 24 #[.int .i64 g1, .int .i64 g2, .slice A1 g3.length c1] :: blk g5 3 #[.int .i64 who1] :: rows 22 3 (.slice A3 l1.length c3) hd1 l1 :: blk g6 114 #[.slice A2 (Int.toNat (g3.length : Int)) c2] :: blk g9 3 #[.int .i64 r1.1] :: blk g10 3 #[.int .i64 r1.2] :: (fs ++ us1))) := hS.lit 3 #[.int .i64 x1] 1 rfl (by omega)
                    generalize (some (⟨w.heap.size, 0, none⟩ : Addr)) = g11 at hF hS
                    generalize w.alloc (.cells #[.int .i64 x1] 3) = w at hS ⊢
                    obtain ⟨A9, c9, w, hrun, hS⟩ := run_app1 (P := Try.prog) (t := 22) (m := group3) (ys := ([x1] : List Int)) (A2 := g11) (m2 := 1) (c2 := 1) (Value.int .i64) (0 : Int) (hS.at_ 4 rfl) (hS.at_ 0 rfl).rd ((hS.at_ 0 rfl).len1) 22 Und22 hi3 hz3 hs3 (by omega) rfl (fun _ => rfl) hp9
                    have hS : Sep w0 B w (own 3 (.slice g11 1 1) (vI ([x1] : List Int)) :: recH lr1 { rr1 with state := .busy } :: own 4 (.slice A2 (Int.toNat (g3.length : Int)) c2) (vB (seen5.set (Int.toNat x1) true)) :: blk g8 22 #[.slice A8 group3.length c8] :: own 3 (.slice A9 ((group3 ++ ([x1] : List Int)).length) c9) (vI (group3 ++ ([x1] : List Int))) :: defsH (D1 :: Ds7) :: blk g4 24 #[.int .i64 g1, .int .i64 g2, .slice A1 g3.length c1] :: blk g5 3 #[.int .i64 who1] :: rows 22 3 (.slice A3 l1.length c3) hd1 l1 :: blk g6 114 #[.slice A2 (Int.toNat (g3.length : Int)) c2] :: blk g9 3 #[.int .i64 r1.1] :: blk g10 3 #[.int .i64 r1.2] :: (fs ++ us1)) := hS
                    refine at_do (d := 72) hF (by kernel_rfl) (by kernel_rfl) hrun (fun a hF => ?_)
                    obtain ⟨w, hrun, hS⟩ := run_put (P := Try.prog) (t := 22) (u := .slice A9 ((group3 ++ ([x1] : List Int)).length) c9) (i := 0) (hS.at_ 3 rfl) hi22 hs22 rfl (Nat.lt_of_lt_of_eq (Nat.lt_of_succ_le (Nat.le_of_ble_eq_true (by kernel_rfl))) rfl)
                    refine at_skip hF (by kernel_rfl) hrun ?_
                    have hS : Sep w0 B w (own 3 (.slice g11 1 1) (vI ([x1] : List Int)) :: recH lr1 { rr1 with state := .busy } :: own 4 (.slice A2 (Int.toNat (g3.length : Int)) c2) (vB (seen5.set (Int.toNat x1) true)) :: blk g8 22 #[.slice A9 ((group3 ++ ([x1] : List Int)).length) c9] :: own 3 (.slice A9 ((group3 ++ ([x1] : List Int)).length) c9) (vI (group3 ++ ([x1] : List Int))) :: defsH (D1 :: Ds7) :: blk g4 24 #[.int .i64 g1, .int .i64 g2, .slice A1 g3.length c1] :: blk g5 3 #[.int .i64 who1] :: rows 22 3 (.slice A3 l1.length c3) hd1 l1 :: blk g6 114 #[.slice A2 (Int.toNat (g3.length : Int)) c2] :: blk g9 3 #[.int .i64 r1.1] :: blk g10 3 #[.int .i64 r1.2] :: (fs ++ us1)) := hS
                    refine at_end [] [] hF rfl (by kernel_rfl) (fun hF => ?_)
                    refine block_n ?_
                    have hS := hS.pickN 12 [1, 2, 3, 4, 5, 6, 7, 8, 9, 10, 11] (by decide)
                    have hm : some (.next ((seen5.set (Int.toNat x1) true), (group3 ++ ([x1] : List Int)))) = some r := hm
                    obtain rfl := Option.some.inj hm
                    exact ⟨_, _, rfl, ⟨A9, c9, rfl⟩, hS⟩
                  · replace hm := if_f hm hb
                    refine wpIn_skip ?_
                    refine block_n ?_
                    have hm : some (.next (seen5, group3)) = some r := hm
                    obtain rfl := Option.some.inj hm
                    exact ⟨_, _, rfl, ⟨A8, c8, rfl⟩, hS⟩
                · rintro ⟨seen5, group3⟩ D1 qs a w hy1e hI hF hS
                  obtain ⟨A8, c8, rfl⟩ := hI
                  rw [hy1e] at hm
                  unfold hex_groups_K3 at hm
                  dsimp only at hm hF hS
                  have hF : FrD (D1 :: Ds7) 81 [pl 2 (.pointer (some ⟨g4, 0, none⟩)), pl 3 (.pointer (some ⟨g5, 0, none⟩)), pl 5 (.slice A3 l1.length c3), pl 6 (.pointer (some ⟨g6, 0, none⟩)), pl 9 (.pointer (some ⟨g8, 0, none⟩)), pl 10 (.int .i64 i1), pl 17 (.slice A1 g3.length c1), pl 18 (.int .i64 (g3.length : Int)), pl 19 (.int .i64 z1), pl 50 (.func (.func 149) #[] #[.pointer (some ⟨g9, 0, none⟩), .pointer (some ⟨g10, 0, none⟩)])] a := hF
                  have hS : Sep w0 B w (own 4 (.slice A2 (Int.toNat (g3.length : Int)) c2) (vB seen5) :: blk g8 22 #[.slice A8 group3.length c8] :: own 3 (.slice A8 group3.length c8) (vI group3) :: defsH (D1 :: Ds7) :: blk g4 24 #[.int .i64 g1, .int .i64 g2, .slice A1 g3.length c1] :: blk g5 3 #[.int .i64 who1] :: rows 22 3 (.slice A3 l1.length c3) hd1 l1 :: blk g6 114 #[.slice A2 (Int.toNat (g3.length : Int)) c2] :: blk g9 3 #[.int .i64 r1.1] :: blk g10 3 #[.int .i64 r1.2] :: fs) := hS
                  refine block_n ?_
                  refine block_n ?_
                  refine then_n ?_
                  have hS := hS.pickN 10 [4, 5, 6, 7, 0, 1, 2, 3] (by decide)
                  exact ⟨seen5, group3, A8, c8, (D1 :: Ds7), hF.weak [2, 3, 5, 6, 9, 10, 17, 18, 19] (by kernel_rfl), hS, hm⟩
                · intro x c D1 qs a w _ h
                  exact h.elim
            · refine reg [⟨false, [], vS (Instr.loadAt 22 (.pointer (some ⟨g8, 0, none⟩))), .slice A6 group1.length c6⟩] [none, some (.slice A6 group1.length c6), none, none] [2, 3, 5, 6, 9, 10, 17, 18, 19, 41] [pl 2 (.pointer (some ⟨g4, 0, none⟩)), pl 3 (.pointer (some ⟨g5, 0, none⟩)), pl 5 (.slice A3 l1.length c3), pl 6 (.pointer (some ⟨g6, 0, none⟩)), pl 9 (.pointer (some ⟨g8, 0, none⟩)), pl 10 (.int .i64 i1), pl 17 (.slice A1 g3.length c1), pl 18 (.int .i64 (g3.length : Int)), pl 19 (.int .i64 z1), pl 41 (.bool (decide (i1 < (group1.length : Int))))] hF hS Fol (by kernel_rfl) (by kernel_rfl) (by kernel_rfl) ?_ (fun a w hF hS => ?_)
              · exact obs_cons (ob_load Agg22 (fun _ _ hS => (hS.at_ 5 rfl).cell rfl)) <| obs_nil
              refine cond_ev (t := 41) (b := decide (i1 < (group1.length : Int))) hF (by kernel_rfl) (fun hb => ?_) (fun hb => ?_)
              · replace hm := if_t hm hb
                refine wpIn_skip ?_
                refine then_n ?_
                exact ⟨Ds6, hF.weak [2, 3, 5, 6, 9, 10, 17, 18, 19] (by kernel_rfl), hS, hm⟩
              · replace hm := if_f hm hb
                refine wpIn_exit ?_
                refine then_e (then_e (block_e (then_n ?_)))
                rw [← hφ2] at hm
                replace hm := done_b hm
                unfold hex_groups_K2 at hm
                try dsimp only at hm
                have hm : ((hex_groups_J5 l1 z1) seen3 group1).bind φ1 = some r := hm
                exact ⟨seen3, group1, A6, c6, Ds6, hF.weak [2, 3, 5, 6, 9, 17, 18, 19] (by kernel_rfl), hS, hm⟩
        · obtain ⟨hp3, hm⟩ := asrt_b hm
          refine reg [⟨false, [], vS (Instr.loadAt 3 (.pointer (some ⟨g5, 0, none⟩))), .int .i64 who1⟩, ⟨false, [(((geti g3 z1) != who1), false)], vS (Instr.loadAt 114 (.pointer (some ⟨g6, 0, none⟩))), .slice A2 (Int.toNat (g3.length : Int)) c2⟩, ⟨true, [(((geti g3 z1) != who1), false)], vS (Instr.indexAt 114 (.slice A2 (Int.toNat (g3.length : Int)) c2) (.int .i64 z1)), .pointer (some (sAddr A2 z1))⟩, ⟨false, [(((geti g3 z1) != who1), false)], vS (Instr.loadAt 4 (.pointer (some (sAddr A2 z1)))), .bool (getb seen1 z1)⟩] [none, some (.int .i64 who1), none, none, some (.slice A2 (Int.toNat (g3.length : Int)) c2), none, some (.pointer (some (sAddr A2 z1))), some (.bool (getb seen1 z1)), none] [2, 3, 5, 6, 7, 17, 18, 19, 32] [pl 2 (.pointer (some ⟨g4, 0, none⟩)), pl 3 (.pointer (some ⟨g5, 0, none⟩)), pl 5 (.slice A3 l1.length c3), pl 6 (.pointer (some ⟨g6, 0, none⟩)), pl 7 (.int .i64 z1), pl 17 (.slice A1 g3.length c1), pl 18 (.int .i64 (g3.length : Int)), pl 19 (.int .i64 z1), pl 32 (.bool (((geti g3 z1) != who1) || (getb seen1 z1)))] hF hS Fol (by kernel_rfl) (by kernel_rfl) (by kernel_rfl) ?_ (fun a w hF hS => ?_)
          · exact obs_cons (ob_load Agg3 (fun _ _ hS => (hS.at_ 1 rfl).cell rfl)) <| obs_cons (ob_load Agg114 (fun _ _ hS => (hS.at_ 3 rfl).cell rfl)) <| obs_cons (ob_ix1 (f := Value.bool) (m := seen1) Und114 hi4 hs4 (hS.at_ 4 rfl).rd ((hS.at_ 4 rfl).len1) (fun hy => hp3 (hy (((geti g3 z1) != who1), false) (by simp)))) <| obs_cons (ob_get1 (n := (Int.toNat (g3.length : Int))) (m := seen1) Value.bool false Agg4 (fun _ hS => ⟨_, (hS.at_ 4 rfl).rd⟩) (fun _ hS => ((hS.at_ 4 rfl).len1)) (fun hy => hp3 (hy (((geti g3 z1) != who1), false) (by simp)))) <| obs_nil
          refine cond_ev (t := 32) (b := ((geti g3 z1) != who1) || (getb seen1 z1)) hF (by kernel_rfl) (fun hb => ?_) (fun hb => ?_)
          · replace hm := if_t hm hb
            refine wpIn_exit ?_
            refine then_e (block_e (then_n ?_))
            exact ⟨l1, seen1, A3, c3, hd1, Ds2, hF.weak [2, 3, 5, 6, 17, 18, 19] (by kernel_rfl), hS, hm⟩
          · replace hm := if_f hm hb
            refine wpIn_skip ?_
            refine then_n ?_
            exact ⟨Ds2, hF.weak [2, 3, 5, 6, 7, 17, 18, 19] (by kernel_rfl), hS, hm⟩
    · refine cond_ev (t := 20) (b := decide (z1 < (g3.length : Int))) hF (by kernel_rfl) (fun hb => ?_) (fun hb => ?_)
      · replace hm := if_t hm hb
        refine wpIn_skip ?_
        refine then_n ?_
        exact ⟨Ds1, hF.weak [2, 3, 5, 6, 17, 18, 19] (by kernel_rfl), hS, hm⟩
      · replace hm := if_f hm hb
        refine wpIn_exit ?_
        refine then_e (then_e (block_e (then_n ?_)))
        have hS := hS.pickN 6 [2, 5] (by decide)
        rw [← hφ1] at hm
        replace hm := done_b hm
        unfold hex_groups_K1 at hm
        try dsimp only at hm
        have hm : (hex_groups_J1 l1).bind some = some r := hm
        exact ⟨l1, A3, c3, hd1, Ds1, hF.weak [5] (by kernel_rfl), hS, hm⟩

noncomputable def hex_along_J1  (n1 : Int) (at1 : Int) : Option Int :=
  asrt (n1 ≠ (0 : Int)) <| some (Int.tmod at1 n1)

noncomputable def hex_along_m  (n1 : Int) (who1 : Int) (at1 : Int) : Option Int :=
  if (who1 == 1) then (asrt (n1 ≠ (0 : Int)) <| some (w64 (Int.tdiv at1 n1))) else ((hex_along_J1 n1 at1))

set_option maxRecDepth 100000 in
set_option maxHeartbeats 4000000 in
theorem hex_along_w {n1 : Int} {who1 : Int} {at1 : Int} {r : Int} {w0 w : World} {B : Nat} {fs : List HP} (hm : hex_along_m n1 who1 at1 = some r) (hS : Sep w0 B w (fs)) :
    Calls Try.prog 98 #[.int .i64 n1, .int .i64 who1, .int .i64 at1] w fun e w' => e = .returned (.int .i64 r) ∧ Sep w0 B w' (fs) := by
  unfold hex_along_m at hm
  replace hm := start_b hm
  refine enter (l := [.int .i64 n1, .int .i64 who1, .int .i64 at1]) (n := 15) Try.func98 rfl rfl (by simp) (fun a hF => ?_)
  refine reg [] [] [0, 1, 2] [pl 0 (.int .i64 n1), pl 1 (.int .i64 who1), pl 2 (.int .i64 at1)] hF hS Fol (by kernel_rfl) (by kernel_rfl) (by kernel_rfl) ?_ (fun a w hF hS => ?_)
  · exact obs_nil
  refine seq_cut (fun a w => Fr 15 [pl 0 (.int .i64 n1), pl 2 (.int .i64 at1)] a ∧ Sep w0 B w (fs) ∧ ((hex_along_J1 n1 at1)).bind some = some r) ?_ ?_
  · rintro a w ⟨hF, hS, hm⟩
    unfold hex_along_J1 at hm
    obtain ⟨hp2, hm⟩ := asrt_b hm
    refine reg [⟨true, [], vS (Op.intDiv .rem .i64 at1 n1), .int .i64 (Int.tmod at1 n1)⟩] [none, none, some (.int .i64 (Int.tmod at1 n1)), none] [6] [pl 6 (.int .i64 (Int.tmod at1 n1))] hF hS Fol (by kernel_rfl) (by kernel_rfl) (by kernel_rfl) ?_ (fun a w hF hS => ?_)
    · exact obs_cons (ob_rem rfl (fun _ => hp2)) <| obs_nil
    refine wpIn_ret ?_
    have hm : some (Int.tmod at1 n1) = some r := hm
    obtain rfl := Option.some.inj hm
    exact retV (rs := [.tmp 6]) (vs := [.int .i64 (Int.tmod at1 n1)]) hF rfl (rv_t (by kernel_rfl) <| rv_nil) rfl ⟨rfl, hS⟩
  · refine reg [] [] [0, 2, 8] [pl 0 (.int .i64 n1), pl 2 (.int .i64 at1), pl 8 (.bool (who1 == 1))] hF hS Fol (by kernel_rfl) (by kernel_rfl) (by kernel_rfl) ?_ (fun a w hF hS => ?_)
    · exact obs_nil
    refine cond_ev (t := 8) (b := (who1 == 1)) hF (by kernel_rfl) (fun hb => ?_) (fun hb => ?_)
    · replace hm := if_t hm hb
      obtain ⟨hp1, hm⟩ := asrt_b hm
      refine reg [⟨true, [], vS (Op.intDiv .quo .i64 at1 n1), .int .i64 (w64 (Int.tdiv at1 n1))⟩] [none, none, some (.int .i64 (w64 (Int.tdiv at1 n1))), none] [6] [pl 6 (.int .i64 (w64 (Int.tdiv at1 n1)))] hF hS Fol (by kernel_rfl) (by kernel_rfl) (by kernel_rfl) ?_ (fun a w hF hS => ?_)
      · exact obs_cons (ob_quo rfl (fun _ => hp1)) <| obs_nil
      refine wpIn_ret ?_
      refine then_r ?_
      have hm : some (w64 (Int.tdiv at1 n1)) = some r := hm
      obtain rfl := Option.some.inj hm
      exact retV (rs := [.tmp 6]) (vs := [.int .i64 (w64 (Int.tdiv at1 n1))]) hF rfl (rv_t (by kernel_rfl) <| rv_nil) rfl ⟨rfl, hS⟩
    · replace hm := if_f hm hb
      refine wpIn_skip ?_
      refine then_n ?_
      exact ⟨hF.weak [0, 2] (by kernel_rfl), hS, hm⟩

noncomputable def hex_joined_1_1_m  (at1 : Int) (p1_W1 : Int) (p1_H1 : Int) (p1_Cells1 : List Int) (p21 : Int) (p31 : Int) : Option Bool :=
  (hex_along_m p1_W1 p21 at1).bind fun r1 => some (r1 == p31)

set_option maxRecDepth 100000 in
set_option maxHeartbeats 4000000 in
theorem hex_joined_1_1_w {at1 : Int} {g1 : Nat} {p1_W1 : Int} {p1_H1 : Int} {A1 : Option Addr} {c1 : Nat} {n1 : Nat} {p1_Cells1 : List Int} {g2 : Nat} {p21 : Int} {g3 : Nat} {p31 : Int} {r : Bool} {w0 w : World} {B : Nat} {fs : List HP} (hm : hex_joined_1_1_m at1 p1_W1 p1_H1 p1_Cells1 p21 p31 = some r) (hS : Sep w0 B w (blk g1 24 #[.int .i64 p1_W1, .int .i64 p1_H1, .slice A1 n1 c1] :: blk g2 3 #[.int .i64 p21] :: blk g3 3 #[.int .i64 p31] :: fs)) (hr_p1_Cells1 : RdF w0 B fs A1 (vI p1_Cells1)) (_hc_p1_Cells1 : p1_Cells1.length ≤ c1) (_hn_p1_Cells1 : n1 = p1_Cells1.length) :
    Calls Try.prog 146 #[.int .i64 at1, .pointer (some ⟨g1, 0, none⟩), .pointer (some ⟨g2, 0, none⟩), .pointer (some ⟨g3, 0, none⟩)] w fun e w' => e = .returned (.bool r) ∧ Sep w0 B w' (blk g1 24 #[.int .i64 p1_W1, .int .i64 p1_H1, .slice A1 n1 c1] :: blk g2 3 #[.int .i64 p21] :: blk g3 3 #[.int .i64 p31] :: fs) := by
  obtain ⟨i3, hi3, hz3, hs3, hb3⟩ := info_parts Info3
  obtain rfl := _hn_p1_Cells1
  unfold hex_joined_1_1_m at hm
  replace hm := start_b hm
  refine enter (l := [.int .i64 at1, .pointer (some ⟨g1, 0, none⟩), .pointer (some ⟨g2, 0, none⟩), .pointer (some ⟨g3, 0, none⟩)]) (n := 13) Try.func146 rfl rfl (by simp) (fun a hF => ?_)
  refine reg [] [] [0, 1, 2, 3] [pl 0 (.int .i64 at1), pl 1 (.pointer (some ⟨g1, 0, none⟩)), pl 2 (.pointer (some ⟨g2, 0, none⟩)), pl 3 (.pointer (some ⟨g3, 0, none⟩))] hF hS Fol (by kernel_rfl) (by kernel_rfl) (by kernel_rfl) ?_ (fun a w hF hS => ?_)
  · exact obs_nil
  obtain ⟨r1, hr1, hm⟩ := call_b hm
  refine reg [⟨false, [], vS (Instr.loadAt 3 (.pointer (some ⟨g1, 0, none⟩))), .int .i64 p1_W1⟩, ⟨false, [], vS (Instr.loadAt 3 (.pointer (some ⟨g2, 0, none⟩))), .int .i64 p21⟩, ⟨false, [], callFunc 98 #[.int .i64 p1_W1, .int .i64 p21, .int .i64 at1], .int .i64 r1⟩, ⟨false, [], vS (Instr.loadAt 3 (.pointer (some ⟨g3, 0, none⟩))), .int .i64 p31⟩] [none, some (.int .i64 p1_W1), some (.int .i64 p21), none, some (.int .i64 r1), some (.int .i64 p31), none, none] [5] [pl 5 (.bool (r1 == p31))] hF hS Fol (by kernel_rfl) (by kernel_rfl) (by kernel_rfl) ?_ (fun a w hF hS => ?_)
  · exact obs_cons (ob_load Agg3 (fun _ _ hS => (hS.at_ 0 rfl).cell rfl)) <| obs_cons (ob_load Agg3 (fun _ _ hS => (hS.at_ 1 rfl).cell rfl)) <| obs_cons (ob_call Try.func98 (by kernel_rfl) rfl (fun _ _ hS => hex_along_w hr1 hS )) <| obs_cons (ob_load Agg3 (fun _ _ hS => (hS.at_ 2 rfl).cell rfl)) <| obs_nil
  refine wpIn_ret ?_
  have hm : some (r1 == p31) = some r := hm
  obtain rfl := Option.some.inj hm
  exact retV (rs := [.tmp 5]) (vs := [.bool (r1 == p31)]) hF rfl (rv_t (by kernel_rfl) <| rv_nil) rfl ⟨rfl, hS⟩

noncomputable def slices_IndexFunc_2_J3  (z1 : Int) : Option (St Int (Fl Unit Int)) :=
  some (.next (w64 (z1 + 1)))

noncomputable def slices_IndexFunc_2_J2  (s1 : List Int) (v_W1 : Int) (v_H1 : Int) (v_Cells1 : List Int) (v1 : Int) (v2 : Int) (z1 : Int) : Option (St Int (Fl Unit Int)) :=
  asrt (0 ≤ z1 ∧ z1 < (s1.length : Int)) <| (hex_joined_1_1_m (geti s1 z1) v_W1 v_H1 v_Cells1 v1 v2).bind fun r1 => if r1 then (some (.done (.ret z1))) else ((slices_IndexFunc_2_J3 z1))

noncomputable def slices_IndexFunc_2_J1  : Option Int :=
  some (-1)

noncomputable def slices_IndexFunc_2_K1  : (Fl Unit Int) → Option Int :=
  fun (x : (Fl Unit Int)) => match x with | .go _ => slices_IndexFunc_2_J1 | .ret x => some x

noncomputable def slices_IndexFunc_2_L1  (s1 : List Int) (v_W1 : Int) (v_H1 : Int) (v_Cells1 : List Int) (v1 : Int) (v2 : Int) : Int → Option (St Int (Fl Unit Int)) :=
  fun (x : Int) => match x with | z1 => if (decide (z1 < (s1.length : Int))) then ((slices_IndexFunc_2_J2 s1 v_W1 v_H1 v_Cells1 v1 v2 z1)) else (some (.done (.go ())))

noncomputable def slices_IndexFunc_2_m  (s1 : List Int) (v_W1 : Int) (v_H1 : Int) (v_Cells1 : List Int) (v1 : Int) (v2 : Int) : Option Int :=
  (loop (slices_IndexFunc_2_L1 s1 v_W1 v_H1 v_Cells1 v1 v2) 0).bind slices_IndexFunc_2_K1

set_option maxRecDepth 100000 in
set_option maxHeartbeats 4000000 in
theorem slices_IndexFunc_2_w {A1 : Option Addr} {c1 : Nat} {n1 : Nat} {s1 : List Int} {g1 : Nat} {v_W1 : Int} {v_H1 : Int} {A2 : Option Addr} {c2 : Nat} {n2 : Nat} {v_Cells1 : List Int} {g2 : Nat} {v1 : Int} {g3 : Nat} {v2 : Int} {r : Int} {w0 w : World} {B : Nat} {fs : List HP} (hm : slices_IndexFunc_2_m s1 v_W1 v_H1 v_Cells1 v1 v2 = some r) (hS : Sep w0 B w (blk g1 24 #[.int .i64 v_W1, .int .i64 v_H1, .slice A2 n2 c2] :: blk g2 3 #[.int .i64 v1] :: blk g3 3 #[.int .i64 v2] :: fs)) (hr_s1 : RdF w0 B fs A1 (vI s1)) (_hc_s1 : s1.length ≤ c1) (_hn_s1 : n1 = s1.length) (hr_v_Cells1 : RdF w0 B fs A2 (vI v_Cells1)) (_hc_v_Cells1 : v_Cells1.length ≤ c2) (_hn_v_Cells1 : n2 = v_Cells1.length) :
    Calls Try.prog 179 #[.slice A1 n1 c1, .func (.func 146) #[] #[.pointer (some ⟨g1, 0, none⟩), .pointer (some ⟨g2, 0, none⟩), .pointer (some ⟨g3, 0, none⟩)]] w fun e w' => e = .returned (.int .i64 r) ∧ Sep w0 B w' (blk g1 24 #[.int .i64 v_W1, .int .i64 v_H1, .slice A2 n2 c2] :: blk g2 3 #[.int .i64 v1] :: blk g3 3 #[.int .i64 v2] :: fs) := by
  obtain ⟨i3, hi3, hz3, hs3, hb3⟩ := info_parts Info3
  obtain rfl := _hn_s1
  obtain rfl := _hn_v_Cells1
  unfold slices_IndexFunc_2_m at hm
  replace hm := start_b hm
  refine enter (l := [.slice A1 s1.length c1, .func (.func 146) #[] #[.pointer (some ⟨g1, 0, none⟩), .pointer (some ⟨g2, 0, none⟩), .pointer (some ⟨g3, 0, none⟩)]]) (n := 19) Try.func179 rfl rfl (by simp) (fun a hF => ?_)
  refine reg [] [] [0, 1] [pl 0 (.slice A1 s1.length c1), pl 1 (.func (.func 146) #[] #[.pointer (some ⟨g1, 0, none⟩), .pointer (some ⟨g2, 0, none⟩), .pointer (some ⟨g3, 0, none⟩)])] hF hS Fol (by kernel_rfl) (by kernel_rfl) (by kernel_rfl) ?_ (fun a w hF hS => ?_)
  · exact obs_nil
  refine seq_cut (fun a w => Fr 19 [] a ∧ Sep w0 B w (blk g1 24 #[.int .i64 v_W1, .int .i64 v_H1, .slice A2 v_Cells1.length c2] :: blk g2 3 #[.int .i64 v1] :: blk g3 3 #[.int .i64 v2] :: fs) ∧ (slices_IndexFunc_2_J1).bind some = some r) ?_ ?_
  · rintro a w ⟨hF, hS, hm⟩
    unfold slices_IndexFunc_2_J1 at hm
    refine reg [] [] [4] [pl 4 (.int .i64 (-1))] hF hS Fol (by kernel_rfl) (by kernel_rfl) (by kernel_rfl) ?_ (fun a w hF hS => ?_)
    · exact obs_nil
    refine wpIn_ret ?_
    have hm : some (-1) = some r := hm
    obtain rfl := Option.some.inj hm
    exact retV (rs := [.tmp 4]) (vs := [.int .i64 (-1)]) hF rfl (rv_t (by kernel_rfl) <| rv_nil) rfl ⟨rfl, hS⟩
  · refine reg [] [] [0, 1, 7, 8] [pl 0 (.slice A1 s1.length c1), pl 1 (.func (.func 146) #[] #[.pointer (some ⟨g1, 0, none⟩), .pointer (some ⟨g2, 0, none⟩), .pointer (some ⟨g3, 0, none⟩)]), pl 7 (.int .i64 (s1.length : Int)), pl 8 (.int .i64 0)] hF hS Fol (by kernel_rfl) (by kernel_rfl) (by kernel_rfl) ?_ (fun a w hF hS => ?_)
    · exact obs_nil
    refine wpIn_block ?_
    refine wp_loop_model (S := Int) (R := (Fl Unit Int)) (slices_IndexFunc_2_L1 s1 v_W1 v_H1 v_Cells1 v1 v2) (fun x => (slices_IndexFunc_2_K1 x).bind some) r (fun (x : Int) a w => Fr 19 [pl 0 (.slice A1 s1.length c1), pl 1 (.func (.func 146) #[] #[.pointer (some ⟨g1, 0, none⟩), .pointer (some ⟨g2, 0, none⟩), .pointer (some ⟨g3, 0, none⟩)]), pl 7 (.int .i64 (s1.length : Int)), pl 8 (.int .i64 x)] a ∧ Sep w0 B w (blk g1 24 #[.int .i64 v_W1, .int .i64 v_H1, .slice A2 v_Cells1.length c2] :: blk g2 3 #[.int .i64 v1] :: blk g3 3 #[.int .i64 v2] :: fs)) (assoc_b hm) ⟨hF.weak [0, 1, 7, 8] (by kernel_rfl), hS⟩ ?_
    clear hF hS hm
    rintro nn1 z1 a w ⟨hF, hS⟩ hm
    generalize hφ1 : stK (slices_IndexFunc_2_L1 s1 v_W1 v_H1 v_Cells1 v1 v2) nn1 (fun x => (slices_IndexFunc_2_K1 x).bind some) = φ1 at hm
    unfold slices_IndexFunc_2_L1 at hm
    dsimp only at hm
    refine reg [] [] [0, 1, 7, 8, 9] [pl 0 (.slice A1 s1.length c1), pl 1 (.func (.func 146) #[] #[.pointer (some ⟨g1, 0, none⟩), .pointer (some ⟨g2, 0, none⟩), .pointer (some ⟨g3, 0, none⟩)]), pl 7 (.int .i64 (s1.length : Int)), pl 8 (.int .i64 z1), pl 9 (.bool (decide (z1 < (s1.length : Int))))] hF hS Fol (by kernel_rfl) (by kernel_rfl) (by kernel_rfl) ?_ (fun a w hF hS => ?_)
    · exact obs_nil
    refine seq_cut (fun a w => Fr 19 [pl 0 (.slice A1 s1.length c1), pl 1 (.func (.func 146) #[] #[.pointer (some ⟨g1, 0, none⟩), .pointer (some ⟨g2, 0, none⟩), .pointer (some ⟨g3, 0, none⟩)]), pl 7 (.int .i64 (s1.length : Int)), pl 8 (.int .i64 z1)] a ∧ Sep w0 B w (blk g1 24 #[.int .i64 v_W1, .int .i64 v_H1, .slice A2 v_Cells1.length c2] :: blk g2 3 #[.int .i64 v1] :: blk g3 3 #[.int .i64 v2] :: fs) ∧ ((slices_IndexFunc_2_J2 s1 v_W1 v_H1 v_Cells1 v1 v2 z1)).bind φ1 = some r) ?_ ?_
    · rintro a w ⟨hF, hS, hm⟩
      unfold slices_IndexFunc_2_J2 at hm
      refine seq_cut (fun a w => Fr 19 [pl 0 (.slice A1 s1.length c1), pl 1 (.func (.func 146) #[] #[.pointer (some ⟨g1, 0, none⟩), .pointer (some ⟨g2, 0, none⟩), .pointer (some ⟨g3, 0, none⟩)]), pl 7 (.int .i64 (s1.length : Int)), pl 8 (.int .i64 z1)] a ∧ Sep w0 B w (blk g1 24 #[.int .i64 v_W1, .int .i64 v_H1, .slice A2 v_Cells1.length c2] :: blk g2 3 #[.int .i64 v1] :: blk g3 3 #[.int .i64 v2] :: fs) ∧ ((slices_IndexFunc_2_J3 z1)).bind φ1 = some r) ?_ ?_
      · rintro a w ⟨hF, hS, hm⟩
        unfold slices_IndexFunc_2_J3 at hm
        refine reg1 [] [] [0, 1, 7, 8] [pl 0 (.slice A1 s1.length c1), pl 1 (.func (.func 146) #[] #[.pointer (some ⟨g1, 0, none⟩), .pointer (some ⟨g2, 0, none⟩), .pointer (some ⟨g3, 0, none⟩)]), pl 7 (.int .i64 (s1.length : Int)), pl 8 (.int .i64 (w64 (z1 + 1)))] hF hS Fol (by kernel_rfl) (by kernel_rfl) (by kernel_rfl) ?_ (fun a w hF hS => ?_)
        · exact obs_nil
        refine then_n ?_
        rw [← hφ1] at hm
        exact ⟨(w64 (z1 + 1)), ⟨hF.weak [0, 1, 7, 8] (by kernel_rfl), hS⟩, hm⟩
      · refine wpIn_block ?_
        refine reg [] [] [0, 1, 5, 7, 8] [pl 0 (.slice A1 s1.length c1), pl 1 (.func (.func 146) #[] #[.pointer (some ⟨g1, 0, none⟩), .pointer (some ⟨g2, 0, none⟩), .pointer (some ⟨g3, 0, none⟩)]), pl 5 (.int .i64 z1), pl 7 (.int .i64 (s1.length : Int)), pl 8 (.int .i64 z1)] hF hS Fol (by kernel_rfl) (by kernel_rfl) (by kernel_rfl) ?_ (fun a w hF hS => ?_)
        · exact obs_nil
        obtain ⟨hp1, hm⟩ := asrt_b hm
        obtain ⟨r1, hr1, hm⟩ := call_b hm
        refine reg [⟨true, [], vS (Instr.indexAt 22 (.slice A1 s1.length c1) (.int .i64 z1)), .pointer (some (sAddr A1 z1))⟩, ⟨false, [], vS (Instr.loadAt 3 (.pointer (some (sAddr A1 z1)))), .int .i64 (geti s1 z1)⟩, ⟨false, [], callFunc 146 #[.int .i64 (geti s1 z1), .pointer (some ⟨g1, 0, none⟩), .pointer (some ⟨g2, 0, none⟩), .pointer (some ⟨g3, 0, none⟩)], .bool r1⟩] [none, none, none, some (.pointer (some (sAddr A1 z1))), some (.int .i64 (geti s1 z1)), some (.bool r1)] [0, 1, 5, 7, 8, 16] [pl 0 (.slice A1 s1.length c1), pl 1 (.func (.func 146) #[] #[.pointer (some ⟨g1, 0, none⟩), .pointer (some ⟨g2, 0, none⟩), .pointer (some ⟨g3, 0, none⟩)]), pl 5 (.int .i64 z1), pl 7 (.int .i64 (s1.length : Int)), pl 8 (.int .i64 z1), pl 16 (.bool r1)] hF hS Fol (by kernel_rfl) (by kernel_rfl) (by kernel_rfl) ?_ (fun a w hF hS => ?_)
        · exact obs_cons (ob_ix1 (f := (Value.int .i64)) (m := s1) Und22 hi3 hs3 (hr_s1 _ (hS.dropN 3)) rfl (fun _ => hp1)) <| obs_cons (ob_get1 (n := s1.length) (m := s1) (Value.int .i64) (0 : Int) Agg3 (fun _ hS => ⟨_, (hr_s1 _ (hS.dropN 3))⟩) (fun _ hS => rfl) (fun _ => hp1)) <| obs_cons (ob_call Try.func146 (by kernel_rfl) rfl (fun _ _ hS => hex_joined_1_1_w hr1 hS (fun _ hS => (hr_v_Cells1 _ (hS.dropN 0))) _hc_v_Cells1 rfl)) <| obs_nil
        refine cond_ev (t := 16) (b := r1) hF (by kernel_rfl) (fun hb => ?_) (fun hb => ?_)
        · replace hm := if_t hm hb
          refine reg [] [] [4] [pl 4 (.int .i64 z1)] hF hS Fol (by kernel_rfl) (by kernel_rfl) (by kernel_rfl) ?_ (fun a w hF hS => ?_)
          · exact obs_nil
          refine wpIn_ret ?_
          refine block_r (then_r (then_r (block_r (then_r ?_))))
          rw [← hφ1] at hm
          replace hm := done_b hm
          unfold slices_IndexFunc_2_K1 at hm
          try dsimp only at hm
          have hm : some z1 = some r := hm
          obtain rfl := Option.some.inj hm
          exact retV (rs := [.tmp 4]) (vs := [.int .i64 z1]) hF rfl (rv_t (by kernel_rfl) <| rv_nil) rfl ⟨rfl, hS⟩
        · replace hm := if_f hm hb
          refine wpIn_skip ?_
          refine block_n ?_
          refine then_n ?_
          exact ⟨hF.weak [0, 1, 7, 8] (by kernel_rfl), hS, hm⟩
    · refine cond_ev (t := 9) (b := decide (z1 < (s1.length : Int))) hF (by kernel_rfl) (fun hb => ?_) (fun hb => ?_)
      · replace hm := if_t hm hb
        refine wpIn_skip ?_
        refine then_n ?_
        exact ⟨hF.weak [0, 1, 7, 8] (by kernel_rfl), hS, hm⟩
      · replace hm := if_f hm hb
        refine wpIn_exit ?_
        refine then_e (then_e (block_e (then_n ?_)))
        rw [← hφ1] at hm
        replace hm := done_b hm
        unfold slices_IndexFunc_2_K1 at hm
        try dsimp only at hm
        have hm : (slices_IndexFunc_2_J1).bind some = some r := hm
        exact ⟨hF.weak [] (by kernel_rfl), hS, hm⟩

noncomputable def slices_ContainsFunc_2_m  (s1 : List Int) (v_W1 : Int) (v_H1 : Int) (v_Cells1 : List Int) (v1 : Int) (v2 : Int) : Option Bool :=
  (slices_IndexFunc_2_m s1 v_W1 v_H1 v_Cells1 v1 v2).bind fun r1 => some (decide ((0 : Int) ≤ r1))

set_option maxRecDepth 100000 in
set_option maxHeartbeats 4000000 in
theorem slices_ContainsFunc_2_w {A1 : Option Addr} {c1 : Nat} {n1 : Nat} {s1 : List Int} {g1 : Nat} {v_W1 : Int} {v_H1 : Int} {A2 : Option Addr} {c2 : Nat} {n2 : Nat} {v_Cells1 : List Int} {g2 : Nat} {v1 : Int} {g3 : Nat} {v2 : Int} {r : Bool} {w0 w : World} {B : Nat} {fs : List HP} (hm : slices_ContainsFunc_2_m s1 v_W1 v_H1 v_Cells1 v1 v2 = some r) (hS : Sep w0 B w (blk g1 24 #[.int .i64 v_W1, .int .i64 v_H1, .slice A2 n2 c2] :: blk g2 3 #[.int .i64 v1] :: blk g3 3 #[.int .i64 v2] :: fs)) (hr_s1 : RdF w0 B fs A1 (vI s1)) (_hc_s1 : s1.length ≤ c1) (_hn_s1 : n1 = s1.length) (hr_v_Cells1 : RdF w0 B fs A2 (vI v_Cells1)) (_hc_v_Cells1 : v_Cells1.length ≤ c2) (_hn_v_Cells1 : n2 = v_Cells1.length) :
    Calls Try.prog 129 #[.slice A1 n1 c1, .func (.func 146) #[] #[.pointer (some ⟨g1, 0, none⟩), .pointer (some ⟨g2, 0, none⟩), .pointer (some ⟨g3, 0, none⟩)]] w fun e w' => e = .returned (.bool r) ∧ Sep w0 B w' (blk g1 24 #[.int .i64 v_W1, .int .i64 v_H1, .slice A2 n2 c2] :: blk g2 3 #[.int .i64 v1] :: blk g3 3 #[.int .i64 v2] :: fs) := by
  obtain ⟨i3, hi3, hz3, hs3, hb3⟩ := info_parts Info3
  obtain rfl := _hn_s1
  obtain rfl := _hn_v_Cells1
  unfold slices_ContainsFunc_2_m at hm
  replace hm := start_b hm
  refine enter (l := [.slice A1 s1.length c1, .func (.func 146) #[] #[.pointer (some ⟨g1, 0, none⟩), .pointer (some ⟨g2, 0, none⟩), .pointer (some ⟨g3, 0, none⟩)]]) (n := 9) Try.func129 rfl rfl (by simp) (fun a hF => ?_)
  refine reg [] [] [0, 1] [pl 0 (.slice A1 s1.length c1), pl 1 (.func (.func 146) #[] #[.pointer (some ⟨g1, 0, none⟩), .pointer (some ⟨g2, 0, none⟩), .pointer (some ⟨g3, 0, none⟩)])] hF hS Fol (by kernel_rfl) (by kernel_rfl) (by kernel_rfl) ?_ (fun a w hF hS => ?_)
  · exact obs_nil
  obtain ⟨r1, hr1, hm⟩ := call_b hm
  refine reg [⟨false, [], callFunc 179 #[.slice A1 s1.length c1, .func (.func 146) #[] #[.pointer (some ⟨g1, 0, none⟩), .pointer (some ⟨g2, 0, none⟩), .pointer (some ⟨g3, 0, none⟩)]], .int .i64 r1⟩] [none, none, some (.int .i64 r1), none, none] [4] [pl 4 (.bool (decide ((0 : Int) ≤ r1)))] hF hS Fol (by kernel_rfl) (by kernel_rfl) (by kernel_rfl) ?_ (fun a w hF hS => ?_)
  · exact obs_cons (ob_call Try.func179 (by kernel_rfl) rfl (fun _ _ hS => slices_IndexFunc_2_w hr1 hS (fun _ hS => (hr_s1 _ (hS.dropN 0))) _hc_s1 rfl (fun _ hS => (hr_v_Cells1 _ (hS.dropN 0))) _hc_v_Cells1 rfl)) <| obs_nil
  refine wpIn_ret ?_
  have hm : some (decide ((0 : Int) ≤ r1)) = some r := hm
  obtain rfl := Option.some.inj hm
  exact retV (rs := [.tmp 4]) (vs := [.bool (decide ((0 : Int) ≤ r1))]) hF rfl (rv_t (by kernel_rfl) <| rv_nil) rfl ⟨rfl, hS⟩

noncomputable def hex_joined_1_m  (k1 : Int) (p11 : List Int) (p2_W1 : Int) (p2_H1 : Int) (p2_Cells1 : List Int) (p31 : Int) : Option Bool :=
  (slices_ContainsFunc_2_m p11 p2_W1 p2_H1 p2_Cells1 p31 k1).bind fun r1 => some r1

set_option maxRecDepth 100000 in
set_option maxHeartbeats 4000000 in
theorem hex_joined_1_w {k1 : Int} {g1 : Nat} {A1 : Option Addr} {c1 : Nat} {n1 : Nat} {p11 : List Int} {g2 : Nat} {p2_W1 : Int} {p2_H1 : Int} {A2 : Option Addr} {c2 : Nat} {n2 : Nat} {p2_Cells1 : List Int} {g3 : Nat} {p31 : Int} {r : Bool} {w0 w : World} {B : Nat} {fs : List HP} (hm : hex_joined_1_m k1 p11 p2_W1 p2_H1 p2_Cells1 p31 = some r) (hS : Sep w0 B w (blk g1 22 #[.slice A1 n1 c1] :: blk g2 24 #[.int .i64 p2_W1, .int .i64 p2_H1, .slice A2 n2 c2] :: blk g3 3 #[.int .i64 p31] :: fs)) (hr_p11 : RdF w0 B fs A1 (vI p11)) (_hc_p11 : p11.length ≤ c1) (_hn_p11 : n1 = p11.length) (hr_p2_Cells1 : RdF w0 B fs A2 (vI p2_Cells1)) (_hc_p2_Cells1 : p2_Cells1.length ≤ c2) (_hn_p2_Cells1 : n2 = p2_Cells1.length) :
    Calls Try.prog 145 #[.int .i64 k1, .pointer (some ⟨g1, 0, none⟩), .pointer (some ⟨g2, 0, none⟩), .pointer (some ⟨g3, 0, none⟩)] w fun e w' => e = .returned (.bool r) ∧ Sep w0 B w' (blk g1 22 #[.slice A1 n1 c1] :: blk g2 24 #[.int .i64 p2_W1, .int .i64 p2_H1, .slice A2 n2 c2] :: blk g3 3 #[.int .i64 p31] :: fs) := by
  obtain ⟨i3, hi3, hz3, hs3, hb3⟩ := info_parts Info3
  obtain rfl := _hn_p11
  obtain rfl := _hn_p2_Cells1
  unfold hex_joined_1_m at hm
  replace hm := start_b hm
  refine enter (l := [.int .i64 k1, .pointer (some ⟨g1, 0, none⟩), .pointer (some ⟨g2, 0, none⟩), .pointer (some ⟨g3, 0, none⟩)]) (n := 9) Try.func145 rfl rfl (by simp) (fun a hF => ?_)
  refine seqR ?_
  refine at_do (d := 4) (s := vS (Instr.box 3 (.int .i64 k1))) (v := .pointer (some ⟨w.heap.size, 0, none⟩)) (w' := w.alloc (.cells #[.int .i64 k1] 3)) hF (by kernel_rfl) (by kernel_rfl) (by kernel_rfl) (fun a hF => ?_)
  have hS : Sep w0 B (w.alloc (.cells #[.int .i64 k1] 3)) (blk w.heap.size 3 #[.int .i64 k1] :: (blk g1 22 #[.slice A1 p11.length c1] :: blk g2 24 #[.int .i64 p2_W1, .int .i64 p2_H1, .slice A2 p2_Cells1.length c2] :: blk g3 3 #[.int .i64 p31] :: fs)) := hS.box 3 #[.int .i64 k1]
  generalize w.heap.size = g4 at hF hS
  generalize w.alloc (.cells #[.int .i64 k1] 3) = w at hS ⊢
  refine at_run 1 [] [] [1, 2, 3, 4] [pl 1 (.pointer (some ⟨g1, 0, none⟩)), pl 2 (.pointer (some ⟨g2, 0, none⟩)), pl 3 (.pointer (some ⟨g3, 0, none⟩)), pl 4 (.pointer (some ⟨g4, 0, none⟩))] hF hS (by kernel_rfl) (by kernel_rfl) ?_ (fun a w hF hS => ?_)
  · exact obs_nil
  refine at_end [1, 2, 3, 4] [pl 1 (.pointer (some ⟨g1, 0, none⟩)), pl 2 (.pointer (some ⟨g2, 0, none⟩)), pl 3 (.pointer (some ⟨g3, 0, none⟩)), pl 4 (.pointer (some ⟨g4, 0, none⟩))] hF rfl (by kernel_rfl) (fun hF => ?_)
  refine then_n ?_
  obtain ⟨r1, hr1, hm⟩ := call_b hm
  refine reg [⟨false, [], vS (Instr.loadAt 22 (.pointer (some ⟨g1, 0, none⟩))), .slice A1 p11.length c1⟩, ⟨false, [], callFunc 129 #[.slice A1 p11.length c1, .func (.func 146) #[] #[.pointer (some ⟨g2, 0, none⟩), .pointer (some ⟨g3, 0, none⟩), .pointer (some ⟨g4, 0, none⟩)]], .bool r1⟩] [some (.slice A1 p11.length c1), none, some (.bool r1), none] [5] [pl 5 (.bool r1)] hF hS Fol (by kernel_rfl) (by kernel_rfl) (by kernel_rfl) ?_ (fun a w hF hS => ?_)
  · exact obs_cons (ob_load Agg22 (fun _ _ hS => (hS.at_ 1 rfl).cell rfl)) <| obs_cons (ob_call Try.func129 (by kernel_rfl) rfl (fun _ _ hS => quiet_pick hS 4 [2, 3, 0, 1] (by decide) [2, 3, 0, 1] (by decide) (qs := (blk g2 24 #[.int .i64 p2_W1, .int .i64 p2_H1, .slice A2 p2_Cells1.length c2] :: blk g3 3 #[.int .i64 p31] :: blk g4 3 #[.int .i64 k1] :: blk g1 22 #[.slice A1 p11.length c1] :: fs)) rfl (fun hS => slices_ContainsFunc_2_w hr1 hS (fun _ hS => (hr_p11 _ (hS.dropN 1))) _hc_p11 rfl (fun _ hS => (hr_p2_Cells1 _ (hS.dropN 1))) _hc_p2_Cells1 rfl) 4 rfl)) <| obs_nil
  refine wpIn_ret ?_
  have hS := hS.pickN 4 [1, 2, 3] (by decide)
  have hm : some r1 = some r := hm
  obtain rfl := Option.some.inj hm
  exact retV (rs := [.tmp 5]) (vs := [.bool r1]) hF rfl (rv_t (by kernel_rfl) <| rv_nil) rfl ⟨rfl, hS⟩

noncomputable def hex_joined_J6  (z1 : Int) (l3 : List Int) : Option (St (List Int × Int) (List Int)) :=
  some (.next (l3, (w64 (z1 + 1))))

noncomputable def hex_joined_J7  (r1 : (List (List Int))) (l1 : List Int) (z1 : Int) (z2 : Bool) : Option (St (List Int × Int) (List Int)) :=
  if z2 then (asrt ((l1.length : Int) + (((geti2 r1 z1).length : Nat) : Int) ≤ bigN) <| (hex_joined_J6 z1) (l1 ++ (geti2 r1 z1))) else ((hex_joined_J6 z1) l1)

noncomputable def hex_joined_J5  (g1 : Int) (g2 : Int) (g3 : List Int) (who1 : Int) (r1 : (List (List Int))) (l1 : List Int) (z1 : Int) : Option (St (List Int × Int) (List Int)) :=
  asrt (0 ≤ z1 ∧ z1 < (r1.length : Int)) <| (hex_joined_1_m 0 (geti2 r1 z1) g1 g2 g3 who1).bind fun r2 => ((if r2 then hex_joined_1_m (w64 (g1 - 1)) (geti2 r1 z1) g1 g2 g3 who1 else some false)).bind fun r3 => (hex_joined_J7 r1 l1 z1) (r2 && r3)

noncomputable def hex_joined_J8  (who1 : Int) : Option (St Int (Fl Unit (Int × List Int))) :=
  some (.next (w64 (who1 + 1)))

noncomputable def hex_joined_J3  (who1 : Int) : Option (St Int (Fl Unit (Int × List Int))) :=
  (hex_joined_J8 who1)

noncomputable def hex_joined_J4  (who1 : Int) (l2 : List Int) : Option (St Int (Fl Unit (Int × List Int))) :=
  if (decide ((0 : Int) < (l2.length : Int))) then ((slices_Sort_2_m l2).bind fun r4 => some (.done (.ret (who1, r4)))) else ((hex_joined_J3 who1))

noncomputable def hex_joined_K2  (who1 : Int) : (List Int) → Option (St Int (Fl Unit (Int × List Int))) :=
  fun (x : (List Int)) => match x with | l2 => (hex_joined_J4 who1) l2

noncomputable def hex_joined_L2  (g1 : Int) (g2 : Int) (g3 : List Int) (who1 : Int) (r1 : (List (List Int))) : (List Int × Int) → Option (St (List Int × Int) (List Int)) :=
  fun (x : (List Int × Int)) => match x with | (l1, z1) => if (decide (z1 < (r1.length : Int))) then ((hex_joined_J5 g1 g2 g3 who1 r1 l1 z1)) else (some (.done l1))

noncomputable def hex_joined_J2  (g1 : Int) (g2 : Int) (g3 : List Int) (who1 : Int) : Option (St Int (Fl Unit (Int × List Int))) :=
  (hex_groups_m g1 g2 g3 who1).bind fun r1 => (loop (hex_joined_L2 g1 g2 g3 who1 r1) (([] : List Int), 0)).bind (hex_joined_K2 who1)

noncomputable def hex_joined_J1  : Option (Int × List Int) :=
  some (0, ([] : List Int))

noncomputable def hex_joined_K1  : (Fl Unit (Int × List Int)) → Option (Int × List Int) :=
  fun (x : (Fl Unit (Int × List Int))) => match x with | .go _ => hex_joined_J1 | .ret x => some x

noncomputable def hex_joined_L1  (g1 : Int) (g2 : Int) (g3 : List Int) : Int → Option (St Int (Fl Unit (Int × List Int))) :=
  fun (x : Int) => match x with | who1 => if (decide (who1 ≤ 2)) then ((hex_joined_J2 g1 g2 g3 who1)) else (some (.done (.go ())))

noncomputable def hex_joined_m  (g1 : Int) (g2 : Int) (g3 : List Int) : Option (Int × List Int) :=
  (loop (hex_joined_L1 g1 g2 g3) 1).bind hex_joined_K1

set_option maxRecDepth 100000 in
set_option maxHeartbeats 4000000 in
theorem hex_joined_w {g1 : Int} {g2 : Int} {A1 : Option Addr} {c1 : Nat} {n1 : Nat} {g3 : List Int} {r : (Int × List Int)} {w0 w : World} {B : Nat} {fs : List HP} (hm : hex_joined_m g1 g2 g3 = some r) (hS : Sep w0 B w (fs)) (hr_g3 : RdF w0 B fs A1 (vI g3)) (_hc_g3 : g3.length ≤ c1) (_hn_g3 : n1 = g3.length) :
    Calls Try.prog 93 #[.agg #[.int .i64 g1, .int .i64 g2, .slice A1 n1 c1]] w fun e w' => ∃ v, e = .returned v ∧ ∃ (A7 : Option Addr) (c7 : Nat), v = .tuple #[.int .i64 r.1, .slice A7 r.2.length c7] ∧ Sep w0 B w' (own 3 (.slice A7 r.2.length c7) (vI r.2) :: fs) := by
  obtain ⟨i3, hi3, hz3, hs3, hb3⟩ := info_parts Info3
  obtain ⟨i22, hi22, hz22, hs22, hb22⟩ := info_parts Info22
  obtain rfl := _hn_g3
  unfold hex_joined_m at hm
  replace hm := start_b hm
  refine enter (l := [.agg #[.int .i64 g1, .int .i64 g2, .slice A1 g3.length c1]]) (n := 43) Try.func93 rfl rfl (by simp) (fun a hF => ?_)
  refine seqR ?_
  refine at_do (d := 1) (s := vS (Instr.box 24 (.agg #[.int .i64 g1, .int .i64 g2, .slice A1 g3.length c1]))) (v := .pointer (some ⟨w.heap.size, 0, none⟩)) (w' := w.alloc (.cells #[.int .i64 g1, .int .i64 g2, .slice A1 g3.length c1] 24)) hF (by kernel_rfl) (by kernel_rfl) (by kernel_rfl) (fun a hF => ?_)
  have hS : Sep w0 B (w.alloc (.cells #[.int .i64 g1, .int .i64 g2, .slice A1 g3.length c1] 24)) (blk w.heap.size 24 #[.int .i64 g1, .int .i64 g2, .slice A1 g3.length c1] :: (fs)) := hS.box 24 #[.int .i64 g1, .int .i64 g2, .slice A1 g3.length c1]
  generalize w.heap.size = g4 at hF hS
  generalize w.alloc (.cells #[.int .i64 g1, .int .i64 g2, .slice A1 g3.length c1] 24) = w at hS ⊢
  refine at_run 2 [] [] [1] [pl 1 (.pointer (some ⟨g4, 0, none⟩))] hF hS (by kernel_rfl) (by kernel_rfl) ?_ (fun a w hF hS => ?_)
  · exact obs_nil
  refine at_end [1] [pl 1 (.pointer (some ⟨g4, 0, none⟩))] hF rfl (by kernel_rfl) (fun hF => ?_)
  refine then_n ?_
  refine seq_cut (fun a w => Fr 43 [] a ∧ Sep w0 B w (fs) ∧ (hex_joined_J1).bind some = some r) ?_ ?_
  · rintro a w ⟨hF, hS, hm⟩
    unfold hex_joined_J1 at hm
    refine reg [] [] [2, 3] [pl 2 (.int .i64 0), pl 3 (.slice none 0 0)] hF hS Fol (by kernel_rfl) (by kernel_rfl) (by kernel_rfl) ?_ (fun a w hF hS => ?_)
    · exact obs_nil
    refine wpIn_ret ?_
    have hS : Sep w0 B w (own 3 (.slice none 0 0) (vI ([] : List Int)) :: fs) := hS.nil 3
    have hl3 := (hS.at_ 0 rfl).len1
    have hS := (hS.at_ 0 rfl).reN hl3
    have hS : Sep w0 B w (own 3 (.slice none (([] : List Int).length) 0) (vI ([] : List Int)) :: fs) := hS
    have hm : some (0, ([] : List Int)) = some r := hm
    obtain rfl := Option.some.inj hm
    exact retV (rs := [.tmp 2, .tmp 3]) (vs := [.int .i64 0, .slice none (([] : List Int).length) 0]) hF rfl (rv_t (by kernel_rfl) <| rv_t (by kernel_rfl) <| rv_nil) rfl ⟨_, rfl, none, 0, rfl, hS⟩
  · refine seqR ?_
    refine at_do (d := 4) (s := vS (Instr.alloc 3 true (.tuple #[]))) (v := .pointer (some ⟨w.heap.size, 0, none⟩)) (w' := w.alloc (.cells #[.int .i64 0] 3)) hF (by kernel_rfl) (by kernel_rfl) (by kernel_rfl) (fun a hF => ?_)
    have hS : Sep w0 B (w.alloc (.cells #[.int .i64 0] 3)) (blk w.heap.size 3 #[.int .i64 0] :: (blk g4 24 #[.int .i64 g1, .int .i64 g2, .slice A1 g3.length c1] :: fs)) := hS.box 3 #[.int .i64 0]
    generalize w.heap.size = g5 at hF hS
    generalize w.alloc (.cells #[.int .i64 0] 3) = w at hS ⊢
    obtain ⟨w, hrun, hS⟩ := run_put (P := Try.prog) (t := 3) (u := .int .i64 1) (i := 0) (hS.at_ 0 rfl) hi3 hs3 rfl (Nat.lt_of_lt_of_eq (Nat.lt_of_succ_le (Nat.le_of_ble_eq_true (by kernel_rfl))) rfl)
    refine at_skip hF (by kernel_rfl) hrun ?_
    have hS : Sep w0 B w (blk g5 3 #[.int .i64 1] :: blk g4 24 #[.int .i64 g1, .int .i64 g2, .slice A1 g3.length c1] :: fs) := hS
    refine at_end [1, 4] [pl 1 (.pointer (some ⟨g4, 0, none⟩)), pl 4 (.pointer (some ⟨g5, 0, none⟩))] hF rfl (by kernel_rfl) (fun hF => ?_)
    refine then_n ?_
    refine wpIn_block ?_
    have hS := hS.pickN 2 [1, 0] (by decide)
    refine wp_loop_model (S := Int) (R := (Fl Unit (Int × List Int))) (hex_joined_L1 g1 g2 g3) (fun x => (hex_joined_K1 x).bind some) r (fun (x : Int) a w => ∃ (g6 : Nat), Fr 43 [pl 1 (.pointer (some ⟨g4, 0, none⟩)), pl 4 (.pointer (some ⟨g6, 0, none⟩))] a ∧ Sep w0 B w (blk g4 24 #[.int .i64 g1, .int .i64 g2, .slice A1 g3.length c1] :: blk g6 3 #[.int .i64 x] :: fs)) (assoc_b hm) ⟨g5, hF.weak [1, 4] (by kernel_rfl), hS⟩ ?_
    clear hF hS hm
    rintro nn1 who1 a w ⟨g6, hF, hS⟩ hm
    generalize hφ1 : stK (hex_joined_L1 g1 g2 g3) nn1 (fun x => (hex_joined_K1 x).bind some) = φ1 at hm
    unfold hex_joined_L1 at hm
    dsimp only at hm
    refine seq_cut (fun a w => Fr 43 [pl 1 (.pointer (some ⟨g4, 0, none⟩)), pl 4 (.pointer (some ⟨g6, 0, none⟩))] a ∧ Sep w0 B w (blk g4 24 #[.int .i64 g1, .int .i64 g2, .slice A1 g3.length c1] :: blk g6 3 #[.int .i64 who1] :: fs) ∧ ((hex_joined_J2 g1 g2 g3 who1)).bind φ1 = some r) ?_ ?_
    · rintro a w ⟨hF, hS, hm⟩
      unfold hex_joined_J2 at hm
      refine seq_cut (fun a w => Fr 43 [pl 1 (.pointer (some ⟨g4, 0, none⟩)), pl 4 (.pointer (some ⟨g6, 0, none⟩))] a ∧ Sep w0 B w (blk g4 24 #[.int .i64 g1, .int .i64 g2, .slice A1 g3.length c1] :: blk g6 3 #[.int .i64 who1] :: fs) ∧ ((hex_joined_J3 who1)).bind φ1 = some r) ?_ ?_
      · rintro a w ⟨hF, hS, hm⟩
        unfold hex_joined_J3 at hm
        refine seq_cut (fun a w => ∃ (g9 : Nat), Fr 43 [pl 1 (.pointer (some ⟨g4, 0, none⟩)), pl 4 (.pointer (some ⟨g9, 0, none⟩))] a ∧ Sep w0 B w (blk g4 24 #[.int .i64 g1, .int .i64 g2, .slice A1 g3.length c1] :: blk g9 3 #[.int .i64 who1] :: fs) ∧ ((hex_joined_J8 who1)).bind φ1 = some r) ?_ ?_
        · rintro a w ⟨g9, hF, hS, hm⟩
          unfold hex_joined_J8 at hm
          refine oneR ?_
          refine at_run 2 [⟨false, [], vS (Instr.loadAt 3 (.pointer (some ⟨g9, 0, none⟩))), .int .i64 who1⟩] [some (.int .i64 who1), none] [1, 4, 12] [pl 1 (.pointer (some ⟨g4, 0, none⟩)), pl 4 (.pointer (some ⟨g9, 0, none⟩)), pl 12 (.int .i64 (w64 (who1 + 1)))] hF hS (by kernel_rfl) (by kernel_rfl) ?_ (fun a w hF hS => ?_)
          · exact obs_cons (ob_load Agg3 (fun _ _ hS => (hS.at_ 1 rfl).cell rfl)) <| obs_nil
          obtain ⟨w, hrun, hS⟩ := run_put (P := Try.prog) (t := 3) (u := .int .i64 (w64 (who1 + 1))) (i := 0) (hS.at_ 1 rfl) hi3 hs3 rfl (Nat.lt_of_lt_of_eq (Nat.lt_of_succ_le (Nat.le_of_ble_eq_true (by kernel_rfl))) rfl)
          refine at_skip hF (by kernel_rfl) hrun ?_
          have hS : Sep w0 B w (blk g4 24 #[.int .i64 g1, .int .i64 g2, .slice A1 g3.length c1] :: blk g9 3 #[.int .i64 (w64 (who1 + 1))] :: fs) := hS
          refine at_end [1, 4] [pl 1 (.pointer (some ⟨g4, 0, none⟩)), pl 4 (.pointer (some ⟨g9, 0, none⟩))] hF rfl (by kernel_rfl) (fun hF => ?_)
          refine then_n ?_
          rw [← hφ1] at hm
          exact ⟨(w64 (who1 + 1)), ⟨g9, hF.weak [1, 4] (by kernel_rfl), hS⟩, hm⟩
        · refine reg [⟨false, [], vS (Instr.loadAt 3 (.pointer (some ⟨g6, 0, none⟩))), .int .i64 who1⟩] [some (.int .i64 who1)] [1, 42] [pl 1 (.pointer (some ⟨g4, 0, none⟩)), pl 42 (.int .i64 who1)] hF hS Fol (by kernel_rfl) (by kernel_rfl) (by kernel_rfl) ?_ (fun a w hF hS => ?_)
          · exact obs_cons (ob_load Agg3 (fun _ _ hS => (hS.at_ 1 rfl).cell rfl)) <| obs_nil
          refine oneR ?_
          refine at_do (d := 4) (s := vS (Instr.alloc 3 true (.tuple #[]))) (v := .pointer (some ⟨w.heap.size, 0, none⟩)) (w' := w.alloc (.cells #[.int .i64 0] 3)) hF (by kernel_rfl) (by kernel_rfl) (by kernel_rfl) (fun a hF => ?_)
          have hS : Sep w0 B (w.alloc (.cells #[.int .i64 0] 3)) (blk w.heap.size 3 #[.int .i64 0] :: (blk g4 24 #[.int .i64 g1, .int .i64 g2, .slice A1 g3.length c1] :: blk g6 3 #[.int .i64 who1] :: fs)) := hS.box 3 #[.int .i64 0]
          generalize w.heap.size = g8 at hF hS
          generalize w.alloc (.cells #[.int .i64 0] 3) = w at hS ⊢
          obtain ⟨w, hrun, hS⟩ := run_put (P := Try.prog) (t := 3) (u := .int .i64 who1) (i := 0) (hS.at_ 0 rfl) hi3 hs3 rfl (Nat.lt_of_lt_of_eq (Nat.lt_of_succ_le (Nat.le_of_ble_eq_true (by kernel_rfl))) rfl)
          refine at_skip hF (by kernel_rfl) hrun ?_
          have hS : Sep w0 B w (blk g8 3 #[.int .i64 who1] :: blk g4 24 #[.int .i64 g1, .int .i64 g2, .slice A1 g3.length c1] :: blk g6 3 #[.int .i64 who1] :: fs) := hS
          refine at_end [1, 4] [pl 1 (.pointer (some ⟨g4, 0, none⟩)), pl 4 (.pointer (some ⟨g8, 0, none⟩))] hF rfl (by kernel_rfl) (fun hF => ?_)
          refine then_n ?_
          have hS := hS.pickN 3 [1, 0] (by decide)
          exact ⟨g8, hF.weak [1, 4] (by kernel_rfl), hS, hm⟩
      · refine wpIn_block ?_
        refine reg [] [] [1, 4, 5] [pl 1 (.pointer (some ⟨g4, 0, none⟩)), pl 4 (.pointer (some ⟨g6, 0, none⟩)), pl 5 (.slice none 0 0)] hF hS Fol (by kernel_rfl) (by kernel_rfl) (by kernel_rfl) ?_ (fun a w hF hS => ?_)
        · exact obs_nil
        refine seq_cut (fun a w => ∃ (l2 : List Int) (A4 : Option Addr) (c4 : Nat), Fr 43 [pl 1 (.pointer (some ⟨g4, 0, none⟩)), pl 4 (.pointer (some ⟨g6, 0, none⟩)), pl 5 (.slice A4 l2.length c4)] a ∧ Sep w0 B w (blk g4 24 #[.int .i64 g1, .int .i64 g2, .slice A1 g3.length c1] :: blk g6 3 #[.int .i64 who1] :: own 3 (.slice A4 l2.length c4) (vI l2) :: fs) ∧ ((hex_joined_J4 who1) l2).bind φ1 = some r) ?_ ?_
        · rintro a w ⟨l2, A4, c4, hF, hS, hm⟩
          unfold hex_joined_J4 at hm
          refine reg [] [] [1, 4, 5, 37] [pl 1 (.pointer (some ⟨g4, 0, none⟩)), pl 4 (.pointer (some ⟨g6, 0, none⟩)), pl 5 (.slice A4 l2.length c4), pl 37 (.bool (decide ((0 : Int) < (l2.length : Int))))] hF hS Fol (by kernel_rfl) (by kernel_rfl) (by kernel_rfl) ?_ (fun a w hF hS => ?_)
          · exact obs_nil
          refine cond_ev (t := 37) (b := decide ((0 : Int) < (l2.length : Int))) hF (by kernel_rfl) (fun hb => ?_) (fun hb => ?_)
          · replace hm := if_t hm hb
            refine seqR ?_
            obtain ⟨r4, hr4, hm⟩ := call_b hm
            refine at_run 1 [] [] [4, 5, 38] [pl 4 (.pointer (some ⟨g6, 0, none⟩)), pl 5 (.slice A4 l2.length c4), pl 38 (.slice A4 l2.length c4)] hF hS (by kernel_rfl) (by kernel_rfl) ?_ (fun a w hF hS => ?_)
            · exact obs_nil
            have hS : Sep w0 B w (own 3 (.slice A4 l2.length c4) (vI l2) :: blk g4 24 #[.int .i64 g1, .int .i64 g2, .slice A1 g3.length c1] :: blk g6 3 #[.int .i64 who1] :: fs) := hS.pickN 3 [2, 0, 1] (by decide)
            refine at_call (f := 147) (args := #[.slice A4 l2.length c4]) (d := 39) hF (by kernel_rfl) (by kernel_rfl) Try.func147 (by kernel_rfl) rfl (slices_Sort_2_w hr4 hS ) (fun v a w hR hF => ?_)
            clear hS
            obtain ⟨rfl, hS⟩ := hR
            have hS : Sep w0 B w (own 3 (.slice A4 l2.length c4) (vI r4) :: blk g4 24 #[.int .i64 g1, .int .i64 g2, .slice A1 g3.length c1] :: blk g6 3 #[.int .i64 who1] :: fs) := hS
            refine at_end [4, 5] [pl 4 (.pointer (some ⟨g6, 0, none⟩)), pl 5 (.slice A4 l2.length c4)] hF rfl (by kernel_rfl) (fun hF => ?_)
            refine then_n ?_
            refine reg [⟨false, [], vS (Instr.loadAt 3 (.pointer (some ⟨g6, 0, none⟩))), .int .i64 who1⟩] [some (.int .i64 who1), none, none, none] [2, 3] [pl 2 (.int .i64 who1), pl 3 (.slice A4 l2.length c4)] hF hS Fol (by kernel_rfl) (by kernel_rfl) (by kernel_rfl) ?_ (fun a w hF hS => ?_)
            · exact obs_cons (ob_load Agg3 (fun _ _ hS => (hS.at_ 2 rfl).cell rfl)) <| obs_nil
            refine wpIn_ret ?_
            refine block_r (then_r (then_r (block_r (then_r ?_))))
            rw [← hφ1] at hm
            replace hm := done_b hm
            unfold hex_joined_K1 at hm
            try dsimp only at hm
            have hl2 := (hS.at_ 0 rfl).len1
            have hS := (hS.at_ 0 rfl).reN hl2
            have hS : Sep w0 B w (own 3 (.slice A4 r4.length c4) (vI r4) :: blk g4 24 #[.int .i64 g1, .int .i64 g2, .slice A1 g3.length c1] :: blk g6 3 #[.int .i64 who1] :: fs) := hS
            have hF := hF.cast (t := 3) (v := .slice A4 l2.length c4) (v' := .slice A4 r4.length c4) rfl rfl (congrArg (fun k => Value.slice A4 k c4) hl2)
            have hS := hS.pickN 3 [0] (by decide)
            have hm : some (who1, r4) = some r := hm
            obtain rfl := Option.some.inj hm
            exact retV (rs := [.tmp 2, .tmp 3]) (vs := [.int .i64 who1, .slice A4 r4.length c4]) hF rfl (rv_t (by kernel_rfl) <| rv_t (by kernel_rfl) <| rv_nil) rfl ⟨_, rfl, A4, c4, rfl, hS⟩
          · replace hm := if_f hm hb
            refine wpIn_skip ?_
            refine block_n ?_
            refine then_n ?_
            have hS := hS.pickN 3 [0, 1] (by decide)
            exact ⟨hF.weak [1, 4] (by kernel_rfl), hS, hm⟩
        · refine seqR ?_
          obtain ⟨r1, hr1, hm⟩ := call_b hm
          refine at_run 2 [⟨false, [], vS (Instr.loadAt 24 (.pointer (some ⟨g4, 0, none⟩))), .agg #[.int .i64 g1, .int .i64 g2, .slice A1 g3.length c1]⟩, ⟨false, [], vS (Instr.loadAt 3 (.pointer (some ⟨g6, 0, none⟩))), .int .i64 who1⟩] [some (.agg #[.int .i64 g1, .int .i64 g2, .slice A1 g3.length c1]), some (.int .i64 who1)] [1, 4, 5, 13, 14] [pl 1 (.pointer (some ⟨g4, 0, none⟩)), pl 4 (.pointer (some ⟨g6, 0, none⟩)), pl 5 (.slice none 0 0), pl 13 (.agg #[.int .i64 g1, .int .i64 g2, .slice A1 g3.length c1]), pl 14 (.int .i64 who1)] hF hS (by kernel_rfl) (by kernel_rfl) ?_ (fun a w hF hS => ?_)
          · exact obs_cons (ob_loadA (cs := #[.int .i64 g1, .int .i64 g2, .slice A1 g3.length c1]) (by kernel_rfl) (by kernel_rfl) (fun _ _ hS => (hS.at_ 0 rfl).cellsAt 0 (by rfl))) <| obs_cons (ob_load Agg3 (fun _ _ hS => (hS.at_ 1 rfl).cell rfl)) <| obs_nil
          refine at_call (f := 144) (args := #[.agg #[.int .i64 g1, .int .i64 g2, .slice A1 g3.length c1], .int .i64 who1]) (d := 15) hF (by kernel_rfl) (by kernel_rfl) Try.func144 (by kernel_rfl) rfl (hex_groups_w hr1 hS (fun _ hS => (hr_g3 _ (hS.dropN 2))) _hc_g3 rfl) (fun v a w hR hF => ?_)
          clear hS
          obtain ⟨A2, c2, hd1, rfl, hS⟩ := hR
          have hS : Sep w0 B w (rows 22 3 (.slice A2 r1.length c2) hd1 r1 :: blk g4 24 #[.int .i64 g1, .int .i64 g2, .slice A1 g3.length c1] :: blk g6 3 #[.int .i64 who1] :: fs) := hS
          refine at_run 2 [] [] [1, 4, 5, 15, 16, 17] [pl 1 (.pointer (some ⟨g4, 0, none⟩)), pl 4 (.pointer (some ⟨g6, 0, none⟩)), pl 5 (.slice none 0 0), pl 15 (.slice A2 r1.length c2), pl 16 (.int .i64 (r1.length : Int)), pl 17 (.int .i64 0)] hF hS (by kernel_rfl) (by kernel_rfl) ?_ (fun a w hF hS => ?_)
          · exact obs_nil
          refine at_end [1, 4, 5, 15, 16, 17] [pl 1 (.pointer (some ⟨g4, 0, none⟩)), pl 4 (.pointer (some ⟨g6, 0, none⟩)), pl 5 (.slice none 0 0), pl 15 (.slice A2 r1.length c2), pl 16 (.int .i64 (r1.length : Int)), pl 17 (.int .i64 0)] hF rfl (by kernel_rfl) (fun hF => ?_)
          refine then_n ?_
          refine wpIn_block ?_
          have hS : Sep w0 B w (own 3 (.slice none 0 0) (vI ([] : List Int)) :: rows 22 3 (.slice A2 r1.length c2) hd1 r1 :: blk g4 24 #[.int .i64 g1, .int .i64 g2, .slice A1 g3.length c1] :: blk g6 3 #[.int .i64 who1] :: fs) := hS.nil 3
          have hl1 := (hS.at_ 0 rfl).len1
          have hS := (hS.at_ 0 rfl).reN hl1
          have hS : Sep w0 B w (own 3 (.slice none (([] : List Int).length) 0) (vI ([] : List Int)) :: rows 22 3 (.slice A2 r1.length c2) hd1 r1 :: blk g4 24 #[.int .i64 g1, .int .i64 g2, .slice A1 g3.length c1] :: blk g6 3 #[.int .i64 who1] :: fs) := hS
          have hF := hF.cast (t := 5) (v := .slice none 0 0) (v' := .slice none (([] : List Int).length) 0) rfl rfl (congrArg (fun k => Value.slice none k 0) hl1)
          have hS := hS.pickN 4 [2, 3, 0, 1] (by decide)
          refine wp_loop_model (S := (List Int × Int)) (R := (List Int)) (hex_joined_L2 g1 g2 g3 who1 r1) (fun x => ((hex_joined_K2 who1) x).bind φ1) r (fun (x : (List Int × Int)) a w => ∃ (A3 : Option Addr) (c3 : Nat), Fr 43 [pl 1 (.pointer (some ⟨g4, 0, none⟩)), pl 4 (.pointer (some ⟨g6, 0, none⟩)), pl 5 (.slice A3 x.1.length c3), pl 15 (.slice A2 r1.length c2), pl 16 (.int .i64 (r1.length : Int)), pl 17 (.int .i64 x.2)] a ∧ Sep w0 B w (blk g4 24 #[.int .i64 g1, .int .i64 g2, .slice A1 g3.length c1] :: blk g6 3 #[.int .i64 who1] :: own 3 (.slice A3 x.1.length c3) (vI x.1) :: rows 22 3 (.slice A2 r1.length c2) hd1 r1 :: fs)) (assoc_b hm) ⟨none, 0, hF.weak [1, 4, 5, 15, 16, 17] (by kernel_rfl), hS⟩ ?_
          clear hF hS hm
          rintro nn2 ⟨l1, z1⟩ a w ⟨A3, c3, hF, hS⟩ hm
          generalize hφ2 : stK (hex_joined_L2 g1 g2 g3 who1 r1) nn2 (fun x => ((hex_joined_K2 who1) x).bind φ1) = φ2 at hm
          unfold hex_joined_L2 at hm
          dsimp only at hF hS hm
          refine reg [] [] [1, 4, 5, 15, 16, 17, 18] [pl 1 (.pointer (some ⟨g4, 0, none⟩)), pl 4 (.pointer (some ⟨g6, 0, none⟩)), pl 5 (.slice A3 l1.length c3), pl 15 (.slice A2 r1.length c2), pl 16 (.int .i64 (r1.length : Int)), pl 17 (.int .i64 z1), pl 18 (.bool (decide (z1 < (r1.length : Int))))] hF hS Fol (by kernel_rfl) (by kernel_rfl) (by kernel_rfl) ?_ (fun a w hF hS => ?_)
          · exact obs_nil
          refine seq_cut (fun a w => Fr 43 [pl 1 (.pointer (some ⟨g4, 0, none⟩)), pl 4 (.pointer (some ⟨g6, 0, none⟩)), pl 5 (.slice A3 l1.length c3), pl 15 (.slice A2 r1.length c2), pl 16 (.int .i64 (r1.length : Int)), pl 17 (.int .i64 z1)] a ∧ Sep w0 B w (blk g4 24 #[.int .i64 g1, .int .i64 g2, .slice A1 g3.length c1] :: blk g6 3 #[.int .i64 who1] :: own 3 (.slice A3 l1.length c3) (vI l1) :: rows 22 3 (.slice A2 r1.length c2) hd1 r1 :: fs) ∧ ((hex_joined_J5 g1 g2 g3 who1 r1 l1 z1)).bind φ2 = some r) ?_ ?_
          · rintro a w ⟨hF, hS, hm⟩
            unfold hex_joined_J5 at hm
            refine seq_cut (fun a w => ∃ (l3 : List Int) (A6 : Option Addr) (c6 : Nat), Fr 43 [pl 1 (.pointer (some ⟨g4, 0, none⟩)), pl 4 (.pointer (some ⟨g6, 0, none⟩)), pl 5 (.slice A6 l3.length c6), pl 15 (.slice A2 r1.length c2), pl 16 (.int .i64 (r1.length : Int)), pl 17 (.int .i64 z1)] a ∧ Sep w0 B w (blk g4 24 #[.int .i64 g1, .int .i64 g2, .slice A1 g3.length c1] :: blk g6 3 #[.int .i64 who1] :: own 3 (.slice A6 l3.length c6) (vI l3) :: rows 22 3 (.slice A2 r1.length c2) hd1 r1 :: fs) ∧ ((hex_joined_J6 z1) l3).bind φ2 = some r) ?_ ?_
            · rintro a w ⟨l3, A6, c6, hF, hS, hm⟩
              unfold hex_joined_J6 at hm
              refine reg1 [] [] [1, 4, 5, 15, 16, 17] [pl 1 (.pointer (some ⟨g4, 0, none⟩)), pl 4 (.pointer (some ⟨g6, 0, none⟩)), pl 5 (.slice A6 l3.length c6), pl 15 (.slice A2 r1.length c2), pl 16 (.int .i64 (r1.length : Int)), pl 17 (.int .i64 (w64 (z1 + 1)))] hF hS Fol (by kernel_rfl) (by kernel_rfl) (by kernel_rfl) ?_ (fun a w hF hS => ?_)
              · exact obs_nil
              refine then_n ?_
              rw [← hφ2] at hm
              exact ⟨(l3, (w64 (z1 + 1))), ⟨A6, c6, hF.weak [1, 4, 5, 15, 16, 17] (by kernel_rfl), hS⟩, hm⟩
            · refine wpIn_block ?_
              refine seqR ?_
              obtain ⟨hp1, hm⟩ := asrt_b hm
              have hb1 := rowb (n := r1.length) (hS.at_ 3 rfl).lenR hp1
              refine at_run 2 [⟨true, [], vS (Instr.indexAt 40 (.slice A2 r1.length c2) (.int .i64 z1)), .pointer (some (sAddr A2 z1))⟩, ⟨false, [], vS (Instr.loadAt 22 (.pointer (some (sAddr A2 z1)))), .slice (hdA hd1 z1) ((geti2 r1 z1).length) (hdC hd1 z1)⟩] [some (.pointer (some (sAddr A2 z1))), some (.slice (hdA hd1 z1) ((geti2 r1 z1).length) (hdC hd1 z1))] [1, 4, 5, 15, 16, 17, 20] [pl 1 (.pointer (some ⟨g4, 0, none⟩)), pl 4 (.pointer (some ⟨g6, 0, none⟩)), pl 5 (.slice A3 l1.length c3), pl 15 (.slice A2 r1.length c2), pl 16 (.int .i64 (r1.length : Int)), pl 17 (.int .i64 z1), pl 20 (.slice (hdA hd1 z1) ((geti2 r1 z1).length) (hdC hd1 z1))] hF hS (by kernel_rfl) (by kernel_rfl) ?_ (fun a w hF hS => ?_)
              · exact obs_cons (ob_ixRn Und40 hi22 hs22 (hS.at_ 3 rfl).rdRows (hS.at_ 3 rfl).lenR (fun _ => hp1)) <| obs_cons (ob_getR Agg22 (fun _ hS => ⟨_, (hS.at_ 3 rfl).rdRows⟩) (fun _ => hb1)) <| obs_nil
              refine at_do (d := 7) (s := vS (Instr.alloc 22 true (.tuple #[]))) (v := .pointer (some ⟨w.heap.size, 0, none⟩)) (w' := w.alloc (.cells #[.slice none 0 0] 22)) hF (by kernel_rfl) (by kernel_rfl) (by kernel_rfl) (fun a hF => ?_)
              have hS : Sep w0 B (w.alloc (.cells #[.slice none 0 0] 22)) (blk w.heap.size 22 #[.slice none 0 0] :: (blk g4 24 #[.int .i64 g1, .int .i64 g2, .slice A1 g3.length c1] :: blk g6 3 #[.int .i64 who1] :: own 3 (.slice A3 l1.length c3) (vI l1) :: rows 22 3 (.slice A2 r1.length c2) hd1 r1 :: fs)) := hS.box 22 #[.slice none 0 0]
              generalize w.heap.size = g7 at hF hS
              generalize w.alloc (.cells #[.slice none 0 0] 22) = w at hS ⊢
              obtain ⟨w, hrun, hS⟩ := run_put (P := Try.prog) (t := 22) (u := .slice (hdA hd1 z1) ((geti2 r1 z1).length) (hdC hd1 z1)) (i := 0) (hS.at_ 0 rfl) hi22 hs22 rfl (Nat.lt_of_lt_of_eq (Nat.lt_of_succ_le (Nat.le_of_ble_eq_true (by kernel_rfl))) rfl)
              refine at_skip hF (by kernel_rfl) hrun ?_
              have hS : Sep w0 B w (blk g7 22 #[.slice (hdA hd1 z1) ((geti2 r1 z1).length) (hdC hd1 z1)] :: blk g4 24 #[.int .i64 g1, .int .i64 g2, .slice A1 g3.length c1] :: blk g6 3 #[.int .i64 who1] :: own 3 (.slice A3 l1.length c3) (vI l1) :: rows 22 3 (.slice A2 r1.length c2) hd1 r1 :: fs) := hS
              refine at_end [1, 4, 5, 7, 15, 16, 17] [pl 1 (.pointer (some ⟨g4, 0, none⟩)), pl 4 (.pointer (some ⟨g6, 0, none⟩)), pl 5 (.slice A3 l1.length c3), pl 7 (.pointer (some ⟨g7, 0, none⟩)), pl 15 (.slice A2 r1.length c2), pl 16 (.int .i64 (r1.length : Int)), pl 17 (.int .i64 z1)] hF rfl (by kernel_rfl) (fun hF => ?_)
              refine then_n ?_
              refine reg [] [] [1, 4, 5, 7, 8, 15, 16, 17] [pl 1 (.pointer (some ⟨g4, 0, none⟩)), pl 4 (.pointer (some ⟨g6, 0, none⟩)), pl 5 (.slice A3 l1.length c3), pl 7 (.pointer (some ⟨g7, 0, none⟩)), pl 8 (.func (.func 145) #[] #[.pointer (some ⟨g7, 0, none⟩), .pointer (some ⟨g4, 0, none⟩), .pointer (some ⟨g6, 0, none⟩)]), pl 15 (.slice A2 r1.length c2), pl 16 (.int .i64 (r1.length : Int)), pl 17 (.int .i64 z1)] hF hS Fol (by kernel_rfl) (by kernel_rfl) (by kernel_rfl) ?_ (fun a w hF hS => ?_)
              · exact obs_nil
              refine seq_cut (fun a w => ∃ (z2 : Bool), Fr 43 [pl 1 (.pointer (some ⟨g4, 0, none⟩)), pl 4 (.pointer (some ⟨g6, 0, none⟩)), pl 5 (.slice A3 l1.length c3), pl 7 (.pointer (some ⟨g7, 0, none⟩)), pl 15 (.slice A2 r1.length c2), pl 16 (.int .i64 (r1.length : Int)), pl 17 (.int .i64 z1), pl 30 (.bool z2)] a ∧ Sep w0 B w (blk g4 24 #[.int .i64 g1, .int .i64 g2, .slice A1 g3.length c1] :: blk g6 3 #[.int .i64 who1] :: own 3 (.slice A3 l1.length c3) (vI l1) :: blk g7 22 #[.slice (hdA hd1 z1) ((geti2 r1 z1).length) (hdC hd1 z1)] :: rows 22 3 (.slice A2 r1.length c2) hd1 r1 :: fs) ∧ ((hex_joined_J7 r1 l1 z1) z2).bind φ2 = some r) ?_ ?_
              · rintro a w ⟨z2, hF, hS, hm⟩
                unfold hex_joined_J7 at hm
                refine cond_ev (t := 30) (b := z2) hF (by kernel_rfl) (fun hb => ?_) (fun hb => ?_)
                · replace hm := if_t hm hb
                  refine oneR ?_
                  obtain ⟨hp2, hm⟩ := asrt_b hm
                  refine at_run 2 [⟨false, [], vS (Instr.loadAt 22 (.pointer (some ⟨g7, 0, none⟩))), .slice (hdA hd1 z1) ((geti2 r1 z1).length) (hdC hd1 z1)⟩] [none, some (.slice (hdA hd1 z1) ((geti2 r1 z1).length) (hdC hd1 z1))] [1, 4, 15, 16, 17, 31, 32] [pl 1 (.pointer (some ⟨g4, 0, none⟩)), pl 4 (.pointer (some ⟨g6, 0, none⟩)), pl 15 (.slice A2 r1.length c2), pl 16 (.int .i64 (r1.length : Int)), pl 17 (.int .i64 z1), pl 31 (.slice A3 l1.length c3), pl 32 (.slice (hdA hd1 z1) ((geti2 r1 z1).length) (hdC hd1 z1))] hF hS (by kernel_rfl) (by kernel_rfl) ?_ (fun a w hF hS => ?_)
                  · exact obs_cons (ob_load Agg22 (fun _ _ hS => (hS.at_ 3 rfl).cell rfl)) <| obs_nil
                  obtain ⟨A5, c5, w, hrun, hS⟩ := run_app1 (P := Try.prog) (t := 22) (m := l1) (ys := (geti2 r1 z1)) (A2 := (hdA hd1 z1)) (m2 := (geti2 r1 z1).length) (c2 := (hdC hd1 z1)) (Value.int .i64) (0 : Int) (hS.at_ 2 rfl) ((hS.at_ 4 rfl).rdRows.row _ hb1).1 rfl 22 Und22 hi3 hz3 hs3 (by omega) rfl (fun _ => rfl) hp2
                  have hS : Sep w0 B w (blk g4 24 #[.int .i64 g1, .int .i64 g2, .slice A1 g3.length c1] :: blk g6 3 #[.int .i64 who1] :: own 3 (.slice A5 ((l1 ++ (geti2 r1 z1)).length) c5) (vI (l1 ++ (geti2 r1 z1))) :: blk g7 22 #[.slice (hdA hd1 z1) ((geti2 r1 z1).length) (hdC hd1 z1)] :: rows 22 3 (.slice A2 r1.length c2) hd1 r1 :: fs) := hS
                  refine at_do (d := 33) hF (by kernel_rfl) (by kernel_rfl) hrun (fun a hF => ?_)
                  refine at_run 1 [] [] [1, 4, 5, 15, 16, 17] [pl 1 (.pointer (some ⟨g4, 0, none⟩)), pl 4 (.pointer (some ⟨g6, 0, none⟩)), pl 5 (.slice A5 ((l1 ++ (geti2 r1 z1)).length) c5), pl 15 (.slice A2 r1.length c2), pl 16 (.int .i64 (r1.length : Int)), pl 17 (.int .i64 z1)] hF hS (by kernel_rfl) (by kernel_rfl) ?_ (fun a w hF hS => ?_)
                  · exact obs_nil
                  refine at_end [1, 4, 5, 15, 16, 17] [pl 1 (.pointer (some ⟨g4, 0, none⟩)), pl 4 (.pointer (some ⟨g6, 0, none⟩)), pl 5 (.slice A5 ((l1 ++ (geti2 r1 z1)).length) c5), pl 15 (.slice A2 r1.length c2), pl 16 (.int .i64 (r1.length : Int)), pl 17 (.int .i64 z1)] hF rfl (by kernel_rfl) (fun hF => ?_)
                  refine block_n ?_
                  refine then_n ?_
                  have hS := hS.pickN 5 [0, 1, 2, 4] (by decide)
                  exact ⟨(l1 ++ (geti2 r1 z1)), A5, c5, hF.weak [1, 4, 5, 15, 16, 17] (by kernel_rfl), hS, hm⟩
                · replace hm := if_f hm hb
                  refine wpIn_skip ?_
                  refine block_n ?_
                  refine then_n ?_
                  have hS := hS.pickN 5 [0, 1, 2, 4] (by decide)
                  exact ⟨l1, A3, c3, hF.weak [1, 4, 5, 15, 16, 17] (by kernel_rfl), hS, hm⟩
              · refine oneR ?_
                obtain ⟨r2, hr2, hm⟩ := call_b hm
                obtain ⟨r3, hr3, hm⟩ := call_b hm
                refine at_run 9 [⟨false, [], callFunc 145 #[.int .i64 0, .pointer (some ⟨g7, 0, none⟩), .pointer (some ⟨g4, 0, none⟩), .pointer (some ⟨g6, 0, none⟩)], .bool r2⟩, ⟨false, [(r2, true)], vS (Instr.loadAt 3 (.pointer (some ⟨g4, 0, none⟩))), .int .i64 g1⟩, ⟨false, [(r2, true)], callFunc 145 #[.int .i64 (w64 (g1 - 1)), .pointer (some ⟨g7, 0, none⟩), .pointer (some ⟨g4, 0, none⟩), .pointer (some ⟨g6, 0, none⟩)], .bool r3⟩] [none, some (.bool r2), none, none, none, some (.int .i64 g1), none, some (.bool r3), none] [1, 4, 5, 7, 15, 16, 17, 30] [pl 1 (.pointer (some ⟨g4, 0, none⟩)), pl 4 (.pointer (some ⟨g6, 0, none⟩)), pl 5 (.slice A3 l1.length c3), pl 7 (.pointer (some ⟨g7, 0, none⟩)), pl 15 (.slice A2 r1.length c2), pl 16 (.int .i64 (r1.length : Int)), pl 17 (.int .i64 z1), pl 30 (.bool (r2 && r3))] hF hS (by kernel_rfl) (by kernel_rfl) ?_ (fun a w hF hS => ?_)
                · exact obs_cons (ob_call Try.func145 (by kernel_rfl) rfl (fun _ _ hS => hex_joined_1_w hr2 hS (fun _ hS => ((hS.at_ 1 rfl).rdRows.row _ hb1).1) (((hS.dropN 3).at_ 1 rfl).rdRows.row _ hb1).2 rfl (fun _ hS => (hr_g3 _ (hS.dropN 2))) _hc_g3 rfl)) <| obs_cons (ob_load Agg3 (fun _ _ hS => (hS.at_ 1 rfl).cell rfl)) <| obs_cons (ob_call Try.func145 (by kernel_rfl) rfl (fun hy _ hS => hex_joined_1_w (ite_some hr3 (by rw [show r2 = true from hy (r2, true) (by simp)]; try rfl)) hS (fun _ hS => ((hS.at_ 1 rfl).rdRows.row _ hb1).1) (((hS.dropN 3).at_ 1 rfl).rdRows.row _ hb1).2 rfl (fun _ hS => (hr_g3 _ (hS.dropN 2))) _hc_g3 rfl)) <| obs_nil
                refine at_end [1, 4, 5, 7, 15, 16, 17, 30] [pl 1 (.pointer (some ⟨g4, 0, none⟩)), pl 4 (.pointer (some ⟨g6, 0, none⟩)), pl 5 (.slice A3 l1.length c3), pl 7 (.pointer (some ⟨g7, 0, none⟩)), pl 15 (.slice A2 r1.length c2), pl 16 (.int .i64 (r1.length : Int)), pl 17 (.int .i64 z1), pl 30 (.bool (r2 && r3))] hF rfl (by kernel_rfl) (fun hF => ?_)
                refine then_n ?_
                have hS := hS.pickN 5 [1, 2, 3, 0, 4] (by decide)
                exact ⟨(r2 && r3), hF.weak [1, 4, 5, 7, 15, 16, 17, 30] (by kernel_rfl), hS, hm⟩
          · refine cond_ev (t := 18) (b := decide (z1 < (r1.length : Int))) hF (by kernel_rfl) (fun hb => ?_) (fun hb => ?_)
            · replace hm := if_t hm hb
              refine wpIn_skip ?_
              refine then_n ?_
              exact ⟨hF.weak [1, 4, 5, 15, 16, 17] (by kernel_rfl), hS, hm⟩
            · replace hm := if_f hm hb
              refine wpIn_exit ?_
              refine then_e (then_e (block_e (then_n ?_)))
              have hS := hS.pickN 4 [0, 1, 2] (by decide)
              rw [← hφ2] at hm
              replace hm := done_b hm
              unfold hex_joined_K2 at hm
              try dsimp only at hm
              have hm : ((hex_joined_J4 who1) l1).bind φ1 = some r := hm
              exact ⟨l1, A3, c3, hF.weak [1, 4, 5] (by kernel_rfl), hS, hm⟩
    · refine reg [⟨false, [], vS (Instr.loadAt 3 (.pointer (some ⟨g6, 0, none⟩))), .int .i64 who1⟩] [some (.int .i64 who1), none] [1, 4, 10] [pl 1 (.pointer (some ⟨g4, 0, none⟩)), pl 4 (.pointer (some ⟨g6, 0, none⟩)), pl 10 (.bool (decide (who1 ≤ 2)))] hF hS Fol (by kernel_rfl) (by kernel_rfl) (by kernel_rfl) ?_ (fun a w hF hS => ?_)
      · exact obs_cons (ob_load Agg3 (fun _ _ hS => (hS.at_ 1 rfl).cell rfl)) <| obs_nil
      refine cond_ev (t := 10) (b := decide (who1 ≤ 2)) hF (by kernel_rfl) (fun hb => ?_) (fun hb => ?_)
      · replace hm := if_t hm hb
        refine wpIn_skip ?_
        refine then_n ?_
        exact ⟨hF.weak [1, 4] (by kernel_rfl), hS, hm⟩
      · replace hm := if_f hm hb
        refine wpIn_exit ?_
        refine then_e (then_e (block_e (then_n ?_)))
        have hS := hS.pickN 2 [] (by decide)
        rw [← hφ1] at hm
        replace hm := done_b hm
        unfold hex_joined_K1 at hm
        try dsimp only at hm
        have hm : (hex_joined_J1).bind some = some r := hm
        exact ⟨hF.weak [] (by kernel_rfl), hS, hm⟩

noncomputable def hex_Joined_J1  (g1 : Int) (g2 : Int) (g3 : List Int) : Option (Int × List Int × Int) :=
  (hex_joined_m g1 g2 g3).bind fun r2 => some (r2.1, r2.2, 0)

noncomputable def hex_Joined_m  (g1 : Int) (g2 : Int) (g3 : List Int) : Option (Int × List Int × Int) :=
  (hex_check_m g1 g2 g3).bind fun r1 => if (r1 != 0) then (some (0, ([] : List Int), r1)) else ((hex_Joined_J1 g1 g2 g3))

set_option maxRecDepth 100000 in
set_option maxHeartbeats 4000000 in
theorem hex_Joined_w {g1 : Int} {g2 : Int} {A1 : Option Addr} {c1 : Nat} {n1 : Nat} {g3 : List Int} {r : (Int × List Int × Int)} {w0 w : World} {B : Nat} {fs : List HP} (hm : hex_Joined_m g1 g2 g3 = some r) (hS : Sep w0 B w (fs)) (hr_g3 : RdF w0 B fs A1 (vI g3)) (_hc_g3 : g3.length ≤ c1) (_hn_g3 : n1 = g3.length) :
    Calls Try.prog 34 #[.agg #[.int .i64 g1, .int .i64 g2, .slice A1 n1 c1]] w fun e w' => ∃ v, e = .returned v ∧ ∃ (A3 : Option Addr) (c3 : Nat), v = .tuple #[.int .i64 r.1, .slice A3 r.2.1.length c3, .int .i64 r.2.2] ∧ Sep w0 B w' (own 3 (.slice A3 r.2.1.length c3) (vI r.2.1) :: fs) := by
  obtain ⟨i3, hi3, hz3, hs3, hb3⟩ := info_parts Info3
  obtain rfl := _hn_g3
  unfold hex_Joined_m at hm
  replace hm := start_b hm
  refine enter (l := [.agg #[.int .i64 g1, .int .i64 g2, .slice A1 g3.length c1]]) (n := 20) Try.func34 rfl rfl (by simp) (fun a hF => ?_)
  refine seqR ?_
  refine at_do (d := 1) (s := vS (Instr.box 24 (.agg #[.int .i64 g1, .int .i64 g2, .slice A1 g3.length c1]))) (v := .pointer (some ⟨w.heap.size, 0, none⟩)) (w' := w.alloc (.cells #[.int .i64 g1, .int .i64 g2, .slice A1 g3.length c1] 24)) hF (by kernel_rfl) (by kernel_rfl) (by kernel_rfl) (fun a hF => ?_)
  have hS : Sep w0 B (w.alloc (.cells #[.int .i64 g1, .int .i64 g2, .slice A1 g3.length c1] 24)) (blk w.heap.size 24 #[.int .i64 g1, .int .i64 g2, .slice A1 g3.length c1] :: (fs)) := hS.box 24 #[.int .i64 g1, .int .i64 g2, .slice A1 g3.length c1]
  generalize w.heap.size = g4 at hF hS
  generalize w.alloc (.cells #[.int .i64 g1, .int .i64 g2, .slice A1 g3.length c1] 24) = w at hS ⊢
  refine at_run 3 [] [] [1] [pl 1 (.pointer (some ⟨g4, 0, none⟩))] hF hS (by kernel_rfl) (by kernel_rfl) ?_ (fun a w hF hS => ?_)
  · exact obs_nil
  refine at_end [1] [pl 1 (.pointer (some ⟨g4, 0, none⟩))] hF rfl (by kernel_rfl) (fun hF => ?_)
  refine then_n ?_
  refine seq_cut (fun a w => Fr 20 [pl 1 (.pointer (some ⟨g4, 0, none⟩))] a ∧ Sep w0 B w (blk g4 24 #[.int .i64 g1, .int .i64 g2, .slice A1 g3.length c1] :: fs) ∧ ((hex_Joined_J1 g1 g2 g3)).bind some = some r) ?_ ?_
  · rintro a w ⟨hF, hS, hm⟩
    unfold hex_Joined_J1 at hm
    refine seqR ?_
    obtain ⟨r2, hr2, hm⟩ := call_b hm
    refine at_run 1 [⟨false, [], vS (Instr.loadAt 24 (.pointer (some ⟨g4, 0, none⟩))), .agg #[.int .i64 g1, .int .i64 g2, .slice A1 g3.length c1]⟩] [some (.agg #[.int .i64 g1, .int .i64 g2, .slice A1 g3.length c1])] [14] [pl 14 (.agg #[.int .i64 g1, .int .i64 g2, .slice A1 g3.length c1])] hF hS (by kernel_rfl) (by kernel_rfl) ?_ (fun a w hF hS => ?_)
    · exact obs_cons (ob_loadA (cs := #[.int .i64 g1, .int .i64 g2, .slice A1 g3.length c1]) (by kernel_rfl) (by kernel_rfl) (fun _ _ hS => (hS.at_ 0 rfl).cellsAt 0 (by rfl))) <| obs_nil
    refine at_call (f := 93) (args := #[.agg #[.int .i64 g1, .int .i64 g2, .slice A1 g3.length c1]]) (d := 15) hF (by kernel_rfl) (by kernel_rfl) Try.func93 (by kernel_rfl) rfl (hex_joined_w hr2 hS (fun _ hS => (hr_g3 _ (hS.dropN 1))) _hc_g3 rfl) (fun v a w hR hF => ?_)
    clear hS
    obtain ⟨A2, c2, rfl, hS⟩ := hR
    have hS : Sep w0 B w (own 3 (.slice A2 r2.2.length c2) (vI r2.2) :: blk g4 24 #[.int .i64 g1, .int .i64 g2, .slice A1 g3.length c1] :: fs) := hS
    refine at_run 5 [] [] [6, 7] [pl 6 (.int .i64 r2.1), pl 7 (.slice A2 r2.2.length c2)] hF hS (by kernel_rfl) (by kernel_rfl) ?_ (fun a w hF hS => ?_)
    · exact obs_nil
    refine at_end [6, 7] [pl 6 (.int .i64 r2.1), pl 7 (.slice A2 r2.2.length c2)] hF rfl (by kernel_rfl) (fun hF => ?_)
    refine then_n ?_
    refine reg [] [] [2, 3, 4] [pl 2 (.int .i64 r2.1), pl 3 (.slice A2 r2.2.length c2), pl 4 (.int .i64 0)] hF hS Fol (by kernel_rfl) (by kernel_rfl) (by kernel_rfl) ?_ (fun a w hF hS => ?_)
    · exact obs_nil
    refine wpIn_ret ?_
    have hS := hS.pickN 2 [0] (by decide)
    have hm : some (r2.1, r2.2, 0) = some r := hm
    obtain rfl := Option.some.inj hm
    exact retV (rs := [.tmp 2, .tmp 3, .tmp 4]) (vs := [.int .i64 r2.1, .slice A2 r2.2.length c2, .int .i64 0]) hF rfl (rv_t (by kernel_rfl) <| rv_t (by kernel_rfl) <| rv_t (by kernel_rfl) <| rv_nil) rfl ⟨_, rfl, A2, c2, rfl, hS⟩
  · obtain ⟨r1, hr1, hm⟩ := call_b hm
    refine reg [⟨false, [], vS (Instr.loadAt 24 (.pointer (some ⟨g4, 0, none⟩))), .agg #[.int .i64 g1, .int .i64 g2, .slice A1 g3.length c1]⟩, ⟨false, [], callFunc 92 #[.agg #[.int .i64 g1, .int .i64 g2, .slice A1 g3.length c1]], .int .i64 r1⟩] [some (.agg #[.int .i64 g1, .int .i64 g2, .slice A1 g3.length c1]), some (.int .i64 r1), none] [1, 5] [pl 1 (.pointer (some ⟨g4, 0, none⟩)), pl 5 (.int .i64 r1)] hF hS Fol (by kernel_rfl) (by kernel_rfl) (by kernel_rfl) ?_ (fun a w hF hS => ?_)
    · exact obs_cons (ob_loadA (cs := #[.int .i64 g1, .int .i64 g2, .slice A1 g3.length c1]) (by kernel_rfl) (by kernel_rfl) (fun _ _ hS => (hS.at_ 0 rfl).cellsAt 0 (by rfl))) <| obs_cons (ob_call Try.func92 (by kernel_rfl) rfl (fun _ _ hS => hex_check_w hr1 hS (fun _ hS => (hr_g3 _ (hS.dropN 1))) _hc_g3 rfl)) <| obs_nil
    refine reg [] [] [1, 5, 11] [pl 1 (.pointer (some ⟨g4, 0, none⟩)), pl 5 (.int .i64 r1), pl 11 (.bool (r1 != 0))] hF hS Fol (by kernel_rfl) (by kernel_rfl) (by kernel_rfl) ?_ (fun a w hF hS => ?_)
    · exact obs_nil
    refine cond_ev (t := 11) (b := (r1 != 0)) hF (by kernel_rfl) (fun hb => ?_) (fun hb => ?_)
    · replace hm := if_t hm hb
      refine reg [] [] [2, 3, 4] [pl 2 (.int .i64 0), pl 3 (.slice none 0 0), pl 4 (.int .i64 r1)] hF hS Fol (by kernel_rfl) (by kernel_rfl) (by kernel_rfl) ?_ (fun a w hF hS => ?_)
      · exact obs_nil
      refine wpIn_ret ?_
      refine then_r ?_
      have hS : Sep w0 B w (own 3 (.slice none 0 0) (vI ([] : List Int)) :: blk g4 24 #[.int .i64 g1, .int .i64 g2, .slice A1 g3.length c1] :: fs) := hS.nil 3
      have hl1 := (hS.at_ 0 rfl).len1
      have hS := (hS.at_ 0 rfl).reN hl1
      have hS : Sep w0 B w (own 3 (.slice none (([] : List Int).length) 0) (vI ([] : List Int)) :: blk g4 24 #[.int .i64 g1, .int .i64 g2, .slice A1 g3.length c1] :: fs) := hS
      have hS := hS.pickN 2 [0] (by decide)
      have hm : some (0, ([] : List Int), r1) = some r := hm
      obtain rfl := Option.some.inj hm
      exact retV (rs := [.tmp 2, .tmp 3, .tmp 4]) (vs := [.int .i64 0, .slice none (([] : List Int).length) 0, .int .i64 r1]) hF rfl (rv_t (by kernel_rfl) <| rv_t (by kernel_rfl) <| rv_t (by kernel_rfl) <| rv_nil) rfl ⟨_, rfl, none, 0, rfl, hS⟩
    · replace hm := if_f hm hb
      refine wpIn_skip ?_
      refine then_n ?_
      exact ⟨hF.weak [1] (by kernel_rfl), hS, hm⟩

noncomputable def hex_player_J1  (e1 : Int) : Option Int :=
  some e1

noncomputable def hex_player_m  (g1 : Int) (g2 : Int) (g3 : List Int) (who1 : Int) : Option Int :=
  (hex_check_m g1 g2 g3).bind fun r1 => if (((r1 == 0) && (who1 != 1)) && (who1 != 2)) then (hex_player_J1 4) else (hex_player_J1 r1)

set_option maxRecDepth 100000 in
set_option maxHeartbeats 4000000 in
theorem hex_player_w {g1 : Int} {g2 : Int} {A1 : Option Addr} {c1 : Nat} {n1 : Nat} {g3 : List Int} {who1 : Int} {r : Int} {w0 w : World} {B : Nat} {fs : List HP} (hm : hex_player_m g1 g2 g3 who1 = some r) (hS : Sep w0 B w (fs)) (hr_g3 : RdF w0 B fs A1 (vI g3)) (_hc_g3 : g3.length ≤ c1) (_hn_g3 : n1 = g3.length) :
    Calls Try.prog 94 #[.agg #[.int .i64 g1, .int .i64 g2, .slice A1 n1 c1], .int .i64 who1] w fun e w' => e = .returned (.int .i64 r) ∧ Sep w0 B w' (fs) := by
  obtain ⟨i3, hi3, hz3, hs3, hb3⟩ := info_parts Info3
  obtain rfl := _hn_g3
  unfold hex_player_m at hm
  replace hm := start_b hm
  refine enter (l := [.agg #[.int .i64 g1, .int .i64 g2, .slice A1 g3.length c1], .int .i64 who1]) (n := 19) Try.func94 rfl rfl (by simp) (fun a hF => ?_)
  refine seqR ?_
  refine at_do (d := 2) (s := vS (Instr.box 24 (.agg #[.int .i64 g1, .int .i64 g2, .slice A1 g3.length c1]))) (v := .pointer (some ⟨w.heap.size, 0, none⟩)) (w' := w.alloc (.cells #[.int .i64 g1, .int .i64 g2, .slice A1 g3.length c1] 24)) hF (by kernel_rfl) (by kernel_rfl) (by kernel_rfl) (fun a hF => ?_)
  have hS : Sep w0 B (w.alloc (.cells #[.int .i64 g1, .int .i64 g2, .slice A1 g3.length c1] 24)) (blk w.heap.size 24 #[.int .i64 g1, .int .i64 g2, .slice A1 g3.length c1] :: (fs)) := hS.box 24 #[.int .i64 g1, .int .i64 g2, .slice A1 g3.length c1]
  generalize w.heap.size = g4 at hF hS
  generalize w.alloc (.cells #[.int .i64 g1, .int .i64 g2, .slice A1 g3.length c1] 24) = w at hS ⊢
  refine at_run 1 [] [] [1, 2] [pl 1 (.int .i64 who1), pl 2 (.pointer (some ⟨g4, 0, none⟩))] hF hS (by kernel_rfl) (by kernel_rfl) ?_ (fun a w hF hS => ?_)
  · exact obs_nil
  refine at_end [1, 2] [pl 1 (.int .i64 who1), pl 2 (.pointer (some ⟨g4, 0, none⟩))] hF rfl (by kernel_rfl) (fun hF => ?_)
  refine then_n ?_
  obtain ⟨r1, hr1, hm⟩ := call_b hm
  refine reg [⟨false, [], vS (Instr.loadAt 24 (.pointer (some ⟨g4, 0, none⟩))), .agg #[.int .i64 g1, .int .i64 g2, .slice A1 g3.length c1]⟩, ⟨false, [], callFunc 92 #[.agg #[.int .i64 g1, .int .i64 g2, .slice A1 g3.length c1]], .int .i64 r1⟩] [some (.agg #[.int .i64 g1, .int .i64 g2, .slice A1 g3.length c1]), some (.int .i64 r1), none] [1, 5] [pl 1 (.int .i64 who1), pl 5 (.int .i64 r1)] hF hS Fol (by kernel_rfl) (by kernel_rfl) (by kernel_rfl) ?_ (fun a w hF hS => ?_)
  · exact obs_cons (ob_loadA (cs := #[.int .i64 g1, .int .i64 g2, .slice A1 g3.length c1]) (by kernel_rfl) (by kernel_rfl) (fun _ _ hS => (hS.at_ 0 rfl).cellsAt 0 (by rfl))) <| obs_cons (ob_call Try.func92 (by kernel_rfl) rfl (fun _ _ hS => hex_check_w hr1 hS (fun _ hS => (hr_g3 _ (hS.dropN 1))) _hc_g3 rfl)) <| obs_nil
  refine seq_cut (fun a w => ∃ (e1 : Int), Fr 19 [pl 5 (.int .i64 e1)] a ∧ Sep w0 B w (fs) ∧ (hex_player_J1 e1).bind some = some r) ?_ ?_
  · rintro a w ⟨e1, hF, hS, hm⟩
    unfold hex_player_J1 at hm
    refine reg [] [] [4] [pl 4 (.int .i64 e1)] hF hS Fol (by kernel_rfl) (by kernel_rfl) (by kernel_rfl) ?_ (fun a w hF hS => ?_)
    · exact obs_nil
    refine wpIn_ret ?_
    have hm : some e1 = some r := hm
    obtain rfl := Option.some.inj hm
    exact retV (rs := [.tmp 4]) (vs := [.int .i64 e1]) hF rfl (rv_t (by kernel_rfl) <| rv_nil) rfl ⟨rfl, hS⟩
  · refine reg [] [] [5, 17] [pl 5 (.int .i64 r1), pl 17 (.bool (((r1 == 0) && (who1 != 1)) && (who1 != 2)))] hF hS Fol (by kernel_rfl) (by kernel_rfl) (by kernel_rfl) ?_ (fun a w hF hS => ?_)
    · exact obs_nil
    refine cond_ev (t := 17) (b := ((r1 == 0) && (who1 != 1)) && (who1 != 2)) hF (by kernel_rfl) (fun hb => ?_) (fun hb => ?_)
    · replace hm := if_t hm hb
      refine reg1 [] [] [5] [pl 5 (.int .i64 4)] hF hS Fol (by kernel_rfl) (by kernel_rfl) (by kernel_rfl) ?_ (fun a w hF hS => ?_)
      · exact obs_nil
      refine then_n ?_
      have hS := hS.pickN 1 [] (by decide)
      exact ⟨4, hF.weak [5] (by kernel_rfl), hS, hm⟩
    · replace hm := if_f hm hb
      refine wpIn_skip ?_
      refine then_n ?_
      have hS := hS.pickN 1 [] (by decide)
      exact ⟨r1, hF.weak [5] (by kernel_rfl), hS, hm⟩

noncomputable def bits_Mul64_m  (x1 : Int) (y1 : Int) : Option (Int × Int) :=
  some ((IntKind.wrap .u64 ((IntKind.wrap .u64 ((IntKind.wrap .u64 ((shrK .u64 x1 32) * (shrK .u64 y1 32))) + (shrK .u64 (IntKind.wrap .u64 ((IntKind.wrap .u64 ((shrK .u64 x1 32) * (andK .u64 y1 4294967295))) + (shrK .u64 (IntKind.wrap .u64 ((andK .u64 x1 4294967295) * (andK .u64 y1 4294967295))) 32))) 32))) + (shrK .u64 (IntKind.wrap .u64 ((andK .u64 (IntKind.wrap .u64 ((IntKind.wrap .u64 ((shrK .u64 x1 32) * (andK .u64 y1 4294967295))) + (shrK .u64 (IntKind.wrap .u64 ((andK .u64 x1 4294967295) * (andK .u64 y1 4294967295))) 32))) 4294967295) + (IntKind.wrap .u64 ((andK .u64 x1 4294967295) * (shrK .u64 y1 32))))) 32))), (IntKind.wrap .u64 (x1 * y1)))

set_option maxRecDepth 100000 in
set_option maxHeartbeats 4000000 in
theorem bits_Mul64_w {x1 : Int} {y1 : Int} {r : (Int × Int)} {w0 w : World} {B : Nat} {fs : List HP} (hm : bits_Mul64_m x1 y1 = some r) (hS : Sep w0 B w (fs)) :
    Calls Try.prog 191 #[.int .u64 x1, .int .u64 y1] w fun e w' => e = .returned (.tuple #[.int .u64 r.1, .int .u64 r.2]) ∧ Sep w0 B w' (fs) := by
  unfold bits_Mul64_m at hm
  replace hm := start_b hm
  refine enter (l := [.int .u64 x1, .int .u64 y1]) (n := 51) Try.func191 rfl rfl (by simp) (fun a hF => ?_)
  refine reg [] [] [0, 1] [pl 0 (.int .u64 x1), pl 1 (.int .u64 y1)] hF hS Fol (by kernel_rfl) (by kernel_rfl) (by kernel_rfl) ?_ (fun a w hF hS => ?_)
  · exact obs_nil
  refine reg [] [] [0, 1, 6] [pl 0 (.int .u64 x1), pl 1 (.int .u64 y1), pl 6 (.int .u64 (andK .u64 x1 4294967295))] hF hS Fol (by kernel_rfl) (by kernel_rfl) (by kernel_rfl) ?_ (fun a w hF hS => ?_)
  · exact obs_nil
  refine reg [⟨true, [], vS (Op.shift .shr .u64 x1 .u64 32), .int .u64 (shrK .u64 x1 32)⟩] [none, some (.int .u64 (shrK .u64 x1 32)), none] [0, 1, 6, 7] [pl 0 (.int .u64 x1), pl 1 (.int .u64 y1), pl 6 (.int .u64 (andK .u64 x1 4294967295)), pl 7 (.int .u64 (shrK .u64 x1 32))] hF hS Fol (by kernel_rfl) (by kernel_rfl) (by kernel_rfl) ?_ (fun a w hF hS => ?_)
  · exact obs_cons (ob_shr (fun _ => by decide)) <| obs_nil
  refine reg [] [] [0, 1, 6, 7, 8] [pl 0 (.int .u64 x1), pl 1 (.int .u64 y1), pl 6 (.int .u64 (andK .u64 x1 4294967295)), pl 7 (.int .u64 (shrK .u64 x1 32)), pl 8 (.int .u64 (andK .u64 y1 4294967295))] hF hS Fol (by kernel_rfl) (by kernel_rfl) (by kernel_rfl) ?_ (fun a w hF hS => ?_)
  · exact obs_nil
  refine reg [⟨true, [], vS (Op.shift .shr .u64 y1 .u64 32), .int .u64 (shrK .u64 y1 32)⟩] [none, some (.int .u64 (shrK .u64 y1 32)), none] [0, 1, 6, 7, 8, 9] [pl 0 (.int .u64 x1), pl 1 (.int .u64 y1), pl 6 (.int .u64 (andK .u64 x1 4294967295)), pl 7 (.int .u64 (shrK .u64 x1 32)), pl 8 (.int .u64 (andK .u64 y1 4294967295)), pl 9 (.int .u64 (shrK .u64 y1 32))] hF hS Fol (by kernel_rfl) (by kernel_rfl) (by kernel_rfl) ?_ (fun a w hF hS => ?_)
  · exact obs_cons (ob_shr (fun _ => by decide)) <| obs_nil
  refine reg [] [] [0, 1, 6, 7, 8, 9, 10] [pl 0 (.int .u64 x1), pl 1 (.int .u64 y1), pl 6 (.int .u64 (andK .u64 x1 4294967295)), pl 7 (.int .u64 (shrK .u64 x1 32)), pl 8 (.int .u64 (andK .u64 y1 4294967295)), pl 9 (.int .u64 (shrK .u64 y1 32)), pl 10 (.int .u64 (IntKind.wrap .u64 ((andK .u64 x1 4294967295) * (andK .u64 y1 4294967295))))] hF hS Fol (by kernel_rfl) (by kernel_rfl) (by kernel_rfl) ?_ (fun a w hF hS => ?_)
  · exact obs_nil
  refine reg [⟨true, [], vS (Op.shift .shr .u64 (IntKind.wrap .u64 ((andK .u64 x1 4294967295) * (andK .u64 y1 4294967295))) .u64 32), .int .u64 (shrK .u64 (IntKind.wrap .u64 ((andK .u64 x1 4294967295) * (andK .u64 y1 4294967295))) 32)⟩] [none, none, none, none, some (.int .u64 (shrK .u64 (IntKind.wrap .u64 ((andK .u64 x1 4294967295) * (andK .u64 y1 4294967295))) 32)), none, none] [0, 1, 6, 7, 9, 11] [pl 0 (.int .u64 x1), pl 1 (.int .u64 y1), pl 6 (.int .u64 (andK .u64 x1 4294967295)), pl 7 (.int .u64 (shrK .u64 x1 32)), pl 9 (.int .u64 (shrK .u64 y1 32)), pl 11 (.int .u64 (IntKind.wrap .u64 ((IntKind.wrap .u64 ((shrK .u64 x1 32) * (andK .u64 y1 4294967295))) + (shrK .u64 (IntKind.wrap .u64 ((andK .u64 x1 4294967295) * (andK .u64 y1 4294967295))) 32))))] hF hS Fol (by kernel_rfl) (by kernel_rfl) (by kernel_rfl) ?_ (fun a w hF hS => ?_)
  · exact obs_cons (ob_shr (fun _ => by decide)) <| obs_nil
  refine reg [] [] [0, 1, 6, 7, 9, 11, 12] [pl 0 (.int .u64 x1), pl 1 (.int .u64 y1), pl 6 (.int .u64 (andK .u64 x1 4294967295)), pl 7 (.int .u64 (shrK .u64 x1 32)), pl 9 (.int .u64 (shrK .u64 y1 32)), pl 11 (.int .u64 (IntKind.wrap .u64 ((IntKind.wrap .u64 ((shrK .u64 x1 32) * (andK .u64 y1 4294967295))) + (shrK .u64 (IntKind.wrap .u64 ((andK .u64 x1 4294967295) * (andK .u64 y1 4294967295))) 32)))), pl 12 (.int .u64 (andK .u64 (IntKind.wrap .u64 ((IntKind.wrap .u64 ((shrK .u64 x1 32) * (andK .u64 y1 4294967295))) + (shrK .u64 (IntKind.wrap .u64 ((andK .u64 x1 4294967295) * (andK .u64 y1 4294967295))) 32))) 4294967295))] hF hS Fol (by kernel_rfl) (by kernel_rfl) (by kernel_rfl) ?_ (fun a w hF hS => ?_)
  · exact obs_nil
  refine reg [⟨true, [], vS (Op.shift .shr .u64 (IntKind.wrap .u64 ((IntKind.wrap .u64 ((shrK .u64 x1 32) * (andK .u64 y1 4294967295))) + (shrK .u64 (IntKind.wrap .u64 ((andK .u64 x1 4294967295) * (andK .u64 y1 4294967295))) 32))) .u64 32), .int .u64 (shrK .u64 (IntKind.wrap .u64 ((IntKind.wrap .u64 ((shrK .u64 x1 32) * (andK .u64 y1 4294967295))) + (shrK .u64 (IntKind.wrap .u64 ((andK .u64 x1 4294967295) * (andK .u64 y1 4294967295))) 32))) 32)⟩] [none, some (.int .u64 (shrK .u64 (IntKind.wrap .u64 ((IntKind.wrap .u64 ((shrK .u64 x1 32) * (andK .u64 y1 4294967295))) + (shrK .u64 (IntKind.wrap .u64 ((andK .u64 x1 4294967295) * (andK .u64 y1 4294967295))) 32))) 32)), none] [0, 1, 6, 7, 9, 12, 13] [pl 0 (.int .u64 x1), pl 1 (.int .u64 y1), pl 6 (.int .u64 (andK .u64 x1 4294967295)), pl 7 (.int .u64 (shrK .u64 x1 32)), pl 9 (.int .u64 (shrK .u64 y1 32)), pl 12 (.int .u64 (andK .u64 (IntKind.wrap .u64 ((IntKind.wrap .u64 ((shrK .u64 x1 32) * (andK .u64 y1 4294967295))) + (shrK .u64 (IntKind.wrap .u64 ((andK .u64 x1 4294967295) * (andK .u64 y1 4294967295))) 32))) 4294967295)), pl 13 (.int .u64 (shrK .u64 (IntKind.wrap .u64 ((IntKind.wrap .u64 ((shrK .u64 x1 32) * (andK .u64 y1 4294967295))) + (shrK .u64 (IntKind.wrap .u64 ((andK .u64 x1 4294967295) * (andK .u64 y1 4294967295))) 32))) 32))] hF hS Fol (by kernel_rfl) (by kernel_rfl) (by kernel_rfl) ?_ (fun a w hF hS => ?_)
  · exact obs_cons (ob_shr (fun _ => by decide)) <| obs_nil
  refine reg [] [] [0, 1, 7, 9, 12, 13] [pl 0 (.int .u64 x1), pl 1 (.int .u64 y1), pl 7 (.int .u64 (shrK .u64 x1 32)), pl 9 (.int .u64 (shrK .u64 y1 32)), pl 12 (.int .u64 (IntKind.wrap .u64 ((andK .u64 (IntKind.wrap .u64 ((IntKind.wrap .u64 ((shrK .u64 x1 32) * (andK .u64 y1 4294967295))) + (shrK .u64 (IntKind.wrap .u64 ((andK .u64 x1 4294967295) * (andK .u64 y1 4294967295))) 32))) 4294967295) + (IntKind.wrap .u64 ((andK .u64 x1 4294967295) * (shrK .u64 y1 32)))))), pl 13 (.int .u64 (shrK .u64 (IntKind.wrap .u64 ((IntKind.wrap .u64 ((shrK .u64 x1 32) * (andK .u64 y1 4294967295))) + (shrK .u64 (IntKind.wrap .u64 ((andK .u64 x1 4294967295) * (andK .u64 y1 4294967295))) 32))) 32))] hF hS Fol (by kernel_rfl) (by kernel_rfl) (by kernel_rfl) ?_ (fun a w hF hS => ?_)
  · exact obs_nil
  refine reg [⟨true, [], vS (Op.shift .shr .u64 (IntKind.wrap .u64 ((andK .u64 (IntKind.wrap .u64 ((IntKind.wrap .u64 ((shrK .u64 x1 32) * (andK .u64 y1 4294967295))) + (shrK .u64 (IntKind.wrap .u64 ((andK .u64 x1 4294967295) * (andK .u64 y1 4294967295))) 32))) 4294967295) + (IntKind.wrap .u64 ((andK .u64 x1 4294967295) * (shrK .u64 y1 32))))) .u64 32), .int .u64 (shrK .u64 (IntKind.wrap .u64 ((andK .u64 (IntKind.wrap .u64 ((IntKind.wrap .u64 ((shrK .u64 x1 32) * (andK .u64 y1 4294967295))) + (shrK .u64 (IntKind.wrap .u64 ((andK .u64 x1 4294967295) * (andK .u64 y1 4294967295))) 32))) 4294967295) + (IntKind.wrap .u64 ((andK .u64 x1 4294967295) * (shrK .u64 y1 32))))) 32)⟩] [none, none, none, none, none, none, some (.int .u64 (shrK .u64 (IntKind.wrap .u64 ((andK .u64 (IntKind.wrap .u64 ((IntKind.wrap .u64 ((shrK .u64 x1 32) * (andK .u64 y1 4294967295))) + (shrK .u64 (IntKind.wrap .u64 ((andK .u64 x1 4294967295) * (andK .u64 y1 4294967295))) 32))) 4294967295) + (IntKind.wrap .u64 ((andK .u64 x1 4294967295) * (shrK .u64 y1 32))))) 32)), none, none] [0, 1, 4] [pl 0 (.int .u64 x1), pl 1 (.int .u64 y1), pl 4 (.int .u64 (IntKind.wrap .u64 ((IntKind.wrap .u64 ((IntKind.wrap .u64 ((shrK .u64 x1 32) * (shrK .u64 y1 32))) + (shrK .u64 (IntKind.wrap .u64 ((IntKind.wrap .u64 ((shrK .u64 x1 32) * (andK .u64 y1 4294967295))) + (shrK .u64 (IntKind.wrap .u64 ((andK .u64 x1 4294967295) * (andK .u64 y1 4294967295))) 32))) 32))) + (shrK .u64 (IntKind.wrap .u64 ((andK .u64 (IntKind.wrap .u64 ((IntKind.wrap .u64 ((shrK .u64 x1 32) * (andK .u64 y1 4294967295))) + (shrK .u64 (IntKind.wrap .u64 ((andK .u64 x1 4294967295) * (andK .u64 y1 4294967295))) 32))) 4294967295) + (IntKind.wrap .u64 ((andK .u64 x1 4294967295) * (shrK .u64 y1 32))))) 32))))] hF hS Fol (by kernel_rfl) (by kernel_rfl) (by kernel_rfl) ?_ (fun a w hF hS => ?_)
  · exact obs_cons (ob_shr (fun _ => by decide)) <| obs_nil
  refine reg [] [] [4, 5] [pl 4 (.int .u64 (IntKind.wrap .u64 ((IntKind.wrap .u64 ((IntKind.wrap .u64 ((shrK .u64 x1 32) * (shrK .u64 y1 32))) + (shrK .u64 (IntKind.wrap .u64 ((IntKind.wrap .u64 ((shrK .u64 x1 32) * (andK .u64 y1 4294967295))) + (shrK .u64 (IntKind.wrap .u64 ((andK .u64 x1 4294967295) * (andK .u64 y1 4294967295))) 32))) 32))) + (shrK .u64 (IntKind.wrap .u64 ((andK .u64 (IntKind.wrap .u64 ((IntKind.wrap .u64 ((shrK .u64 x1 32) * (andK .u64 y1 4294967295))) + (shrK .u64 (IntKind.wrap .u64 ((andK .u64 x1 4294967295) * (andK .u64 y1 4294967295))) 32))) 4294967295) + (IntKind.wrap .u64 ((andK .u64 x1 4294967295) * (shrK .u64 y1 32))))) 32)))), pl 5 (.int .u64 (IntKind.wrap .u64 (x1 * y1)))] hF hS Fol (by kernel_rfl) (by kernel_rfl) (by kernel_rfl) ?_ (fun a w hF hS => ?_)
  · exact obs_nil
  refine wpIn_ret ?_
  have hm : some ((IntKind.wrap .u64 ((IntKind.wrap .u64 ((IntKind.wrap .u64 ((shrK .u64 x1 32) * (shrK .u64 y1 32))) + (shrK .u64 (IntKind.wrap .u64 ((IntKind.wrap .u64 ((shrK .u64 x1 32) * (andK .u64 y1 4294967295))) + (shrK .u64 (IntKind.wrap .u64 ((andK .u64 x1 4294967295) * (andK .u64 y1 4294967295))) 32))) 32))) + (shrK .u64 (IntKind.wrap .u64 ((andK .u64 (IntKind.wrap .u64 ((IntKind.wrap .u64 ((shrK .u64 x1 32) * (andK .u64 y1 4294967295))) + (shrK .u64 (IntKind.wrap .u64 ((andK .u64 x1 4294967295) * (andK .u64 y1 4294967295))) 32))) 4294967295) + (IntKind.wrap .u64 ((andK .u64 x1 4294967295) * (shrK .u64 y1 32))))) 32))), (IntKind.wrap .u64 (x1 * y1))) = some r := hm
  obtain rfl := Option.some.inj hm
  exact retV (rs := [.tmp 4, .tmp 5]) (vs := [.int .u64 (IntKind.wrap .u64 ((IntKind.wrap .u64 ((IntKind.wrap .u64 ((shrK .u64 x1 32) * (shrK .u64 y1 32))) + (shrK .u64 (IntKind.wrap .u64 ((IntKind.wrap .u64 ((shrK .u64 x1 32) * (andK .u64 y1 4294967295))) + (shrK .u64 (IntKind.wrap .u64 ((andK .u64 x1 4294967295) * (andK .u64 y1 4294967295))) 32))) 32))) + (shrK .u64 (IntKind.wrap .u64 ((andK .u64 (IntKind.wrap .u64 ((IntKind.wrap .u64 ((shrK .u64 x1 32) * (andK .u64 y1 4294967295))) + (shrK .u64 (IntKind.wrap .u64 ((andK .u64 x1 4294967295) * (andK .u64 y1 4294967295))) 32))) 4294967295) + (IntKind.wrap .u64 ((andK .u64 x1 4294967295) * (shrK .u64 y1 32))))) 32))), .int .u64 (IntKind.wrap .u64 (x1 * y1))]) hF rfl (rv_t (by kernel_rfl) <| rv_t (by kernel_rfl) <| rv_nil) rfl ⟨rfl, hS⟩

noncomputable def bits_Mul_J1  (x1 : Int) (y1 : Int) : Option (Int × Int) :=
  (bits_Mul64_m x1 y1).bind fun r1 => some (r1.1, r1.2)

noncomputable def bits_Mul_m  (x1 : Int) (y1 : Int) : Option (Int × Int) :=
  (bits_Mul_J1 x1 y1)

set_option maxRecDepth 100000 in
set_option maxHeartbeats 4000000 in
theorem bits_Mul_w {x1 : Int} {y1 : Int} {r : (Int × Int)} {w0 w : World} {B : Nat} {fs : List HP} (hm : bits_Mul_m x1 y1 = some r) (hS : Sep w0 B w (fs)) :
    Calls Try.prog 148 #[.int .u64 x1, .int .u64 y1] w fun e w' => e = .returned (.tuple #[.int .u64 r.1, .int .u64 r.2]) ∧ Sep w0 B w' (fs) := by
  unfold bits_Mul_m at hm
  replace hm := start_b hm
  refine enter (l := [.int .u64 x1, .int .u64 y1]) (n := 30) Try.func148 rfl rfl (by simp) (fun a hF => ?_)
  refine reg [] [] [0, 1] [pl 0 (.int .u64 x1), pl 1 (.int .u64 y1)] hF hS Fol (by kernel_rfl) (by kernel_rfl) (by kernel_rfl) ?_ (fun a w hF hS => ?_)
  · exact obs_nil
  refine seq_cut (fun a w => Fr 30 [pl 0 (.int .u64 x1), pl 1 (.int .u64 y1)] a ∧ Sep w0 B w (fs) ∧ ((bits_Mul_J1 x1 y1)).bind some = some r) ?_ ?_
  · rintro a w ⟨hF, hS, hm⟩
    unfold bits_Mul_J1 at hm
    obtain ⟨r1, hr1, hm⟩ := call_b hm
    refine reg [⟨false, [], callFunc 191 #[.int .u64 x1, .int .u64 y1], .tuple #[.int .u64 r1.1, .int .u64 r1.2]⟩] [none, none, some (.tuple #[.int .u64 r1.1, .int .u64 r1.2]), none, none, none, none, none] [8, 9] [pl 8 (.int .u64 r1.1), pl 9 (.int .u64 r1.2)] hF hS Fol (by kernel_rfl) (by kernel_rfl) (by kernel_rfl) ?_ (fun a w hF hS => ?_)
    · exact obs_cons (ob_call Try.func191 (by kernel_rfl) rfl (fun _ _ hS => bits_Mul64_w hr1 hS )) <| obs_nil
    refine reg [] [] [4, 5] [pl 4 (.int .u64 r1.1), pl 5 (.int .u64 r1.2)] hF hS Fol (by kernel_rfl) (by kernel_rfl) (by kernel_rfl) ?_ (fun a w hF hS => ?_)
    · exact obs_nil
    refine wpIn_ret ?_
    have hm : some (r1.1, r1.2) = some r := hm
    obtain rfl := Option.some.inj hm
    exact retV (rs := [.tmp 4, .tmp 5]) (vs := [.int .u64 r1.1, .int .u64 r1.2]) hF rfl (rv_t (by kernel_rfl) <| rv_t (by kernel_rfl) <| rv_nil) rfl ⟨rfl, hS⟩
  · refine cond_f ?_
    refine wpIn_skip ?_
    refine then_n ?_
    exact ⟨hF.weak [0, 1] (by kernel_rfl), hS, hm⟩

noncomputable def slices_Repeat_J4  (r1 : (Int × Int)) (newslice1 : List Int) (n2 : Int) : Option (St (List Int × Int) (List Int)) :=
  asrt (0 ≤ n2 ∧ n2 ≤ (((Int.toNat (w64 r1.2)) : Nat) : Int) ∧ (((Int.toNat (w64 r1.2)) : Nat) : Int) ≤ (((Int.toNat (w64 r1.2)) : Nat) : Int)) <| asrt (0 ≤ (0 : Int) ∧ (0 : Int) ≤ n2 ∧ n2 ≤ (((Int.toNat (w64 r1.2)) : Nat) : Int)) <| some (.next ((putL newslice1 (Int.toNat n2) (List.take ((cut newslice1 n2 (((Int.toNat (w64 r1.2)) : Nat) : Int)).length) (cut newslice1 (0 : Int) n2))), (w64 (n2 + (minI (((cut newslice1 n2 (((Int.toNat (w64 r1.2)) : Nat) : Int)).length : Nat) : Int) (((cut newslice1 (0 : Int) n2).length : Nat) : Int))))))

noncomputable def slices_Repeat_J3  (newslice2 : List Int) : Option (List Int) :=
  some newslice2

noncomputable def slices_Repeat_K1  : (List Int) → Option (List Int) :=
  fun (x : (List Int)) => match x with | newslice2 => slices_Repeat_J3 newslice2

noncomputable def slices_Repeat_L1  (r1 : (Int × Int)) : (List Int × Int) → Option (St (List Int × Int) (List Int)) :=
  fun (x : (List Int × Int)) => match x with | (newslice1, n2) => if (decide (n2 < (((Int.toNat (w64 r1.2)) : Nat) : Int))) then ((slices_Repeat_J4 r1 newslice1 n2)) else (some (.done newslice1))

noncomputable def slices_Repeat_J2  (x1 : List Int) (r1 : (Int × Int)) : Option (List Int) :=
  asrt ((0 : Int) ≤ (w64 r1.2) ∧ (w64 r1.2) ≤ bigN) <| (loop (slices_Repeat_L1 r1) ((putL (List.replicate (Int.toNat (w64 r1.2)) (0 : Int)) 0 (List.take (Int.toNat (w64 r1.2)) x1)), (minI (((Int.toNat (w64 r1.2)) : Nat) : Int) (x1.length : Int)))).bind slices_Repeat_K1

noncomputable def slices_Repeat_J1  (x1 : List Int) (count1 : Int) : Option (List Int) :=
  (bits_Mul_m (IntKind.wrap .u64 (x1.length : Int)) (IntKind.wrap .u64 count1)).bind fun r1 => if ((decide ((0 : Int) < r1.1)) || (decide ((9223372036854775807 : Int) < r1.2))) then none else ((slices_Repeat_J2 x1 r1))

noncomputable def slices_Repeat_m  (x1 : List Int) (count1 : Int) : Option (List Int) :=
  if (decide (count1 < 0)) then none else ((slices_Repeat_J1 x1 count1))

set_option maxRecDepth 100000 in
set_option maxHeartbeats 4000000 in
theorem slices_Repeat_w {A1 : Option Addr} {c1 : Nat} {n1 : Nat} {x1 : List Int} {count1 : Int} {r : (List Int)} {w0 w : World} {B : Nat} {fs : List HP} (hm : slices_Repeat_m x1 count1 = some r) (hS : Sep w0 B w (fs)) (hr_x1 : RdF w0 B fs A1 (vI x1)) (_hc_x1 : x1.length ≤ c1) (_hn_x1 : n1 = x1.length) :
    Calls Try.prog 95 #[.slice A1 n1 c1, .int .i64 count1] w fun e w' => ∃ v, e = .returned v ∧ ∃ (A3 : Option Addr) (c3 : Nat), v = .slice A3 r.length c3 ∧ Sep w0 B w' (own 3 (.slice A3 r.length c3) (vI r) :: fs) := by
  obtain ⟨i3, hi3, hz3, hs3, hb3⟩ := info_parts Info3
  obtain rfl := _hn_x1
  unfold slices_Repeat_m at hm
  replace hm := start_b hm
  refine enter (l := [.slice A1 x1.length c1, .int .i64 count1]) (n := 48) Try.func95 rfl rfl (by simp) (fun a hF => ?_)
  refine reg [] [] [0, 1] [pl 0 (.slice A1 x1.length c1), pl 1 (.int .i64 count1)] hF hS Fol (by kernel_rfl) (by kernel_rfl) (by kernel_rfl) ?_ (fun a w hF hS => ?_)
  · exact obs_nil
  refine seq_cut (fun a w => Fr 48 [pl 0 (.slice A1 x1.length c1), pl 1 (.int .i64 count1)] a ∧ Sep w0 B w (fs) ∧ ((slices_Repeat_J1 x1 count1)).bind some = some r) ?_ ?_
  · rintro a w ⟨hF, hS, hm⟩
    unfold slices_Repeat_J1 at hm
    obtain ⟨r1, hr1, hm⟩ := call_b hm
    refine reg [⟨false, [], callFunc 148 #[.int .u64 (IntKind.wrap .u64 (x1.length : Int)), .int .u64 (IntKind.wrap .u64 count1)], .tuple #[.int .u64 r1.1, .int .u64 r1.2]⟩] [none, none, none, none, none, some (.tuple #[.int .u64 r1.1, .int .u64 r1.2]), none, none, none, none, none] [0, 5, 6] [pl 0 (.slice A1 x1.length c1), pl 5 (.int .u64 r1.1), pl 6 (.int .u64 r1.2)] hF hS Fol (by kernel_rfl) (by kernel_rfl) (by kernel_rfl) ?_ (fun a w hF hS => ?_)
    · exact obs_cons (ob_call Try.func148 (by kernel_rfl) rfl (fun _ _ hS => bits_Mul_w hr1 hS )) <| obs_nil
    refine seq_cut (fun a w => Fr 48 [pl 0 (.slice A1 x1.length c1), pl 6 (.int .u64 r1.2)] a ∧ Sep w0 B w (fs) ∧ ((slices_Repeat_J2 x1 r1)).bind some = some r) ?_ ?_
    · rintro a w ⟨hF, hS, hm⟩
      unfold slices_Repeat_J2 at hm
      refine seqR ?_
      obtain ⟨hp1, hm⟩ := asrt_b hm
      refine at_run 2 [] [] [0, 29] [pl 0 (.slice A1 x1.length c1), pl 29 (.int .i64 (w64 r1.2))] hF hS (by kernel_rfl) (by kernel_rfl) ?_ (fun a w hF hS => ?_)
      · exact obs_nil
      obtain ⟨A2, c2, w, hrun, hS⟩ := run_mk1 (P := Try.prog) (t := 22) (Value.int .i64) (0 : Int) hS .i64 .i64 Und22 hi3 hz3 hs3 (by omega) rfl hp1
      have hS : Sep w0 B w (own 3 (.slice A2 (Int.toNat (w64 r1.2)) c2) (vI (List.replicate (Int.toNat (w64 r1.2)) (0 : Int))) :: fs) := hS
      refine at_do (d := 30) hF (by kernel_rfl) (by kernel_rfl) hrun (fun a hF => ?_)
      refine at_run 1 [] [] [0, 7] [pl 0 (.slice A1 x1.length c1), pl 7 (.slice A2 (Int.toNat (w64 r1.2)) c2)] hF hS (by kernel_rfl) (by kernel_rfl) ?_ (fun a w hF hS => ?_)
      · exact obs_nil
      refine at_end [0, 7] [pl 0 (.slice A1 x1.length c1), pl 7 (.slice A2 (Int.toNat (w64 r1.2)) c2)] hF rfl (by kernel_rfl) (fun hF => ?_)
      refine then_n ?_
      refine seqR ?_
      refine at_run 2 [] [] [7, 31, 32] [pl 7 (.slice A2 (Int.toNat (w64 r1.2)) c2), pl 31 (.slice A2 (Int.toNat (w64 r1.2)) c2), pl 32 (.slice A1 x1.length c1)] hF hS (by kernel_rfl) (by kernel_rfl) ?_ (fun a w hF hS => ?_)
      · exact obs_nil
      obtain ⟨w, hrun, hS⟩ := run_copy0 (P := Try.prog) (t := 22) (t2 := 22) (ty := 3) (ys := x1) (A2 := A1) (n2 := x1.length) (c2 := c1) (hS.at_ 0 rfl) (hr_x1 _ (hS.dropN 1)) rfl Und22 hi3 hs3
      refine at_do (d := 33) hF (by kernel_rfl) (by kernel_rfl) hrun (fun a hF => ?_)
      have hS : Sep w0 B w (own 3 (.slice A2 (Int.toNat (w64 r1.2)) c2) (vI (putL (List.replicate (Int.toNat (w64 r1.2)) (0 : Int)) 0 (List.take (Int.toNat (w64 r1.2)) x1))) :: fs) := hS
      refine at_run 1 [] [] [7, 8] [pl 7 (.slice A2 (Int.toNat (w64 r1.2)) c2), pl 8 (.int .i64 (minI (((Int.toNat (w64 r1.2)) : Nat) : Int) (x1.length : Int)))] hF hS (by kernel_rfl) (by kernel_rfl) ?_ (fun a w hF hS => ?_)
      · exact obs_nil
      refine at_end [7, 8] [pl 7 (.slice A2 (Int.toNat (w64 r1.2)) c2), pl 8 (.int .i64 (minI (((Int.toNat (w64 r1.2)) : Nat) : Int) (x1.length : Int)))] hF rfl (by kernel_rfl) (fun hF => ?_)
      refine then_n ?_
      refine seq_cut (fun a w => ∃ (newslice2 : List Int), Fr 48 [pl 7 (.slice A2 (Int.toNat (w64 r1.2)) c2)] a ∧ Sep w0 B w (own 3 (.slice A2 (Int.toNat (w64 r1.2)) c2) (vI newslice2) :: fs) ∧ (slices_Repeat_J3 newslice2).bind some = some r) ?_ ?_
      · rintro a w ⟨newslice2, hF, hS, hm⟩
        unfold slices_Repeat_J3 at hm
        refine reg [] [] [4] [pl 4 (.slice A2 (Int.toNat (w64 r1.2)) c2)] hF hS Fol (by kernel_rfl) (by kernel_rfl) (by kernel_rfl) ?_ (fun a w hF hS => ?_)
        · exact obs_nil
        refine wpIn_ret ?_
        have hl1 := (hS.at_ 0 rfl).len1
        have hS := (hS.at_ 0 rfl).reN hl1
        have hS : Sep w0 B w (own 3 (.slice A2 newslice2.length c2) (vI newslice2) :: fs) := hS
        have hF := hF.cast (t := 4) (v := .slice A2 (Int.toNat (w64 r1.2)) c2) (v' := .slice A2 newslice2.length c2) rfl rfl (congrArg (fun k => Value.slice A2 k c2) hl1)
        have hm : some newslice2 = some r := hm
        obtain rfl := Option.some.inj hm
        exact retV (rs := [.tmp 4]) (vs := [.slice A2 newslice2.length c2]) hF rfl (rv_t (by kernel_rfl) <| rv_nil) rfl ⟨_, rfl, A2, c2, rfl, hS⟩
      · refine wpIn_block ?_
        refine wp_loop_model (S := (List Int × Int)) (R := (List Int)) (slices_Repeat_L1 r1) (fun x => (slices_Repeat_K1 x).bind some) r (fun (x : (List Int × Int)) a w => Fr 48 [pl 7 (.slice A2 (Int.toNat (w64 r1.2)) c2), pl 8 (.int .i64 x.2)] a ∧ Sep w0 B w (own 3 (.slice A2 (Int.toNat (w64 r1.2)) c2) (vI x.1) :: fs)) (assoc_b hm) ⟨hF.weak [7, 8] (by kernel_rfl), hS⟩ ?_
        clear hF hS hm
        rintro nn1 ⟨newslice1, n2⟩ a w ⟨hF, hS⟩ hm
        generalize hφ1 : stK (slices_Repeat_L1 r1) nn1 (fun x => (slices_Repeat_K1 x).bind some) = φ1 at hm
        unfold slices_Repeat_L1 at hm
        dsimp only at hF hS hm
        refine seq_cut (fun a w => Fr 48 [pl 7 (.slice A2 (Int.toNat (w64 r1.2)) c2), pl 8 (.int .i64 n2)] a ∧ Sep w0 B w (own 3 (.slice A2 (Int.toNat (w64 r1.2)) c2) (vI newslice1) :: fs) ∧ ((slices_Repeat_J4 r1 newslice1 n2)).bind φ1 = some r) ?_ ?_
        · rintro a w ⟨hF, hS, hm⟩
          unfold slices_Repeat_J4 at hm
          refine wpIn_block ?_
          obtain ⟨hp2, hm⟩ := asrt_b hm
          obtain ⟨hp3, hm⟩ := asrt_b hm
          have hb1 := cutb (n := (Int.toNat (w64 r1.2))) ((hS.at_ 0 rfl).len1) hp2
          have hb2 := cutb (n := (Int.toNat (w64 r1.2))) ((hS.at_ 0 rfl).len1) hp3
          refine regMix4 [0, 1, 2, 3, 4, 5, 6] [7, 8, 9] [⟨true, [], vS (Instr.sliceAt 22 (.slice A2 (Int.toNat (w64 r1.2)) c2) (some (.int .i64 n2)) none none), .slice (cutAddr A2 c2 n2) ((cut newslice1 n2 (((Int.toNat (w64 r1.2)) : Nat) : Int)).length) (c2 - Int.toNat n2)⟩, ⟨true, [], vS (Instr.sliceAt 22 (.slice A2 (Int.toNat (w64 r1.2)) c2) none (some (.int .i64 n2)) none), .slice (cutAddr A2 c2 (0 : Int)) ((cut newslice1 (0 : Int) n2).length) (c2 - Int.toNat (0 : Int))⟩] [none, none, none, some (.slice (cutAddr A2 c2 n2) ((cut newslice1 n2 (((Int.toNat (w64 r1.2)) : Nat) : Int)).length) (c2 - Int.toNat n2)), none, none, some (.slice (cutAddr A2 c2 (0 : Int)) ((cut newslice1 (0 : Int) n2).length) (c2 - Int.toNat (0 : Int)))] [7, 38, 41, 44] [pl 7 (.slice A2 (Int.toNat (w64 r1.2)) c2), pl 38 (.int .i64 n2), pl 41 (.slice (cutAddr A2 c2 n2) ((cut newslice1 n2 (((Int.toNat (w64 r1.2)) : Nat) : Int)).length) (c2 - Int.toNat n2)), pl 44 (.slice (cutAddr A2 c2 (0 : Int)) ((cut newslice1 (0 : Int) n2).length) (c2 - Int.toNat (0 : Int)))] hF hS Fol (by kernel_rfl) (by kernel_rfl) (by kernel_rfl) (by kernel_rfl) (by kernel_rfl) ?_ (fun a w hF hS => ?_)
          · exact obs_cons (ob_cutn (l := newslice1) (k := .i64) (k' := .i64) Und22 hi3 hs3 ((hS.at_ 0 rfl).len1) (.inl rfl) (.inr ⟨rfl, rfl⟩) (fun _ => hb1) ((hS.at_ 0 rfl).cap1)) <| obs_cons (ob_cutn (l := newslice1) (k := .i64) (k' := .i64) Und22 hi3 hs3 ((hS.at_ 0 rfl).len1) (.inr ⟨rfl, rfl⟩) (.inl rfl) (fun _ => hb2) ((hS.at_ 0 rfl).cap1)) <| obs_nil
          obtain ⟨w, hrun, hS⟩ := run_copyC (P := Try.prog) (t := 22) (t2 := 22) (ty := 3) (ys := (cut newslice1 (0 : Int) n2)) (A2 := (cutAddr A2 c2 (0 : Int))) (n2 := (cut newslice1 (0 : Int) n2).length) (c2 := (c2 - Int.toNat (0 : Int))) (dc := (c2 - Int.toNat n2)) (hS.at_ 0 rfl) (Rd.cutF (hS.at_ 0 rfl).rd hb2 ((hS.at_ 0 rfl).cap1)) rfl Und22 hi3 hs3 hb1
          refine at_do (d := 45) hF (by kernel_rfl) (by kernel_rfl) hrun (fun a hF => ?_)
          have hS : Sep w0 B w (own 3 (.slice A2 (Int.toNat (w64 r1.2)) c2) (vI (putL newslice1 (Int.toNat n2) (List.take ((cut newslice1 n2 (((Int.toNat (w64 r1.2)) : Nat) : Int)).length) (cut newslice1 (0 : Int) n2)))) :: fs) := hS
          refine at_run 2 [] [] [7, 8] [pl 7 (.slice A2 (Int.toNat (w64 r1.2)) c2), pl 8 (.int .i64 (w64 (n2 + (minI (((cut newslice1 n2 (((Int.toNat (w64 r1.2)) : Nat) : Int)).length : Nat) : Int) (((cut newslice1 (0 : Int) n2).length : Nat) : Int)))))] hF hS (by kernel_rfl) (by kernel_rfl) ?_ (fun a w hF hS => ?_)
          · exact obs_nil
          refine at_end [7, 8] [pl 7 (.slice A2 (Int.toNat (w64 r1.2)) c2), pl 8 (.int .i64 (w64 (n2 + (minI (((cut newslice1 n2 (((Int.toNat (w64 r1.2)) : Nat) : Int)).length : Nat) : Int) (((cut newslice1 (0 : Int) n2).length : Nat) : Int)))))] hF rfl (by kernel_rfl) (fun hF => ?_)
          refine np_n ?_
          refine block_n ?_
          refine then_n ?_
          rw [← hφ1] at hm
          exact ⟨((putL newslice1 (Int.toNat n2) (List.take ((cut newslice1 n2 (((Int.toNat (w64 r1.2)) : Nat) : Int)).length) (cut newslice1 (0 : Int) n2))), (w64 (n2 + (minI (((cut newslice1 n2 (((Int.toNat (w64 r1.2)) : Nat) : Int)).length : Nat) : Int) (((cut newslice1 (0 : Int) n2).length : Nat) : Int))))), ⟨hF.weak [7, 8] (by kernel_rfl), hS⟩, hm⟩
        · refine reg [] [] [7, 8, 37] [pl 7 (.slice A2 (Int.toNat (w64 r1.2)) c2), pl 8 (.int .i64 n2), pl 37 (.bool (decide (n2 < (((Int.toNat (w64 r1.2)) : Nat) : Int))))] hF hS Fol (by kernel_rfl) (by kernel_rfl) (by kernel_rfl) ?_ (fun a w hF hS => ?_)
          · exact obs_nil
          refine cond_ev (t := 37) (b := decide (n2 < (((Int.toNat (w64 r1.2)) : Nat) : Int))) hF (by kernel_rfl) (fun hb => ?_) (fun hb => ?_)
          · replace hm := if_t hm hb
            refine wpIn_skip ?_
            refine then_n ?_
            exact ⟨hF.weak [7, 8] (by kernel_rfl), hS, hm⟩
          · replace hm := if_f hm hb
            refine wpIn_exit ?_
            refine then_e (then_e (block_e (then_n ?_)))
            rw [← hφ1] at hm
            replace hm := done_b hm
            unfold slices_Repeat_K1 at hm
            try dsimp only at hm
            have hm : (slices_Repeat_J3 newslice1).bind some = some r := hm
            exact ⟨newslice1, hF.weak [7] (by kernel_rfl), hS, hm⟩
    · refine reg [] [] [0, 6, 26] [pl 0 (.slice A1 x1.length c1), pl 6 (.int .u64 r1.2), pl 26 (.bool ((decide ((0 : Int) < r1.1)) || (decide ((9223372036854775807 : Int) < r1.2))))] hF hS Fol (by kernel_rfl) (by kernel_rfl) (by kernel_rfl) ?_ (fun a w hF hS => ?_)
      · exact obs_nil
      refine cond_ev (t := 26) (b := (decide ((0 : Int) < r1.1)) || (decide ((9223372036854775807 : Int) < r1.2))) hF (by kernel_rfl) (fun hb => ?_) (fun hb => ?_)
      · replace hm := if_t hm hb
        simp at hm
      · replace hm := if_f hm hb
        refine wpIn_skip ?_
        refine then_n ?_
        exact ⟨hF.weak [0, 6] (by kernel_rfl), hS, hm⟩
  · refine reg [] [] [0, 1, 10] [pl 0 (.slice A1 x1.length c1), pl 1 (.int .i64 count1), pl 10 (.bool (decide (count1 < 0)))] hF hS Fol (by kernel_rfl) (by kernel_rfl) (by kernel_rfl) ?_ (fun a w hF hS => ?_)
    · exact obs_nil
    refine cond_ev (t := 10) (b := decide (count1 < 0)) hF (by kernel_rfl) (fun hb => ?_) (fun hb => ?_)
    · replace hm := if_t hm hb
      simp at hm
    · replace hm := if_f hm hb
      refine wpIn_skip ?_
      refine then_n ?_
      exact ⟨hF.weak [0, 1] (by kernel_rfl), hS, hm⟩

noncomputable def hex_Shortest_1_m  (at1 : Int) (p1_W1 : Int) (p1_H1 : Int) (p1_Cells1 : List Int) : Option Int :=
  asrt (0 ≤ at1 ∧ at1 < (p1_Cells1.length : Int)) <| some (w64 (1 - (minI (geti p1_Cells1 at1) 1)))

set_option maxRecDepth 100000 in
set_option maxHeartbeats 4000000 in
theorem hex_Shortest_1_w {at1 : Int} {g1 : Nat} {p1_W1 : Int} {p1_H1 : Int} {A1 : Option Addr} {c1 : Nat} {n1 : Nat} {p1_Cells1 : List Int} {r : Int} {w0 w : World} {B : Nat} {fs : List HP} (hm : hex_Shortest_1_m at1 p1_W1 p1_H1 p1_Cells1 = some r) (hS : Sep w0 B w (blk g1 24 #[.int .i64 p1_W1, .int .i64 p1_H1, .slice A1 n1 c1] :: fs)) (hr_p1_Cells1 : RdF w0 B fs A1 (vI p1_Cells1)) (_hc_p1_Cells1 : p1_Cells1.length ≤ c1) (_hn_p1_Cells1 : n1 = p1_Cells1.length) :
    Calls Try.prog 96 #[.int .i64 at1, .pointer (some ⟨g1, 0, none⟩)] w fun e w' => e = .returned (.int .i64 r) ∧ Sep w0 B w' (blk g1 24 #[.int .i64 p1_W1, .int .i64 p1_H1, .slice A1 n1 c1] :: fs) := by
  obtain ⟨i3, hi3, hz3, hs3, hb3⟩ := info_parts Info3
  obtain rfl := _hn_p1_Cells1
  unfold hex_Shortest_1_m at hm
  replace hm := start_b hm
  refine enter (l := [.int .i64 at1, .pointer (some ⟨g1, 0, none⟩)]) (n := 11) Try.func96 rfl rfl (by simp) (fun a hF => ?_)
  refine reg [] [] [0, 1] [pl 0 (.int .i64 at1), pl 1 (.pointer (some ⟨g1, 0, none⟩))] hF hS Fol (by kernel_rfl) (by kernel_rfl) (by kernel_rfl) ?_ (fun a w hF hS => ?_)
  · exact obs_nil
  obtain ⟨hp1, hm⟩ := asrt_b hm
  refine reg [⟨false, [], vS (Instr.loadAt 22 (.pointer (some ⟨g1, 2, none⟩))), .slice A1 p1_Cells1.length c1⟩, ⟨true, [], vS (Instr.indexAt 22 (.slice A1 p1_Cells1.length c1) (.int .i64 at1)), .pointer (some (sAddr A1 at1))⟩, ⟨false, [], vS (Instr.loadAt 3 (.pointer (some (sAddr A1 at1)))), .int .i64 (geti p1_Cells1 at1)⟩, ⟨true, [], vS (Builtin.min_ #[3, 3] 3 #[.int .i64 (geti p1_Cells1 at1), .int .i64 1]), .int .i64 (minI (geti p1_Cells1 at1) 1)⟩] [none, some (.slice A1 p1_Cells1.length c1), none, some (.pointer (some (sAddr A1 at1))), some (.int .i64 (geti p1_Cells1 at1)), some (.int .i64 (minI (geti p1_Cells1 at1) 1)), none, none] [3] [pl 3 (.int .i64 (w64 (1 - (minI (geti p1_Cells1 at1) 1))))] hF hS Fol (by kernel_rfl) (by kernel_rfl) (by kernel_rfl) ?_ (fun a w hF hS => ?_)
  · exact obs_cons (ob_load Agg22 (fun _ _ hS => (hS.at_ 0 rfl).cell rfl)) <| obs_cons (ob_ix1 (f := (Value.int .i64)) (m := p1_Cells1) Und22 hi3 hs3 (hr_p1_Cells1 _ (hS.dropN 1)) rfl (fun _ => hp1)) <| obs_cons (ob_get1 (n := p1_Cells1.length) (m := p1_Cells1) (Value.int .i64) (0 : Int) Agg3 (fun _ hS => ⟨_, (hr_p1_Cells1 _ (hS.dropN 1))⟩) (fun _ hS => rfl) (fun _ => hp1)) <| obs_cons (ob_min rfl) <| obs_nil
  refine wpIn_ret ?_
  have hm : some (w64 (1 - (minI (geti p1_Cells1 at1) 1))) = some r := hm
  obtain rfl := Option.some.inj hm
  exact retV (rs := [.tmp 3]) (vs := [.int .i64 (w64 (1 - (minI (geti p1_Cells1 at1) 1)))]) hF rfl (rv_t (by kernel_rfl) <| rv_nil) rfl ⟨rfl, hS⟩

noncomputable def hex_Shortest_2_J4  (z1 : List (List Int)) : Option (St (List (List Int)) (List (List Int))) :=
  asrt (((z1.length : Int) : Int) + 1 ≤ bigR) <| some (.next (z1 ++ [([] : List Int)]))

noncomputable def hex_Shortest_2_J1  (at1 : Int) (n1 : Int) (p41 : List Int) (p53 : List (List Int)) : Option (List Int × List (List Int)) :=
  some ((p41.set (Int.toNat at1) n1), p53)

noncomputable def hex_Shortest_2_J3  (at1 : Int) (n1 : Int) (p41 : List Int) (z2 : List (List Int)) : Option (List Int × List (List Int)) :=
  asrt (0 ≤ n1 ∧ n1 < (z2.length : Int)) <| asrt ((((geti2 z2 n1).length : Nat) : Int) + 1 ≤ bigN) <| asrt (0 ≤ n1 ∧ n1 < (z2.length : Int)) <| (hex_Shortest_2_J1 at1 n1 p41) (z2.set (Int.toNat n1) ((geti2 z2 n1) ++ ([at1] : List Int)))

noncomputable def hex_Shortest_2_K1  (at1 : Int) (n1 : Int) (p41 : List Int) : (List (List Int)) → Option (List Int × List (List Int)) :=
  fun (x : (List (List Int))) => match x with | z2 => (hex_Shortest_2_J3 at1 n1 p41) z2

noncomputable def hex_Shortest_2_L1  (n1 : Int) : (List (List Int)) → Option (St (List (List Int)) (List (List Int))) :=
  fun (x : (List (List Int))) => match x with | z1 => if (decide ((z1.length : Int) ≤ n1)) then ((hex_Shortest_2_J4 z1)) else (some (.done z1))

noncomputable def hex_Shortest_2_J2  (at1 : Int) (n1 : Int) (p41 : List Int) (p51 : List (List Int)) : Option (List Int × List (List Int)) :=
  asrt (0 ≤ at1 ∧ at1 < (p41.length : Int)) <| (loop (hex_Shortest_2_L1 n1) p51).bind (hex_Shortest_2_K1 at1 n1 p41)
end Go.Proofs.Ytgogihcmnkncjaa
