/-
  Models and walks, printed by our own program (wip/gen).
-/
import Derived.Test.YtgafnmnacolgbaaFB
import Derived.Test.YtgafnmnacolgbaaLibG
import Derived.Test.YtgafnmnacolgbaaSI
namespace Go.Proofs.Ytgafnmnacolgbaa
open Go Go.GL Go.RowKit


noncomputable def gameroomlaw_ints_m (l1 : List Int) : Option (List Int) :=
  asrt ((0 : Int) + (l1.length : Int) ≤ bigN) <| some ([] ++ l1)

set_option maxRecDepth 100000 in
set_option maxHeartbeats 4000000 in
theorem gameroomlaw_ints_w {A1 : Option Addr} {c1 : Nat} {n1 : Nat} {l1 : List Int} {r : (List Int)} {w0 w : World} {B : Nat} {fs : List HP} (hm : gameroomlaw_ints_m l1 = some r) (hS : Sep w0 B w (fs)) (hr_l1 : RdF w0 B fs A1 (vI l1)) (_hc_l1 : l1.length ≤ c1) (_hn_l1 : n1 = l1.length) :
    Calls Try.prog 44 #[.slice A1 n1 c1] w fun e w' => ∃ v, e = .returned v ∧ ∃ (A3 : Option Addr) (c3 : Nat), v = .slice A3 r.length c3 ∧ Sep w0 B w' (own 3 (.slice A3 r.length c3) (vI r) :: fs) := by
  obtain ⟨i3, hi3, hz3, hs3, hb3⟩ := info_parts Info3
  obtain rfl := _hn_l1
  unfold gameroomlaw_ints_m at hm
  replace hm := start_b hm
  refine enter (l := [.slice A1 l1.length c1]) (n := 5) Try.func44 rfl rfl (by simp) (fun a hF => ?_)
  refine reg [] [] [0] [pl 0 (.slice A1 l1.length c1)] hF hS Fol (by kernel_rfl) (by kernel_rfl) (by kernel_rfl) ?_ (fun a w hF hS => ?_)
  · exact obs_nil
  refine seqR ?_
  obtain ⟨hp1, hm⟩ := asrt_b hm
  refine at_run 1 [] [] [3] [pl 3 (.slice A1 l1.length c1)] hF hS (by kernel_rfl) (by kernel_rfl) ?_ (fun a w hF hS => ?_)
  · exact obs_nil
  have hS : Sep w0 B w (own 3 (.slice none 0 0) (vI ([] : List Int)) :: fs) := hS.nil 3
  obtain ⟨A2, c2, w, hrun, hS⟩ := run_app1 (P := Try.prog) (t := 34) (m := ([] : List Int)) (ys := l1) (A2 := A1) (m2 := l1.length) (c2 := c1) (Value.int .i64) (0 : Int) (hS.at_ 0 rfl) (hr_l1 _ (hS.dropN 1)) rfl 34 Und34 hi3 hz3 hs3 (by omega) rfl (fun _ => rfl) hp1
  have hS : Sep w0 B w (own 3 (.slice A2 (([] ++ l1).length) c2) (vI ([] ++ l1)) :: fs) := hS
  refine at_do (d := 4) hF (by kernel_rfl) (by kernel_rfl) hrun (fun a hF => ?_)
  refine at_run 1 [] [] [2] [pl 2 (.slice A2 (([] ++ l1).length) c2)] hF hS (by kernel_rfl) (by kernel_rfl) ?_ (fun a w hF hS => ?_)
  · exact obs_nil
  refine at_end [2] [pl 2 (.slice A2 (([] ++ l1).length) c2)] hF rfl (by kernel_rfl) (fun hF => ?_)
  refine then_n ?_
  refine wp_ret ?_
  have hm : some ([] ++ l1) = some r := hm
  obtain rfl := Option.some.inj hm
  exact retV (rs := [.tmp 2]) (vs := [.slice A2 (([] ++ l1).length) c2]) hF rfl (rv_t (by kernel_rfl) <| rv_nil) rfl ⟨_, rfl, A2, c2, rfl, hS⟩

noncomputable def crib_check_1_m (c1 : Int) : Option Bool :=
  some ((decide (c1 < 0)) || (decide ((52 : Int) ≤ c1)))

set_option maxRecDepth 100000 in
set_option maxHeartbeats 4000000 in
theorem crib_check_1_w {c1 : Int} {r : Bool} {w0 w : World} {B : Nat} {fs : List HP} (hm : crib_check_1_m c1 = some r) (hS : Sep w0 B w (fs)) :
    Calls Try.prog 169 #[.int .i64 c1] w fun e w' => e = .returned (.bool r) ∧ Sep w0 B w' (fs) := by
  unfold crib_check_1_m at hm
  replace hm := start_b hm
  refine enter (l := [.int .i64 c1]) (n := 9) Try.func169 rfl rfl (by simp) (fun a hF => ?_)
  refine reg [] [] [0] [pl 0 (.int .i64 c1)] hF hS Fol (by kernel_rfl) (by kernel_rfl) (by kernel_rfl) ?_ (fun a w hF hS => ?_)
  · exact obs_nil
  refine reg [] [] [2] [pl 2 (.bool ((decide (c1 < 0)) || (decide ((52 : Int) ≤ c1))))] hF hS Fol (by kernel_rfl) (by kernel_rfl) (by kernel_rfl) ?_ (fun a w hF hS => ?_)
  · exact obs_nil
  refine wp_ret ?_
  have hm : some ((decide (c1 < 0)) || (decide ((52 : Int) ≤ c1))) = some r := hm
  obtain rfl := Option.some.inj hm
  exact retV (rs := [.tmp 2]) (vs := [.bool ((decide (c1 < 0)) || (decide ((52 : Int) ≤ c1)))]) hF rfl (rv_t (by kernel_rfl) <| rv_nil) rfl ⟨rfl, hS⟩

noncomputable def slices_IndexFunc_J3 (z1 : Int) : Option (St Int (Fl Unit Int)) :=
  some (.next (w64 (z1 + 1)))

noncomputable def slices_IndexFunc_J2 (s1 : List Int) (z1 : Int) : Option (St Int (Fl Unit Int)) :=
  asrt (0 ≤ z1 ∧ z1 < (s1.length : Int)) <| (crib_check_1_m (geti s1 z1)).bind fun r1 => if r1 then (some (.done (.ret z1))) else ((slices_IndexFunc_J3 z1))

noncomputable def slices_IndexFunc_J1 : Option Int :=
  some (-1)

noncomputable def slices_IndexFunc_K1 : (Fl Unit Int) → Option Int :=
  fun (x : (Fl Unit Int)) => match x with | .go _ => slices_IndexFunc_J1 | .ret x => some x

noncomputable def slices_IndexFunc_L1 (s1 : List Int) : Int → Option (St Int (Fl Unit Int)) :=
  fun (x : Int) => match x with | z1 => if (decide (z1 < (s1.length : Int))) then ((slices_IndexFunc_J2 s1 z1)) else (some (.done (.go ())))

noncomputable def slices_IndexFunc_m (s1 : List Int) : Option Int :=
  (loop (slices_IndexFunc_L1 s1) 0).bind slices_IndexFunc_K1

set_option maxRecDepth 100000 in
set_option maxHeartbeats 4000000 in
theorem slices_IndexFunc_w {A1 : Option Addr} {c1 : Nat} {n1 : Nat} {s1 : List Int} {r : Int} {w0 w : World} {B : Nat} {fs : List HP} (hm : slices_IndexFunc_m s1 = some r) (hS : Sep w0 B w (fs)) (hr_s1 : RdF w0 B fs A1 (vI s1)) (_hc_s1 : s1.length ≤ c1) (_hn_s1 : n1 = s1.length) :
    Calls Try.prog 189 #[.slice A1 n1 c1, .func (.func 169) #[] #[]] w fun e w' => e = .returned (.int .i64 r) ∧ Sep w0 B w' (fs) := by
  obtain ⟨i3, hi3, hz3, hs3, hb3⟩ := info_parts Info3
  obtain rfl := _hn_s1
  unfold slices_IndexFunc_m at hm
  replace hm := start_b hm
  refine enter (l := [.slice A1 s1.length c1, .func (.func 169) #[] #[]]) (n := 19) Try.func189 rfl rfl (by simp) (fun a hF => ?_)
  refine reg [] [] [0, 1] [pl 0 (.slice A1 s1.length c1), pl 1 (.func (.func 169) #[] #[])] hF hS Fol (by kernel_rfl) (by kernel_rfl) (by kernel_rfl) ?_ (fun a w hF hS => ?_)
  · exact obs_nil
  refine seq_cut (fun a w => Fr 19 [] a ∧ Sep w0 B w (fs) ∧ (slices_IndexFunc_J1).bind some = some r) ?_ ?_
  · rintro a w ⟨hF, hS, hm⟩
    unfold slices_IndexFunc_J1 at hm
    refine reg [] [] [4] [pl 4 (.int .i64 (-1))] hF hS Fol (by kernel_rfl) (by kernel_rfl) (by kernel_rfl) ?_ (fun a w hF hS => ?_)
    · exact obs_nil
    refine wp_ret ?_
    have hm : some (-1) = some r := hm
    obtain rfl := Option.some.inj hm
    exact retV (rs := [.tmp 4]) (vs := [.int .i64 (-1)]) hF rfl (rv_t (by kernel_rfl) <| rv_nil) rfl ⟨rfl, hS⟩
  · refine reg [] [] [0, 1, 7, 8] [pl 0 (.slice A1 s1.length c1), pl 1 (.func (.func 169) #[] #[]), pl 7 (.int .i64 (s1.length : Int)), pl 8 (.int .i64 0)] hF hS Fol (by kernel_rfl) (by kernel_rfl) (by kernel_rfl) ?_ (fun a w hF hS => ?_)
    · exact obs_nil
    refine wp_block ?_
    refine wp_loop_model (S := Int) (R := (Fl Unit Int)) (slices_IndexFunc_L1 s1) (fun x => (slices_IndexFunc_K1 x).bind some) r (fun (x : Int) a w => Fr 19 [pl 0 (.slice A1 s1.length c1), pl 1 (.func (.func 169) #[] #[]), pl 7 (.int .i64 (s1.length : Int)), pl 8 (.int .i64 x)] a ∧ Sep w0 B w (fs)) (assoc_b hm) ⟨hF.weak [0, 1, 7, 8] (by kernel_rfl), hS⟩ ?_
    clear hF hS hm
    rintro nn1 z1 a w ⟨hF, hS⟩ hm
    generalize hφ1 : stK (slices_IndexFunc_L1 s1) nn1 (fun x => (slices_IndexFunc_K1 x).bind some) = φ1 at hm
    unfold slices_IndexFunc_L1 at hm
    dsimp only at hm
    refine reg [] [] [0, 1, 7, 8, 9] [pl 0 (.slice A1 s1.length c1), pl 1 (.func (.func 169) #[] #[]), pl 7 (.int .i64 (s1.length : Int)), pl 8 (.int .i64 z1), pl 9 (.bool (decide (z1 < (s1.length : Int))))] hF hS Fol (by kernel_rfl) (by kernel_rfl) (by kernel_rfl) ?_ (fun a w hF hS => ?_)
    · exact obs_nil
    refine seq_cut (fun a w => Fr 19 [pl 0 (.slice A1 s1.length c1), pl 1 (.func (.func 169) #[] #[]), pl 7 (.int .i64 (s1.length : Int)), pl 8 (.int .i64 z1)] a ∧ Sep w0 B w (fs) ∧ ((slices_IndexFunc_J2 s1 z1)).bind φ1 = some r) ?_ ?_
    · rintro a w ⟨hF, hS, hm⟩
      unfold slices_IndexFunc_J2 at hm
      refine seq_cut (fun a w => Fr 19 [pl 0 (.slice A1 s1.length c1), pl 1 (.func (.func 169) #[] #[]), pl 7 (.int .i64 (s1.length : Int)), pl 8 (.int .i64 z1)] a ∧ Sep w0 B w (fs) ∧ ((slices_IndexFunc_J3 z1)).bind φ1 = some r) ?_ ?_
      · rintro a w ⟨hF, hS, hm⟩
        unfold slices_IndexFunc_J3 at hm
        refine reg1 [] [] [0, 1, 7, 8] [pl 0 (.slice A1 s1.length c1), pl 1 (.func (.func 169) #[] #[]), pl 7 (.int .i64 (s1.length : Int)), pl 8 (.int .i64 (w64 (z1 + 1)))] hF hS Fol (by kernel_rfl) (by kernel_rfl) (by kernel_rfl) ?_ (fun a w hF hS => ?_)
        · exact obs_nil
        refine then_n ?_
        rw [← hφ1] at hm
        exact ⟨(w64 (z1 + 1)), ⟨hF.weak [0, 1, 7, 8] (by kernel_rfl), hS⟩, hm⟩
      · refine wp_block ?_
        refine reg [] [] [0, 1, 5, 7, 8] [pl 0 (.slice A1 s1.length c1), pl 1 (.func (.func 169) #[] #[]), pl 5 (.int .i64 z1), pl 7 (.int .i64 (s1.length : Int)), pl 8 (.int .i64 z1)] hF hS Fol (by kernel_rfl) (by kernel_rfl) (by kernel_rfl) ?_ (fun a w hF hS => ?_)
        · exact obs_nil
        obtain ⟨hp1, hm⟩ := asrt_b hm
        obtain ⟨r1, hr1, hm⟩ := call_b hm
        refine reg [⟨true, [], vS (Instr.indexAt 34 (.slice A1 s1.length c1) (.int .i64 z1)), .pointer (some (sAddr A1 z1))⟩, ⟨false, [], vS (Instr.loadAt 3 (.pointer (some (sAddr A1 z1)))), .int .i64 (geti s1 z1)⟩, ⟨false, [], callFunc 169 #[.int .i64 (geti s1 z1)], .bool r1⟩] [none, none, none, some (.pointer (some (sAddr A1 z1))), some (.int .i64 (geti s1 z1)), some (.bool r1)] [0, 1, 5, 7, 8, 16] [pl 0 (.slice A1 s1.length c1), pl 1 (.func (.func 169) #[] #[]), pl 5 (.int .i64 z1), pl 7 (.int .i64 (s1.length : Int)), pl 8 (.int .i64 z1), pl 16 (.bool r1)] hF hS Fol (by kernel_rfl) (by kernel_rfl) (by kernel_rfl) ?_ (fun a w hF hS => ?_)
        · exact obs_cons (ob_ix1 (f := (Value.int .i64)) (m := s1) Und34 hi3 hs3 (hr_s1 _ (hS.dropN 0)) rfl (fun _ => hp1)) <| obs_cons (ob_get1 (n := s1.length) (m := s1) (Value.int .i64) (0 : Int) Agg3 (fun _ hS => ⟨_, (hr_s1 _ (hS.dropN 0))⟩) (fun _ hS => rfl) (fun _ => hp1)) <| obs_cons (ob_call Try.func169 (by kernel_rfl) rfl (fun _ _ hS => crib_check_1_w hr1 hS )) <| obs_nil
        refine cond_ev (t := 16) (b := r1) hF (by kernel_rfl) (fun hb => ?_) (fun hb => ?_)
        · replace hm := if_t hm hb
          refine reg [] [] [4] [pl 4 (.int .i64 z1)] hF hS Fol (by kernel_rfl) (by kernel_rfl) (by kernel_rfl) ?_ (fun a w hF hS => ?_)
          · exact obs_nil
          refine wp_ret ?_
          refine block_r (then_r (then_r (block_r (then_r ?_))))
          rw [← hφ1] at hm
          replace hm := done_b hm
          unfold slices_IndexFunc_K1 at hm
          try dsimp only at hm
          have hm : some z1 = some r := hm
          obtain rfl := Option.some.inj hm
          exact retV (rs := [.tmp 4]) (vs := [.int .i64 z1]) hF rfl (rv_t (by kernel_rfl) <| rv_nil) rfl ⟨rfl, hS⟩
        · replace hm := if_f hm hb
          refine wp_skip ?_
          refine block_n ?_
          refine then_n ?_
          exact ⟨hF.weak [0, 1, 7, 8] (by kernel_rfl), hS, hm⟩
    · refine cond_ev (t := 9) (b := decide (z1 < (s1.length : Int))) hF (by kernel_rfl) (fun hb => ?_) (fun hb => ?_)
      · replace hm := if_t hm hb
        refine wp_skip ?_
        refine then_n ?_
        exact ⟨hF.weak [0, 1, 7, 8] (by kernel_rfl), hS, hm⟩
      · replace hm := if_f hm hb
        refine wp_exit ?_
        refine then_e (then_e (block_e (then_n ?_)))
        rw [← hφ1] at hm
        replace hm := done_b hm
        unfold slices_IndexFunc_K1 at hm
        try dsimp only at hm
        have hm : (slices_IndexFunc_J1).bind some = some r := hm
        exact ⟨hF.weak [] (by kernel_rfl), hS, hm⟩

noncomputable def slices_ContainsFunc_m (s1 : List Int) : Option Bool :=
  (slices_IndexFunc_m s1).bind fun r1 => some (decide ((0 : Int) ≤ r1))

set_option maxRecDepth 100000 in
set_option maxHeartbeats 4000000 in
theorem slices_ContainsFunc_w {A1 : Option Addr} {c1 : Nat} {n1 : Nat} {s1 : List Int} {r : Bool} {w0 w : World} {B : Nat} {fs : List HP} (hm : slices_ContainsFunc_m s1 = some r) (hS : Sep w0 B w (fs)) (hr_s1 : RdF w0 B fs A1 (vI s1)) (_hc_s1 : s1.length ≤ c1) (_hn_s1 : n1 = s1.length) :
    Calls Try.prog 150 #[.slice A1 n1 c1, .func (.func 169) #[] #[]] w fun e w' => e = .returned (.bool r) ∧ Sep w0 B w' (fs) := by
  obtain ⟨i3, hi3, hz3, hs3, hb3⟩ := info_parts Info3
  obtain rfl := _hn_s1
  unfold slices_ContainsFunc_m at hm
  replace hm := start_b hm
  refine enter (l := [.slice A1 s1.length c1, .func (.func 169) #[] #[]]) (n := 9) Try.func150 rfl rfl (by simp) (fun a hF => ?_)
  refine reg [] [] [0, 1] [pl 0 (.slice A1 s1.length c1), pl 1 (.func (.func 169) #[] #[])] hF hS Fol (by kernel_rfl) (by kernel_rfl) (by kernel_rfl) ?_ (fun a w hF hS => ?_)
  · exact obs_nil
  obtain ⟨r1, hr1, hm⟩ := call_b hm
  refine reg [⟨false, [], callFunc 189 #[.slice A1 s1.length c1, .func (.func 169) #[] #[]], .int .i64 r1⟩] [none, none, some (.int .i64 r1), none, none] [4] [pl 4 (.bool (decide ((0 : Int) ≤ r1)))] hF hS Fol (by kernel_rfl) (by kernel_rfl) (by kernel_rfl) ?_ (fun a w hF hS => ?_)
  · exact obs_cons (ob_call Try.func189 (by kernel_rfl) rfl (fun _ _ hS => slices_IndexFunc_w hr1 hS (fun _ hS => (hr_s1 _ (hS.dropN 0))) _hc_s1 rfl)) <| obs_nil
  refine wp_ret ?_
  have hm : some (decide ((0 : Int) ≤ r1)) = some r := hm
  obtain rfl := Option.some.inj hm
  exact retV (rs := [.tmp 4]) (vs := [.bool (decide ((0 : Int) ≤ r1))]) hF rfl (rv_t (by kernel_rfl) <| rv_nil) rfl ⟨rfl, hS⟩

noncomputable def slices_Values_m (s1 : List Int) : Option Unit :=
  some ()

set_option maxRecDepth 100000 in
set_option maxHeartbeats 4000000 in
theorem slices_Values_w {A1 : Option Addr} {c1 : Nat} {n1 : Nat} {s1 : List Int} {r : Unit} {w0 w : World} {B : Nat} {fs : List HP} (hm : slices_Values_m s1 = some r) (hS : Sep w0 B w (fs)) (hr_s1 : RdF w0 B fs A1 (vI s1)) (_hc_s1 : s1.length ≤ c1) (_hn_s1 : n1 = s1.length) :
    Calls Try.prog 171 #[.slice A1 n1 c1] w fun e w' => ∃ v, e = .returned v ∧ ∃ (g2 : Nat), v = .func (.func 210) #[] #[.pointer (some ⟨g2, 0, none⟩)] ∧ Sep w0 B w' (blk g2 34 #[.slice A1 n1 c1] :: fs) := by
  obtain ⟨i3, hi3, hz3, hs3, hb3⟩ := info_parts Info3
  obtain rfl := _hn_s1
  unfold slices_Values_m at hm
  replace hm := start_b hm
  refine enter (l := [.slice A1 s1.length c1]) (n := 4) Try.func171 rfl rfl (by simp) (fun a hF => ?_)
  refine seqR ?_
  refine at_do (d := 1) (s := vS (Instr.box 34 (.slice A1 s1.length c1))) (v := .pointer (some ⟨w.heap.size, 0, none⟩)) (w' := w.alloc (.cells #[.slice A1 s1.length c1] 34)) hF (by kernel_rfl) (by kernel_rfl) (by kernel_rfl) (fun a hF => ?_)
  have hS : Sep w0 B (w.alloc (.cells #[.slice A1 s1.length c1] 34)) (blk w.heap.size 34 #[.slice A1 s1.length c1] :: (fs)) := hS.box 34 #[.slice A1 s1.length c1]
  generalize w.heap.size = g1 at hF hS
  generalize w.alloc (.cells #[.slice A1 s1.length c1] 34) = w at hS ⊢
  refine at_run 1 [] [] [1] [pl 1 (.pointer (some ⟨g1, 0, none⟩))] hF hS (by kernel_rfl) (by kernel_rfl) ?_ (fun a w hF hS => ?_)
  · exact obs_nil
  refine at_end [1] [pl 1 (.pointer (some ⟨g1, 0, none⟩))] hF rfl (by kernel_rfl) (fun hF => ?_)
  refine then_n ?_
  refine reg [] [] [2] [pl 2 (.func (.func 210) #[] #[.pointer (some ⟨g1, 0, none⟩)])] hF hS Fol (by kernel_rfl) (by kernel_rfl) (by kernel_rfl) ?_ (fun a w hF hS => ?_)
  · exact obs_nil
  refine wp_ret ?_
  have hm : some () = some r := hm
  obtain rfl := Option.some.inj hm
  exact retV (rs := [.tmp 2]) (vs := [.func (.func 210) #[] #[.pointer (some ⟨g1, 0, none⟩)]]) hF rfl (rv_t (by kernel_rfl) <| rv_nil) rfl ⟨_, rfl, g1, rfl, hS⟩

noncomputable def slices_Sorted_m (v1 : List Int) : Option (List Int) :=
  asrt ((v1.length : Int) + 512 ≤ bigN) <| some (sortI v1)

theorem slices_Sorted_w {g1 : Nat} {A1 : Option Addr} {c1 : Nat} {n1 : Nat} {v1 : List Int} {r : (List Int)} {w0 w : World} {B : Nat} {fs : List HP} (hm : slices_Sorted_m v1 = some r) (hS : Sep w0 B w (blk g1 34 #[.slice A1 n1 c1] :: fs)) (hr_v1 : RdF w0 B fs A1 (vI v1)) (_hc_v1 : v1.length ≤ c1) (_hn_v1 : n1 = v1.length) :
    Calls Try.prog 170 #[.func (.func 210) #[] #[.pointer (some ⟨g1, 0, none⟩)]] w fun e w' => ∃ v, e = .returned v ∧ ∃ (A2 : Option Addr) (c2 : Nat), v = .slice A2 r.length c2 ∧ Sep w0 B w' (blk g1 34 #[.slice A1 n1 c1] :: own 3 (.slice A2 r.length c2) (vI r) :: fs) := by
  unfold slices_Sorted_m at hm
  obtain ⟨hb, hm⟩ := asrt_b (start_b hm)
  obtain rfl := Option.some.inj hm
  exact sorted_own hS hr_v1 _hn_v1 hb

noncomputable def slices_Compact_2_m (s1 : List Int) : Option (List Int) :=
  asrt ((s1.length : Int) ≤ bigN) <| some (compI s1)

theorem slices_Compact_2_w {A1 : Option Addr} {c1 : Nat} {n1 : Nat} {s1 : List Int} {r : (List Int)} {w0 w : World} {B : Nat} {fs : List HP} (hm : slices_Compact_2_m s1 = some r) (hS : Sep w0 B w (own 3 (.slice A1 n1 c1) (vI s1) :: fs)) :
    Calls Try.prog 117 #[.slice A1 n1 c1] w fun e w' => ∃ v, e = .returned v ∧ ∃ (A2 : Option Addr) (c2 : Nat), v = .slice A2 r.length c2 ∧ Sep w0 B w' (own 3 (.slice A2 r.length c2) (vI r) :: fs) := by
  unfold slices_Compact_2_m at hm
  obtain ⟨hb, hm⟩ := asrt_b (start_b hm)
  obtain rfl := Option.some.inj hm
  exact compact_own CompactL hS hb

noncomputable def crib_check_J2 : Option Int :=
  some 0

noncomputable def crib_check_J1 (l1 : List Int) : Option Int :=
  (slices_Values_m l1).bind fun r2 => (slices_Sorted_m l1).bind fun r3 => (slices_Compact_2_m r3).bind fun r4 => if (decide ((r4.length : Int) < (l1.length : Int))) then (some 6) else (crib_check_J2)

noncomputable def crib_check_m (l1 : List Int) : Option Int :=
  (slices_ContainsFunc_m l1).bind fun r1 => if r1 then (some 3) else ((crib_check_J1 l1))

set_option maxRecDepth 100000 in
set_option maxHeartbeats 4000000 in
theorem crib_check_w {A1 : Option Addr} {c1 : Nat} {n1 : Nat} {l1 : List Int} {r : Int} {w0 w : World} {B : Nat} {fs : List HP} (hm : crib_check_m l1 = some r) (hS : Sep w0 B w (fs)) (hr_l1 : RdF w0 B fs A1 (vI l1)) (_hc_l1 : l1.length ≤ c1) (_hn_l1 : n1 = l1.length) :
    Calls Try.prog 124 #[.slice A1 n1 c1] w fun e w' => e = .returned (.int .i64 r) ∧ Sep w0 B w' (fs) := by
  obtain ⟨i3, hi3, hz3, hs3, hb3⟩ := info_parts Info3
  obtain rfl := _hn_l1
  unfold crib_check_m at hm
  replace hm := start_b hm
  refine enter (l := [.slice A1 l1.length c1]) (n := 15) Try.func124 rfl rfl (by simp) (fun a hF => ?_)
  refine reg [] [] [0] [pl 0 (.slice A1 l1.length c1)] hF hS Fol (by kernel_rfl) (by kernel_rfl) (by kernel_rfl) ?_ (fun a w hF hS => ?_)
  · exact obs_nil
  refine seq_cut (fun a w => Fr 15 [pl 0 (.slice A1 l1.length c1)] a ∧ Sep w0 B w (fs) ∧ ((crib_check_J1 l1)).bind some = some r) ?_ ?_
  · rintro a w ⟨hF, hS, hm⟩
    unfold crib_check_J1 at hm
    refine seqR ?_
    obtain ⟨r2, hr2, hm⟩ := call_b hm
    obtain ⟨r3, hr3, hm⟩ := call_b hm
    refine at_run 1 [] [] [0, 6] [pl 0 (.slice A1 l1.length c1), pl 6 (.slice A1 l1.length c1)] hF hS (by kernel_rfl) (by kernel_rfl) ?_ (fun a w hF hS => ?_)
    · exact obs_nil
    refine at_call (f := 171) (args := #[.slice A1 l1.length c1]) (d := 7) hF (by kernel_rfl) (by kernel_rfl) Try.func171 (by kernel_rfl) rfl (slices_Values_w hr2 hS (fun _ hS => (hr_l1 _ (hS.dropN 0))) _hc_l1 rfl) (fun v a w hR hF => ?_)
    clear hS
    obtain ⟨g1, rfl, hS⟩ := hR
    have hS : Sep w0 B w (blk g1 34 #[.slice A1 l1.length c1] :: fs) := hS
    refine at_call (f := 170) (args := #[.func (.func 210) #[] #[.pointer (some ⟨g1, 0, none⟩)]]) (d := 8) hF (by kernel_rfl) (by kernel_rfl) Try.func170 (by kernel_rfl) rfl (slices_Sorted_w hr3 hS (fun _ hS => (hr_l1 _ (hS.dropN 0))) _hc_l1 rfl) (fun v a w hR hF => ?_)
    clear hS
    obtain ⟨A2, c2, rfl, hS⟩ := hR
    have hS : Sep w0 B w (blk g1 34 #[.slice A1 l1.length c1] :: own 3 (.slice A2 r3.length c2) (vI r3) :: fs) := hS
    refine at_run 1 [] [] [0, 3] [pl 0 (.slice A1 l1.length c1), pl 3 (.slice A2 r3.length c2)] hF hS (by kernel_rfl) (by kernel_rfl) ?_ (fun a w hF hS => ?_)
    · exact obs_nil
    refine at_end [0, 3] [pl 0 (.slice A1 l1.length c1), pl 3 (.slice A2 r3.length c2)] hF rfl (by kernel_rfl) (fun hF => ?_)
    refine then_n ?_
    refine seq_cut (fun a w => Fr 15 [] a ∧ Sep w0 B w (fs) ∧ (crib_check_J2).bind some = some r) ?_ ?_
    · rintro a w ⟨hF, hS, hm⟩
      unfold crib_check_J2 at hm
      refine reg [] [] [2] [pl 2 (.int .i64 0)] hF hS Fol (by kernel_rfl) (by kernel_rfl) (by kernel_rfl) ?_ (fun a w hF hS => ?_)
      · exact obs_nil
      refine wp_ret ?_
      have hm : some 0 = some r := hm
      obtain rfl := Option.some.inj hm
      exact retV (rs := [.tmp 2]) (vs := [.int .i64 0]) hF rfl (rv_t (by kernel_rfl) <| rv_nil) rfl ⟨rfl, hS⟩
    · refine seqR ?_
      obtain ⟨r4, hr4, hm⟩ := call_b hm
      refine at_run 1 [] [] [0, 9] [pl 0 (.slice A1 l1.length c1), pl 9 (.slice A2 r3.length c2)] hF hS (by kernel_rfl) (by kernel_rfl) ?_ (fun a w hF hS => ?_)
      · exact obs_nil
      have hS : Sep w0 B w (own 3 (.slice A2 r3.length c2) (vI r3) :: blk g1 34 #[.slice A1 l1.length c1] :: fs) := hS.pickN 2 [1, 0] (by decide)
      refine at_call (f := 117) (args := #[.slice A2 r3.length c2]) (d := 10) hF (by kernel_rfl) (by kernel_rfl) Try.func117 (by kernel_rfl) rfl (slices_Compact_2_w hr4 hS ) (fun v a w hR hF => ?_)
      clear hS
      obtain ⟨A3, c3, rfl, hS⟩ := hR
      have hS : Sep w0 B w (own 3 (.slice A3 r4.length c3) (vI r4) :: blk g1 34 #[.slice A1 l1.length c1] :: fs) := hS
      refine at_run 4 [] [] [14] [pl 14 (.bool (decide ((r4.length : Int) < (l1.length : Int))))] hF hS (by kernel_rfl) (by kernel_rfl) ?_ (fun a w hF hS => ?_)
      · exact obs_nil
      refine at_end [14] [pl 14 (.bool (decide ((r4.length : Int) < (l1.length : Int))))] hF rfl (by kernel_rfl) (fun hF => ?_)
      refine then_n ?_
      refine cond_ev (t := 14) (b := decide ((r4.length : Int) < (l1.length : Int))) hF (by kernel_rfl) (fun hb => ?_) (fun hb => ?_)
      · replace hm := if_t hm hb
        refine reg [] [] [2] [pl 2 (.int .i64 6)] hF hS Fol (by kernel_rfl) (by kernel_rfl) (by kernel_rfl) ?_ (fun a w hF hS => ?_)
        · exact obs_nil
        refine wp_ret ?_
        refine then_r ?_
        have hS := hS.pickN 2 [] (by decide)
        have hm : some 6 = some r := hm
        obtain rfl := Option.some.inj hm
        exact retV (rs := [.tmp 2]) (vs := [.int .i64 6]) hF rfl (rv_t (by kernel_rfl) <| rv_nil) rfl ⟨rfl, hS⟩
      · replace hm := if_f hm hb
        refine wp_skip ?_
        refine then_n ?_
        have hS := hS.pickN 2 [] (by decide)
        exact ⟨hF.weak [] (by kernel_rfl), hS, hm⟩
  · obtain ⟨r1, hr1, hm⟩ := call_b hm
    refine reg [⟨false, [], callFunc 150 #[.slice A1 l1.length c1, .func (.func 169) #[] #[]], .bool r1⟩] [none, some (.bool r1)] [0, 5] [pl 0 (.slice A1 l1.length c1), pl 5 (.bool r1)] hF hS Fol (by kernel_rfl) (by kernel_rfl) (by kernel_rfl) ?_ (fun a w hF hS => ?_)
    · exact obs_cons (ob_call Try.func150 (by kernel_rfl) rfl (fun _ _ hS => slices_ContainsFunc_w hr1 hS (fun _ hS => (hr_l1 _ (hS.dropN 0))) _hc_l1 rfl)) <| obs_nil
    refine cond_ev (t := 5) (b := r1) hF (by kernel_rfl) (fun hb => ?_) (fun hb => ?_)
    · replace hm := if_t hm hb
      refine reg [] [] [2] [pl 2 (.int .i64 3)] hF hS Fol (by kernel_rfl) (by kernel_rfl) (by kernel_rfl) ?_ (fun a w hF hS => ?_)
      · exact obs_nil
      refine wp_ret ?_
      refine then_r ?_
      have hm : some 3 = some r := hm
      obtain rfl := Option.some.inj hm
      exact retV (rs := [.tmp 2]) (vs := [.int .i64 3]) hF rfl (rv_t (by kernel_rfl) <| rv_nil) rfl ⟨rfl, hS⟩
    · replace hm := if_f hm hb
      refine wp_skip ?_
      refine then_n ?_
      exact ⟨hF.weak [0] (by kernel_rfl), hS, hm⟩

noncomputable def crib_pip_m (c1 : Int) : Option Int :=
  some (w64 ((Int.tmod (w64 ((w64 (Int.tdiv c1 4)) + 1)) 13) + 1))

set_option maxRecDepth 100000 in
set_option maxHeartbeats 4000000 in
theorem crib_pip_w {c1 : Int} {r : Int} {w0 w : World} {B : Nat} {fs : List HP} (hm : crib_pip_m c1 = some r) (hS : Sep w0 B w (fs)) :
    Calls Try.prog 126 #[.int .i64 c1] w fun e w' => e = .returned (.int .i64 r) ∧ Sep w0 B w' (fs) := by
  unfold crib_pip_m at hm
  replace hm := start_b hm
  refine enter (l := [.int .i64 c1]) (n := 8) Try.func126 rfl rfl (by simp) (fun a hF => ?_)
  refine reg [] [] [0] [pl 0 (.int .i64 c1)] hF hS Fol (by kernel_rfl) (by kernel_rfl) (by kernel_rfl) ?_ (fun a w hF hS => ?_)
  · exact obs_nil
  refine reg [] [] [2] [pl 2 (.int .i64 (w64 ((Int.tmod (w64 ((w64 (Int.tdiv c1 4)) + 1)) 13) + 1)))] hF hS Fol (by kernel_rfl) (by kernel_rfl) (by kernel_rfl) ?_ (fun a w hF hS => ?_)
  · exact obs_nil
  refine wp_ret ?_
  have hm : some (w64 ((Int.tmod (w64 ((w64 (Int.tdiv c1 4)) + 1)) 13) + 1)) = some r := hm
  obtain rfl := Option.some.inj hm
  exact retV (rs := [.tmp 2]) (vs := [.int .i64 (w64 ((Int.tmod (w64 ((w64 (Int.tdiv c1 4)) + 1)) 13) + 1))]) hF rfl (rv_t (by kernel_rfl) <| rv_nil) rfl ⟨rfl, hS⟩

noncomputable def crib_points_m (c1 : Int) : Option Int :=
  (crib_pip_m c1).bind fun r1 => some (minI r1 10)

set_option maxRecDepth 100000 in
set_option maxHeartbeats 4000000 in
theorem crib_points_w {c1 : Int} {r : Int} {w0 w : World} {B : Nat} {fs : List HP} (hm : crib_points_m c1 = some r) (hS : Sep w0 B w (fs)) :
    Calls Try.prog 125 #[.int .i64 c1] w fun e w' => e = .returned (.int .i64 r) ∧ Sep w0 B w' (fs) := by
  unfold crib_points_m at hm
  replace hm := start_b hm
  refine enter (l := [.int .i64 c1]) (n := 6) Try.func125 rfl rfl (by simp) (fun a hF => ?_)
  refine reg [] [] [0] [pl 0 (.int .i64 c1)] hF hS Fol (by kernel_rfl) (by kernel_rfl) (by kernel_rfl) ?_ (fun a w hF hS => ?_)
  · exact obs_nil
  obtain ⟨r1, hr1, hm⟩ := call_b hm
  refine reg [⟨false, [], callFunc 126 #[.int .i64 c1], .int .i64 r1⟩, ⟨true, [], vS (Builtin.min_ #[3, 3] 3 #[.int .i64 r1, .int .i64 10]), .int .i64 (minI r1 10)⟩] [none, some (.int .i64 r1), some (.int .i64 (minI r1 10)), none] [2] [pl 2 (.int .i64 (minI r1 10))] hF hS Fol (by kernel_rfl) (by kernel_rfl) (by kernel_rfl) ?_ (fun a w hF hS => ?_)
  · exact obs_cons (ob_call Try.func126 (by kernel_rfl) rfl (fun _ _ hS => crib_pip_w hr1 hS )) <| obs_cons (ob_min rfl) <| obs_nil
  refine wp_ret ?_
  have hm : some (minI r1 10) = some r := hm
  obtain rfl := Option.some.inj hm
  exact retV (rs := [.tmp 2]) (vs := [.int .i64 (minI r1 10)]) hF rfl (rv_t (by kernel_rfl) <| rv_nil) rfl ⟨rfl, hS⟩

noncomputable def slices_Sort_2_m (x1 : List Int) : Option (List Int) :=
  asrt ((x1.length : Int) ≤ bigN) <| some (sortI x1)

theorem slices_Sort_2_w {A1 : Option Addr} {c1 : Nat} {n1 : Nat} {x1 : List Int} {r : (List Int)} {w0 w : World} {B : Nat} {fs : List HP} (hm : slices_Sort_2_m x1 = some r) (hS : Sep w0 B w (own 3 (.slice A1 n1 c1) (vI x1) :: fs)) :
    Calls Try.prog 115 #[.slice A1 n1 c1] w fun e w' => ∃ v, e = .returned v ∧ v = .tuple #[] ∧ Sep w0 B w' (own 3 (.slice A1 n1 c1) (vI r) :: fs) := by
  unfold slices_Sort_2_m at hm
  obtain ⟨hb, hm⟩ := asrt_b (start_b hm)
  obtain rfl := Option.some.inj hm
  exact sort_own SortL hS hb

noncomputable def slices_Clone_J1 (s1 : List Int) : Option (List Int) :=
  asrt ((0 : Int) + (s1.length : Int) ≤ bigN) <| some (([] : List Int) ++ s1)

noncomputable def slices_Clone_m (s1 : List Int) : Option (List Int) :=
  (slices_Clone_J1 s1)

set_option maxRecDepth 100000 in
set_option maxHeartbeats 4000000 in
theorem slices_Clone_w {A1 : Option Addr} {c1 : Nat} {n1 : Nat} {s1 : List Int} {r : (List Int)} {w0 w : World} {B : Nat} {fs : List HP} (hm : slices_Clone_m s1 = some r) (hS : Sep w0 B w (fs)) (hr_s1 : RdF w0 B fs A1 (vI s1)) (_hc_s1 : s1.length ≤ c1) (_hn_s1 : n1 = s1.length) :
    Calls Try.prog 111 #[.slice A1 n1 c1] w fun e w' => ∃ v, e = .returned v ∧ ∃ (A3 : Option Addr) (c3 : Nat), v = .slice A3 r.length c3 ∧ Sep w0 B w' (own 3 (.slice A3 r.length c3) (vI r) :: fs) := by
  obtain ⟨i3, hi3, hz3, hs3, hb3⟩ := info_parts Info3
  obtain rfl := _hn_s1
  unfold slices_Clone_m at hm
  replace hm := start_b hm
  refine enter (l := [.slice A1 s1.length c1]) (n := 8) Try.func111 rfl rfl (by simp) (fun a hF => ?_)
  refine reg [] [] [0] [pl 0 (.slice A1 s1.length c1)] hF hS Fol (by kernel_rfl) (by kernel_rfl) (by kernel_rfl) ?_ (fun a w hF hS => ?_)
  · exact obs_nil
  refine seq_cut (fun a w => Fr 8 [pl 0 (.slice A1 s1.length c1)] a ∧ Sep w0 B w (fs) ∧ ((slices_Clone_J1 s1)).bind some = some r) ?_ ?_
  · rintro a w ⟨hF, hS, hm⟩
    unfold slices_Clone_J1 at hm
    refine seqR ?_
    obtain ⟨hp1, hm⟩ := asrt_b hm
    refine at_do (d := 5) (s := vS (Instr.buildSlice 34 0 #[])) (v := .slice (some ⟨w.heap.size, 0, none⟩) 0 0) (w' := w.alloc (.cells #[] 3)) hF (by kernel_rfl) (by kernel_rfl) (by kernel_rfl) (fun a hF => ?_)
    have hS : Sep w0 B (w.alloc (.cells #[] 3)) (own 3 (.slice (some (⟨w.heap.size, 0, none⟩ : Addr)) 0 0) (vI ([] : List Int)) :: (fs)) := hS.lit 3 #[] 0 rfl (by omega)
    generalize (some (⟨w.heap.size, 0, none⟩ : Addr)) = g1 at hF hS
    generalize w.alloc (.cells #[] 3) = w at hS ⊢
    refine at_run 1 [] [] [5, 6] [pl 5 (.slice g1 0 0), pl 6 (.slice A1 s1.length c1)] hF hS (by kernel_rfl) (by kernel_rfl) ?_ (fun a w hF hS => ?_)
    · exact obs_nil
    obtain ⟨A2, c2, w, hrun, hS⟩ := run_app1 (P := Try.prog) (t := 34) (m := ([] : List Int)) (ys := s1) (A2 := A1) (m2 := s1.length) (c2 := c1) (Value.int .i64) (0 : Int) (hS.at_ 0 rfl) (hr_s1 _ (hS.dropN 1)) rfl 34 Und34 hi3 hz3 hs3 (by omega) rfl (fun _ => rfl) hp1
    have hS : Sep w0 B w (own 3 (.slice A2 ((([] : List Int) ++ s1).length) c2) (vI (([] : List Int) ++ s1)) :: fs) := hS
    refine at_do (d := 7) hF (by kernel_rfl) (by kernel_rfl) hrun (fun a hF => ?_)
    refine at_run 1 [] [] [2] [pl 2 (.slice A2 ((([] : List Int) ++ s1).length) c2)] hF hS (by kernel_rfl) (by kernel_rfl) ?_ (fun a w hF hS => ?_)
    · exact obs_nil
    refine at_end [2] [pl 2 (.slice A2 ((([] : List Int) ++ s1).length) c2)] hF rfl (by kernel_rfl) (fun hF => ?_)
    refine then_n ?_
    refine wp_ret ?_
    have hm : some (([] : List Int) ++ s1) = some r := hm
    obtain rfl := Option.some.inj hm
    exact retV (rs := [.tmp 2]) (vs := [.slice A2 ((([] : List Int) ++ s1).length) c2]) hF rfl (rv_t (by kernel_rfl) <| rv_nil) rfl ⟨_, rfl, A2, c2, rfl, hS⟩
  · refine reg [⟨true, [], vS (binOp .eql 34 (.slice A1 s1.length c1) (.slice none 0 0)), .bool A1.isNone⟩] [none, some (.bool A1.isNone)] [0, 4] [pl 0 (.slice A1 s1.length c1), pl 4 (.bool A1.isNone)] hF hS Fol (by kernel_rfl) (by kernel_rfl) (by kernel_rfl) ?_ (fun a w hF hS => ?_)
    · exact obs_cons (ob_isnil Und34 rfl) <| obs_nil
    refine cond_ev (t := 4) (b := A1.isNone) hF (by kernel_rfl) (fun hb => ?_) (fun hb => ?_)
    · have hA9 := Option.isNone_iff_eq_none.1 hb
      have hnil9 : s1 = [] := by have h9 := (hr_s1 _ (hS.dropN 0)); rw [hA9] at h9; exact h9.none_nil
      have hm : (some ([] : List Int)).bind some = some r := by rw [hnil9] at hm; simpa [asrt, bigN, slices_Clone_J1] using hm
      refine reg [] [] [2] [pl 2 (.slice none 0 0)] hF hS Fol (by kernel_rfl) (by kernel_rfl) (by kernel_rfl) ?_ (fun a w hF hS => ?_)
      · exact obs_nil
      refine wp_ret ?_
      refine then_r ?_
      have hS : Sep w0 B w (own 3 (.slice none 0 0) (vI ([] : List Int)) :: fs) := hS.nil 3
      have hl1 := (hS.at_ 0 rfl).len1
      have hS := (hS.at_ 0 rfl).reN hl1
      have hS : Sep w0 B w (own 3 (.slice none (([] : List Int).length) 0) (vI ([] : List Int)) :: fs) := hS
      have hm : some ([] : List Int) = some r := hm
      obtain rfl := Option.some.inj hm
      exact retV (rs := [.tmp 2]) (vs := [.slice none (([] : List Int).length) 0]) hF rfl (rv_t (by kernel_rfl) <| rv_nil) rfl ⟨_, rfl, none, 0, rfl, hS⟩
    · refine wp_skip ?_
      refine then_n ?_
      exact ⟨hF.weak [0] (by kernel_rfl), hS, hm⟩

noncomputable def crib_row_J3 (z1 : Int) (p3 : List Int) : Option (St (List Int × Int) (List Int)) :=
  some (.next (p3, (w64 (z1 + 1))))

noncomputable def crib_row_J2 (l1 : List Int) (p1 : List Int) (z1 : Int) : Option (St (List Int × Int) (List Int)) :=
  asrt (0 ≤ z1 ∧ z1 < (l1.length : Int)) <| (crib_pip_m (geti l1 z1)).bind fun r1 => asrt ((p1.length : Int) + 1 ≤ bigN) <| (crib_row_J3 z1) (p1 ++ ([r1] : List Int))

noncomputable def crib_row_J4 (z2 : Bool) : Option Bool :=
  some z2

noncomputable def crib_row_J1 (p2 : List Int) : Option Bool :=
  (slices_Sort_2_m p2).bind fun r2 => (slices_Clone_m r2).bind fun r3 => (slices_Compact_2_m r3).bind fun r4 => asrt (((r4.length : Int) == (p2.length : Int)) = true → 0 ≤ (w64 ((p2.length : Int) - 1)) ∧ (w64 ((p2.length : Int) - 1)) < (p2.length : Int)) <| asrt (((r4.length : Int) == (p2.length : Int)) = true → 0 ≤ (0 : Int) ∧ (0 : Int) < (p2.length : Int)) <| crib_row_J4 (((r4.length : Int) == (p2.length : Int)) && ((w64 ((geti r2 (w64 ((p2.length : Int) - 1))) - (geti r2 0))) == (w64 ((p2.length : Int) - 1))))

noncomputable def crib_row_K1 : (List Int) → Option Bool :=
  fun (x : (List Int)) => match x with | p2 => crib_row_J1 p2

noncomputable def crib_row_L1 (l1 : List Int) : (List Int × Int) → Option (St (List Int × Int) (List Int)) :=
  fun (x : (List Int × Int)) => match x with | (p1, z1) => if (decide (z1 < (l1.length : Int))) then ((crib_row_J2 l1 p1 z1)) else (some (.done p1))

noncomputable def crib_row_m (l1 : List Int) : Option Bool :=
  (loop (crib_row_L1 l1) (([] : List Int), 0)).bind crib_row_K1

set_option maxRecDepth 100000 in
set_option maxHeartbeats 4000000 in
theorem crib_row_w {A1 : Option Addr} {c1 : Nat} {n1 : Nat} {l1 : List Int} {r : Bool} {w0 w : World} {B : Nat} {fs : List HP} (hm : crib_row_m l1 = some r) (hS : Sep w0 B w (fs)) (hr_l1 : RdF w0 B fs A1 (vI l1)) (_hc_l1 : l1.length ≤ c1) (_hn_l1 : n1 = l1.length) :
    Calls Try.prog 127 #[.slice A1 n1 c1] w fun e w' => e = .returned (.bool r) ∧ Sep w0 B w' (fs) := by
  obtain ⟨i3, hi3, hz3, hs3, hb3⟩ := info_parts Info3
  obtain rfl := _hn_l1
  unfold crib_row_m at hm
  replace hm := start_b hm
  refine enter (l := [.slice A1 l1.length c1]) (n := 43) Try.func127 rfl rfl (by simp) (fun a hF => ?_)
  refine reg [] [] [0] [pl 0 (.slice A1 l1.length c1)] hF hS Fol (by kernel_rfl) (by kernel_rfl) (by kernel_rfl) ?_ (fun a w hF hS => ?_)
  · exact obs_nil
  refine reg [] [] [0, 3] [pl 0 (.slice A1 l1.length c1), pl 3 (.slice none 0 0)] hF hS Fol (by kernel_rfl) (by kernel_rfl) (by kernel_rfl) ?_ (fun a w hF hS => ?_)
  · exact obs_nil
  refine seq_cut (fun a w => ∃ (p2 : List Int) (A3 : Option Addr) (c3 : Nat), Fr 43 [pl 3 (.slice A3 p2.length c3)] a ∧ Sep w0 B w (own 3 (.slice A3 p2.length c3) (vI p2) :: fs) ∧ (crib_row_J1 p2).bind some = some r) ?_ ?_
  · rintro a w ⟨p2, A3, c3, hF, hS, hm⟩
    unfold crib_row_J1 at hm
    refine seqR ?_
    obtain ⟨r2, hr2, hm⟩ := call_b hm
    refine at_run 1 [] [] [3, 18] [pl 3 (.slice A3 p2.length c3), pl 18 (.slice A3 p2.length c3)] hF hS (by kernel_rfl) (by kernel_rfl) ?_ (fun a w hF hS => ?_)
    · exact obs_nil
    refine at_call (f := 115) (args := #[.slice A3 p2.length c3]) (d := 19) hF (by kernel_rfl) (by kernel_rfl) Try.func115 (by kernel_rfl) rfl (slices_Sort_2_w hr2 hS ) (fun v a w hR hF => ?_)
    clear hS
    obtain ⟨rfl, hS⟩ := hR
    have hS : Sep w0 B w (own 3 (.slice A3 p2.length c3) (vI r2) :: fs) := hS
    refine at_end [3] [pl 3 (.slice A3 p2.length c3)] hF rfl (by kernel_rfl) (fun hF => ?_)
    refine then_n ?_
    refine seq_cut (fun a w => ∃ (z2 : Bool), Fr 43 [pl 2 (.bool z2)] a ∧ Sep w0 B w (fs) ∧ (crib_row_J4 z2).bind some = some r) ?_ ?_
    · rintro a w ⟨z2, hF, hS, hm⟩
      unfold crib_row_J4 at hm
      refine wp_ret ?_
      have hm : some z2 = some r := hm
      obtain rfl := Option.some.inj hm
      exact retV (rs := [.tmp 2]) (vs := [.bool z2]) hF rfl (rv_t (by kernel_rfl) <| rv_nil) rfl ⟨rfl, hS⟩
    · obtain ⟨r3, hr3, hm⟩ := call_b hm
      obtain ⟨r4, hr4, hm⟩ := call_b hm
      obtain ⟨hp3, hm⟩ := asrt_b hm
      obtain ⟨hp4, hm⟩ := asrt_b hm
      refine regMix5 [0, 4, 5] [] 21 #[true, false, false, false, true, true, false, false, false, false, false, false, false, false, false, false, false, false, false, false, false, false, false, false] [] [] [3, 20, 25] [pl 3 (.slice A3 p2.length c3), pl 20 (.slice A3 p2.length c3), pl 25 (.int .i64 (p2.length : Int))] hF hS Fol (by kernel_rfl) (by kernel_rfl) (by kernel_rfl) (by kernel_rfl) ?_ (fun a w hF hS => ?_)
      · exact obs_nil
      refine any_step [1] (by kernel_rfl) rfl ?_
      refine (all_cons ?_ all_nil)
      · refine any_op (listed' := #[true, true, false, false, true, true, false, false, false, false, false, false, false, false, false, false, false, false, false, false, false, false, false, false]) (by kernel_rfl) (by kernel_rfl) ?_
        refine at_call (f := 111) (args := #[.slice A3 p2.length c3]) (d := 21) hF (by kernel_rfl) (by kernel_rfl) Try.func111 (by kernel_rfl) rfl (slices_Clone_w hr3 hS (fun _ hS => (hS.at_ 0 rfl).rd) ((hS.at_ 0 rfl).cap1) ((hS.at_ 0 rfl).len1)) (fun v a w hR hF => ?_)
        clear hS
        obtain ⟨A8, c8, rfl, hS⟩ := hR
        have hS : Sep w0 B w (own 3 (.slice A8 r3.length c8) (vI r3) :: own 3 (.slice A3 p2.length c3) (vI r2) :: fs) := hS
        refine any_fin rfl (hS.pickN 2 [1] (by decide)) ?_
        refine any_step [2] (by kernel_rfl) rfl ?_
        refine (all_cons ?_ all_nil)
        · refine any_op (listed' := #[true, true, true, false, true, true, false, false, false, false, false, false, false, false, false, false, false, false, false, false, false, false, false, false]) (by kernel_rfl) (by kernel_rfl) ?_
          refine at_call (f := 117) (args := #[.slice A8 r3.length c8]) (d := 22) hF (by kernel_rfl) (by kernel_rfl) Try.func117 (by kernel_rfl) rfl (slices_Compact_2_w hr4 hS ) (fun v a w hR hF => ?_)
          clear hS
          obtain ⟨A7, c7, rfl, hS⟩ := hR
          have hS : Sep w0 B w (own 3 (.slice A7 r4.length c7) (vI r4) :: own 3 (.slice A3 p2.length c3) (vI r2) :: fs) := hS
          refine any_fin rfl (hS.pickN 2 [1] (by decide)) ?_
          refine any_step [3] (by kernel_rfl) rfl ?_
          refine (all_cons ?_ all_nil)
          · refine any_op (listed' := #[true, true, true, true, true, true, false, false, false, false, false, false, false, false, false, false, false, false, false, false, false, false, false, false]) (by kernel_rfl) (by kernel_rfl) ?_
            refine at_runW 1 [] [] [3, 23, 25] [pl 3 (.slice A3 p2.length c3), pl 23 (.int .i64 (r4.length : Int)), pl 25 (.int .i64 (p2.length : Int))] hF hS (by kernel_rfl) (by kernel_rfl) ?_ (fun a hF => ?_)
            · exact obs_nil
            refine any_finI rfl (fun h => h) ?_
            refine any_step [6] (by kernel_rfl) rfl ?_
            refine (all_cons ?_ all_nil)
            · refine any_op (listed' := #[true, true, true, true, true, true, true, false, false, false, false, false, false, false, false, false, false, false, false, false, false, false, false, false]) (by kernel_rfl) (by kernel_rfl) ?_
              refine at_runW 1 [] [] [3, 26] [pl 3 (.slice A3 p2.length c3), pl 26 (.bool ((r4.length : Int) == (p2.length : Int)))] hF hS (by kernel_rfl) (by kernel_rfl) ?_ (fun a hF => ?_)
              · exact obs_nil
              refine any_finI rfl (fun h => h) ?_
              refine any_step [7] (by kernel_rfl) rfl ?_
              refine (all_cons ?_ all_nil)
              · refine any_op (listed' := #[true, true, true, true, true, true, true, true, false, false, false, false, false, false, false, false, false, false, false, false, false, false, false, false]) (by kernel_rfl) (by kernel_rfl) ?_
                refine at_runW 1 [] [] [3, 27] [pl 3 (.slice A3 p2.length c3), pl 27 (.bool ((r4.length : Int) == (p2.length : Int)))] hF hS (by kernel_rfl) (by kernel_rfl) ?_ (fun a hF => ?_)
                · exact obs_nil
                refine any_finI rfl (fun h => h) ?_
                refine any_rest [8, 9, 10, 11, 12, 13, 14, 15, 16, 17, 18, 19, 20, 21, 22, 23] [⟨true, [(((r4.length : Int) == (p2.length : Int)), true)], vS (Instr.indexAt 34 (.slice A3 p2.length c3) (.int .i64 (w64 ((p2.length : Int) - 1)))), .pointer (some (sAddr A3 (w64 ((p2.length : Int) - 1))))⟩, ⟨false, [(((r4.length : Int) == (p2.length : Int)), true)], vS (Instr.loadAt 3 (.pointer (some (sAddr A3 (w64 ((p2.length : Int) - 1)))))), .int .i64 (geti r2 (w64 ((p2.length : Int) - 1)))⟩, ⟨true, [(((r4.length : Int) == (p2.length : Int)), true)], vS (Instr.indexAt 34 (.slice A3 p2.length c3) (.int .i64 0)), .pointer (some (sAddr A3 0))⟩, ⟨false, [(((r4.length : Int) == (p2.length : Int)), true)], vS (Instr.loadAt 3 (.pointer (some (sAddr A3 0)))), .int .i64 (geti r2 0)⟩] [none, none, none, none, some (.pointer (some (sAddr A3 (w64 ((p2.length : Int) - 1))))), some (.int .i64 (geti r2 (w64 ((p2.length : Int) - 1)))), none, some (.pointer (some (sAddr A3 0))), some (.int .i64 (geti r2 0)), none, none, none, none, none, none, none] [2] [pl 2 (.bool (((r4.length : Int) == (p2.length : Int)) && ((w64 ((geti r2 (w64 ((p2.length : Int) - 1))) - (geti r2 0))) == (w64 ((p2.length : Int) - 1)))))] hF hS (by kernel_rfl) (by kernel_rfl) (by kernel_rfl) (by kernel_rfl) ?_ (fun a hF => ?_)
                · exact obs_cons (ob_ix1 (f := (Value.int .i64)) (m := r2) Und34 hi3 hs3 (hS.at_ 1 rfl).rd ((hS.at_ 1 rfl).len1) (fun hy => hp3 (hy (((r4.length : Int) == (p2.length : Int)), true) (by simp)))) <| obs_cons (ob_get1 (n := p2.length) (m := r2) (Value.int .i64) (0 : Int) Agg3 (fun _ hS => ⟨_, (hS.at_ 1 rfl).rd⟩) (fun _ hS => ((hS.at_ 1 rfl).len1)) (fun hy => hp3 (hy (((r4.length : Int) == (p2.length : Int)), true) (by simp)))) <| obs_cons (ob_ix1 (f := (Value.int .i64)) (m := r2) Und34 hi3 hs3 (hS.at_ 1 rfl).rd ((hS.at_ 1 rfl).len1) (fun hy => hp4 (hy (((r4.length : Int) == (p2.length : Int)), true) (by simp)))) <| obs_cons (ob_get1 (n := p2.length) (m := r2) (Value.int .i64) (0 : Int) Agg3 (fun _ hS => ⟨_, (hS.at_ 1 rfl).rd⟩) (fun _ hS => ((hS.at_ 1 rfl).len1)) (fun hy => hp4 (hy (((r4.length : Int) == (p2.length : Int)), true) (by simp)))) <| obs_nil
                refine np_n ?_
                refine then_n ?_
                have hS := hS.pickN 2 [] (by decide)
                exact ⟨(((r4.length : Int) == (p2.length : Int)) && ((w64 ((geti r2 (w64 ((p2.length : Int) - 1))) - (geti r2 0))) == (w64 ((p2.length : Int) - 1)))), hF.weak [2] (by kernel_rfl), hS, hm⟩
  · refine reg [] [] [3, 6, 7, 8] [pl 3 (.slice none 0 0), pl 6 (.slice A1 l1.length c1), pl 7 (.int .i64 (l1.length : Int)), pl 8 (.int .i64 0)] hF hS Fol (by kernel_rfl) (by kernel_rfl) (by kernel_rfl) ?_ (fun a w hF hS => ?_)
    · exact obs_nil
    refine wp_block ?_
    have hS : Sep w0 B w (own 3 (.slice none 0 0) (vI ([] : List Int)) :: fs) := hS.nil 3
    have hl1 := (hS.at_ 0 rfl).len1
    have hS := (hS.at_ 0 rfl).reN hl1
    have hS : Sep w0 B w (own 3 (.slice none (([] : List Int).length) 0) (vI ([] : List Int)) :: fs) := hS
    have hF := hF.cast (t := 3) (v := .slice none 0 0) (v' := .slice none (([] : List Int).length) 0) rfl rfl (congrArg (fun k => Value.slice none k 0) hl1)
    refine wp_loop_model (S := (List Int × Int)) (R := (List Int)) (crib_row_L1 l1) (fun x => (crib_row_K1 x).bind some) r (fun (x : (List Int × Int)) a w => ∃ (A2 : Option Addr) (c2 : Nat), Fr 43 [pl 3 (.slice A2 x.1.length c2), pl 6 (.slice A1 l1.length c1), pl 7 (.int .i64 (l1.length : Int)), pl 8 (.int .i64 x.2)] a ∧ Sep w0 B w (own 3 (.slice A2 x.1.length c2) (vI x.1) :: fs)) (assoc_b hm) ⟨none, 0, hF.weak [3, 6, 7, 8] (by kernel_rfl), hS⟩ ?_
    clear hF hS hm
    rintro nn1 ⟨p1, z1⟩ a w ⟨A2, c2, hF, hS⟩ hm
    generalize hφ1 : stK (crib_row_L1 l1) nn1 (fun x => (crib_row_K1 x).bind some) = φ1 at hm
    unfold crib_row_L1 at hm
    dsimp only at hF hS hm
    refine reg [] [] [3, 6, 7, 8, 9] [pl 3 (.slice A2 p1.length c2), pl 6 (.slice A1 l1.length c1), pl 7 (.int .i64 (l1.length : Int)), pl 8 (.int .i64 z1), pl 9 (.bool (decide (z1 < (l1.length : Int))))] hF hS Fol (by kernel_rfl) (by kernel_rfl) (by kernel_rfl) ?_ (fun a w hF hS => ?_)
    · exact obs_nil
    refine seq_cut (fun a w => Fr 43 [pl 3 (.slice A2 p1.length c2), pl 6 (.slice A1 l1.length c1), pl 7 (.int .i64 (l1.length : Int)), pl 8 (.int .i64 z1)] a ∧ Sep w0 B w (own 3 (.slice A2 p1.length c2) (vI p1) :: fs) ∧ ((crib_row_J2 l1 p1 z1)).bind φ1 = some r) ?_ ?_
    · rintro a w ⟨hF, hS, hm⟩
      unfold crib_row_J2 at hm
      refine seq_cut (fun a w => ∃ (p3 : List Int) (A5 : Option Addr) (c5 : Nat), Fr 43 [pl 3 (.slice A5 p3.length c5), pl 6 (.slice A1 l1.length c1), pl 7 (.int .i64 (l1.length : Int)), pl 8 (.int .i64 z1)] a ∧ Sep w0 B w (own 3 (.slice A5 p3.length c5) (vI p3) :: fs) ∧ ((crib_row_J3 z1) p3).bind φ1 = some r) ?_ ?_
      · rintro a w ⟨p3, A5, c5, hF, hS, hm⟩
        unfold crib_row_J3 at hm
        refine reg1 [] [] [3, 6, 7, 8] [pl 3 (.slice A5 p3.length c5), pl 6 (.slice A1 l1.length c1), pl 7 (.int .i64 (l1.length : Int)), pl 8 (.int .i64 (w64 (z1 + 1)))] hF hS Fol (by kernel_rfl) (by kernel_rfl) (by kernel_rfl) ?_ (fun a w hF hS => ?_)
        · exact obs_nil
        refine then_n ?_
        rw [← hφ1] at hm
        exact ⟨(p3, (w64 (z1 + 1))), ⟨A5, c5, hF.weak [3, 6, 7, 8] (by kernel_rfl), hS⟩, hm⟩
      · refine wp_block ?_
        obtain ⟨hp1, hm⟩ := asrt_b hm
        refine reg [⟨true, [], vS (Instr.indexAt 34 (.slice A1 l1.length c1) (.int .i64 z1)), .pointer (some (sAddr A1 z1))⟩, ⟨false, [], vS (Instr.loadAt 3 (.pointer (some (sAddr A1 z1)))), .int .i64 (geti l1 z1)⟩] [some (.pointer (some (sAddr A1 z1))), some (.int .i64 (geti l1 z1)), none] [3, 5, 6, 7, 8] [pl 3 (.slice A2 p1.length c2), pl 5 (.int .i64 (geti l1 z1)), pl 6 (.slice A1 l1.length c1), pl 7 (.int .i64 (l1.length : Int)), pl 8 (.int .i64 z1)] hF hS Fol (by kernel_rfl) (by kernel_rfl) (by kernel_rfl) ?_ (fun a w hF hS => ?_)
        · exact obs_cons (ob_ix1 (f := (Value.int .i64)) (m := l1) Und34 hi3 hs3 (hr_l1 _ (hS.dropN 1)) rfl (fun _ => hp1)) <| obs_cons (ob_get1 (n := l1.length) (m := l1) (Value.int .i64) (0 : Int) Agg3 (fun _ hS => ⟨_, (hr_l1 _ (hS.dropN 1))⟩) (fun _ hS => rfl) (fun _ => hp1)) <| obs_nil
        refine oneR ?_
        obtain ⟨r1, hr1, hm⟩ := call_b hm
        obtain ⟨hp2, hm⟩ := asrt_b hm
        refine at_run 3 [⟨false, [], callFunc 126 #[.int .i64 (geti l1 z1)], .int .i64 r1⟩] [none, none, some (.int .i64 r1)] [6, 7, 8, 12, 14] [pl 6 (.slice A1 l1.length c1), pl 7 (.int .i64 (l1.length : Int)), pl 8 (.int .i64 z1), pl 12 (.slice A2 p1.length c2), pl 14 (.int .i64 r1)] hF hS (by kernel_rfl) (by kernel_rfl) ?_ (fun a w hF hS => ?_)
        · exact obs_cons (ob_call Try.func126 (by kernel_rfl) rfl (fun _ _ hS => crib_pip_w hr1 hS )) <| obs_nil
        refine at_do (d := 15) (s := vS (Instr.buildSlice 34 1 #[(0, .int .i64 r1)])) (v := .slice (some ⟨w.heap.size, 0, none⟩) 1 1) (w' := w.alloc (.cells #[.int .i64 r1] 3)) hF (by kernel_rfl) (by kernel_rfl) (by kernel_rfl) (fun a hF => ?_)
        have hS : Sep w0 B (w.alloc (.cells #[.int .i64 r1] 3)) (own 3 (.slice (some (⟨w.heap.size, 0, none⟩ : Addr)) 1 1) (vI ([r1] : List Int)) :: (own 3 (.slice A2 p1.length c2) (vI p1) :: fs)) := hS.lit 3 #[.int .i64 r1] 1 rfl (by omega)
        generalize (some (⟨w.heap.size, 0, none⟩ : Addr)) = g1 at hF hS
        generalize w.alloc (.cells #[.int .i64 r1] 3) = w at hS ⊢
        obtain ⟨A4, c4, w, hrun, hS⟩ := run_app1 (P := Try.prog) (t := 34) (m := p1) (ys := ([r1] : List Int)) (A2 := g1) (m2 := 1) (c2 := 1) (Value.int .i64) (0 : Int) (hS.at_ 1 rfl) (hS.at_ 0 rfl).rd ((hS.at_ 0 rfl).len1) 34 Und34 hi3 hz3 hs3 (by omega) rfl (fun _ => rfl) hp2
        have hS : Sep w0 B w (own 3 (.slice g1 1 1) (vI ([r1] : List Int)) :: own 3 (.slice A4 ((p1 ++ ([r1] : List Int)).length) c4) (vI (p1 ++ ([r1] : List Int))) :: fs) := hS
        refine at_do (d := 16) hF (by kernel_rfl) (by kernel_rfl) hrun (fun a hF => ?_)
        refine at_run 1 [] [] [3, 6, 7, 8] [pl 3 (.slice A4 ((p1 ++ ([r1] : List Int)).length) c4), pl 6 (.slice A1 l1.length c1), pl 7 (.int .i64 (l1.length : Int)), pl 8 (.int .i64 z1)] hF hS (by kernel_rfl) (by kernel_rfl) ?_ (fun a w hF hS => ?_)
        · exact obs_nil
        refine at_end [3, 6, 7, 8] [pl 3 (.slice A4 ((p1 ++ ([r1] : List Int)).length) c4), pl 6 (.slice A1 l1.length c1), pl 7 (.int .i64 (l1.length : Int)), pl 8 (.int .i64 z1)] hF rfl (by kernel_rfl) (fun hF => ?_)
        refine block_n ?_
        refine then_n ?_
        have hS := hS.pickN 2 [1] (by decide)
        exact ⟨(p1 ++ ([r1] : List Int)), A4, c4, hF.weak [3, 6, 7, 8] (by kernel_rfl), hS, hm⟩
    · refine cond_ev (t := 9) (b := decide (z1 < (l1.length : Int))) hF (by kernel_rfl) (fun hb => ?_) (fun hb => ?_)
      · replace hm := if_t hm hb
        refine wp_skip ?_
        refine then_n ?_
        exact ⟨hF.weak [3, 6, 7, 8] (by kernel_rfl), hS, hm⟩
      · replace hm := if_f hm hb
        refine wp_exit ?_
        refine then_e (then_e (block_e (then_n ?_)))
        rw [← hφ1] at hm
        replace hm := done_b hm
        unfold crib_row_K1 at hm
        try dsimp only at hm
        have hm : (crib_row_J1 p1).bind some = some r := hm
        exact ⟨p1, A2, c2, hF.weak [3] (by kernel_rfl), hS, hm⟩

noncomputable def crib_Peg_J5 (z1 : Int) (sum3 : Int) : Option (St (Int × Int) Int) :=
  some (.next (sum3, (w64 (z1 + 1))))

noncomputable def crib_Peg_J4 (l1 : List Int) (sum1 : Int) (z1 : Int) : Option (St (Int × Int) Int) :=
  asrt (0 ≤ z1 ∧ z1 < (l1.length : Int)) <| (crib_points_m (geti l1 z1)).bind fun r2 => (crib_Peg_J5 z1) (w64 (sum1 + r2))

noncomputable def crib_Peg_J9 (same1 : Int) : Option (St Int Int) :=
  some (.next (w64 (same1 + 1)))

noncomputable def crib_Peg_L2 (l1 : List Int) : Int → Option (St Int Int) :=
  fun (x : Int) => match x with | same1 => asrt ((decide (same1 < (l1.length : Int))) = true → 0 ≤ (w64 ((w64 ((l1.length : Int) - 1)) - same1)) ∧ (w64 ((w64 ((l1.length : Int) - 1)) - same1)) < (l1.length : Int)) <| ((if (decide (same1 < (l1.length : Int))) then crib_pip_m (geti l1 (w64 ((w64 ((l1.length : Int) - 1)) - same1))) else some 0)).bind fun r3 => asrt ((decide (same1 < (l1.length : Int))) = true → 0 ≤ (w64 ((l1.length : Int) - 1)) ∧ (w64 ((l1.length : Int) - 1)) < (l1.length : Int)) <| ((if (decide (same1 < (l1.length : Int))) then crib_pip_m (geti l1 (w64 ((l1.length : Int) - 1))) else some 0)).bind fun r4 => if ((decide (same1 < (l1.length : Int))) && (r3 == r4)) then ((crib_Peg_J9 same1)) else (some (.done same1))

noncomputable def crib_Peg_J13 (k1 : Int) : Option (St Int (Fl Unit (Int × Int))) :=
  some (.next (w64 (k1 - 1)))

noncomputable def crib_Peg_J12 (l1 : List Int) (n2 : Int) (k1 : Int) : Option (St Int (Fl Unit (Int × Int))) :=
  asrt (0 ≤ (w64 ((l1.length : Int) - k1)) ∧ (w64 ((l1.length : Int) - k1)) ≤ (l1.length : Int) ∧ (l1.length : Int) ≤ (l1.length : Int)) <| (crib_row_m (cut l1 (w64 ((l1.length : Int) - k1)) (l1.length : Int))).bind fun r5 => if r5 then (some (.done (.ret ((w64 (n2 + k1)), 0)))) else ((crib_Peg_J13 k1))

noncomputable def crib_Peg_L3 (l1 : List Int) (n2 : Int) : Int → Option (St Int (Fl Unit (Int × Int))) :=
  fun (x : Int) => match x with | k1 => if (decide ((3 : Int) ≤ k1)) then ((crib_Peg_J12 l1 n2 k1)) else (some (.done (.go ())))

noncomputable def crib_Peg_J11 (n2 : Int) : Option (Int × Int) :=
  some (n2, 0)

noncomputable def crib_Peg_K3 (n2 : Int) : (Fl Unit (Int × Int)) → Option (Int × Int) :=
  fun (x : (Fl Unit (Int × Int))) => match x with | .go _ => (crib_Peg_J11 n2) | .ret x => some x

noncomputable def crib_Peg_J10 (l1 : List Int) (n2 : Int) : Option (Int × Int) :=
  (loop (crib_Peg_L3 l1 n2) (l1.length : Int)).bind (crib_Peg_K3 n2)

noncomputable def crib_Peg_J8 (l1 : List Int) (n2 : Int) (same2 : Int) : Option (Int × Int) :=
  if (decide ((1 : Int) < same2)) then (some ((w64 (n2 + (w64 (same2 * (w64 (same2 - 1)))))), 0)) else ((crib_Peg_J10 l1 n2))

noncomputable def crib_Peg_K2 (l1 : List Int) (n2 : Int) : Int → Option (Int × Int) :=
  fun (x : Int) => match x with | same2 => (crib_Peg_J8 l1 n2) same2

noncomputable def crib_Peg_J7 (l1 : List Int) (n2 : Int) : Option (Int × Int) :=
  (loop (crib_Peg_L2 l1) 1).bind (crib_Peg_K2 l1 n2)

noncomputable def crib_Peg_J6 (l1 : List Int) (sum2 : Int) : Option (Int × Int) :=
  if ((sum2 == 15) || (sum2 == 31)) then ((crib_Peg_J7 l1) 2) else ((crib_Peg_J7 l1) 0)

noncomputable def crib_Peg_J3 (l1 : List Int) (sum2 : Int) : Option (Int × Int) :=
  if (decide ((31 : Int) < sum2)) then (some (0, 9)) else ((crib_Peg_J6 l1 sum2))

noncomputable def crib_Peg_K1 (l1 : List Int) : Int → Option (Int × Int) :=
  fun (x : Int) => match x with | sum2 => (crib_Peg_J3 l1) sum2

noncomputable def crib_Peg_L1 (l1 : List Int) : (Int × Int) → Option (St (Int × Int) Int) :=
  fun (x : (Int × Int)) => match x with | (sum1, z1) => if (decide (z1 < (l1.length : Int))) then ((crib_Peg_J4 l1 sum1 z1)) else (some (.done sum1))

noncomputable def crib_Peg_J2 (l1 : List Int) : Option (Int × Int) :=
  (loop (crib_Peg_L1 l1) (0, 0)).bind (crib_Peg_K1 l1)

noncomputable def crib_Peg_J1 (l1 : List Int) : Option (Int × Int) :=
  (crib_check_m l1).bind fun r1 => if (r1 != 0) then (some (0, r1)) else ((crib_Peg_J2 l1))

noncomputable def crib_Peg_m (l1 : List Int) : Option (Int × Int) :=
  if ((decide ((l1.length : Int) < 1)) || (decide ((13 : Int) < (l1.length : Int)))) then (some (0, 11)) else ((crib_Peg_J1 l1))

set_option maxRecDepth 100000 in
set_option maxHeartbeats 4000000 in
theorem crib_Peg_w {A1 : Option Addr} {c1 : Nat} {n1 : Nat} {l1 : List Int} {r : (Int × Int)} {w0 w : World} {B : Nat} {fs : List HP} (hm : crib_Peg_m l1 = some r) (hS : Sep w0 B w (fs)) (hr_l1 : RdF w0 B fs A1 (vI l1)) (_hc_l1 : l1.length ≤ c1) (_hn_l1 : n1 = l1.length) :
    Calls Try.prog 61 #[.slice A1 n1 c1] w fun e w' => e = .returned (.tuple #[.int .i64 r.1, .int .i64 r.2]) ∧ Sep w0 B w' (fs) := by
  obtain ⟨i3, hi3, hz3, hs3, hb3⟩ := info_parts Info3
  obtain rfl := _hn_l1
  unfold crib_Peg_m at hm
  replace hm := start_b hm
  refine enter (l := [.slice A1 l1.length c1]) (n := 93) Try.func61 rfl rfl (by simp) (fun a hF => ?_)
  refine reg [] [] [0] [pl 0 (.slice A1 l1.length c1)] hF hS Fol (by kernel_rfl) (by kernel_rfl) (by kernel_rfl) ?_ (fun a w hF hS => ?_)
  · exact obs_nil
  refine seq_cut (fun a w => Fr 93 [pl 0 (.slice A1 l1.length c1)] a ∧ Sep w0 B w (fs) ∧ ((crib_Peg_J1 l1)).bind some = some r) ?_ ?_
  · rintro a w ⟨hF, hS, hm⟩
    unfold crib_Peg_J1 at hm
    refine seq_cut (fun a w => Fr 93 [pl 0 (.slice A1 l1.length c1)] a ∧ Sep w0 B w (fs) ∧ ((crib_Peg_J2 l1)).bind some = some r) ?_ ?_
    · rintro a w ⟨hF, hS, hm⟩
      unfold crib_Peg_J2 at hm
      refine reg [] [] [0, 5, 6] [pl 0 (.slice A1 l1.length c1), pl 5 (.int .i64 0), pl 6 (.int .i64 0)] hF hS Fol (by kernel_rfl) (by kernel_rfl) (by kernel_rfl) ?_ (fun a w hF hS => ?_)
      · exact obs_nil
      refine seq_cut (fun a w => ∃ (sum2 : Int), Fr 93 [pl 0 (.slice A1 l1.length c1), pl 5 (.int .i64 sum2), pl 6 (.int .i64 0)] a ∧ Sep w0 B w (fs) ∧ ((crib_Peg_J3 l1) sum2).bind some = some r) ?_ ?_
      · rintro a w ⟨sum2, hF, hS, hm⟩
        unfold crib_Peg_J3 at hm
        refine seq_cut (fun a w => Fr 93 [pl 0 (.slice A1 l1.length c1), pl 5 (.int .i64 sum2), pl 6 (.int .i64 0)] a ∧ Sep w0 B w (fs) ∧ ((crib_Peg_J6 l1 sum2)).bind some = some r) ?_ ?_
        · rintro a w ⟨hF, hS, hm⟩
          unfold crib_Peg_J6 at hm
          refine seq_cut (fun a w => ∃ (n2 : Int), Fr 93 [pl 0 (.slice A1 l1.length c1), pl 6 (.int .i64 n2)] a ∧ Sep w0 B w (fs) ∧ ((crib_Peg_J7 l1) n2).bind some = some r) ?_ ?_
          · rintro a w ⟨n2, hF, hS, hm⟩
            unfold crib_Peg_J7 at hm
            refine reg [] [] [0, 6, 9] [pl 0 (.slice A1 l1.length c1), pl 6 (.int .i64 n2), pl 9 (.int .i64 1)] hF hS Fol (by kernel_rfl) (by kernel_rfl) (by kernel_rfl) ?_ (fun a w hF hS => ?_)
            · exact obs_nil
            refine seq_cut (fun a w => ∃ (same2 : Int), Fr 93 [pl 0 (.slice A1 l1.length c1), pl 6 (.int .i64 n2), pl 9 (.int .i64 same2)] a ∧ Sep w0 B w (fs) ∧ ((crib_Peg_J8 l1 n2) same2).bind some = some r) ?_ ?_
            · rintro a w ⟨same2, hF, hS, hm⟩
              unfold crib_Peg_J8 at hm
              refine seq_cut (fun a w => Fr 93 [pl 0 (.slice A1 l1.length c1), pl 6 (.int .i64 n2)] a ∧ Sep w0 B w (fs) ∧ ((crib_Peg_J10 l1 n2)).bind some = some r) ?_ ?_
              · rintro a w ⟨hF, hS, hm⟩
                unfold crib_Peg_J10 at hm
                refine seq_cut (fun a w => Fr 93 [pl 6 (.int .i64 n2)] a ∧ Sep w0 B w (fs) ∧ ((crib_Peg_J11 n2)).bind some = some r) ?_ ?_
                · rintro a w ⟨hF, hS, hm⟩
                  unfold crib_Peg_J11 at hm
                  refine reg [] [] [2, 3] [pl 2 (.int .i64 n2), pl 3 (.int .i64 0)] hF hS Fol (by kernel_rfl) (by kernel_rfl) (by kernel_rfl) ?_ (fun a w hF hS => ?_)
                  · exact obs_nil
                  refine wp_ret ?_
                  have hm : some (n2, 0) = some r := hm
                  obtain rfl := Option.some.inj hm
                  exact retV (rs := [.tmp 2, .tmp 3]) (vs := [.int .i64 n2, .int .i64 0]) hF rfl (rv_t (by kernel_rfl) <| rv_t (by kernel_rfl) <| rv_nil) rfl ⟨rfl, hS⟩
                · refine reg [] [] [0, 6, 10] [pl 0 (.slice A1 l1.length c1), pl 6 (.int .i64 n2), pl 10 (.int .i64 (l1.length : Int))] hF hS Fol (by kernel_rfl) (by kernel_rfl) (by kernel_rfl) ?_ (fun a w hF hS => ?_)
                  · exact obs_nil
                  refine wp_block ?_
                  refine wp_loop_model (S := Int) (R := (Fl Unit (Int × Int))) (crib_Peg_L3 l1 n2) (fun x => ((crib_Peg_K3 n2) x).bind some) r (fun (x : Int) a w => Fr 93 [pl 0 (.slice A1 l1.length c1), pl 6 (.int .i64 n2), pl 10 (.int .i64 x)] a ∧ Sep w0 B w (fs)) (assoc_b hm) ⟨hF.weak [0, 6, 10] (by kernel_rfl), hS⟩ ?_
                  clear hF hS hm
                  rintro nn3 k1 a w ⟨hF, hS⟩ hm
                  generalize hφ3 : stK (crib_Peg_L3 l1 n2) nn3 (fun x => ((crib_Peg_K3 n2) x).bind some) = φ3 at hm
                  unfold crib_Peg_L3 at hm
                  dsimp only at hm
                  refine seq_cut (fun a w => Fr 93 [pl 0 (.slice A1 l1.length c1), pl 6 (.int .i64 n2), pl 10 (.int .i64 k1)] a ∧ Sep w0 B w (fs) ∧ ((crib_Peg_J12 l1 n2 k1)).bind φ3 = some r) ?_ ?_
                  · rintro a w ⟨hF, hS, hm⟩
                    unfold crib_Peg_J12 at hm
                    refine seq_cut (fun a w => Fr 93 [pl 0 (.slice A1 l1.length c1), pl 6 (.int .i64 n2), pl 10 (.int .i64 k1)] a ∧ Sep w0 B w (fs) ∧ ((crib_Peg_J13 k1)).bind φ3 = some r) ?_ ?_
                    · rintro a w ⟨hF, hS, hm⟩
                      unfold crib_Peg_J13 at hm
                      refine reg1 [] [] [0, 6, 10] [pl 0 (.slice A1 l1.length c1), pl 6 (.int .i64 n2), pl 10 (.int .i64 (w64 (k1 - 1)))] hF hS Fol (by kernel_rfl) (by kernel_rfl) (by kernel_rfl) ?_ (fun a w hF hS => ?_)
                      · exact obs_nil
                      refine then_n ?_
                      rw [← hφ3] at hm
                      exact ⟨(w64 (k1 - 1)), ⟨hF.weak [0, 6, 10] (by kernel_rfl), hS⟩, hm⟩
                    · refine wp_block ?_
                      obtain ⟨hp4, hm⟩ := asrt_b hm
                      obtain ⟨r5, hr5, hm⟩ := call_b hm
                      refine reg [⟨true, [], vS (Instr.sliceAt 34 (.slice A1 l1.length c1) (some (.int .i64 (w64 ((l1.length : Int) - k1)))) none none), .slice (cutAddr A1 c1 (w64 ((l1.length : Int) - k1))) ((cut l1 (w64 ((l1.length : Int) - k1)) (l1.length : Int)).length) (c1 - Int.toNat (w64 ((l1.length : Int) - k1)))⟩, ⟨false, [], callFunc 127 #[.slice (cutAddr A1 c1 (w64 ((l1.length : Int) - k1))) ((cut l1 (w64 ((l1.length : Int) - k1)) (l1.length : Int)).length) (c1 - Int.toNat (w64 ((l1.length : Int) - k1)))], .bool r5⟩] [none, none, none, none, none, some (.slice (cutAddr A1 c1 (w64 ((l1.length : Int) - k1))) ((cut l1 (w64 ((l1.length : Int) - k1)) (l1.length : Int)).length) (c1 - Int.toNat (w64 ((l1.length : Int) - k1)))), some (.bool r5)] [0, 6, 10, 88] [pl 0 (.slice A1 l1.length c1), pl 6 (.int .i64 n2), pl 10 (.int .i64 k1), pl 88 (.bool r5)] hF hS Fol (by kernel_rfl) (by kernel_rfl) (by kernel_rfl) ?_ (fun a w hF hS => ?_)
                      · exact obs_cons (ob_cutn (l := l1) (k := .i64) (k' := .i64) Und34 hi3 hs3 rfl (.inl rfl) (.inr ⟨rfl, rfl⟩) (fun _ => hp4) _hc_l1) <| obs_cons (ob_call Try.func127 (by kernel_rfl) rfl (fun _ _ hS => crib_row_w hr5 hS (fun _ hS => (Rd.cutF (hr_l1 _ (hS.dropN 0)) hp4 _hc_l1)) (cap_cut hp4 _hc_l1) rfl)) <| obs_nil
                      refine cond_ev (t := 88) (b := r5) hF (by kernel_rfl) (fun hb => ?_) (fun hb => ?_)
                      · replace hm := if_t hm hb
                        refine reg [] [] [2, 3] [pl 2 (.int .i64 (w64 (n2 + k1))), pl 3 (.int .i64 0)] hF hS Fol (by kernel_rfl) (by kernel_rfl) (by kernel_rfl) ?_ (fun a w hF hS => ?_)
                        · exact obs_nil
                        refine wp_ret ?_
                        refine block_r (then_r (then_r (block_r (then_r ?_))))
                        rw [← hφ3] at hm
                        replace hm := done_b hm
                        unfold crib_Peg_K3 at hm
                        try dsimp only at hm
                        have hm : some ((w64 (n2 + k1)), 0) = some r := hm
                        obtain rfl := Option.some.inj hm
                        exact retV (rs := [.tmp 2, .tmp 3]) (vs := [.int .i64 (w64 (n2 + k1)), .int .i64 0]) hF rfl (rv_t (by kernel_rfl) <| rv_t (by kernel_rfl) <| rv_nil) rfl ⟨rfl, hS⟩
                      · replace hm := if_f hm hb
                        refine wp_skip ?_
                        refine block_n ?_
                        refine then_n ?_
                        exact ⟨hF.weak [0, 6, 10] (by kernel_rfl), hS, hm⟩
                  · refine reg [] [] [0, 6, 10, 79] [pl 0 (.slice A1 l1.length c1), pl 6 (.int .i64 n2), pl 10 (.int .i64 k1), pl 79 (.bool (decide ((3 : Int) ≤ k1)))] hF hS Fol (by kernel_rfl) (by kernel_rfl) (by kernel_rfl) ?_ (fun a w hF hS => ?_)
                    · exact obs_nil
                    refine cond_ev (t := 79) (b := decide ((3 : Int) ≤ k1)) hF (by kernel_rfl) (fun hb => ?_) (fun hb => ?_)
                    · replace hm := if_t hm hb
                      refine wp_skip ?_
                      refine then_n ?_
                      exact ⟨hF.weak [0, 6, 10] (by kernel_rfl), hS, hm⟩
                    · replace hm := if_f hm hb
                      refine wp_exit ?_
                      refine then_e (then_e (block_e (then_n ?_)))
                      rw [← hφ3] at hm
                      replace hm := done_b hm
                      unfold crib_Peg_K3 at hm
                      try dsimp only at hm
                      have hm : ((crib_Peg_J11 n2)).bind some = some r := hm
                      exact ⟨hF.weak [6] (by kernel_rfl), hS, hm⟩
              · refine reg [] [] [0, 6, 9, 69] [pl 0 (.slice A1 l1.length c1), pl 6 (.int .i64 n2), pl 9 (.int .i64 same2), pl 69 (.bool (decide ((1 : Int) < same2)))] hF hS Fol (by kernel_rfl) (by kernel_rfl) (by kernel_rfl) ?_ (fun a w hF hS => ?_)
                · exact obs_nil
                refine cond_ev (t := 69) (b := decide ((1 : Int) < same2)) hF (by kernel_rfl) (fun hb => ?_) (fun hb => ?_)
                · replace hm := if_t hm hb
                  refine reg [] [] [2, 3] [pl 2 (.int .i64 (w64 (n2 + (w64 (same2 * (w64 (same2 - 1))))))), pl 3 (.int .i64 0)] hF hS Fol (by kernel_rfl) (by kernel_rfl) (by kernel_rfl) ?_ (fun a w hF hS => ?_)
                  · exact obs_nil
                  refine wp_ret ?_
                  refine then_r ?_
                  have hm : some ((w64 (n2 + (w64 (same2 * (w64 (same2 - 1)))))), 0) = some r := hm
                  obtain rfl := Option.some.inj hm
                  exact retV (rs := [.tmp 2, .tmp 3]) (vs := [.int .i64 (w64 (n2 + (w64 (same2 * (w64 (same2 - 1)))))), .int .i64 0]) hF rfl (rv_t (by kernel_rfl) <| rv_t (by kernel_rfl) <| rv_nil) rfl ⟨rfl, hS⟩
                · replace hm := if_f hm hb
                  refine wp_skip ?_
                  refine then_n ?_
                  exact ⟨hF.weak [0, 6] (by kernel_rfl), hS, hm⟩
            · refine wp_block ?_
              refine wp_loop_model (S := Int) (R := Int) (crib_Peg_L2 l1) (fun x => ((crib_Peg_K2 l1 n2) x).bind some) r (fun (x : Int) a w => Fr 93 [pl 0 (.slice A1 l1.length c1), pl 6 (.int .i64 n2), pl 9 (.int .i64 x)] a ∧ Sep w0 B w (fs)) (assoc_b hm) ⟨hF.weak [0, 6, 9] (by kernel_rfl), hS⟩ ?_
              clear hF hS hm
              rintro nn2 same1 a w ⟨hF, hS⟩ hm
              generalize hφ2 : stK (crib_Peg_L2 l1) nn2 (fun x => ((crib_Peg_K2 l1 n2) x).bind some) = φ2 at hm
              unfold crib_Peg_L2 at hm
              dsimp only at hm
              refine seq_cut (fun a w => Fr 93 [pl 0 (.slice A1 l1.length c1), pl 6 (.int .i64 n2), pl 9 (.int .i64 same1)] a ∧ Sep w0 B w (fs) ∧ ((crib_Peg_J9 same1)).bind φ2 = some r) ?_ ?_
              · rintro a w ⟨hF, hS, hm⟩
                unfold crib_Peg_J9 at hm
                refine wp_block ?_
                refine reg1 [] [] [0, 6, 9] [pl 0 (.slice A1 l1.length c1), pl 6 (.int .i64 n2), pl 9 (.int .i64 (w64 (same1 + 1)))] hF hS Fol (by kernel_rfl) (by kernel_rfl) (by kernel_rfl) ?_ (fun a w hF hS => ?_)
                · exact obs_nil
                refine block_n ?_
                refine then_n ?_
                rw [← hφ2] at hm
                exact ⟨(w64 (same1 + 1)), ⟨hF.weak [0, 6, 9] (by kernel_rfl), hS⟩, hm⟩
              · obtain ⟨hp2, hm⟩ := asrt_b hm
                obtain ⟨r3, hr3, hm⟩ := call_b hm
                obtain ⟨hp3, hm⟩ := asrt_b hm
                obtain ⟨r4, hr4, hm⟩ := call_b hm
                refine reg [⟨true, [(decide (same1 < (l1.length : Int)), true)], vS (Instr.indexAt 34 (.slice A1 l1.length c1) (.int .i64 (w64 ((w64 ((l1.length : Int) - 1)) - same1)))), .pointer (some (sAddr A1 (w64 ((w64 ((l1.length : Int) - 1)) - same1))))⟩, ⟨false, [(decide (same1 < (l1.length : Int)), true)], vS (Instr.loadAt 3 (.pointer (some (sAddr A1 (w64 ((w64 ((l1.length : Int) - 1)) - same1)))))), .int .i64 (geti l1 (w64 ((w64 ((l1.length : Int) - 1)) - same1)))⟩, ⟨false, [(decide (same1 < (l1.length : Int)), true)], callFunc 126 #[.int .i64 (geti l1 (w64 ((w64 ((l1.length : Int) - 1)) - same1)))], .int .i64 r3⟩, ⟨true, [(decide (same1 < (l1.length : Int)), true)], vS (Instr.indexAt 34 (.slice A1 l1.length c1) (.int .i64 (w64 ((l1.length : Int) - 1)))), .pointer (some (sAddr A1 (w64 ((l1.length : Int) - 1))))⟩, ⟨false, [(decide (same1 < (l1.length : Int)), true)], vS (Instr.loadAt 3 (.pointer (some (sAddr A1 (w64 ((l1.length : Int) - 1)))))), .int .i64 (geti l1 (w64 ((l1.length : Int) - 1)))⟩, ⟨false, [(decide (same1 < (l1.length : Int)), true)], callFunc 126 #[.int .i64 (geti l1 (w64 ((l1.length : Int) - 1)))], .int .i64 r4⟩] [none, none, none, none, none, none, none, none, none, none, none, some (.pointer (some (sAddr A1 (w64 ((w64 ((l1.length : Int) - 1)) - same1))))), some (.int .i64 (geti l1 (w64 ((w64 ((l1.length : Int) - 1)) - same1)))), some (.int .i64 r3), none, none, none, none, some (.pointer (some (sAddr A1 (w64 ((l1.length : Int) - 1))))), some (.int .i64 (geti l1 (w64 ((l1.length : Int) - 1)))), some (.int .i64 r4), none, none] [0, 6, 9, 65] [pl 0 (.slice A1 l1.length c1), pl 6 (.int .i64 n2), pl 9 (.int .i64 same1), pl 65 (.bool ((decide (same1 < (l1.length : Int))) && (r3 == r4)))] hF hS Fol (by kernel_rfl) (by kernel_rfl) (by kernel_rfl) ?_ (fun a w hF hS => ?_)
                · exact obs_cons (ob_ix1 (f := (Value.int .i64)) (m := l1) Und34 hi3 hs3 (hr_l1 _ (hS.dropN 0)) rfl (fun hy => hp2 (hy (decide (same1 < (l1.length : Int)), true) (by simp)))) <| obs_cons (ob_get1 (n := l1.length) (m := l1) (Value.int .i64) (0 : Int) Agg3 (fun _ hS => ⟨_, (hr_l1 _ (hS.dropN 0))⟩) (fun _ hS => rfl) (fun hy => hp2 (hy (decide (same1 < (l1.length : Int)), true) (by simp)))) <| obs_cons (ob_call Try.func126 (by kernel_rfl) rfl (fun hy _ hS => crib_pip_w (ite_some hr3 (by rw [show (decide (same1 < (l1.length : Int))) = true from hy (decide (same1 < (l1.length : Int)), true) (by simp)]; try rfl)) hS )) <| obs_cons (ob_ix1 (f := (Value.int .i64)) (m := l1) Und34 hi3 hs3 (hr_l1 _ (hS.dropN 0)) rfl (fun hy => hp3 (hy (decide (same1 < (l1.length : Int)), true) (by simp)))) <| obs_cons (ob_get1 (n := l1.length) (m := l1) (Value.int .i64) (0 : Int) Agg3 (fun _ hS => ⟨_, (hr_l1 _ (hS.dropN 0))⟩) (fun _ hS => rfl) (fun hy => hp3 (hy (decide (same1 < (l1.length : Int)), true) (by simp)))) <| obs_cons (ob_call Try.func126 (by kernel_rfl) rfl (fun hy _ hS => crib_pip_w (ite_some hr4 (by rw [show (decide (same1 < (l1.length : Int))) = true from hy (decide (same1 < (l1.length : Int)), true) (by simp)]; try rfl)) hS )) <| obs_nil
                refine cond_ev (t := 65) (b := (decide (same1 < (l1.length : Int))) && (r3 == r4)) hF (by kernel_rfl) (fun hb => ?_) (fun hb => ?_)
                · replace hm := if_t hm hb
                  refine wp_skip ?_
                  refine then_n ?_
                  exact ⟨hF.weak [0, 6, 9] (by kernel_rfl), hS, hm⟩
                · replace hm := if_f hm hb
                  refine wp_exit ?_
                  refine then_e (then_e (block_e (then_n ?_)))
                  rw [← hφ2] at hm
                  replace hm := done_b hm
                  unfold crib_Peg_K2 at hm
                  try dsimp only at hm
                  have hm : ((crib_Peg_J8 l1 n2) same1).bind some = some r := hm
                  exact ⟨same1, hF.weak [0, 6, 9] (by kernel_rfl), hS, hm⟩
          · refine reg [] [] [0, 6, 42] [pl 0 (.slice A1 l1.length c1), pl 6 (.int .i64 0), pl 42 (.bool ((sum2 == 15) || (sum2 == 31)))] hF hS Fol (by kernel_rfl) (by kernel_rfl) (by kernel_rfl) ?_ (fun a w hF hS => ?_)
            · exact obs_nil
            refine cond_ev (t := 42) (b := (sum2 == 15) || (sum2 == 31)) hF (by kernel_rfl) (fun hb => ?_) (fun hb => ?_)
            · replace hm := if_t hm hb
              refine reg1 [] [] [0, 6] [pl 0 (.slice A1 l1.length c1), pl 6 (.int .i64 2)] hF hS Fol (by kernel_rfl) (by kernel_rfl) (by kernel_rfl) ?_ (fun a w hF hS => ?_)
              · exact obs_nil
              refine then_n ?_
              exact ⟨2, hF.weak [0, 6] (by kernel_rfl), hS, hm⟩
            · replace hm := if_f hm hb
              refine wp_skip ?_
              refine then_n ?_
              exact ⟨0, hF.weak [0, 6] (by kernel_rfl), hS, hm⟩
        · refine reg [] [] [0, 5, 6, 36] [pl 0 (.slice A1 l1.length c1), pl 5 (.int .i64 sum2), pl 6 (.int .i64 0), pl 36 (.bool (decide ((31 : Int) < sum2)))] hF hS Fol (by kernel_rfl) (by kernel_rfl) (by kernel_rfl) ?_ (fun a w hF hS => ?_)
          · exact obs_nil
          refine cond_ev (t := 36) (b := decide ((31 : Int) < sum2)) hF (by kernel_rfl) (fun hb => ?_) (fun hb => ?_)
          · replace hm := if_t hm hb
            refine reg [] [] [2, 3] [pl 2 (.int .i64 0), pl 3 (.int .i64 9)] hF hS Fol (by kernel_rfl) (by kernel_rfl) (by kernel_rfl) ?_ (fun a w hF hS => ?_)
            · exact obs_nil
            refine wp_ret ?_
            refine then_r ?_
            have hm : some (0, 9) = some r := hm
            obtain rfl := Option.some.inj hm
            exact retV (rs := [.tmp 2, .tmp 3]) (vs := [.int .i64 0, .int .i64 9]) hF rfl (rv_t (by kernel_rfl) <| rv_t (by kernel_rfl) <| rv_nil) rfl ⟨rfl, hS⟩
          · replace hm := if_f hm hb
            refine wp_skip ?_
            refine then_n ?_
            exact ⟨hF.weak [0, 5, 6] (by kernel_rfl), hS, hm⟩
      · refine reg [] [] [0, 5, 6, 24, 25, 26] [pl 0 (.slice A1 l1.length c1), pl 5 (.int .i64 0), pl 6 (.int .i64 0), pl 24 (.slice A1 l1.length c1), pl 25 (.int .i64 (l1.length : Int)), pl 26 (.int .i64 0)] hF hS Fol (by kernel_rfl) (by kernel_rfl) (by kernel_rfl) ?_ (fun a w hF hS => ?_)
        · exact obs_nil
        refine wp_block ?_
        refine wp_loop_model (S := (Int × Int)) (R := Int) (crib_Peg_L1 l1) (fun x => ((crib_Peg_K1 l1) x).bind some) r (fun (x : (Int × Int)) a w => Fr 93 [pl 0 (.slice A1 l1.length c1), pl 5 (.int .i64 x.1), pl 6 (.int .i64 0), pl 24 (.slice A1 l1.length c1), pl 25 (.int .i64 (l1.length : Int)), pl 26 (.int .i64 x.2)] a ∧ Sep w0 B w (fs)) (assoc_b hm) ⟨hF.weak [0, 5, 6, 24, 25, 26] (by kernel_rfl), hS⟩ ?_
        clear hF hS hm
        rintro nn1 ⟨sum1, z1⟩ a w ⟨hF, hS⟩ hm
        generalize hφ1 : stK (crib_Peg_L1 l1) nn1 (fun x => ((crib_Peg_K1 l1) x).bind some) = φ1 at hm
        unfold crib_Peg_L1 at hm
        dsimp only at hF hS hm
        refine reg [] [] [0, 5, 6, 24, 25, 26, 27] [pl 0 (.slice A1 l1.length c1), pl 5 (.int .i64 sum1), pl 6 (.int .i64 0), pl 24 (.slice A1 l1.length c1), pl 25 (.int .i64 (l1.length : Int)), pl 26 (.int .i64 z1), pl 27 (.bool (decide (z1 < (l1.length : Int))))] hF hS Fol (by kernel_rfl) (by kernel_rfl) (by kernel_rfl) ?_ (fun a w hF hS => ?_)
        · exact obs_nil
        refine seq_cut (fun a w => Fr 93 [pl 0 (.slice A1 l1.length c1), pl 5 (.int .i64 sum1), pl 6 (.int .i64 0), pl 24 (.slice A1 l1.length c1), pl 25 (.int .i64 (l1.length : Int)), pl 26 (.int .i64 z1)] a ∧ Sep w0 B w (fs) ∧ ((crib_Peg_J4 l1 sum1 z1)).bind φ1 = some r) ?_ ?_
        · rintro a w ⟨hF, hS, hm⟩
          unfold crib_Peg_J4 at hm
          refine seq_cut (fun a w => ∃ (sum3 : Int), Fr 93 [pl 0 (.slice A1 l1.length c1), pl 5 (.int .i64 sum3), pl 6 (.int .i64 0), pl 24 (.slice A1 l1.length c1), pl 25 (.int .i64 (l1.length : Int)), pl 26 (.int .i64 z1)] a ∧ Sep w0 B w (fs) ∧ ((crib_Peg_J5 z1) sum3).bind φ1 = some r) ?_ ?_
          · rintro a w ⟨sum3, hF, hS, hm⟩
            unfold crib_Peg_J5 at hm
            refine reg1 [] [] [0, 5, 6, 24, 25, 26] [pl 0 (.slice A1 l1.length c1), pl 5 (.int .i64 sum3), pl 6 (.int .i64 0), pl 24 (.slice A1 l1.length c1), pl 25 (.int .i64 (l1.length : Int)), pl 26 (.int .i64 (w64 (z1 + 1)))] hF hS Fol (by kernel_rfl) (by kernel_rfl) (by kernel_rfl) ?_ (fun a w hF hS => ?_)
            · exact obs_nil
            refine then_n ?_
            rw [← hφ1] at hm
            exact ⟨(sum3, (w64 (z1 + 1))), ⟨hF.weak [0, 5, 6, 24, 25, 26] (by kernel_rfl), hS⟩, hm⟩
          · refine wp_block ?_
            obtain ⟨hp1, hm⟩ := asrt_b hm
            refine reg [⟨true, [], vS (Instr.indexAt 34 (.slice A1 l1.length c1) (.int .i64 z1)), .pointer (some (sAddr A1 z1))⟩, ⟨false, [], vS (Instr.loadAt 3 (.pointer (some (sAddr A1 z1)))), .int .i64 (geti l1 z1)⟩] [some (.pointer (some (sAddr A1 z1))), some (.int .i64 (geti l1 z1)), none] [0, 5, 6, 8, 24, 25, 26] [pl 0 (.slice A1 l1.length c1), pl 5 (.int .i64 sum1), pl 6 (.int .i64 0), pl 8 (.int .i64 (geti l1 z1)), pl 24 (.slice A1 l1.length c1), pl 25 (.int .i64 (l1.length : Int)), pl 26 (.int .i64 z1)] hF hS Fol (by kernel_rfl) (by kernel_rfl) (by kernel_rfl) ?_ (fun a w hF hS => ?_)
            · exact obs_cons (ob_ix1 (f := (Value.int .i64)) (m := l1) Und34 hi3 hs3 (hr_l1 _ (hS.dropN 0)) rfl (fun _ => hp1)) <| obs_cons (ob_get1 (n := l1.length) (m := l1) (Value.int .i64) (0 : Int) Agg3 (fun _ hS => ⟨_, (hr_l1 _ (hS.dropN 0))⟩) (fun _ hS => rfl) (fun _ => hp1)) <| obs_nil
            obtain ⟨r2, hr2, hm⟩ := call_b hm
            refine reg1 [⟨false, [], callFunc 125 #[.int .i64 (geti l1 z1)], .int .i64 r2⟩] [none, none, some (.int .i64 r2), none, none] [0, 5, 6, 24, 25, 26] [pl 0 (.slice A1 l1.length c1), pl 5 (.int .i64 (w64 (sum1 + r2))), pl 6 (.int .i64 0), pl 24 (.slice A1 l1.length c1), pl 25 (.int .i64 (l1.length : Int)), pl 26 (.int .i64 z1)] hF hS Fol (by kernel_rfl) (by kernel_rfl) (by kernel_rfl) ?_ (fun a w hF hS => ?_)
            · exact obs_cons (ob_call Try.func125 (by kernel_rfl) rfl (fun _ _ hS => crib_points_w hr2 hS )) <| obs_nil
            refine block_n ?_
            refine then_n ?_
            exact ⟨(w64 (sum1 + r2)), hF.weak [0, 5, 6, 24, 25, 26] (by kernel_rfl), hS, hm⟩
        · refine cond_ev (t := 27) (b := decide (z1 < (l1.length : Int))) hF (by kernel_rfl) (fun hb => ?_) (fun hb => ?_)
          · replace hm := if_t hm hb
            refine wp_skip ?_
            refine then_n ?_
            exact ⟨hF.weak [0, 5, 6, 24, 25, 26] (by kernel_rfl), hS, hm⟩
          · replace hm := if_f hm hb
            refine wp_exit ?_
            refine then_e (then_e (block_e (then_n ?_)))
            rw [← hφ1] at hm
            replace hm := done_b hm
            unfold crib_Peg_K1 at hm
            try dsimp only at hm
            have hm : ((crib_Peg_J3 l1) sum1).bind some = some r := hm
            exact ⟨sum1, hF.weak [0, 5, 6] (by kernel_rfl), hS, hm⟩
    · obtain ⟨r1, hr1, hm⟩ := call_b hm
      refine reg [⟨false, [], callFunc 124 #[.slice A1 l1.length c1], .int .i64 r1⟩] [none, some (.int .i64 r1), none] [0, 4] [pl 0 (.slice A1 l1.length c1), pl 4 (.int .i64 r1)] hF hS Fol (by kernel_rfl) (by kernel_rfl) (by kernel_rfl) ?_ (fun a w hF hS => ?_)
      · exact obs_cons (ob_call Try.func124 (by kernel_rfl) rfl (fun _ _ hS => crib_check_w hr1 hS (fun _ hS => (hr_l1 _ (hS.dropN 0))) _hc_l1 rfl)) <| obs_nil
      refine reg [] [] [0, 4, 22] [pl 0 (.slice A1 l1.length c1), pl 4 (.int .i64 r1), pl 22 (.bool (r1 != 0))] hF hS Fol (by kernel_rfl) (by kernel_rfl) (by kernel_rfl) ?_ (fun a w hF hS => ?_)
      · exact obs_nil
      refine cond_ev (t := 22) (b := (r1 != 0)) hF (by kernel_rfl) (fun hb => ?_) (fun hb => ?_)
      · replace hm := if_t hm hb
        refine reg [] [] [2, 3] [pl 2 (.int .i64 0), pl 3 (.int .i64 r1)] hF hS Fol (by kernel_rfl) (by kernel_rfl) (by kernel_rfl) ?_ (fun a w hF hS => ?_)
        · exact obs_nil
        refine wp_ret ?_
        refine then_r ?_
        have hm : some (0, r1) = some r := hm
        obtain rfl := Option.some.inj hm
        exact retV (rs := [.tmp 2, .tmp 3]) (vs := [.int .i64 0, .int .i64 r1]) hF rfl (rv_t (by kernel_rfl) <| rv_t (by kernel_rfl) <| rv_nil) rfl ⟨rfl, hS⟩
      · replace hm := if_f hm hb
        refine wp_skip ?_
        refine then_n ?_
        exact ⟨hF.weak [0] (by kernel_rfl), hS, hm⟩
  · refine reg [] [] [0, 18] [pl 0 (.slice A1 l1.length c1), pl 18 (.bool ((decide ((l1.length : Int) < 1)) || (decide ((13 : Int) < (l1.length : Int)))))] hF hS Fol (by kernel_rfl) (by kernel_rfl) (by kernel_rfl) ?_ (fun a w hF hS => ?_)
    · exact obs_nil
    refine cond_ev (t := 18) (b := (decide ((l1.length : Int) < 1)) || (decide ((13 : Int) < (l1.length : Int)))) hF (by kernel_rfl) (fun hb => ?_) (fun hb => ?_)
    · replace hm := if_t hm hb
      refine reg [] [] [2, 3] [pl 2 (.int .i64 0), pl 3 (.int .i64 11)] hF hS Fol (by kernel_rfl) (by kernel_rfl) (by kernel_rfl) ?_ (fun a w hF hS => ?_)
      · exact obs_nil
      refine wp_ret ?_
      refine then_r ?_
      have hm : some (0, 11) = some r := hm
      obtain rfl := Option.some.inj hm
      exact retV (rs := [.tmp 2, .tmp 3]) (vs := [.int .i64 0, .int .i64 11]) hF rfl (rv_t (by kernel_rfl) <| rv_t (by kernel_rfl) <| rv_nil) rfl ⟨rfl, hS⟩
    · replace hm := if_f hm hb
      refine wp_skip ?_
      refine then_n ?_
      exact ⟨hF.weak [0] (by kernel_rfl), hS, hm⟩

noncomputable def gameroomref_within_m (n1 : Int) (low1 : Int) (high1 : Int) : Option Bool :=
  some ((decide (low1 ≤ n1)) && (decide (n1 ≤ high1)))

set_option maxRecDepth 100000 in
set_option maxHeartbeats 4000000 in
theorem gameroomref_within_w {n1 : Int} {low1 : Int} {high1 : Int} {r : Bool} {w0 w : World} {B : Nat} {fs : List HP} (hm : gameroomref_within_m n1 low1 high1 = some r) (hS : Sep w0 B w (fs)) :
    Calls Try.prog 74 #[.int .i64 n1, .int .i64 low1, .int .i64 high1] w fun e w' => e = .returned (.bool r) ∧ Sep w0 B w' (fs) := by
  unfold gameroomref_within_m at hm
  replace hm := start_b hm
  refine enter (l := [.int .i64 n1, .int .i64 low1, .int .i64 high1]) (n := 15) Try.func74 rfl rfl (by simp) (fun a hF => ?_)
  refine reg [] [] [0, 1, 2] [pl 0 (.int .i64 n1), pl 1 (.int .i64 low1), pl 2 (.int .i64 high1)] hF hS Fol (by kernel_rfl) (by kernel_rfl) (by kernel_rfl) ?_ (fun a w hF hS => ?_)
  · exact obs_nil
  refine reg [] [] [6] [pl 6 (.bool ((decide (low1 ≤ n1)) && (decide (n1 ≤ high1))))] hF hS Fol (by kernel_rfl) (by kernel_rfl) (by kernel_rfl) ?_ (fun a w hF hS => ?_)
  · exact obs_nil
  refine wp_ret ?_
  have hm : some ((decide (low1 ≤ n1)) && (decide (n1 ≤ high1))) = some r := hm
  obtain rfl := Option.some.inj hm
  exact retV (rs := [.tmp 6]) (vs := [.bool ((decide (low1 ≤ n1)) && (decide (n1 ≤ high1)))]) hF rfl (rv_t (by kernel_rfl) <| rv_nil) rfl ⟨rfl, hS⟩

noncomputable def gameroomref_at_J3 (i1 : Int) : Option (St Int (Fl Unit Int)) :=
  some (.next (w64 (i1 + 1)))

noncomputable def gameroomref_at_J2 (l1 : List Int) (n2 : Int) (i1 : Int) : Option (St Int (Fl Unit Int)) :=
  asrt (0 ≤ i1 ∧ i1 < (l1.length : Int)) <| if ((geti l1 i1) == n2) then (some (.done (.ret i1))) else ((gameroomref_at_J3 i1))

noncomputable def gameroomref_at_J1 : Option Int :=
  some (-1)

noncomputable def gameroomref_at_K1 : (Fl Unit Int) → Option Int :=
  fun (x : (Fl Unit Int)) => match x with | .go _ => gameroomref_at_J1 | .ret x => some x

noncomputable def gameroomref_at_L1 (l1 : List Int) (n2 : Int) : Int → Option (St Int (Fl Unit Int)) :=
  fun (x : Int) => match x with | i1 => if (decide (i1 < (l1.length : Int))) then ((gameroomref_at_J2 l1 n2 i1)) else (some (.done (.go ())))

noncomputable def gameroomref_at_m (l1 : List Int) (n2 : Int) : Option Int :=
  (loop (gameroomref_at_L1 l1 n2) 0).bind gameroomref_at_K1

set_option maxRecDepth 100000 in
set_option maxHeartbeats 4000000 in
theorem gameroomref_at_w {A1 : Option Addr} {c1 : Nat} {n1 : Nat} {l1 : List Int} {n2 : Int} {r : Int} {w0 w : World} {B : Nat} {fs : List HP} (hm : gameroomref_at_m l1 n2 = some r) (hS : Sep w0 B w (fs)) (hr_l1 : RdF w0 B fs A1 (vI l1)) (_hc_l1 : l1.length ≤ c1) (_hn_l1 : n1 = l1.length) :
    Calls Try.prog 82 #[.slice A1 n1 c1, .int .i64 n2] w fun e w' => e = .returned (.int .i64 r) ∧ Sep w0 B w' (fs) := by
  obtain ⟨i3, hi3, hz3, hs3, hb3⟩ := info_parts Info3
  obtain rfl := _hn_l1
  unfold gameroomref_at_m at hm
  replace hm := start_b hm
  refine enter (l := [.slice A1 l1.length c1, .int .i64 n2]) (n := 19) Try.func82 rfl rfl (by simp) (fun a hF => ?_)
  refine reg [] [] [0, 1] [pl 0 (.slice A1 l1.length c1), pl 1 (.int .i64 n2)] hF hS Fol (by kernel_rfl) (by kernel_rfl) (by kernel_rfl) ?_ (fun a w hF hS => ?_)
  · exact obs_nil
  refine seq_cut (fun a w => Fr 19 [] a ∧ Sep w0 B w (fs) ∧ (gameroomref_at_J1).bind some = some r) ?_ ?_
  · rintro a w ⟨hF, hS, hm⟩
    unfold gameroomref_at_J1 at hm
    refine reg [] [] [4] [pl 4 (.int .i64 (-1))] hF hS Fol (by kernel_rfl) (by kernel_rfl) (by kernel_rfl) ?_ (fun a w hF hS => ?_)
    · exact obs_nil
    refine wp_ret ?_
    have hm : some (-1) = some r := hm
    obtain rfl := Option.some.inj hm
    exact retV (rs := [.tmp 4]) (vs := [.int .i64 (-1)]) hF rfl (rv_t (by kernel_rfl) <| rv_nil) rfl ⟨rfl, hS⟩
  · refine reg [] [] [0, 1, 5] [pl 0 (.slice A1 l1.length c1), pl 1 (.int .i64 n2), pl 5 (.int .i64 0)] hF hS Fol (by kernel_rfl) (by kernel_rfl) (by kernel_rfl) ?_ (fun a w hF hS => ?_)
    · exact obs_nil
    refine wp_block ?_
    refine wp_loop_model (S := Int) (R := (Fl Unit Int)) (gameroomref_at_L1 l1 n2) (fun x => (gameroomref_at_K1 x).bind some) r (fun (x : Int) a w => Fr 19 [pl 0 (.slice A1 l1.length c1), pl 1 (.int .i64 n2), pl 5 (.int .i64 x)] a ∧ Sep w0 B w (fs)) (assoc_b hm) ⟨hF.weak [0, 1, 5] (by kernel_rfl), hS⟩ ?_
    clear hF hS hm
    rintro nn1 i1 a w ⟨hF, hS⟩ hm
    generalize hφ1 : stK (gameroomref_at_L1 l1 n2) nn1 (fun x => (gameroomref_at_K1 x).bind some) = φ1 at hm
    unfold gameroomref_at_L1 at hm
    dsimp only at hm
    refine seq_cut (fun a w => Fr 19 [pl 0 (.slice A1 l1.length c1), pl 1 (.int .i64 n2), pl 5 (.int .i64 i1)] a ∧ Sep w0 B w (fs) ∧ ((gameroomref_at_J2 l1 n2 i1)).bind φ1 = some r) ?_ ?_
    · rintro a w ⟨hF, hS, hm⟩
      unfold gameroomref_at_J2 at hm
      refine seq_cut (fun a w => Fr 19 [pl 0 (.slice A1 l1.length c1), pl 1 (.int .i64 n2), pl 5 (.int .i64 i1)] a ∧ Sep w0 B w (fs) ∧ ((gameroomref_at_J3 i1)).bind φ1 = some r) ?_ ?_
      · rintro a w ⟨hF, hS, hm⟩
        unfold gameroomref_at_J3 at hm
        refine reg1 [] [] [0, 1, 5] [pl 0 (.slice A1 l1.length c1), pl 1 (.int .i64 n2), pl 5 (.int .i64 (w64 (i1 + 1)))] hF hS Fol (by kernel_rfl) (by kernel_rfl) (by kernel_rfl) ?_ (fun a w hF hS => ?_)
        · exact obs_nil
        refine then_n ?_
        rw [← hφ1] at hm
        exact ⟨(w64 (i1 + 1)), ⟨hF.weak [0, 1, 5] (by kernel_rfl), hS⟩, hm⟩
      · refine wp_block ?_
        obtain ⟨hp1, hm⟩ := asrt_b hm
        refine reg [⟨true, [], vS (Instr.indexAt 34 (.slice A1 l1.length c1) (.int .i64 i1)), .pointer (some (sAddr A1 i1))⟩, ⟨false, [], vS (Instr.loadAt 3 (.pointer (some (sAddr A1 i1)))), .int .i64 (geti l1 i1)⟩] [none, none, some (.pointer (some (sAddr A1 i1))), some (.int .i64 (geti l1 i1)), none, none] [0, 1, 5, 17] [pl 0 (.slice A1 l1.length c1), pl 1 (.int .i64 n2), pl 5 (.int .i64 i1), pl 17 (.bool ((geti l1 i1) == n2))] hF hS Fol (by kernel_rfl) (by kernel_rfl) (by kernel_rfl) ?_ (fun a w hF hS => ?_)
        · exact obs_cons (ob_ix1 (f := (Value.int .i64)) (m := l1) Und34 hi3 hs3 (hr_l1 _ (hS.dropN 0)) rfl (fun _ => hp1)) <| obs_cons (ob_get1 (n := l1.length) (m := l1) (Value.int .i64) (0 : Int) Agg3 (fun _ hS => ⟨_, (hr_l1 _ (hS.dropN 0))⟩) (fun _ hS => rfl) (fun _ => hp1)) <| obs_nil
        refine cond_ev (t := 17) (b := ((geti l1 i1) == n2)) hF (by kernel_rfl) (fun hb => ?_) (fun hb => ?_)
        · replace hm := if_t hm hb
          refine reg [] [] [4] [pl 4 (.int .i64 i1)] hF hS Fol (by kernel_rfl) (by kernel_rfl) (by kernel_rfl) ?_ (fun a w hF hS => ?_)
          · exact obs_nil
          refine wp_ret ?_
          refine block_r (then_r (then_r (block_r (then_r ?_))))
          rw [← hφ1] at hm
          replace hm := done_b hm
          unfold gameroomref_at_K1 at hm
          try dsimp only at hm
          have hm : some i1 = some r := hm
          obtain rfl := Option.some.inj hm
          exact retV (rs := [.tmp 4]) (vs := [.int .i64 i1]) hF rfl (rv_t (by kernel_rfl) <| rv_nil) rfl ⟨rfl, hS⟩
        · replace hm := if_f hm hb
          refine wp_skip ?_
          refine block_n ?_
          refine then_n ?_
          exact ⟨hF.weak [0, 1, 5] (by kernel_rfl), hS, hm⟩
    · refine reg [] [] [0, 1, 5, 9] [pl 0 (.slice A1 l1.length c1), pl 1 (.int .i64 n2), pl 5 (.int .i64 i1), pl 9 (.bool (decide (i1 < (l1.length : Int))))] hF hS Fol (by kernel_rfl) (by kernel_rfl) (by kernel_rfl) ?_ (fun a w hF hS => ?_)
      · exact obs_nil
      refine cond_ev (t := 9) (b := decide (i1 < (l1.length : Int))) hF (by kernel_rfl) (fun hb => ?_) (fun hb => ?_)
      · replace hm := if_t hm hb
        refine wp_skip ?_
        refine then_n ?_
        exact ⟨hF.weak [0, 1, 5] (by kernel_rfl), hS, hm⟩
      · replace hm := if_f hm hb
        refine wp_exit ?_
        refine then_e (then_e (block_e (then_n ?_)))
        rw [← hφ1] at hm
        replace hm := done_b hm
        unfold gameroomref_at_K1 at hm
        try dsimp only at hm
        have hm : (gameroomref_at_J1).bind some = some r := hm
        exact ⟨hF.weak [] (by kernel_rfl), hS, hm⟩

noncomputable def gameroomref_CardsMay_J3 (i1 : Int) : Option (St Int (Fl Unit Int)) :=
  some (.next (w64 (i1 + 1)))

noncomputable def gameroomref_CardsMay_J2 (l1 : List Int) (i1 : Int) : Option (St Int (Fl Unit Int)) :=
  asrt (0 ≤ i1 ∧ i1 < (l1.length : Int)) <| (gameroomref_within_m (geti l1 i1) 0 51).bind fun r1 => if (!r1) then (some (.done (.ret 3))) else ((gameroomref_CardsMay_J3 i1))

noncomputable def gameroomref_CardsMay_J6 (i2 : Int) : Option (St Int (Fl Unit Int)) :=
  some (.next (w64 (i2 + 1)))

noncomputable def gameroomref_CardsMay_J5 (l1 : List Int) (i2 : Int) : Option (St Int (Fl Unit Int)) :=
  asrt (0 ≤ (0 : Int) ∧ (0 : Int) ≤ i2 ∧ i2 ≤ (l1.length : Int)) <| asrt (0 ≤ i2 ∧ i2 < (l1.length : Int)) <| (gameroomref_at_m (cut l1 (0 : Int) i2) (geti l1 i2)).bind fun r2 => if (decide ((0 : Int) ≤ r2)) then (some (.done (.ret 6))) else ((gameroomref_CardsMay_J6 i2))

noncomputable def gameroomref_CardsMay_L2 (l1 : List Int) : Int → Option (St Int (Fl Unit Int)) :=
  fun (x : Int) => match x with | i2 => if (decide (i2 < (l1.length : Int))) then ((gameroomref_CardsMay_J5 l1 i2)) else (some (.done (.go ())))

noncomputable def gameroomref_CardsMay_J4 : Option Int :=
  some 0

noncomputable def gameroomref_CardsMay_K2 : (Fl Unit Int) → Option Int :=
  fun (x : (Fl Unit Int)) => match x with | .go _ => gameroomref_CardsMay_J4 | .ret x => some x

noncomputable def gameroomref_CardsMay_J1 (l1 : List Int) : Option Int :=
  (loop (gameroomref_CardsMay_L2 l1) 0).bind gameroomref_CardsMay_K2

noncomputable def gameroomref_CardsMay_K1 (l1 : List Int) : (Fl Unit Int) → Option Int :=
  fun (x : (Fl Unit Int)) => match x with | .go _ => (gameroomref_CardsMay_J1 l1) | .ret x => some x

noncomputable def gameroomref_CardsMay_L1 (l1 : List Int) : Int → Option (St Int (Fl Unit Int)) :=
  fun (x : Int) => match x with | i1 => if (decide (i1 < (l1.length : Int))) then ((gameroomref_CardsMay_J2 l1 i1)) else (some (.done (.go ())))

noncomputable def gameroomref_CardsMay_m (l1 : List Int) : Option Int :=
  (loop (gameroomref_CardsMay_L1 l1) 0).bind (gameroomref_CardsMay_K1 l1)

set_option maxRecDepth 100000 in
set_option maxHeartbeats 4000000 in
theorem gameroomref_CardsMay_w {A1 : Option Addr} {c1 : Nat} {n1 : Nat} {l1 : List Int} {r : Int} {w0 w : World} {B : Nat} {fs : List HP} (hm : gameroomref_CardsMay_m l1 = some r) (hS : Sep w0 B w (fs)) (hr_l1 : RdF w0 B fs A1 (vI l1)) (_hc_l1 : l1.length ≤ c1) (_hn_l1 : n1 = l1.length) :
    Calls Try.prog 47 #[.slice A1 n1 c1] w fun e w' => e = .returned (.int .i64 r) ∧ Sep w0 B w' (fs) := by
  obtain ⟨i3, hi3, hz3, hs3, hb3⟩ := info_parts Info3
  obtain rfl := _hn_l1
  unfold gameroomref_CardsMay_m at hm
  replace hm := start_b hm
  refine enter (l := [.slice A1 l1.length c1]) (n := 32) Try.func47 rfl rfl (by simp) (fun a hF => ?_)
  refine reg [] [] [0] [pl 0 (.slice A1 l1.length c1)] hF hS Fol (by kernel_rfl) (by kernel_rfl) (by kernel_rfl) ?_ (fun a w hF hS => ?_)
  · exact obs_nil
  refine seq_cut (fun a w => Fr 32 [pl 0 (.slice A1 l1.length c1)] a ∧ Sep w0 B w (fs) ∧ ((gameroomref_CardsMay_J1 l1)).bind some = some r) ?_ ?_
  · rintro a w ⟨hF, hS, hm⟩
    unfold gameroomref_CardsMay_J1 at hm
    refine seq_cut (fun a w => Fr 32 [] a ∧ Sep w0 B w (fs) ∧ (gameroomref_CardsMay_J4).bind some = some r) ?_ ?_
    · rintro a w ⟨hF, hS, hm⟩
      unfold gameroomref_CardsMay_J4 at hm
      refine reg [] [] [2] [pl 2 (.int .i64 0)] hF hS Fol (by kernel_rfl) (by kernel_rfl) (by kernel_rfl) ?_ (fun a w hF hS => ?_)
      · exact obs_nil
      refine wp_ret ?_
      have hm : some 0 = some r := hm
      obtain rfl := Option.some.inj hm
      exact retV (rs := [.tmp 2]) (vs := [.int .i64 0]) hF rfl (rv_t (by kernel_rfl) <| rv_nil) rfl ⟨rfl, hS⟩
    · refine reg [] [] [0, 4] [pl 0 (.slice A1 l1.length c1), pl 4 (.int .i64 0)] hF hS Fol (by kernel_rfl) (by kernel_rfl) (by kernel_rfl) ?_ (fun a w hF hS => ?_)
      · exact obs_nil
      refine wp_block ?_
      refine wp_loop_model (S := Int) (R := (Fl Unit Int)) (gameroomref_CardsMay_L2 l1) (fun x => (gameroomref_CardsMay_K2 x).bind some) r (fun (x : Int) a w => Fr 32 [pl 0 (.slice A1 l1.length c1), pl 4 (.int .i64 x)] a ∧ Sep w0 B w (fs)) (assoc_b hm) ⟨hF.weak [0, 4] (by kernel_rfl), hS⟩ ?_
      clear hF hS hm
      rintro nn2 i2 a w ⟨hF, hS⟩ hm
      generalize hφ2 : stK (gameroomref_CardsMay_L2 l1) nn2 (fun x => (gameroomref_CardsMay_K2 x).bind some) = φ2 at hm
      unfold gameroomref_CardsMay_L2 at hm
      dsimp only at hm
      refine seq_cut (fun a w => Fr 32 [pl 0 (.slice A1 l1.length c1), pl 4 (.int .i64 i2)] a ∧ Sep w0 B w (fs) ∧ ((gameroomref_CardsMay_J5 l1 i2)).bind φ2 = some r) ?_ ?_
      · rintro a w ⟨hF, hS, hm⟩
        unfold gameroomref_CardsMay_J5 at hm
        refine seq_cut (fun a w => Fr 32 [pl 0 (.slice A1 l1.length c1), pl 4 (.int .i64 i2)] a ∧ Sep w0 B w (fs) ∧ ((gameroomref_CardsMay_J6 i2)).bind φ2 = some r) ?_ ?_
        · rintro a w ⟨hF, hS, hm⟩
          unfold gameroomref_CardsMay_J6 at hm
          refine reg1 [] [] [0, 4] [pl 0 (.slice A1 l1.length c1), pl 4 (.int .i64 (w64 (i2 + 1)))] hF hS Fol (by kernel_rfl) (by kernel_rfl) (by kernel_rfl) ?_ (fun a w hF hS => ?_)
          · exact obs_nil
          refine then_n ?_
          rw [← hφ2] at hm
          exact ⟨(w64 (i2 + 1)), ⟨hF.weak [0, 4] (by kernel_rfl), hS⟩, hm⟩
        · refine wp_block ?_
          obtain ⟨hp2, hm⟩ := asrt_b hm
          obtain ⟨hp3, hm⟩ := asrt_b hm
          obtain ⟨r2, hr2, hm⟩ := call_b hm
          refine reg [⟨true, [], vS (Instr.sliceAt 34 (.slice A1 l1.length c1) none (some (.int .i64 i2)) none), .slice (cutAddr A1 c1 (0 : Int)) ((cut l1 (0 : Int) i2).length) (c1 - Int.toNat (0 : Int))⟩, ⟨true, [], vS (Instr.indexAt 34 (.slice A1 l1.length c1) (.int .i64 i2)), .pointer (some (sAddr A1 i2))⟩, ⟨false, [], vS (Instr.loadAt 3 (.pointer (some (sAddr A1 i2)))), .int .i64 (geti l1 i2)⟩, ⟨false, [], callFunc 82 #[.slice (cutAddr A1 c1 (0 : Int)) ((cut l1 (0 : Int) i2).length) (c1 - Int.toNat (0 : Int)), .int .i64 (geti l1 i2)], .int .i64 r2⟩] [none, none, some (.slice (cutAddr A1 c1 (0 : Int)) ((cut l1 (0 : Int) i2).length) (c1 - Int.toNat (0 : Int))), none, none, some (.pointer (some (sAddr A1 i2))), some (.int .i64 (geti l1 i2)), some (.int .i64 r2), none] [0, 4, 31] [pl 0 (.slice A1 l1.length c1), pl 4 (.int .i64 i2), pl 31 (.bool (decide ((0 : Int) ≤ r2)))] hF hS Fol (by kernel_rfl) (by kernel_rfl) (by kernel_rfl) ?_ (fun a w hF hS => ?_)
          · exact obs_cons (ob_cutn (l := l1) (k := .i64) (k' := .i64) Und34 hi3 hs3 rfl (.inr ⟨rfl, rfl⟩) (.inl rfl) (fun _ => hp2) _hc_l1) <| obs_cons (ob_ix1 (f := (Value.int .i64)) (m := l1) Und34 hi3 hs3 (hr_l1 _ (hS.dropN 0)) rfl (fun _ => hp3)) <| obs_cons (ob_get1 (n := l1.length) (m := l1) (Value.int .i64) (0 : Int) Agg3 (fun _ hS => ⟨_, (hr_l1 _ (hS.dropN 0))⟩) (fun _ hS => rfl) (fun _ => hp3)) <| obs_cons (ob_call Try.func82 (by kernel_rfl) rfl (fun _ _ hS => gameroomref_at_w hr2 hS (fun _ hS => (Rd.cutF (hr_l1 _ (hS.dropN 0)) hp2 _hc_l1)) (cap_cut hp2 _hc_l1) rfl)) <| obs_nil
          refine cond_ev (t := 31) (b := decide ((0 : Int) ≤ r2)) hF (by kernel_rfl) (fun hb => ?_) (fun hb => ?_)
          · replace hm := if_t hm hb
            refine reg [] [] [2] [pl 2 (.int .i64 6)] hF hS Fol (by kernel_rfl) (by kernel_rfl) (by kernel_rfl) ?_ (fun a w hF hS => ?_)
            · exact obs_nil
            refine wp_ret ?_
            refine block_r (then_r (then_r (block_r (then_r ?_))))
            rw [← hφ2] at hm
            replace hm := done_b hm
            unfold gameroomref_CardsMay_K2 at hm
            try dsimp only at hm
            have hm : some 6 = some r := hm
            obtain rfl := Option.some.inj hm
            exact retV (rs := [.tmp 2]) (vs := [.int .i64 6]) hF rfl (rv_t (by kernel_rfl) <| rv_nil) rfl ⟨rfl, hS⟩
          · replace hm := if_f hm hb
            refine wp_skip ?_
            refine block_n ?_
            refine then_n ?_
            exact ⟨hF.weak [0, 4] (by kernel_rfl), hS, hm⟩
      · refine reg [] [] [0, 4, 20] [pl 0 (.slice A1 l1.length c1), pl 4 (.int .i64 i2), pl 20 (.bool (decide (i2 < (l1.length : Int))))] hF hS Fol (by kernel_rfl) (by kernel_rfl) (by kernel_rfl) ?_ (fun a w hF hS => ?_)
        · exact obs_nil
        refine cond_ev (t := 20) (b := decide (i2 < (l1.length : Int))) hF (by kernel_rfl) (fun hb => ?_) (fun hb => ?_)
        · replace hm := if_t hm hb
          refine wp_skip ?_
          refine then_n ?_
          exact ⟨hF.weak [0, 4] (by kernel_rfl), hS, hm⟩
        · replace hm := if_f hm hb
          refine wp_exit ?_
          refine then_e (then_e (block_e (then_n ?_)))
          rw [← hφ2] at hm
          replace hm := done_b hm
          unfold gameroomref_CardsMay_K2 at hm
          try dsimp only at hm
          have hm : (gameroomref_CardsMay_J4).bind some = some r := hm
          exact ⟨hF.weak [] (by kernel_rfl), hS, hm⟩
  · refine reg [] [] [0, 3] [pl 0 (.slice A1 l1.length c1), pl 3 (.int .i64 0)] hF hS Fol (by kernel_rfl) (by kernel_rfl) (by kernel_rfl) ?_ (fun a w hF hS => ?_)
    · exact obs_nil
    refine wp_block ?_
    refine wp_loop_model (S := Int) (R := (Fl Unit Int)) (gameroomref_CardsMay_L1 l1) (fun x => ((gameroomref_CardsMay_K1 l1) x).bind some) r (fun (x : Int) a w => Fr 32 [pl 0 (.slice A1 l1.length c1), pl 3 (.int .i64 x)] a ∧ Sep w0 B w (fs)) (assoc_b hm) ⟨hF.weak [0, 3] (by kernel_rfl), hS⟩ ?_
    clear hF hS hm
    rintro nn1 i1 a w ⟨hF, hS⟩ hm
    generalize hφ1 : stK (gameroomref_CardsMay_L1 l1) nn1 (fun x => ((gameroomref_CardsMay_K1 l1) x).bind some) = φ1 at hm
    unfold gameroomref_CardsMay_L1 at hm
    dsimp only at hm
    refine seq_cut (fun a w => Fr 32 [pl 0 (.slice A1 l1.length c1), pl 3 (.int .i64 i1)] a ∧ Sep w0 B w (fs) ∧ ((gameroomref_CardsMay_J2 l1 i1)).bind φ1 = some r) ?_ ?_
    · rintro a w ⟨hF, hS, hm⟩
      unfold gameroomref_CardsMay_J2 at hm
      refine seq_cut (fun a w => Fr 32 [pl 0 (.slice A1 l1.length c1), pl 3 (.int .i64 i1)] a ∧ Sep w0 B w (fs) ∧ ((gameroomref_CardsMay_J3 i1)).bind φ1 = some r) ?_ ?_
      · rintro a w ⟨hF, hS, hm⟩
        unfold gameroomref_CardsMay_J3 at hm
        refine reg1 [] [] [0, 3] [pl 0 (.slice A1 l1.length c1), pl 3 (.int .i64 (w64 (i1 + 1)))] hF hS Fol (by kernel_rfl) (by kernel_rfl) (by kernel_rfl) ?_ (fun a w hF hS => ?_)
        · exact obs_nil
        refine then_n ?_
        rw [← hφ1] at hm
        exact ⟨(w64 (i1 + 1)), ⟨hF.weak [0, 3] (by kernel_rfl), hS⟩, hm⟩
      · refine wp_block ?_
        obtain ⟨hp1, hm⟩ := asrt_b hm
        obtain ⟨r1, hr1, hm⟩ := call_b hm
        refine reg [⟨true, [], vS (Instr.indexAt 34 (.slice A1 l1.length c1) (.int .i64 i1)), .pointer (some (sAddr A1 i1))⟩, ⟨false, [], vS (Instr.loadAt 3 (.pointer (some (sAddr A1 i1)))), .int .i64 (geti l1 i1)⟩, ⟨false, [], callFunc 74 #[.int .i64 (geti l1 i1), .int .i64 0, .int .i64 51], .bool r1⟩] [none, none, some (.pointer (some (sAddr A1 i1))), some (.int .i64 (geti l1 i1)), some (.bool r1), none] [0, 3, 16] [pl 0 (.slice A1 l1.length c1), pl 3 (.int .i64 i1), pl 16 (.bool (!r1))] hF hS Fol (by kernel_rfl) (by kernel_rfl) (by kernel_rfl) ?_ (fun a w hF hS => ?_)
        · exact obs_cons (ob_ix1 (f := (Value.int .i64)) (m := l1) Und34 hi3 hs3 (hr_l1 _ (hS.dropN 0)) rfl (fun _ => hp1)) <| obs_cons (ob_get1 (n := l1.length) (m := l1) (Value.int .i64) (0 : Int) Agg3 (fun _ hS => ⟨_, (hr_l1 _ (hS.dropN 0))⟩) (fun _ hS => rfl) (fun _ => hp1)) <| obs_cons (ob_call Try.func74 (by kernel_rfl) rfl (fun _ _ hS => gameroomref_within_w hr1 hS )) <| obs_nil
        refine cond_ev (t := 16) (b := !r1) hF (by kernel_rfl) (fun hb => ?_) (fun hb => ?_)
        · replace hm := if_t hm hb
          refine reg [] [] [2] [pl 2 (.int .i64 3)] hF hS Fol (by kernel_rfl) (by kernel_rfl) (by kernel_rfl) ?_ (fun a w hF hS => ?_)
          · exact obs_nil
          refine wp_ret ?_
          refine block_r (then_r (then_r (block_r (then_r ?_))))
          rw [← hφ1] at hm
          replace hm := done_b hm
          unfold gameroomref_CardsMay_K1 at hm
          try dsimp only at hm
          have hm : some 3 = some r := hm
          obtain rfl := Option.some.inj hm
          exact retV (rs := [.tmp 2]) (vs := [.int .i64 3]) hF rfl (rv_t (by kernel_rfl) <| rv_nil) rfl ⟨rfl, hS⟩
        · replace hm := if_f hm hb
          refine wp_skip ?_
          refine block_n ?_
          refine then_n ?_
          exact ⟨hF.weak [0, 3] (by kernel_rfl), hS, hm⟩
    · refine reg [] [] [0, 3, 8] [pl 0 (.slice A1 l1.length c1), pl 3 (.int .i64 i1), pl 8 (.bool (decide (i1 < (l1.length : Int))))] hF hS Fol (by kernel_rfl) (by kernel_rfl) (by kernel_rfl) ?_ (fun a w hF hS => ?_)
      · exact obs_nil
      refine cond_ev (t := 8) (b := decide (i1 < (l1.length : Int))) hF (by kernel_rfl) (fun hb => ?_) (fun hb => ?_)
      · replace hm := if_t hm hb
        refine wp_skip ?_
        refine then_n ?_
        exact ⟨hF.weak [0, 3] (by kernel_rfl), hS, hm⟩
      · replace hm := if_f hm hb
        refine wp_exit ?_
        refine then_e (then_e (block_e (then_n ?_)))
        rw [← hφ1] at hm
        replace hm := done_b hm
        unfold gameroomref_CardsMay_K1 at hm
        try dsimp only at hm
        have hm : ((gameroomref_CardsMay_J1 l1)).bind some = some r := hm
        exact ⟨hF.weak [0] (by kernel_rfl), hS, hm⟩

noncomputable def gameroomref_pipOf_J1 (card1 : Int) : Option Int :=
  some (w64 ((w64 (Int.tdiv card1 4)) + 2))

noncomputable def gameroomref_pipOf_m (card1 : Int) : Option Int :=
  if ((w64 (Int.tdiv card1 4)) == 12) then (some 1) else ((gameroomref_pipOf_J1 card1))

set_option maxRecDepth 100000 in
set_option maxHeartbeats 4000000 in
theorem gameroomref_pipOf_w {card1 : Int} {r : Int} {w0 w : World} {B : Nat} {fs : List HP} (hm : gameroomref_pipOf_m card1 = some r) (hS : Sep w0 B w (fs)) :
    Calls Try.prog 129 #[.int .i64 card1] w fun e w' => e = .returned (.int .i64 r) ∧ Sep w0 B w' (fs) := by
  unfold gameroomref_pipOf_m at hm
  replace hm := start_b hm
  refine enter (l := [.int .i64 card1]) (n := 9) Try.func129 rfl rfl (by simp) (fun a hF => ?_)
  refine reg [] [] [0] [pl 0 (.int .i64 card1)] hF hS Fol (by kernel_rfl) (by kernel_rfl) (by kernel_rfl) ?_ (fun a w hF hS => ?_)
  · exact obs_nil
  refine seq_cut (fun a w => Fr 9 [pl 0 (.int .i64 card1)] a ∧ Sep w0 B w (fs) ∧ ((gameroomref_pipOf_J1 card1)).bind some = some r) ?_ ?_
  · rintro a w ⟨hF, hS, hm⟩
    unfold gameroomref_pipOf_J1 at hm
    refine reg [] [] [2] [pl 2 (.int .i64 (w64 ((w64 (Int.tdiv card1 4)) + 2)))] hF hS Fol (by kernel_rfl) (by kernel_rfl) (by kernel_rfl) ?_ (fun a w hF hS => ?_)
    · exact obs_nil
    refine wp_ret ?_
    have hm : some (w64 ((w64 (Int.tdiv card1 4)) + 2)) = some r := hm
    obtain rfl := Option.some.inj hm
    exact retV (rs := [.tmp 2]) (vs := [.int .i64 (w64 ((w64 (Int.tdiv card1 4)) + 2))]) hF rfl (rv_t (by kernel_rfl) <| rv_nil) rfl ⟨rfl, hS⟩
  · refine reg [] [] [0, 5] [pl 0 (.int .i64 card1), pl 5 (.bool ((w64 (Int.tdiv card1 4)) == 12))] hF hS Fol (by kernel_rfl) (by kernel_rfl) (by kernel_rfl) ?_ (fun a w hF hS => ?_)
    · exact obs_nil
    refine cond_ev (t := 5) (b := ((w64 (Int.tdiv card1 4)) == 12)) hF (by kernel_rfl) (fun hb => ?_) (fun hb => ?_)
    · replace hm := if_t hm hb
      refine reg [] [] [2] [pl 2 (.int .i64 1)] hF hS Fol (by kernel_rfl) (by kernel_rfl) (by kernel_rfl) ?_ (fun a w hF hS => ?_)
      · exact obs_nil
      refine wp_ret ?_
      refine then_r ?_
      have hm : some 1 = some r := hm
      obtain rfl := Option.some.inj hm
      exact retV (rs := [.tmp 2]) (vs := [.int .i64 1]) hF rfl (rv_t (by kernel_rfl) <| rv_nil) rfl ⟨rfl, hS⟩
    · replace hm := if_f hm hb
      refine wp_skip ?_
      refine then_n ?_
      exact ⟨hF.weak [0] (by kernel_rfl), hS, hm⟩

noncomputable def gameroomref_pointsOf_J1 (card1 : Int) : Option Int :=
  (gameroomref_pipOf_m card1).bind fun r2 => some r2

noncomputable def gameroomref_pointsOf_m (card1 : Int) : Option Int :=
  (gameroomref_pipOf_m card1).bind fun r1 => if (decide ((10 : Int) < r1)) then (some 10) else ((gameroomref_pointsOf_J1 card1))

set_option maxRecDepth 100000 in
set_option maxHeartbeats 4000000 in
theorem gameroomref_pointsOf_w {card1 : Int} {r : Int} {w0 w : World} {B : Nat} {fs : List HP} (hm : gameroomref_pointsOf_m card1 = some r) (hS : Sep w0 B w (fs)) :
    Calls Try.prog 128 #[.int .i64 card1] w fun e w' => e = .returned (.int .i64 r) ∧ Sep w0 B w' (fs) := by
  unfold gameroomref_pointsOf_m at hm
  replace hm := start_b hm
  refine enter (l := [.int .i64 card1]) (n := 8) Try.func128 rfl rfl (by simp) (fun a hF => ?_)
  refine reg [] [] [0] [pl 0 (.int .i64 card1)] hF hS Fol (by kernel_rfl) (by kernel_rfl) (by kernel_rfl) ?_ (fun a w hF hS => ?_)
  · exact obs_nil
  refine seq_cut (fun a w => Fr 8 [pl 0 (.int .i64 card1)] a ∧ Sep w0 B w (fs) ∧ ((gameroomref_pointsOf_J1 card1)).bind some = some r) ?_ ?_
  · rintro a w ⟨hF, hS, hm⟩
    unfold gameroomref_pointsOf_J1 at hm
    obtain ⟨r2, hr2, hm⟩ := call_b hm
    refine reg [⟨false, [], callFunc 129 #[.int .i64 card1], .int .i64 r2⟩] [none, some (.int .i64 r2), none] [2] [pl 2 (.int .i64 r2)] hF hS Fol (by kernel_rfl) (by kernel_rfl) (by kernel_rfl) ?_ (fun a w hF hS => ?_)
    · exact obs_cons (ob_call Try.func129 (by kernel_rfl) rfl (fun _ _ hS => gameroomref_pipOf_w hr2 hS )) <| obs_nil
    refine wp_ret ?_
    have hm : some r2 = some r := hm
    obtain rfl := Option.some.inj hm
    exact retV (rs := [.tmp 2]) (vs := [.int .i64 r2]) hF rfl (rv_t (by kernel_rfl) <| rv_nil) rfl ⟨rfl, hS⟩
  · obtain ⟨r1, hr1, hm⟩ := call_b hm
    refine reg [⟨false, [], callFunc 129 #[.int .i64 card1], .int .i64 r1⟩] [none, some (.int .i64 r1), none] [0, 5] [pl 0 (.int .i64 card1), pl 5 (.bool (decide ((10 : Int) < r1)))] hF hS Fol (by kernel_rfl) (by kernel_rfl) (by kernel_rfl) ?_ (fun a w hF hS => ?_)
    · exact obs_cons (ob_call Try.func129 (by kernel_rfl) rfl (fun _ _ hS => gameroomref_pipOf_w hr1 hS )) <| obs_nil
    refine cond_ev (t := 5) (b := decide ((10 : Int) < r1)) hF (by kernel_rfl) (fun hb => ?_) (fun hb => ?_)
    · replace hm := if_t hm hb
      refine reg [] [] [2] [pl 2 (.int .i64 10)] hF hS Fol (by kernel_rfl) (by kernel_rfl) (by kernel_rfl) ?_ (fun a w hF hS => ?_)
      · exact obs_nil
      refine wp_ret ?_
      refine then_r ?_
      have hm : some 10 = some r := hm
      obtain rfl := Option.some.inj hm
      exact retV (rs := [.tmp 2]) (vs := [.int .i64 10]) hF rfl (rv_t (by kernel_rfl) <| rv_nil) rfl ⟨rfl, hS⟩
    · replace hm := if_f hm hb
      refine wp_skip ?_
      refine then_n ?_
      exact ⟨hF.weak [0] (by kernel_rfl), hS, hm⟩

noncomputable def gameroomref_rowWays_J6 (i1 : Int) (many3 : Int) : Option (St (Int × Int) Int) :=
  some (.next (many3, (w64 (i1 + 1))))

noncomputable def gameroomref_rowWays_J5 (l1 : List Int) (p1 : Int) (many1 : Int) (i1 : Int) : Option (St (Int × Int) Int) :=
  asrt (0 ≤ i1 ∧ i1 < (l1.length : Int)) <| (gameroomref_pipOf_m (geti l1 i1)).bind fun r1 => if (r1 == p1) then ((gameroomref_rowWays_J6 i1) (w64 (many1 + 1))) else ((gameroomref_rowWays_J6 i1) many1)

noncomputable def gameroomref_rowWays_J3 (p1 : Int) (ways3 : Int) : Option (St (Int × Int) Int) :=
  some (.next (ways3, (w64 (p1 + 1))))

noncomputable def gameroomref_rowWays_J4 (ways1 : Int) (p1 : Int) (many2 : Int) : Option (St (Int × Int) Int) :=
  (gameroomref_rowWays_J3 p1) (w64 (ways1 * many2))

noncomputable def gameroomref_rowWays_K2 (ways1 : Int) (p1 : Int) : Int → Option (St (Int × Int) Int) :=
  fun (x : Int) => match x with | many2 => (gameroomref_rowWays_J4 ways1 p1) many2

noncomputable def gameroomref_rowWays_L2 (l1 : List Int) (p1 : Int) : (Int × Int) → Option (St (Int × Int) Int) :=
  fun (x : (Int × Int)) => match x with | (many1, i1) => if (decide (i1 < (l1.length : Int))) then ((gameroomref_rowWays_J5 l1 p1 many1 i1)) else (some (.done many1))

noncomputable def gameroomref_rowWays_J2 (l1 : List Int) (ways1 : Int) (p1 : Int) : Option (St (Int × Int) Int) :=
  (loop (gameroomref_rowWays_L2 l1 p1) (0, 0)).bind (gameroomref_rowWays_K2 ways1 p1)

noncomputable def gameroomref_rowWays_J1 (ways2 : Int) : Option Int :=
  some ways2

noncomputable def gameroomref_rowWays_K1 : Int → Option Int :=
  fun (x : Int) => match x with | ways2 => gameroomref_rowWays_J1 ways2

noncomputable def gameroomref_rowWays_L1 (l1 : List Int) (low1 : Int) (n2 : Int) : (Int × Int) → Option (St (Int × Int) Int) :=
  fun (x : (Int × Int)) => match x with | (ways1, p1) => if (decide (p1 < (w64 (low1 + n2)))) then ((gameroomref_rowWays_J2 l1 ways1 p1)) else (some (.done ways1))

noncomputable def gameroomref_rowWays_m (l1 : List Int) (low1 : Int) (n2 : Int) : Option Int :=
  (loop (gameroomref_rowWays_L1 l1 low1 n2) (1, low1)).bind gameroomref_rowWays_K1

set_option maxRecDepth 100000 in
set_option maxHeartbeats 4000000 in
theorem gameroomref_rowWays_w {A1 : Option Addr} {c1 : Nat} {n1 : Nat} {l1 : List Int} {low1 : Int} {n2 : Int} {r : Int} {w0 w : World} {B : Nat} {fs : List HP} (hm : gameroomref_rowWays_m l1 low1 n2 = some r) (hS : Sep w0 B w (fs)) (hr_l1 : RdF w0 B fs A1 (vI l1)) (_hc_l1 : l1.length ≤ c1) (_hn_l1 : n1 = l1.length) :
    Calls Try.prog 130 #[.slice A1 n1 c1, .int .i64 low1, .int .i64 n2] w fun e w' => e = .returned (.int .i64 r) ∧ Sep w0 B w' (fs) := by
  obtain ⟨i3, hi3, hz3, hs3, hb3⟩ := info_parts Info3
  obtain rfl := _hn_l1
  unfold gameroomref_rowWays_m at hm
  replace hm := start_b hm
  refine enter (l := [.slice A1 l1.length c1, .int .i64 low1, .int .i64 n2]) (n := 38) Try.func130 rfl rfl (by simp) (fun a hF => ?_)
  refine reg [] [] [0, 1, 2] [pl 0 (.slice A1 l1.length c1), pl 1 (.int .i64 low1), pl 2 (.int .i64 n2)] hF hS Fol (by kernel_rfl) (by kernel_rfl) (by kernel_rfl) ?_ (fun a w hF hS => ?_)
  · exact obs_nil
  refine reg [] [] [0, 1, 2, 7] [pl 0 (.slice A1 l1.length c1), pl 1 (.int .i64 low1), pl 2 (.int .i64 n2), pl 7 (.int .i64 1)] hF hS Fol (by kernel_rfl) (by kernel_rfl) (by kernel_rfl) ?_ (fun a w hF hS => ?_)
  · exact obs_nil
  refine seq_cut (fun a w => ∃ (ways2 : Int), Fr 38 [pl 7 (.int .i64 ways2)] a ∧ Sep w0 B w (fs) ∧ (gameroomref_rowWays_J1 ways2).bind some = some r) ?_ ?_
  · rintro a w ⟨ways2, hF, hS, hm⟩
    unfold gameroomref_rowWays_J1 at hm
    refine reg [] [] [6] [pl 6 (.int .i64 ways2)] hF hS Fol (by kernel_rfl) (by kernel_rfl) (by kernel_rfl) ?_ (fun a w hF hS => ?_)
    · exact obs_nil
    refine wp_ret ?_
    have hm : some ways2 = some r := hm
    obtain rfl := Option.some.inj hm
    exact retV (rs := [.tmp 6]) (vs := [.int .i64 ways2]) hF rfl (rv_t (by kernel_rfl) <| rv_nil) rfl ⟨rfl, hS⟩
  · refine reg [] [] [0, 1, 2, 7, 8] [pl 0 (.slice A1 l1.length c1), pl 1 (.int .i64 low1), pl 2 (.int .i64 n2), pl 7 (.int .i64 1), pl 8 (.int .i64 low1)] hF hS Fol (by kernel_rfl) (by kernel_rfl) (by kernel_rfl) ?_ (fun a w hF hS => ?_)
    · exact obs_nil
    refine wp_block ?_
    refine wp_loop_model (S := (Int × Int)) (R := Int) (gameroomref_rowWays_L1 l1 low1 n2) (fun x => (gameroomref_rowWays_K1 x).bind some) r (fun (x : (Int × Int)) a w => Fr 38 [pl 0 (.slice A1 l1.length c1), pl 1 (.int .i64 low1), pl 2 (.int .i64 n2), pl 7 (.int .i64 x.1), pl 8 (.int .i64 x.2)] a ∧ Sep w0 B w (fs)) (assoc_b hm) ⟨hF.weak [0, 1, 2, 7, 8] (by kernel_rfl), hS⟩ ?_
    clear hF hS hm
    rintro nn1 ⟨ways1, p1⟩ a w ⟨hF, hS⟩ hm
    generalize hφ1 : stK (gameroomref_rowWays_L1 l1 low1 n2) nn1 (fun x => (gameroomref_rowWays_K1 x).bind some) = φ1 at hm
    unfold gameroomref_rowWays_L1 at hm
    dsimp only at hF hS hm
    refine seq_cut (fun a w => Fr 38 [pl 0 (.slice A1 l1.length c1), pl 1 (.int .i64 low1), pl 2 (.int .i64 n2), pl 7 (.int .i64 ways1), pl 8 (.int .i64 p1)] a ∧ Sep w0 B w (fs) ∧ ((gameroomref_rowWays_J2 l1 ways1 p1)).bind φ1 = some r) ?_ ?_
    · rintro a w ⟨hF, hS, hm⟩
      unfold gameroomref_rowWays_J2 at hm
      refine seq_cut (fun a w => ∃ (ways3 : Int), Fr 38 [pl 0 (.slice A1 l1.length c1), pl 1 (.int .i64 low1), pl 2 (.int .i64 n2), pl 7 (.int .i64 ways3), pl 8 (.int .i64 p1)] a ∧ Sep w0 B w (fs) ∧ ((gameroomref_rowWays_J3 p1) ways3).bind φ1 = some r) ?_ ?_
      · rintro a w ⟨ways3, hF, hS, hm⟩
        unfold gameroomref_rowWays_J3 at hm
        refine reg1 [] [] [0, 1, 2, 7, 8] [pl 0 (.slice A1 l1.length c1), pl 1 (.int .i64 low1), pl 2 (.int .i64 n2), pl 7 (.int .i64 ways3), pl 8 (.int .i64 (w64 (p1 + 1)))] hF hS Fol (by kernel_rfl) (by kernel_rfl) (by kernel_rfl) ?_ (fun a w hF hS => ?_)
        · exact obs_nil
        refine then_n ?_
        rw [← hφ1] at hm
        exact ⟨(ways3, (w64 (p1 + 1))), ⟨hF.weak [0, 1, 2, 7, 8] (by kernel_rfl), hS⟩, hm⟩
      · refine wp_block ?_
        refine reg [] [] [0, 1, 2, 7, 8, 9] [pl 0 (.slice A1 l1.length c1), pl 1 (.int .i64 low1), pl 2 (.int .i64 n2), pl 7 (.int .i64 ways1), pl 8 (.int .i64 p1), pl 9 (.int .i64 0)] hF hS Fol (by kernel_rfl) (by kernel_rfl) (by kernel_rfl) ?_ (fun a w hF hS => ?_)
        · exact obs_nil
        refine seq_cut (fun a w => ∃ (many2 : Int), Fr 38 [pl 0 (.slice A1 l1.length c1), pl 1 (.int .i64 low1), pl 2 (.int .i64 n2), pl 7 (.int .i64 ways1), pl 8 (.int .i64 p1), pl 9 (.int .i64 many2)] a ∧ Sep w0 B w (fs) ∧ ((gameroomref_rowWays_J4 ways1 p1) many2).bind φ1 = some r) ?_ ?_
        · rintro a w ⟨many2, hF, hS, hm⟩
          unfold gameroomref_rowWays_J4 at hm
          refine reg1 [] [] [0, 1, 2, 7, 8] [pl 0 (.slice A1 l1.length c1), pl 1 (.int .i64 low1), pl 2 (.int .i64 n2), pl 7 (.int .i64 (w64 (ways1 * many2))), pl 8 (.int .i64 p1)] hF hS Fol (by kernel_rfl) (by kernel_rfl) (by kernel_rfl) ?_ (fun a w hF hS => ?_)
          · exact obs_nil
          refine block_n ?_
          refine then_n ?_
          exact ⟨(w64 (ways1 * many2)), hF.weak [0, 1, 2, 7, 8] (by kernel_rfl), hS, hm⟩
        · refine reg [] [] [0, 1, 2, 7, 8, 9, 10] [pl 0 (.slice A1 l1.length c1), pl 1 (.int .i64 low1), pl 2 (.int .i64 n2), pl 7 (.int .i64 ways1), pl 8 (.int .i64 p1), pl 9 (.int .i64 0), pl 10 (.int .i64 0)] hF hS Fol (by kernel_rfl) (by kernel_rfl) (by kernel_rfl) ?_ (fun a w hF hS => ?_)
          · exact obs_nil
          refine wp_block ?_
          refine wp_loop_model (S := (Int × Int)) (R := Int) (gameroomref_rowWays_L2 l1 p1) (fun x => ((gameroomref_rowWays_K2 ways1 p1) x).bind φ1) r (fun (x : (Int × Int)) a w => Fr 38 [pl 0 (.slice A1 l1.length c1), pl 1 (.int .i64 low1), pl 2 (.int .i64 n2), pl 7 (.int .i64 ways1), pl 8 (.int .i64 p1), pl 9 (.int .i64 x.1), pl 10 (.int .i64 x.2)] a ∧ Sep w0 B w (fs)) (assoc_b hm) ⟨hF.weak [0, 1, 2, 7, 8, 9, 10] (by kernel_rfl), hS⟩ ?_
          clear hF hS hm
          rintro nn2 ⟨many1, i1⟩ a w ⟨hF, hS⟩ hm
          generalize hφ2 : stK (gameroomref_rowWays_L2 l1 p1) nn2 (fun x => ((gameroomref_rowWays_K2 ways1 p1) x).bind φ1) = φ2 at hm
          unfold gameroomref_rowWays_L2 at hm
          dsimp only at hF hS hm
          refine seq_cut (fun a w => Fr 38 [pl 0 (.slice A1 l1.length c1), pl 1 (.int .i64 low1), pl 2 (.int .i64 n2), pl 7 (.int .i64 ways1), pl 8 (.int .i64 p1), pl 9 (.int .i64 many1), pl 10 (.int .i64 i1)] a ∧ Sep w0 B w (fs) ∧ ((gameroomref_rowWays_J5 l1 p1 many1 i1)).bind φ2 = some r) ?_ ?_
          · rintro a w ⟨hF, hS, hm⟩
            unfold gameroomref_rowWays_J5 at hm
            refine seq_cut (fun a w => ∃ (many3 : Int), Fr 38 [pl 0 (.slice A1 l1.length c1), pl 1 (.int .i64 low1), pl 2 (.int .i64 n2), pl 7 (.int .i64 ways1), pl 8 (.int .i64 p1), pl 9 (.int .i64 many3), pl 10 (.int .i64 i1)] a ∧ Sep w0 B w (fs) ∧ ((gameroomref_rowWays_J6 i1) many3).bind φ2 = some r) ?_ ?_
            · rintro a w ⟨many3, hF, hS, hm⟩
              unfold gameroomref_rowWays_J6 at hm
              refine reg1 [] [] [0, 1, 2, 7, 8, 9, 10] [pl 0 (.slice A1 l1.length c1), pl 1 (.int .i64 low1), pl 2 (.int .i64 n2), pl 7 (.int .i64 ways1), pl 8 (.int .i64 p1), pl 9 (.int .i64 many3), pl 10 (.int .i64 (w64 (i1 + 1)))] hF hS Fol (by kernel_rfl) (by kernel_rfl) (by kernel_rfl) ?_ (fun a w hF hS => ?_)
              · exact obs_nil
              refine then_n ?_
              rw [← hφ2] at hm
              exact ⟨(many3, (w64 (i1 + 1))), ⟨hF.weak [0, 1, 2, 7, 8, 9, 10] (by kernel_rfl), hS⟩, hm⟩
            · refine wp_block ?_
              obtain ⟨hp1, hm⟩ := asrt_b hm
              obtain ⟨r1, hr1, hm⟩ := call_b hm
              refine reg [⟨true, [], vS (Instr.indexAt 34 (.slice A1 l1.length c1) (.int .i64 i1)), .pointer (some (sAddr A1 i1))⟩, ⟨false, [], vS (Instr.loadAt 3 (.pointer (some (sAddr A1 i1)))), .int .i64 (geti l1 i1)⟩, ⟨false, [], callFunc 129 #[.int .i64 (geti l1 i1)], .int .i64 r1⟩] [none, none, some (.pointer (some (sAddr A1 i1))), some (.int .i64 (geti l1 i1)), some (.int .i64 r1), none, none] [0, 1, 2, 7, 8, 9, 10, 31] [pl 0 (.slice A1 l1.length c1), pl 1 (.int .i64 low1), pl 2 (.int .i64 n2), pl 7 (.int .i64 ways1), pl 8 (.int .i64 p1), pl 9 (.int .i64 many1), pl 10 (.int .i64 i1), pl 31 (.bool (r1 == p1))] hF hS Fol (by kernel_rfl) (by kernel_rfl) (by kernel_rfl) ?_ (fun a w hF hS => ?_)
              · exact obs_cons (ob_ix1 (f := (Value.int .i64)) (m := l1) Und34 hi3 hs3 (hr_l1 _ (hS.dropN 0)) rfl (fun _ => hp1)) <| obs_cons (ob_get1 (n := l1.length) (m := l1) (Value.int .i64) (0 : Int) Agg3 (fun _ hS => ⟨_, (hr_l1 _ (hS.dropN 0))⟩) (fun _ hS => rfl) (fun _ => hp1)) <| obs_cons (ob_call Try.func129 (by kernel_rfl) rfl (fun _ _ hS => gameroomref_pipOf_w hr1 hS )) <| obs_nil
              refine cond_ev (t := 31) (b := (r1 == p1)) hF (by kernel_rfl) (fun hb => ?_) (fun hb => ?_)
              · replace hm := if_t hm hb
                refine reg1 [] [] [0, 1, 2, 7, 8, 9, 10] [pl 0 (.slice A1 l1.length c1), pl 1 (.int .i64 low1), pl 2 (.int .i64 n2), pl 7 (.int .i64 ways1), pl 8 (.int .i64 p1), pl 9 (.int .i64 (w64 (many1 + 1))), pl 10 (.int .i64 i1)] hF hS Fol (by kernel_rfl) (by kernel_rfl) (by kernel_rfl) ?_ (fun a w hF hS => ?_)
                · exact obs_nil
                refine block_n ?_
                refine then_n ?_
                exact ⟨(w64 (many1 + 1)), hF.weak [0, 1, 2, 7, 8, 9, 10] (by kernel_rfl), hS, hm⟩
              · replace hm := if_f hm hb
                refine wp_skip ?_
                refine block_n ?_
                refine then_n ?_
                exact ⟨many1, hF.weak [0, 1, 2, 7, 8, 9, 10] (by kernel_rfl), hS, hm⟩
          · refine reg [] [] [0, 1, 2, 7, 8, 9, 10, 22] [pl 0 (.slice A1 l1.length c1), pl 1 (.int .i64 low1), pl 2 (.int .i64 n2), pl 7 (.int .i64 ways1), pl 8 (.int .i64 p1), pl 9 (.int .i64 many1), pl 10 (.int .i64 i1), pl 22 (.bool (decide (i1 < (l1.length : Int))))] hF hS Fol (by kernel_rfl) (by kernel_rfl) (by kernel_rfl) ?_ (fun a w hF hS => ?_)
            · exact obs_nil
            refine cond_ev (t := 22) (b := decide (i1 < (l1.length : Int))) hF (by kernel_rfl) (fun hb => ?_) (fun hb => ?_)
            · replace hm := if_t hm hb
              refine wp_skip ?_
              refine then_n ?_
              exact ⟨hF.weak [0, 1, 2, 7, 8, 9, 10] (by kernel_rfl), hS, hm⟩
            · replace hm := if_f hm hb
              refine wp_exit ?_
              refine then_e (then_e (block_e (then_n ?_)))
              rw [← hφ2] at hm
              replace hm := done_b hm
              unfold gameroomref_rowWays_K2 at hm
              try dsimp only at hm
              have hm : ((gameroomref_rowWays_J4 ways1 p1) many1).bind φ1 = some r := hm
              exact ⟨many1, hF.weak [0, 1, 2, 7, 8, 9] (by kernel_rfl), hS, hm⟩
    · refine reg [] [] [0, 1, 2, 7, 8, 16] [pl 0 (.slice A1 l1.length c1), pl 1 (.int .i64 low1), pl 2 (.int .i64 n2), pl 7 (.int .i64 ways1), pl 8 (.int .i64 p1), pl 16 (.bool (decide (p1 < (w64 (low1 + n2)))))] hF hS Fol (by kernel_rfl) (by kernel_rfl) (by kernel_rfl) ?_ (fun a w hF hS => ?_)
      · exact obs_nil
      refine cond_ev (t := 16) (b := decide (p1 < (w64 (low1 + n2)))) hF (by kernel_rfl) (fun hb => ?_) (fun hb => ?_)
      · replace hm := if_t hm hb
        refine wp_skip ?_
        refine then_n ?_
        exact ⟨hF.weak [0, 1, 2, 7, 8] (by kernel_rfl), hS, hm⟩
      · replace hm := if_f hm hb
        refine wp_exit ?_
        refine then_e (then_e (block_e (then_n ?_)))
        rw [← hφ1] at hm
        replace hm := done_b hm
        unfold gameroomref_rowWays_K1 at hm
        try dsimp only at hm
        have hm : (gameroomref_rowWays_J1 ways1).bind some = some r := hm
        exact ⟨ways1, hF.weak [7] (by kernel_rfl), hS, hm⟩

noncomputable def gameroomref_PegOf_J3 (i1 : Int) (sum3 : Int) : Option (St (Int × Int) Int) :=
  some (.next (sum3, (w64 (i1 + 1))))

noncomputable def gameroomref_PegOf_J2 (l1 : List Int) (sum1 : Int) (i1 : Int) : Option (St (Int × Int) Int) :=
  asrt (0 ≤ i1 ∧ i1 < (l1.length : Int)) <| (gameroomref_pointsOf_m (geti l1 i1)).bind fun r1 => (gameroomref_PegOf_J3 i1) (w64 (sum1 + r1))

noncomputable def gameroomref_PegOf_J8 (k1 : Int) : Option (St Int (Fl Unit Int)) :=
  some (.next (w64 (k1 - 1)))

noncomputable def gameroomref_PegOf_J12 (i2 : Int) (same3 : Bool) : Option (St (Bool × Int) Bool) :=
  some (.next (same3, (w64 (i2 + 1))))

noncomputable def gameroomref_PegOf_J11 (l1 : List Int) (same1 : Bool) (i2 : Int) : Option (St (Bool × Int) Bool) :=
  asrt (same1 = true → 0 ≤ i2 ∧ i2 < (l1.length : Int)) <| ((if same1 then gameroomref_pipOf_m (geti l1 i2) else some 0)).bind fun r2 => asrt (same1 = true → 0 ≤ (w64 ((l1.length : Int) - 1)) ∧ (w64 ((l1.length : Int) - 1)) < (l1.length : Int)) <| ((if same1 then gameroomref_pipOf_m (geti l1 (w64 ((l1.length : Int) - 1))) else some 0)).bind fun r3 => (gameroomref_PegOf_J12 i2) (same1 && (r2 == r3))

noncomputable def gameroomref_PegOf_L3 (l1 : List Int) : (Bool × Int) → Option (St (Bool × Int) Bool) :=
  fun (x : (Bool × Int)) => match x with | (same1, i2) => if (decide (i2 < (l1.length : Int))) then ((gameroomref_PegOf_J11 l1 same1 i2)) else (some (.done same1))

noncomputable def gameroomref_PegOf_J10 (n2 : Int) (k1 : Int) (same2 : Bool) : Option (St Int (Fl Unit Int)) :=
  if same2 then (asrt (0 ≤ k1 ∧ k1 < 5) <| some (.done (.ret (w64 (n2 + (geti ([0, 0, 2, 6, 12] : List Int) k1)))))) else ((gameroomref_PegOf_J8 k1))

noncomputable def gameroomref_PegOf_K3 (n2 : Int) (k1 : Int) : Bool → Option (St Int (Fl Unit Int)) :=
  fun (x : Bool) => match x with | same2 => (gameroomref_PegOf_J10 n2 k1) same2

noncomputable def gameroomref_PegOf_J9 (l1 : List Int) (n2 : Int) (k1 : Int) : Option (St Int (Fl Unit Int)) :=
  (loop (gameroomref_PegOf_L3 l1) (true, (w64 ((l1.length : Int) - k1)))).bind (gameroomref_PegOf_K3 n2 k1)

noncomputable def gameroomref_PegOf_J7 (l1 : List Int) (n2 : Int) (k1 : Int) : Option (St Int (Fl Unit Int)) :=
  if (decide ((l1.length : Int) < k1)) then ((gameroomref_PegOf_J8 k1)) else ((gameroomref_PegOf_J9 l1 n2 k1))

noncomputable def gameroomref_PegOf_L2 (l1 : List Int) (n2 : Int) : Int → Option (St Int (Fl Unit Int)) :=
  fun (x : Int) => match x with | k1 => if (decide ((2 : Int) ≤ k1)) then ((gameroomref_PegOf_J7 l1 n2 k1)) else (some (.done (.go ())))

noncomputable def gameroomref_PegOf_J18 (i3 : Int) (low3 : Int) : Option (St (Int × Int) Int) :=
  some (.next (low3, (w64 (i3 + 1))))

noncomputable def gameroomref_PegOf_J17 (l1 : List Int) (low1 : Int) (i3 : Int) : Option (St (Int × Int) Int) :=
  asrt (0 ≤ i3 ∧ i3 < (l1.length : Int)) <| (gameroomref_pipOf_m (geti l1 i3)).bind fun r4 => if (decide (r4 < low1)) then (asrt (0 ≤ i3 ∧ i3 < (l1.length : Int)) <| (gameroomref_pipOf_m (geti l1 i3)).bind fun r5 => (gameroomref_PegOf_J18 i3) r5) else ((gameroomref_PegOf_J18 i3) low1)

noncomputable def gameroomref_PegOf_L5 (l1 : List Int) : (Int × Int) → Option (St (Int × Int) Int) :=
  fun (x : (Int × Int)) => match x with | (low1, i3) => if (decide (i3 < (l1.length : Int))) then ((gameroomref_PegOf_J17 l1 low1 i3)) else (some (.done low1))

noncomputable def gameroomref_PegOf_J15 (k2 : Int) : Option (St Int (Fl Unit Int)) :=
  some (.next (w64 (k2 - 1)))

noncomputable def gameroomref_PegOf_J16 (l1 : List Int) (n2 : Int) (k2 : Int) (low2 : Int) : Option (St Int (Fl Unit Int)) :=
  asrt ((decide ((w64 (low2 + k2)) ≤ 14)) = true → 0 ≤ (w64 ((l1.length : Int) - k2)) ∧ (w64 ((l1.length : Int) - k2)) ≤ (l1.length : Int) ∧ (l1.length : Int) ≤ (l1.length : Int)) <| ((if (decide ((w64 (low2 + k2)) ≤ 14)) then gameroomref_rowWays_m (cut l1 (w64 ((l1.length : Int) - k2)) (l1.length : Int)) low2 k2 else some 0)).bind fun r6 => if ((decide ((w64 (low2 + k2)) ≤ 14)) && (r6 == 1)) then (some (.done (.ret (w64 (n2 + k2))))) else ((gameroomref_PegOf_J15 k2))

noncomputable def gameroomref_PegOf_K5 (l1 : List Int) (n2 : Int) (k2 : Int) : Int → Option (St Int (Fl Unit Int)) :=
  fun (x : Int) => match x with | low2 => (gameroomref_PegOf_J16 l1 n2 k2) low2

noncomputable def gameroomref_PegOf_J14 (l1 : List Int) (n2 : Int) (k2 : Int) : Option (St Int (Fl Unit Int)) :=
  (loop (gameroomref_PegOf_L5 l1) (14, (w64 ((l1.length : Int) - k2)))).bind (gameroomref_PegOf_K5 l1 n2 k2)

noncomputable def gameroomref_PegOf_L4 (l1 : List Int) (n2 : Int) : Int → Option (St Int (Fl Unit Int)) :=
  fun (x : Int) => match x with | k2 => if (decide ((3 : Int) ≤ k2)) then ((gameroomref_PegOf_J14 l1 n2 k2)) else (some (.done (.go ())))

noncomputable def gameroomref_PegOf_J13 (n2 : Int) : Option Int :=
  some n2

noncomputable def gameroomref_PegOf_K4 (n2 : Int) : (Fl Unit Int) → Option Int :=
  fun (x : (Fl Unit Int)) => match x with | .go _ => (gameroomref_PegOf_J13 n2) | .ret x => some x

noncomputable def gameroomref_PegOf_J6 (l1 : List Int) (n2 : Int) : Option Int :=
  (loop (gameroomref_PegOf_L4 l1 n2) (l1.length : Int)).bind (gameroomref_PegOf_K4 n2)

noncomputable def gameroomref_PegOf_K2 (l1 : List Int) (n2 : Int) : (Fl Unit Int) → Option Int :=
  fun (x : (Fl Unit Int)) => match x with | .go _ => (gameroomref_PegOf_J6 l1 n2) | .ret x => some x

noncomputable def gameroomref_PegOf_J5 (l1 : List Int) (n2 : Int) : Option Int :=
  (loop (gameroomref_PegOf_L2 l1 n2) 4).bind (gameroomref_PegOf_K2 l1 n2)

noncomputable def gameroomref_PegOf_J4 (l1 : List Int) (sum2 : Int) : Option Int :=
  if ((sum2 == 15) || (sum2 == 31)) then ((gameroomref_PegOf_J5 l1) 2) else ((gameroomref_PegOf_J5 l1) 0)

noncomputable def gameroomref_PegOf_J1 (l1 : List Int) (sum2 : Int) : Option Int :=
  if (decide ((31 : Int) < sum2)) then (some (-1)) else ((gameroomref_PegOf_J4 l1 sum2))

noncomputable def gameroomref_PegOf_K1 (l1 : List Int) : Int → Option Int :=
  fun (x : Int) => match x with | sum2 => (gameroomref_PegOf_J1 l1) sum2

noncomputable def gameroomref_PegOf_L1 (l1 : List Int) : (Int × Int) → Option (St (Int × Int) Int) :=
  fun (x : (Int × Int)) => match x with | (sum1, i1) => if (decide (i1 < (l1.length : Int))) then ((gameroomref_PegOf_J2 l1 sum1 i1)) else (some (.done sum1))

noncomputable def gameroomref_PegOf_m (l1 : List Int) : Option Int :=
  (loop (gameroomref_PegOf_L1 l1) (0, 0)).bind (gameroomref_PegOf_K1 l1)

set_option maxRecDepth 100000 in
set_option maxHeartbeats 4000000 in
theorem gameroomref_PegOf_w {A1 : Option Addr} {c1 : Nat} {n1 : Nat} {l1 : List Int} {r : Int} {w0 w : World} {B : Nat} {fs : List HP} (hm : gameroomref_PegOf_m l1 = some r) (hS : Sep w0 B w (fs)) (hr_l1 : RdF w0 B fs A1 (vI l1)) (_hc_l1 : l1.length ≤ c1) (_hn_l1 : n1 = l1.length) :
    Calls Try.prog 62 #[.slice A1 n1 c1] w fun e w' => e = .returned (.int .i64 r) ∧ Sep w0 B w' (fs) := by
  obtain ⟨i3, hi3, hz3, hs3, hb3⟩ := info_parts Info3
  obtain rfl := _hn_l1
  unfold gameroomref_PegOf_m at hm
  replace hm := start_b hm
  refine enter (l := [.slice A1 l1.length c1]) (n := 117) Try.func62 rfl rfl (by simp) (fun a hF => ?_)
  refine reg [] [] [0] [pl 0 (.slice A1 l1.length c1)] hF hS Fol (by kernel_rfl) (by kernel_rfl) (by kernel_rfl) ?_ (fun a w hF hS => ?_)
  · exact obs_nil
  refine reg [] [] [0, 3] [pl 0 (.slice A1 l1.length c1), pl 3 (.int .i64 0)] hF hS Fol (by kernel_rfl) (by kernel_rfl) (by kernel_rfl) ?_ (fun a w hF hS => ?_)
  · exact obs_nil
  refine seq_cut (fun a w => ∃ (sum2 : Int), Fr 117 [pl 0 (.slice A1 l1.length c1), pl 3 (.int .i64 sum2)] a ∧ Sep w0 B w (fs) ∧ ((gameroomref_PegOf_J1 l1) sum2).bind some = some r) ?_ ?_
  · rintro a w ⟨sum2, hF, hS, hm⟩
    unfold gameroomref_PegOf_J1 at hm
    refine seq_cut (fun a w => Fr 117 [pl 0 (.slice A1 l1.length c1), pl 3 (.int .i64 sum2)] a ∧ Sep w0 B w (fs) ∧ ((gameroomref_PegOf_J4 l1 sum2)).bind some = some r) ?_ ?_
    · rintro a w ⟨hF, hS, hm⟩
      unfold gameroomref_PegOf_J4 at hm
      refine reg [] [] [0, 3, 5] [pl 0 (.slice A1 l1.length c1), pl 3 (.int .i64 sum2), pl 5 (.int .i64 0)] hF hS Fol (by kernel_rfl) (by kernel_rfl) (by kernel_rfl) ?_ (fun a w hF hS => ?_)
      · exact obs_nil
      refine seq_cut (fun a w => ∃ (n2 : Int), Fr 117 [pl 0 (.slice A1 l1.length c1), pl 5 (.int .i64 n2)] a ∧ Sep w0 B w (fs) ∧ ((gameroomref_PegOf_J5 l1) n2).bind some = some r) ?_ ?_
      · rintro a w ⟨n2, hF, hS, hm⟩
        unfold gameroomref_PegOf_J5 at hm
        refine reg [] [] [0, 5, 6] [pl 0 (.slice A1 l1.length c1), pl 5 (.int .i64 n2), pl 6 (.int .i64 (l1.length : Int))] hF hS Fol (by kernel_rfl) (by kernel_rfl) (by kernel_rfl) ?_ (fun a w hF hS => ?_)
        · exact obs_nil
        refine seq_cut (fun a w => Fr 117 [pl 0 (.slice A1 l1.length c1), pl 5 (.int .i64 n2), pl 6 (.int .i64 (l1.length : Int))] a ∧ Sep w0 B w (fs) ∧ ((gameroomref_PegOf_J6 l1 n2)).bind some = some r) ?_ ?_
        · rintro a w ⟨hF, hS, hm⟩
          unfold gameroomref_PegOf_J6 at hm
          refine seq_cut (fun a w => Fr 117 [pl 5 (.int .i64 n2)] a ∧ Sep w0 B w (fs) ∧ ((gameroomref_PegOf_J13 n2)).bind some = some r) ?_ ?_
          · rintro a w ⟨hF, hS, hm⟩
            unfold gameroomref_PegOf_J13 at hm
            refine reg [] [] [2] [pl 2 (.int .i64 n2)] hF hS Fol (by kernel_rfl) (by kernel_rfl) (by kernel_rfl) ?_ (fun a w hF hS => ?_)
            · exact obs_nil
            refine wp_ret ?_
            have hm : some n2 = some r := hm
            obtain rfl := Option.some.inj hm
            exact retV (rs := [.tmp 2]) (vs := [.int .i64 n2]) hF rfl (rv_t (by kernel_rfl) <| rv_nil) rfl ⟨rfl, hS⟩
          · refine reg [] [] [0, 5, 6, 10] [pl 0 (.slice A1 l1.length c1), pl 5 (.int .i64 n2), pl 6 (.int .i64 (l1.length : Int)), pl 10 (.int .i64 (l1.length : Int))] hF hS Fol (by kernel_rfl) (by kernel_rfl) (by kernel_rfl) ?_ (fun a w hF hS => ?_)
            · exact obs_nil
            refine wp_block ?_
            refine wp_loop_model (S := Int) (R := (Fl Unit Int)) (gameroomref_PegOf_L4 l1 n2) (fun x => ((gameroomref_PegOf_K4 n2) x).bind some) r (fun (x : Int) a w => Fr 117 [pl 0 (.slice A1 l1.length c1), pl 5 (.int .i64 n2), pl 6 (.int .i64 (l1.length : Int)), pl 10 (.int .i64 x)] a ∧ Sep w0 B w (fs)) (assoc_b hm) ⟨hF.weak [0, 5, 6, 10] (by kernel_rfl), hS⟩ ?_
            clear hF hS hm
            rintro nn4 k2 a w ⟨hF, hS⟩ hm
            generalize hφ4 : stK (gameroomref_PegOf_L4 l1 n2) nn4 (fun x => ((gameroomref_PegOf_K4 n2) x).bind some) = φ4 at hm
            unfold gameroomref_PegOf_L4 at hm
            dsimp only at hm
            refine seq_cut (fun a w => Fr 117 [pl 0 (.slice A1 l1.length c1), pl 5 (.int .i64 n2), pl 6 (.int .i64 (l1.length : Int)), pl 10 (.int .i64 k2)] a ∧ Sep w0 B w (fs) ∧ ((gameroomref_PegOf_J14 l1 n2 k2)).bind φ4 = some r) ?_ ?_
            · rintro a w ⟨hF, hS, hm⟩
              unfold gameroomref_PegOf_J14 at hm
              refine seq_cut (fun a w => Fr 117 [pl 0 (.slice A1 l1.length c1), pl 5 (.int .i64 n2), pl 6 (.int .i64 (l1.length : Int)), pl 10 (.int .i64 k2)] a ∧ Sep w0 B w (fs) ∧ ((gameroomref_PegOf_J15 k2)).bind φ4 = some r) ?_ ?_
              · rintro a w ⟨hF, hS, hm⟩
                unfold gameroomref_PegOf_J15 at hm
                refine reg1 [] [] [0, 5, 6, 10] [pl 0 (.slice A1 l1.length c1), pl 5 (.int .i64 n2), pl 6 (.int .i64 (l1.length : Int)), pl 10 (.int .i64 (w64 (k2 - 1)))] hF hS Fol (by kernel_rfl) (by kernel_rfl) (by kernel_rfl) ?_ (fun a w hF hS => ?_)
                · exact obs_nil
                refine then_n ?_
                rw [← hφ4] at hm
                exact ⟨(w64 (k2 - 1)), ⟨hF.weak [0, 5, 6, 10] (by kernel_rfl), hS⟩, hm⟩
              · refine wp_block ?_
                refine reg [] [] [0, 5, 6, 10, 11] [pl 0 (.slice A1 l1.length c1), pl 5 (.int .i64 n2), pl 6 (.int .i64 (l1.length : Int)), pl 10 (.int .i64 k2), pl 11 (.int .i64 14)] hF hS Fol (by kernel_rfl) (by kernel_rfl) (by kernel_rfl) ?_ (fun a w hF hS => ?_)
                · exact obs_nil
                refine seq_cut (fun a w => ∃ (low2 : Int), Fr 117 [pl 0 (.slice A1 l1.length c1), pl 5 (.int .i64 n2), pl 6 (.int .i64 (l1.length : Int)), pl 10 (.int .i64 k2), pl 11 (.int .i64 low2)] a ∧ Sep w0 B w (fs) ∧ ((gameroomref_PegOf_J16 l1 n2 k2) low2).bind φ4 = some r) ?_ ?_
                · rintro a w ⟨low2, hF, hS, hm⟩
                  unfold gameroomref_PegOf_J16 at hm
                  obtain ⟨hp7, hm⟩ := asrt_b hm
                  obtain ⟨r6, hr6, hm⟩ := call_b hm
                  refine reg [⟨true, [(decide ((w64 (low2 + k2)) ≤ 14), true)], vS (Instr.sliceAt 34 (.slice A1 l1.length c1) (some (.int .i64 (w64 ((l1.length : Int) - k2)))) none none), .slice (cutAddr A1 c1 (w64 ((l1.length : Int) - k2))) ((cut l1 (w64 ((l1.length : Int) - k2)) (l1.length : Int)).length) (c1 - Int.toNat (w64 ((l1.length : Int) - k2)))⟩, ⟨false, [(decide ((w64 (low2 + k2)) ≤ 14), true)], callFunc 130 #[.slice (cutAddr A1 c1 (w64 ((l1.length : Int) - k2))) ((cut l1 (w64 ((l1.length : Int) - k2)) (l1.length : Int)).length) (c1 - Int.toNat (w64 ((l1.length : Int) - k2))), .int .i64 low2, .int .i64 k2], .int .i64 r6⟩] [none, none, none, none, none, none, none, none, none, some (.slice (cutAddr A1 c1 (w64 ((l1.length : Int) - k2))) ((cut l1 (w64 ((l1.length : Int) - k2)) (l1.length : Int)).length) (c1 - Int.toNat (w64 ((l1.length : Int) - k2)))), none, none, some (.int .i64 r6), none, none] [0, 5, 6, 10, 112] [pl 0 (.slice A1 l1.length c1), pl 5 (.int .i64 n2), pl 6 (.int .i64 (l1.length : Int)), pl 10 (.int .i64 k2), pl 112 (.bool ((decide ((w64 (low2 + k2)) ≤ 14)) && (r6 == 1)))] hF hS Fol (by kernel_rfl) (by kernel_rfl) (by kernel_rfl) ?_ (fun a w hF hS => ?_)
                  · exact obs_cons (ob_cutn (l := l1) (k := .i64) (k' := .i64) Und34 hi3 hs3 rfl (.inl rfl) (.inr ⟨rfl, rfl⟩) (fun hy => hp7 (hy (decide ((w64 (low2 + k2)) ≤ 14), true) (by simp))) _hc_l1) <| obs_cons (ob_call Try.func130 (by kernel_rfl) rfl (fun hy _ hS => gameroomref_rowWays_w (ite_some hr6 (by rw [show (decide ((w64 (low2 + k2)) ≤ 14)) = true from hy (decide ((w64 (low2 + k2)) ≤ 14), true) (by simp)]; try rfl)) hS (fun _ hS => (Rd.cutF (hr_l1 _ (hS.dropN 0)) (hp7 (hy (decide ((w64 (low2 + k2)) ≤ 14), true) (by simp))) _hc_l1)) (cap_cut (hp7 (hy (decide ((w64 (low2 + k2)) ≤ 14), true) (by simp))) _hc_l1) rfl)) <| obs_nil
                  refine cond_ev (t := 112) (b := (decide ((w64 (low2 + k2)) ≤ 14)) && (r6 == 1)) hF (by kernel_rfl) (fun hb => ?_) (fun hb => ?_)
                  · replace hm := if_t hm hb
                    refine reg [] [] [2] [pl 2 (.int .i64 (w64 (n2 + k2)))] hF hS Fol (by kernel_rfl) (by kernel_rfl) (by kernel_rfl) ?_ (fun a w hF hS => ?_)
                    · exact obs_nil
                    refine wp_ret ?_
                    refine block_r (then_r (then_r (block_r (then_r ?_))))
                    rw [← hφ4] at hm
                    replace hm := done_b hm
                    unfold gameroomref_PegOf_K4 at hm
                    try dsimp only at hm
                    have hm : some (w64 (n2 + k2)) = some r := hm
                    obtain rfl := Option.some.inj hm
                    exact retV (rs := [.tmp 2]) (vs := [.int .i64 (w64 (n2 + k2))]) hF rfl (rv_t (by kernel_rfl) <| rv_nil) rfl ⟨rfl, hS⟩
                  · replace hm := if_f hm hb
                    refine wp_skip ?_
                    refine block_n ?_
                    refine then_n ?_
                    exact ⟨hF.weak [0, 5, 6, 10] (by kernel_rfl), hS, hm⟩
                · refine reg [] [] [0, 5, 6, 10, 11, 12] [pl 0 (.slice A1 l1.length c1), pl 5 (.int .i64 n2), pl 6 (.int .i64 (l1.length : Int)), pl 10 (.int .i64 k2), pl 11 (.int .i64 14), pl 12 (.int .i64 (w64 ((l1.length : Int) - k2)))] hF hS Fol (by kernel_rfl) (by kernel_rfl) (by kernel_rfl) ?_ (fun a w hF hS => ?_)
                  · exact obs_nil
                  refine wp_block ?_
                  refine wp_loop_model (S := (Int × Int)) (R := Int) (gameroomref_PegOf_L5 l1) (fun x => ((gameroomref_PegOf_K5 l1 n2 k2) x).bind φ4) r (fun (x : (Int × Int)) a w => Fr 117 [pl 0 (.slice A1 l1.length c1), pl 5 (.int .i64 n2), pl 6 (.int .i64 (l1.length : Int)), pl 10 (.int .i64 k2), pl 11 (.int .i64 x.1), pl 12 (.int .i64 x.2)] a ∧ Sep w0 B w (fs)) (assoc_b hm) ⟨hF.weak [0, 5, 6, 10, 11, 12] (by kernel_rfl), hS⟩ ?_
                  clear hF hS hm
                  rintro nn5 ⟨low1, i3⟩ a w ⟨hF, hS⟩ hm
                  generalize hφ5 : stK (gameroomref_PegOf_L5 l1) nn5 (fun x => ((gameroomref_PegOf_K5 l1 n2 k2) x).bind φ4) = φ5 at hm
                  unfold gameroomref_PegOf_L5 at hm
                  dsimp only at hF hS hm
                  refine seq_cut (fun a w => Fr 117 [pl 0 (.slice A1 l1.length c1), pl 5 (.int .i64 n2), pl 6 (.int .i64 (l1.length : Int)), pl 10 (.int .i64 k2), pl 11 (.int .i64 low1), pl 12 (.int .i64 i3)] a ∧ Sep w0 B w (fs) ∧ ((gameroomref_PegOf_J17 l1 low1 i3)).bind φ5 = some r) ?_ ?_
                  · rintro a w ⟨hF, hS, hm⟩
                    unfold gameroomref_PegOf_J17 at hm
                    refine seq_cut (fun a w => ∃ (low3 : Int), Fr 117 [pl 0 (.slice A1 l1.length c1), pl 5 (.int .i64 n2), pl 6 (.int .i64 (l1.length : Int)), pl 10 (.int .i64 k2), pl 11 (.int .i64 low3), pl 12 (.int .i64 i3)] a ∧ Sep w0 B w (fs) ∧ ((gameroomref_PegOf_J18 i3) low3).bind φ5 = some r) ?_ ?_
                    · rintro a w ⟨low3, hF, hS, hm⟩
                      unfold gameroomref_PegOf_J18 at hm
                      refine reg1 [] [] [0, 5, 6, 10, 11, 12] [pl 0 (.slice A1 l1.length c1), pl 5 (.int .i64 n2), pl 6 (.int .i64 (l1.length : Int)), pl 10 (.int .i64 k2), pl 11 (.int .i64 low3), pl 12 (.int .i64 (w64 (i3 + 1)))] hF hS Fol (by kernel_rfl) (by kernel_rfl) (by kernel_rfl) ?_ (fun a w hF hS => ?_)
                      · exact obs_nil
                      refine then_n ?_
                      rw [← hφ5] at hm
                      exact ⟨(low3, (w64 (i3 + 1))), ⟨hF.weak [0, 5, 6, 10, 11, 12] (by kernel_rfl), hS⟩, hm⟩
                    · refine wp_block ?_
                      obtain ⟨hp5, hm⟩ := asrt_b hm
                      obtain ⟨r4, hr4, hm⟩ := call_b hm
                      refine reg [⟨true, [], vS (Instr.indexAt 34 (.slice A1 l1.length c1) (.int .i64 i3)), .pointer (some (sAddr A1 i3))⟩, ⟨false, [], vS (Instr.loadAt 3 (.pointer (some (sAddr A1 i3)))), .int .i64 (geti l1 i3)⟩, ⟨false, [], callFunc 129 #[.int .i64 (geti l1 i3)], .int .i64 r4⟩] [none, none, some (.pointer (some (sAddr A1 i3))), some (.int .i64 (geti l1 i3)), some (.int .i64 r4), none, none] [0, 5, 6, 10, 11, 12, 92] [pl 0 (.slice A1 l1.length c1), pl 5 (.int .i64 n2), pl 6 (.int .i64 (l1.length : Int)), pl 10 (.int .i64 k2), pl 11 (.int .i64 low1), pl 12 (.int .i64 i3), pl 92 (.bool (decide (r4 < low1)))] hF hS Fol (by kernel_rfl) (by kernel_rfl) (by kernel_rfl) ?_ (fun a w hF hS => ?_)
                      · exact obs_cons (ob_ix1 (f := (Value.int .i64)) (m := l1) Und34 hi3 hs3 (hr_l1 _ (hS.dropN 0)) rfl (fun _ => hp5)) <| obs_cons (ob_get1 (n := l1.length) (m := l1) (Value.int .i64) (0 : Int) Agg3 (fun _ hS => ⟨_, (hr_l1 _ (hS.dropN 0))⟩) (fun _ hS => rfl) (fun _ => hp5)) <| obs_cons (ob_call Try.func129 (by kernel_rfl) rfl (fun _ _ hS => gameroomref_pipOf_w hr4 hS )) <| obs_nil
                      refine cond_ev (t := 92) (b := decide (r4 < low1)) hF (by kernel_rfl) (fun hb => ?_) (fun hb => ?_)
                      · replace hm := if_t hm hb
                        obtain ⟨hp6, hm⟩ := asrt_b hm
                        obtain ⟨r5, hr5, hm⟩ := call_b hm
                        refine reg1 [⟨true, [], vS (Instr.indexAt 34 (.slice A1 l1.length c1) (.int .i64 i3)), .pointer (some (sAddr A1 i3))⟩, ⟨false, [], vS (Instr.loadAt 3 (.pointer (some (sAddr A1 i3)))), .int .i64 (geti l1 i3)⟩, ⟨false, [], callFunc 129 #[.int .i64 (geti l1 i3)], .int .i64 r5⟩] [none, none, some (.pointer (some (sAddr A1 i3))), some (.int .i64 (geti l1 i3)), some (.int .i64 r5), none] [0, 5, 6, 10, 11, 12] [pl 0 (.slice A1 l1.length c1), pl 5 (.int .i64 n2), pl 6 (.int .i64 (l1.length : Int)), pl 10 (.int .i64 k2), pl 11 (.int .i64 r5), pl 12 (.int .i64 i3)] hF hS Fol (by kernel_rfl) (by kernel_rfl) (by kernel_rfl) ?_ (fun a w hF hS => ?_)
                        · exact obs_cons (ob_ix1 (f := (Value.int .i64)) (m := l1) Und34 hi3 hs3 (hr_l1 _ (hS.dropN 0)) rfl (fun _ => hp6)) <| obs_cons (ob_get1 (n := l1.length) (m := l1) (Value.int .i64) (0 : Int) Agg3 (fun _ hS => ⟨_, (hr_l1 _ (hS.dropN 0))⟩) (fun _ hS => rfl) (fun _ => hp6)) <| obs_cons (ob_call Try.func129 (by kernel_rfl) rfl (fun _ _ hS => gameroomref_pipOf_w hr5 hS )) <| obs_nil
                        refine block_n ?_
                        refine then_n ?_
                        exact ⟨r5, hF.weak [0, 5, 6, 10, 11, 12] (by kernel_rfl), hS, hm⟩
                      · replace hm := if_f hm hb
                        refine wp_skip ?_
                        refine block_n ?_
                        refine then_n ?_
                        exact ⟨low1, hF.weak [0, 5, 6, 10, 11, 12] (by kernel_rfl), hS, hm⟩
                  · refine reg [] [] [0, 5, 6, 10, 11, 12, 83] [pl 0 (.slice A1 l1.length c1), pl 5 (.int .i64 n2), pl 6 (.int .i64 (l1.length : Int)), pl 10 (.int .i64 k2), pl 11 (.int .i64 low1), pl 12 (.int .i64 i3), pl 83 (.bool (decide (i3 < (l1.length : Int))))] hF hS Fol (by kernel_rfl) (by kernel_rfl) (by kernel_rfl) ?_ (fun a w hF hS => ?_)
                    · exact obs_nil
                    refine cond_ev (t := 83) (b := decide (i3 < (l1.length : Int))) hF (by kernel_rfl) (fun hb => ?_) (fun hb => ?_)
                    · replace hm := if_t hm hb
                      refine wp_skip ?_
                      refine then_n ?_
                      exact ⟨hF.weak [0, 5, 6, 10, 11, 12] (by kernel_rfl), hS, hm⟩
                    · replace hm := if_f hm hb
                      refine wp_exit ?_
                      refine then_e (then_e (block_e (then_n ?_)))
                      rw [← hφ5] at hm
                      replace hm := done_b hm
                      unfold gameroomref_PegOf_K5 at hm
                      try dsimp only at hm
                      have hm : ((gameroomref_PegOf_J16 l1 n2 k2) low1).bind φ4 = some r := hm
                      exact ⟨low1, hF.weak [0, 5, 6, 10, 11] (by kernel_rfl), hS, hm⟩
            · refine reg [] [] [0, 5, 6, 10, 75] [pl 0 (.slice A1 l1.length c1), pl 5 (.int .i64 n2), pl 6 (.int .i64 (l1.length : Int)), pl 10 (.int .i64 k2), pl 75 (.bool (decide ((3 : Int) ≤ k2)))] hF hS Fol (by kernel_rfl) (by kernel_rfl) (by kernel_rfl) ?_ (fun a w hF hS => ?_)
              · exact obs_nil
              refine cond_ev (t := 75) (b := decide ((3 : Int) ≤ k2)) hF (by kernel_rfl) (fun hb => ?_) (fun hb => ?_)
              · replace hm := if_t hm hb
                refine wp_skip ?_
                refine then_n ?_
                exact ⟨hF.weak [0, 5, 6, 10] (by kernel_rfl), hS, hm⟩
              · replace hm := if_f hm hb
                refine wp_exit ?_
                refine then_e (then_e (block_e (then_n ?_)))
                rw [← hφ4] at hm
                replace hm := done_b hm
                unfold gameroomref_PegOf_K4 at hm
                try dsimp only at hm
                have hm : ((gameroomref_PegOf_J13 n2)).bind some = some r := hm
                exact ⟨hF.weak [5] (by kernel_rfl), hS, hm⟩
        · refine reg [] [] [0, 5, 6, 7] [pl 0 (.slice A1 l1.length c1), pl 5 (.int .i64 n2), pl 6 (.int .i64 (l1.length : Int)), pl 7 (.int .i64 4)] hF hS Fol (by kernel_rfl) (by kernel_rfl) (by kernel_rfl) ?_ (fun a w hF hS => ?_)
          · exact obs_nil
          refine wp_block ?_
          refine wp_loop_model (S := Int) (R := (Fl Unit Int)) (gameroomref_PegOf_L2 l1 n2) (fun x => ((gameroomref_PegOf_K2 l1 n2) x).bind some) r (fun (x : Int) a w => Fr 117 [pl 0 (.slice A1 l1.length c1), pl 5 (.int .i64 n2), pl 6 (.int .i64 (l1.length : Int)), pl 7 (.int .i64 x)] a ∧ Sep w0 B w (fs)) (assoc_b hm) ⟨hF.weak [0, 5, 6, 7] (by kernel_rfl), hS⟩ ?_
          clear hF hS hm
          rintro nn2 k1 a w ⟨hF, hS⟩ hm
          generalize hφ2 : stK (gameroomref_PegOf_L2 l1 n2) nn2 (fun x => ((gameroomref_PegOf_K2 l1 n2) x).bind some) = φ2 at hm
          unfold gameroomref_PegOf_L2 at hm
          dsimp only at hm
          refine seq_cut (fun a w => Fr 117 [pl 0 (.slice A1 l1.length c1), pl 5 (.int .i64 n2), pl 6 (.int .i64 (l1.length : Int)), pl 7 (.int .i64 k1)] a ∧ Sep w0 B w (fs) ∧ ((gameroomref_PegOf_J7 l1 n2 k1)).bind φ2 = some r) ?_ ?_
          · rintro a w ⟨hF, hS, hm⟩
            unfold gameroomref_PegOf_J7 at hm
            refine seq_cut (fun a w => Fr 117 [pl 0 (.slice A1 l1.length c1), pl 5 (.int .i64 n2), pl 6 (.int .i64 (l1.length : Int)), pl 7 (.int .i64 k1)] a ∧ Sep w0 B w (fs) ∧ ((gameroomref_PegOf_J8 k1)).bind φ2 = some r) ?_ ?_
            · rintro a w ⟨hF, hS, hm⟩
              unfold gameroomref_PegOf_J8 at hm
              refine reg1 [] [] [0, 5, 6, 7] [pl 0 (.slice A1 l1.length c1), pl 5 (.int .i64 n2), pl 6 (.int .i64 (l1.length : Int)), pl 7 (.int .i64 (w64 (k1 - 1)))] hF hS Fol (by kernel_rfl) (by kernel_rfl) (by kernel_rfl) ?_ (fun a w hF hS => ?_)
              · exact obs_nil
              refine then_n ?_
              rw [← hφ2] at hm
              exact ⟨(w64 (k1 - 1)), ⟨hF.weak [0, 5, 6, 7] (by kernel_rfl), hS⟩, hm⟩
            · refine wp_block ?_
              refine seq_cut (fun a w => Fr 117 [pl 0 (.slice A1 l1.length c1), pl 5 (.int .i64 n2), pl 6 (.int .i64 (l1.length : Int)), pl 7 (.int .i64 k1)] a ∧ Sep w0 B w (fs) ∧ ((gameroomref_PegOf_J9 l1 n2 k1)).bind φ2 = some r) ?_ ?_
              · rintro a w ⟨hF, hS, hm⟩
                unfold gameroomref_PegOf_J9 at hm
                refine reg [] [] [0, 5, 6, 7, 8] [pl 0 (.slice A1 l1.length c1), pl 5 (.int .i64 n2), pl 6 (.int .i64 (l1.length : Int)), pl 7 (.int .i64 k1), pl 8 (.bool true)] hF hS Fol (by kernel_rfl) (by kernel_rfl) (by kernel_rfl) ?_ (fun a w hF hS => ?_)
                · exact obs_nil
                refine seq_cut (fun a w => ∃ (same2 : Bool), Fr 117 [pl 0 (.slice A1 l1.length c1), pl 5 (.int .i64 n2), pl 6 (.int .i64 (l1.length : Int)), pl 7 (.int .i64 k1), pl 8 (.bool same2)] a ∧ Sep w0 B w (fs) ∧ ((gameroomref_PegOf_J10 n2 k1) same2).bind φ2 = some r) ?_ ?_
                · rintro a w ⟨same2, hF, hS, hm⟩
                  unfold gameroomref_PegOf_J10 at hm
                  refine reg [] [] [0, 5, 6, 7, 66] [pl 0 (.slice A1 l1.length c1), pl 5 (.int .i64 n2), pl 6 (.int .i64 (l1.length : Int)), pl 7 (.int .i64 k1), pl 66 (.bool same2)] hF hS Fol (by kernel_rfl) (by kernel_rfl) (by kernel_rfl) ?_ (fun a w hF hS => ?_)
                  · exact obs_nil
                  refine cond_ev (t := 66) (b := same2) hF (by kernel_rfl) (fun hb => ?_) (fun hb => ?_)
                  · replace hm := if_t hm hb
                    refine seqR ?_
                    obtain ⟨hp4, hm⟩ := asrt_b hm
                    refine at_run 1 [] [] [7, 67] [pl 7 (.int .i64 k1), pl 67 (.int .i64 n2)] hF hS (by kernel_rfl) (by kernel_rfl) ?_ (fun a w hF hS => ?_)
                    · exact obs_nil
                    refine at_do (d := 68) (s := vS (Instr.buildSlice 34 5 #[(0, .int .i64 0), (1, .int .i64 0), (2, .int .i64 2), (3, .int .i64 6), (4, .int .i64 12)])) (v := .slice (some ⟨w.heap.size, 0, none⟩) 5 5) (w' := w.alloc (.cells #[.int .i64 0, .int .i64 0, .int .i64 2, .int .i64 6, .int .i64 12] 3)) hF (by kernel_rfl) (by kernel_rfl) (by kernel_rfl) (fun a hF => ?_)
                    have hS : Sep w0 B (w.alloc (.cells #[.int .i64 0, .int .i64 0, .int .i64 2, .int .i64 6, .int .i64 12] 3)) (own 3 (.slice (some (⟨w.heap.size, 0, none⟩ : Addr)) 5 5) (vI ([0, 0, 2, 6, 12] : List Int)) :: (fs)) := hS.lit 3 #[.int .i64 0, .int .i64 0, .int .i64 2, .int .i64 6, .int .i64 12] 5 rfl (by omega)
                    generalize (some (⟨w.heap.size, 0, none⟩ : Addr)) = g1 at hF hS
                    generalize w.alloc (.cells #[.int .i64 0, .int .i64 0, .int .i64 2, .int .i64 6, .int .i64 12] 3) = w at hS ⊢
                    refine at_run 5 [⟨true, [], vS (Instr.indexAt 34 (.slice g1 5 5) (.int .i64 k1)), .pointer (some (sAddr g1 k1))⟩, ⟨false, [], vS (Instr.loadAt 3 (.pointer (some (sAddr g1 k1)))), .int .i64 (geti ([0, 0, 2, 6, 12] : List Int) k1)⟩] [none, some (.pointer (some (sAddr g1 k1))), some (.int .i64 (geti ([0, 0, 2, 6, 12] : List Int) k1)), none, none] [2] [pl 2 (.int .i64 (w64 (n2 + (geti ([0, 0, 2, 6, 12] : List Int) k1))))] hF hS (by kernel_rfl) (by kernel_rfl) ?_ (fun a w hF hS => ?_)
                    · exact obs_cons (ob_ix1 (f := (Value.int .i64)) (m := ([0, 0, 2, 6, 12] : List Int)) Und34 hi3 hs3 (hS.at_ 0 rfl).rd ((hS.at_ 0 rfl).len1) (fun _ => hp4)) <| obs_cons (ob_get1 (n := 5) (m := ([0, 0, 2, 6, 12] : List Int)) (Value.int .i64) (0 : Int) Agg3 (fun _ hS => ⟨_, (hS.at_ 0 rfl).rd⟩) (fun _ hS => ((hS.at_ 0 rfl).len1)) (fun _ => hp4)) <| obs_nil
                    refine at_end [2] [pl 2 (.int .i64 (w64 (n2 + (geti ([0, 0, 2, 6, 12] : List Int) k1))))] hF rfl (by kernel_rfl) (fun hF => ?_)
                    refine then_n ?_
                    refine wp_ret ?_
                    refine block_r (then_r (then_r (block_r (then_r ?_))))
                    rw [← hφ2] at hm
                    replace hm := done_b hm
                    unfold gameroomref_PegOf_K2 at hm
                    try dsimp only at hm
                    have hS := hS.pickN 1 [] (by decide)
                    have hm : some (w64 (n2 + (geti ([0, 0, 2, 6, 12] : List Int) k1))) = some r := hm
                    obtain rfl := Option.some.inj hm
                    exact retV (rs := [.tmp 2]) (vs := [.int .i64 (w64 (n2 + (geti ([0, 0, 2, 6, 12] : List Int) k1)))]) hF rfl (rv_t (by kernel_rfl) <| rv_nil) rfl ⟨rfl, hS⟩
                  · replace hm := if_f hm hb
                    refine wp_skip ?_
                    refine block_n ?_
                    refine then_n ?_
                    exact ⟨hF.weak [0, 5, 6, 7] (by kernel_rfl), hS, hm⟩
                · refine reg [] [] [0, 5, 6, 7, 8, 9] [pl 0 (.slice A1 l1.length c1), pl 5 (.int .i64 n2), pl 6 (.int .i64 (l1.length : Int)), pl 7 (.int .i64 k1), pl 8 (.bool true), pl 9 (.int .i64 (w64 ((l1.length : Int) - k1)))] hF hS Fol (by kernel_rfl) (by kernel_rfl) (by kernel_rfl) ?_ (fun a w hF hS => ?_)
                  · exact obs_nil
                  refine wp_block ?_
                  refine wp_loop_model (S := (Bool × Int)) (R := Bool) (gameroomref_PegOf_L3 l1) (fun x => ((gameroomref_PegOf_K3 n2 k1) x).bind φ2) r (fun (x : (Bool × Int)) a w => Fr 117 [pl 0 (.slice A1 l1.length c1), pl 5 (.int .i64 n2), pl 6 (.int .i64 (l1.length : Int)), pl 7 (.int .i64 k1), pl 8 (.bool x.1), pl 9 (.int .i64 x.2)] a ∧ Sep w0 B w (fs)) (assoc_b hm) ⟨hF.weak [0, 5, 6, 7, 8, 9] (by kernel_rfl), hS⟩ ?_
                  clear hF hS hm
                  rintro nn3 ⟨same1, i2⟩ a w ⟨hF, hS⟩ hm
                  generalize hφ3 : stK (gameroomref_PegOf_L3 l1) nn3 (fun x => ((gameroomref_PegOf_K3 n2 k1) x).bind φ2) = φ3 at hm
                  unfold gameroomref_PegOf_L3 at hm
                  dsimp only at hF hS hm
                  refine seq_cut (fun a w => Fr 117 [pl 0 (.slice A1 l1.length c1), pl 5 (.int .i64 n2), pl 6 (.int .i64 (l1.length : Int)), pl 7 (.int .i64 k1), pl 8 (.bool same1), pl 9 (.int .i64 i2)] a ∧ Sep w0 B w (fs) ∧ ((gameroomref_PegOf_J11 l1 same1 i2)).bind φ3 = some r) ?_ ?_
                  · rintro a w ⟨hF, hS, hm⟩
                    unfold gameroomref_PegOf_J11 at hm
                    refine seq_cut (fun a w => ∃ (same3 : Bool), Fr 117 [pl 0 (.slice A1 l1.length c1), pl 5 (.int .i64 n2), pl 6 (.int .i64 (l1.length : Int)), pl 7 (.int .i64 k1), pl 8 (.bool same3), pl 9 (.int .i64 i2)] a ∧ Sep w0 B w (fs) ∧ ((gameroomref_PegOf_J12 i2) same3).bind φ3 = some r) ?_ ?_
                    · rintro a w ⟨same3, hF, hS, hm⟩
                      unfold gameroomref_PegOf_J12 at hm
                      refine reg1 [] [] [0, 5, 6, 7, 8, 9] [pl 0 (.slice A1 l1.length c1), pl 5 (.int .i64 n2), pl 6 (.int .i64 (l1.length : Int)), pl 7 (.int .i64 k1), pl 8 (.bool same3), pl 9 (.int .i64 (w64 (i2 + 1)))] hF hS Fol (by kernel_rfl) (by kernel_rfl) (by kernel_rfl) ?_ (fun a w hF hS => ?_)
                      · exact obs_nil
                      refine then_n ?_
                      rw [← hφ3] at hm
                      exact ⟨(same3, (w64 (i2 + 1))), ⟨hF.weak [0, 5, 6, 7, 8, 9] (by kernel_rfl), hS⟩, hm⟩
                    · refine wp_block ?_
                      obtain ⟨hp2, hm⟩ := asrt_b hm
                      obtain ⟨r2, hr2, hm⟩ := call_b hm
                      obtain ⟨hp3, hm⟩ := asrt_b hm
                      obtain ⟨r3, hr3, hm⟩ := call_b hm
                      refine reg1 [⟨true, [(same1, true)], vS (Instr.indexAt 34 (.slice A1 l1.length c1) (.int .i64 i2)), .pointer (some (sAddr A1 i2))⟩, ⟨false, [(same1, true)], vS (Instr.loadAt 3 (.pointer (some (sAddr A1 i2)))), .int .i64 (geti l1 i2)⟩, ⟨false, [(same1, true)], callFunc 129 #[.int .i64 (geti l1 i2)], .int .i64 r2⟩, ⟨true, [(same1, true)], vS (Instr.indexAt 34 (.slice A1 l1.length c1) (.int .i64 (w64 ((l1.length : Int) - 1)))), .pointer (some (sAddr A1 (w64 ((l1.length : Int) - 1))))⟩, ⟨false, [(same1, true)], vS (Instr.loadAt 3 (.pointer (some (sAddr A1 (w64 ((l1.length : Int) - 1)))))), .int .i64 (geti l1 (w64 ((l1.length : Int) - 1)))⟩, ⟨false, [(same1, true)], callFunc 129 #[.int .i64 (geti l1 (w64 ((l1.length : Int) - 1)))], .int .i64 r3⟩] [none, none, none, none, some (.pointer (some (sAddr A1 i2))), some (.int .i64 (geti l1 i2)), some (.int .i64 r2), none, none, none, some (.pointer (some (sAddr A1 (w64 ((l1.length : Int) - 1))))), some (.int .i64 (geti l1 (w64 ((l1.length : Int) - 1)))), some (.int .i64 r3), none, none, none] [0, 5, 6, 7, 8, 9] [pl 0 (.slice A1 l1.length c1), pl 5 (.int .i64 n2), pl 6 (.int .i64 (l1.length : Int)), pl 7 (.int .i64 k1), pl 8 (.bool (same1 && (r2 == r3))), pl 9 (.int .i64 i2)] hF hS Fol (by kernel_rfl) (by kernel_rfl) (by kernel_rfl) ?_ (fun a w hF hS => ?_)
                      · exact obs_cons (ob_ix1 (f := (Value.int .i64)) (m := l1) Und34 hi3 hs3 (hr_l1 _ (hS.dropN 0)) rfl (fun hy => hp2 (hy (same1, true) (by simp)))) <| obs_cons (ob_get1 (n := l1.length) (m := l1) (Value.int .i64) (0 : Int) Agg3 (fun _ hS => ⟨_, (hr_l1 _ (hS.dropN 0))⟩) (fun _ hS => rfl) (fun hy => hp2 (hy (same1, true) (by simp)))) <| obs_cons (ob_call Try.func129 (by kernel_rfl) rfl (fun hy _ hS => gameroomref_pipOf_w (ite_some hr2 (by rw [show same1 = true from hy (same1, true) (by simp)]; try rfl)) hS )) <| obs_cons (ob_ix1 (f := (Value.int .i64)) (m := l1) Und34 hi3 hs3 (hr_l1 _ (hS.dropN 0)) rfl (fun hy => hp3 (hy (same1, true) (by simp)))) <| obs_cons (ob_get1 (n := l1.length) (m := l1) (Value.int .i64) (0 : Int) Agg3 (fun _ hS => ⟨_, (hr_l1 _ (hS.dropN 0))⟩) (fun _ hS => rfl) (fun hy => hp3 (hy (same1, true) (by simp)))) <| obs_cons (ob_call Try.func129 (by kernel_rfl) rfl (fun hy _ hS => gameroomref_pipOf_w (ite_some hr3 (by rw [show same1 = true from hy (same1, true) (by simp)]; try rfl)) hS )) <| obs_nil
                      refine block_n ?_
                      refine then_n ?_
                      exact ⟨(same1 && (r2 == r3)), hF.weak [0, 5, 6, 7, 8, 9] (by kernel_rfl), hS, hm⟩
                  · refine reg [] [] [0, 5, 6, 7, 8, 9, 48] [pl 0 (.slice A1 l1.length c1), pl 5 (.int .i64 n2), pl 6 (.int .i64 (l1.length : Int)), pl 7 (.int .i64 k1), pl 8 (.bool same1), pl 9 (.int .i64 i2), pl 48 (.bool (decide (i2 < (l1.length : Int))))] hF hS Fol (by kernel_rfl) (by kernel_rfl) (by kernel_rfl) ?_ (fun a w hF hS => ?_)
                    · exact obs_nil
                    refine cond_ev (t := 48) (b := decide (i2 < (l1.length : Int))) hF (by kernel_rfl) (fun hb => ?_) (fun hb => ?_)
                    · replace hm := if_t hm hb
                      refine wp_skip ?_
                      refine then_n ?_
                      exact ⟨hF.weak [0, 5, 6, 7, 8, 9] (by kernel_rfl), hS, hm⟩
                    · replace hm := if_f hm hb
                      refine wp_exit ?_
                      refine then_e (then_e (block_e (then_n ?_)))
                      rw [← hφ3] at hm
                      replace hm := done_b hm
                      unfold gameroomref_PegOf_K3 at hm
                      try dsimp only at hm
                      have hm : ((gameroomref_PegOf_J10 n2 k1) same1).bind φ2 = some r := hm
                      exact ⟨same1, hF.weak [0, 5, 6, 7, 8] (by kernel_rfl), hS, hm⟩
              · refine reg [] [] [0, 5, 6, 7, 42] [pl 0 (.slice A1 l1.length c1), pl 5 (.int .i64 n2), pl 6 (.int .i64 (l1.length : Int)), pl 7 (.int .i64 k1), pl 42 (.bool (decide ((l1.length : Int) < k1)))] hF hS Fol (by kernel_rfl) (by kernel_rfl) (by kernel_rfl) ?_ (fun a w hF hS => ?_)
                · exact obs_nil
                refine cond_ev (t := 42) (b := decide ((l1.length : Int) < k1)) hF (by kernel_rfl) (fun hb => ?_) (fun hb => ?_)
                · replace hm := if_t hm hb
                  refine wp_exit ?_
                  refine then_e (block_e (then_n ?_))
                  exact ⟨hF.weak [0, 5, 6, 7] (by kernel_rfl), hS, hm⟩
                · replace hm := if_f hm hb
                  refine wp_skip ?_
                  refine then_n ?_
                  exact ⟨hF.weak [0, 5, 6, 7] (by kernel_rfl), hS, hm⟩
          · refine reg [] [] [0, 5, 6, 7, 37] [pl 0 (.slice A1 l1.length c1), pl 5 (.int .i64 n2), pl 6 (.int .i64 (l1.length : Int)), pl 7 (.int .i64 k1), pl 37 (.bool (decide ((2 : Int) ≤ k1)))] hF hS Fol (by kernel_rfl) (by kernel_rfl) (by kernel_rfl) ?_ (fun a w hF hS => ?_)
            · exact obs_nil
            refine cond_ev (t := 37) (b := decide ((2 : Int) ≤ k1)) hF (by kernel_rfl) (fun hb => ?_) (fun hb => ?_)
            · replace hm := if_t hm hb
              refine wp_skip ?_
              refine then_n ?_
              exact ⟨hF.weak [0, 5, 6, 7] (by kernel_rfl), hS, hm⟩
            · replace hm := if_f hm hb
              refine wp_exit ?_
              refine then_e (then_e (block_e (then_n ?_)))
              rw [← hφ2] at hm
              replace hm := done_b hm
              unfold gameroomref_PegOf_K2 at hm
              try dsimp only at hm
              have hm : ((gameroomref_PegOf_J6 l1 n2)).bind some = some r := hm
              exact ⟨hF.weak [0, 5, 6] (by kernel_rfl), hS, hm⟩
      · refine reg [] [] [0, 5, 33] [pl 0 (.slice A1 l1.length c1), pl 5 (.int .i64 0), pl 33 (.bool ((sum2 == 15) || (sum2 == 31)))] hF hS Fol (by kernel_rfl) (by kernel_rfl) (by kernel_rfl) ?_ (fun a w hF hS => ?_)
        · exact obs_nil
        refine cond_ev (t := 33) (b := (sum2 == 15) || (sum2 == 31)) hF (by kernel_rfl) (fun hb => ?_) (fun hb => ?_)
        · replace hm := if_t hm hb
          refine reg1 [] [] [0, 5] [pl 0 (.slice A1 l1.length c1), pl 5 (.int .i64 2)] hF hS Fol (by kernel_rfl) (by kernel_rfl) (by kernel_rfl) ?_ (fun a w hF hS => ?_)
          · exact obs_nil
          refine then_n ?_
          exact ⟨2, hF.weak [0, 5] (by kernel_rfl), hS, hm⟩
        · replace hm := if_f hm hb
          refine wp_skip ?_
          refine then_n ?_
          exact ⟨0, hF.weak [0, 5] (by kernel_rfl), hS, hm⟩
    · refine reg [] [] [0, 3, 27] [pl 0 (.slice A1 l1.length c1), pl 3 (.int .i64 sum2), pl 27 (.bool (decide ((31 : Int) < sum2)))] hF hS Fol (by kernel_rfl) (by kernel_rfl) (by kernel_rfl) ?_ (fun a w hF hS => ?_)
      · exact obs_nil
      refine cond_ev (t := 27) (b := decide ((31 : Int) < sum2)) hF (by kernel_rfl) (fun hb => ?_) (fun hb => ?_)
      · replace hm := if_t hm hb
        refine reg [] [] [2] [pl 2 (.int .i64 (-1))] hF hS Fol (by kernel_rfl) (by kernel_rfl) (by kernel_rfl) ?_ (fun a w hF hS => ?_)
        · exact obs_nil
        refine wp_ret ?_
        refine then_r ?_
        have hm : some (-1) = some r := hm
        obtain rfl := Option.some.inj hm
        exact retV (rs := [.tmp 2]) (vs := [.int .i64 (-1)]) hF rfl (rv_t (by kernel_rfl) <| rv_nil) rfl ⟨rfl, hS⟩
      · replace hm := if_f hm hb
        refine wp_skip ?_
        refine then_n ?_
        exact ⟨hF.weak [0, 3] (by kernel_rfl), hS, hm⟩
  · refine reg [] [] [0, 3, 4] [pl 0 (.slice A1 l1.length c1), pl 3 (.int .i64 0), pl 4 (.int .i64 0)] hF hS Fol (by kernel_rfl) (by kernel_rfl) (by kernel_rfl) ?_ (fun a w hF hS => ?_)
    · exact obs_nil
    refine wp_block ?_
    refine wp_loop_model (S := (Int × Int)) (R := Int) (gameroomref_PegOf_L1 l1) (fun x => ((gameroomref_PegOf_K1 l1) x).bind some) r (fun (x : (Int × Int)) a w => Fr 117 [pl 0 (.slice A1 l1.length c1), pl 3 (.int .i64 x.1), pl 4 (.int .i64 x.2)] a ∧ Sep w0 B w (fs)) (assoc_b hm) ⟨hF.weak [0, 3, 4] (by kernel_rfl), hS⟩ ?_
    clear hF hS hm
    rintro nn1 ⟨sum1, i1⟩ a w ⟨hF, hS⟩ hm
    generalize hφ1 : stK (gameroomref_PegOf_L1 l1) nn1 (fun x => ((gameroomref_PegOf_K1 l1) x).bind some) = φ1 at hm
    unfold gameroomref_PegOf_L1 at hm
    dsimp only at hF hS hm
    refine seq_cut (fun a w => Fr 117 [pl 0 (.slice A1 l1.length c1), pl 3 (.int .i64 sum1), pl 4 (.int .i64 i1)] a ∧ Sep w0 B w (fs) ∧ ((gameroomref_PegOf_J2 l1 sum1 i1)).bind φ1 = some r) ?_ ?_
    · rintro a w ⟨hF, hS, hm⟩
      unfold gameroomref_PegOf_J2 at hm
      refine seq_cut (fun a w => ∃ (sum3 : Int), Fr 117 [pl 0 (.slice A1 l1.length c1), pl 3 (.int .i64 sum3), pl 4 (.int .i64 i1)] a ∧ Sep w0 B w (fs) ∧ ((gameroomref_PegOf_J3 i1) sum3).bind φ1 = some r) ?_ ?_
      · rintro a w ⟨sum3, hF, hS, hm⟩
        unfold gameroomref_PegOf_J3 at hm
        refine reg1 [] [] [0, 3, 4] [pl 0 (.slice A1 l1.length c1), pl 3 (.int .i64 sum3), pl 4 (.int .i64 (w64 (i1 + 1)))] hF hS Fol (by kernel_rfl) (by kernel_rfl) (by kernel_rfl) ?_ (fun a w hF hS => ?_)
        · exact obs_nil
        refine then_n ?_
        rw [← hφ1] at hm
        exact ⟨(sum3, (w64 (i1 + 1))), ⟨hF.weak [0, 3, 4] (by kernel_rfl), hS⟩, hm⟩
      · refine wp_block ?_
        obtain ⟨hp1, hm⟩ := asrt_b hm
        obtain ⟨r1, hr1, hm⟩ := call_b hm
        refine reg1 [⟨true, [], vS (Instr.indexAt 34 (.slice A1 l1.length c1) (.int .i64 i1)), .pointer (some (sAddr A1 i1))⟩, ⟨false, [], vS (Instr.loadAt 3 (.pointer (some (sAddr A1 i1)))), .int .i64 (geti l1 i1)⟩, ⟨false, [], callFunc 128 #[.int .i64 (geti l1 i1)], .int .i64 r1⟩] [none, none, none, some (.pointer (some (sAddr A1 i1))), some (.int .i64 (geti l1 i1)), some (.int .i64 r1), none, none] [0, 3, 4] [pl 0 (.slice A1 l1.length c1), pl 3 (.int .i64 (w64 (sum1 + r1))), pl 4 (.int .i64 i1)] hF hS Fol (by kernel_rfl) (by kernel_rfl) (by kernel_rfl) ?_ (fun a w hF hS => ?_)
        · exact obs_cons (ob_ix1 (f := (Value.int .i64)) (m := l1) Und34 hi3 hs3 (hr_l1 _ (hS.dropN 0)) rfl (fun _ => hp1)) <| obs_cons (ob_get1 (n := l1.length) (m := l1) (Value.int .i64) (0 : Int) Agg3 (fun _ hS => ⟨_, (hr_l1 _ (hS.dropN 0))⟩) (fun _ hS => rfl) (fun _ => hp1)) <| obs_cons (ob_call Try.func128 (by kernel_rfl) rfl (fun _ _ hS => gameroomref_pointsOf_w hr1 hS )) <| obs_nil
        refine block_n ?_
        refine then_n ?_
        exact ⟨(w64 (sum1 + r1)), hF.weak [0, 3, 4] (by kernel_rfl), hS, hm⟩
    · refine reg [] [] [0, 3, 4, 16] [pl 0 (.slice A1 l1.length c1), pl 3 (.int .i64 sum1), pl 4 (.int .i64 i1), pl 16 (.bool (decide (i1 < (l1.length : Int))))] hF hS Fol (by kernel_rfl) (by kernel_rfl) (by kernel_rfl) ?_ (fun a w hF hS => ?_)
      · exact obs_nil
      refine cond_ev (t := 16) (b := decide (i1 < (l1.length : Int))) hF (by kernel_rfl) (fun hb => ?_) (fun hb => ?_)
      · replace hm := if_t hm hb
        refine wp_skip ?_
        refine then_n ?_
        exact ⟨hF.weak [0, 3, 4] (by kernel_rfl), hS, hm⟩
      · replace hm := if_f hm hb
        refine wp_exit ?_
        refine then_e (then_e (block_e (then_n ?_)))
        rw [← hφ1] at hm
        replace hm := done_b hm
        unfold gameroomref_PegOf_K1 at hm
        try dsimp only at hm
        have hm : ((gameroomref_PegOf_J1 l1) sum1).bind some = some r := hm
        exact ⟨sum1, hF.weak [0, 3] (by kernel_rfl), hS, hm⟩

noncomputable def gameroomlaw_CribPegs_J3 (r2 : (Int × Int)) (r4 : Int) : Option Bool :=
  some ((r2.2 == 0) && (r2.1 == r4))

noncomputable def gameroomlaw_CribPegs_J2 (l1 : List Int) (r2 : (Int × Int)) : Option Bool :=
  (gameroomref_PegOf_m l1).bind fun r4 => if (decide (r4 < 0)) then (some ((r2.2 == 9) && (r2.1 == 0))) else ((gameroomlaw_CribPegs_J3 r2 r4))

noncomputable def gameroomlaw_CribPegs_J1 (l1 : List Int) (r2 : (Int × Int)) (no1 : Int) : Option Bool :=
  if (no1 != 0) then (some ((r2.2 == no1) && (r2.1 == 0))) else ((gameroomlaw_CribPegs_J2 l1 r2))

noncomputable def gameroomlaw_CribPegs_m (l1 : List Int) : Option Bool :=
  (gameroomlaw_ints_m l1).bind fun r1 => (crib_Peg_m r1).bind fun r2 => if ((decide ((1 : Int) ≤ (l1.length : Int))) && (decide ((l1.length : Int) ≤ 13))) then ((gameroomref_CardsMay_m l1).bind fun r3 => (gameroomlaw_CribPegs_J1 l1 r2) r3) else ((gameroomlaw_CribPegs_J1 l1 r2) 11)

set_option maxRecDepth 100000 in
set_option maxHeartbeats 4000000 in
theorem gameroomlaw_CribPegs_w {A1 : Option Addr} {c1 : Nat} {n1 : Nat} {l1 : List Int} {r : Bool} {w0 w : World} {B : Nat} {fs : List HP} (hm : gameroomlaw_CribPegs_m l1 = some r) (hS : Sep w0 B w (fs)) (hr_l1 : RdF w0 B fs A1 (vI l1)) (_hc_l1 : l1.length ≤ c1) (_hn_l1 : n1 = l1.length) :
    Calls Try.prog 11 #[.slice A1 n1 c1] w fun e w' => e = .returned (.bool r) ∧ Sep w0 B w' (fs) := by
  obtain ⟨i3, hi3, hz3, hs3, hb3⟩ := info_parts Info3
  obtain rfl := _hn_l1
  unfold gameroomlaw_CribPegs_m at hm
  replace hm := start_b hm
  refine enter (l := [.slice A1 l1.length c1]) (n := 49) Try.func11 rfl rfl (by simp) (fun a hF => ?_)
  refine reg [] [] [0] [pl 0 (.slice A1 l1.length c1)] hF hS Fol (by kernel_rfl) (by kernel_rfl) (by kernel_rfl) ?_ (fun a w hF hS => ?_)
  · exact obs_nil
  refine seqR ?_
  obtain ⟨r1, hr1, hm⟩ := call_b hm
  obtain ⟨r2, hr2, hm⟩ := call_b hm
  refine at_run 1 [] [] [0, 8] [pl 0 (.slice A1 l1.length c1), pl 8 (.slice A1 l1.length c1)] hF hS (by kernel_rfl) (by kernel_rfl) ?_ (fun a w hF hS => ?_)
  · exact obs_nil
  refine at_call (f := 44) (args := #[.slice A1 l1.length c1]) (d := 9) hF (by kernel_rfl) (by kernel_rfl) Try.func44 (by kernel_rfl) rfl (gameroomlaw_ints_w hr1 hS (fun _ hS => (hr_l1 _ (hS.dropN 0))) _hc_l1 rfl) (fun v a w hR hF => ?_)
  clear hS
  obtain ⟨A2, c2, rfl, hS⟩ := hR
  have hS : Sep w0 B w (own 3 (.slice A2 r1.length c2) (vI r1) :: fs) := hS
  refine at_run 6 [⟨false, [], callFunc 61 #[.slice A2 r1.length c2], .tuple #[.int .i64 r2.1, .int .i64 r2.2]⟩] [some (.tuple #[.int .i64 r2.1, .int .i64 r2.2]), none, none, none, none, none] [0, 3, 4] [pl 0 (.slice A1 l1.length c1), pl 3 (.int .i64 r2.1), pl 4 (.int .i64 r2.2)] hF hS (by kernel_rfl) (by kernel_rfl) ?_ (fun a w hF hS => ?_)
  · exact obs_cons (ob_call Try.func61 (by kernel_rfl) rfl (fun _ _ hS => crib_Peg_w hr2 hS (fun _ hS => (hS.at_ 0 rfl).rd) ((hS.at_ 0 rfl).cap1) rfl)) <| obs_nil
  refine at_end [0, 3, 4] [pl 0 (.slice A1 l1.length c1), pl 3 (.int .i64 r2.1), pl 4 (.int .i64 r2.2)] hF rfl (by kernel_rfl) (fun hF => ?_)
  refine then_n ?_
  refine reg [] [] [0, 3, 4, 5] [pl 0 (.slice A1 l1.length c1), pl 3 (.int .i64 r2.1), pl 4 (.int .i64 r2.2), pl 5 (.int .i64 11)] hF hS Fol (by kernel_rfl) (by kernel_rfl) (by kernel_rfl) ?_ (fun a w hF hS => ?_)
  · exact obs_nil
  refine seq_cut (fun a w => ∃ (no1 : Int), Fr 49 [pl 0 (.slice A1 l1.length c1), pl 3 (.int .i64 r2.1), pl 4 (.int .i64 r2.2), pl 5 (.int .i64 no1)] a ∧ Sep w0 B w (fs) ∧ ((gameroomlaw_CribPegs_J1 l1 r2) no1).bind some = some r) ?_ ?_
  · rintro a w ⟨no1, hF, hS, hm⟩
    unfold gameroomlaw_CribPegs_J1 at hm
    refine seq_cut (fun a w => Fr 49 [pl 0 (.slice A1 l1.length c1), pl 3 (.int .i64 r2.1), pl 4 (.int .i64 r2.2)] a ∧ Sep w0 B w (fs) ∧ ((gameroomlaw_CribPegs_J2 l1 r2)).bind some = some r) ?_ ?_
    · rintro a w ⟨hF, hS, hm⟩
      unfold gameroomlaw_CribPegs_J2 at hm
      obtain ⟨r4, hr4, hm⟩ := call_b hm
      refine reg [⟨false, [], callFunc 62 #[.slice A1 l1.length c1], .int .i64 r4⟩] [none, some (.int .i64 r4), none] [3, 4, 6] [pl 3 (.int .i64 r2.1), pl 4 (.int .i64 r2.2), pl 6 (.int .i64 r4)] hF hS Fol (by kernel_rfl) (by kernel_rfl) (by kernel_rfl) ?_ (fun a w hF hS => ?_)
      · exact obs_cons (ob_call Try.func62 (by kernel_rfl) rfl (fun _ _ hS => gameroomref_PegOf_w hr4 hS (fun _ hS => (hr_l1 _ (hS.dropN 0))) _hc_l1 rfl)) <| obs_nil
      refine seq_cut (fun a w => Fr 49 [pl 3 (.int .i64 r2.1), pl 4 (.int .i64 r2.2), pl 6 (.int .i64 r4)] a ∧ Sep w0 B w (fs) ∧ ((gameroomlaw_CribPegs_J3 r2 r4)).bind some = some r) ?_ ?_
      · rintro a w ⟨hF, hS, hm⟩
        unfold gameroomlaw_CribPegs_J3 at hm
        refine reg [] [] [2] [pl 2 (.bool ((r2.2 == 0) && (r2.1 == r4)))] hF hS Fol (by kernel_rfl) (by kernel_rfl) (by kernel_rfl) ?_ (fun a w hF hS => ?_)
        · exact obs_nil
        refine wp_ret ?_
        have hm : some ((r2.2 == 0) && (r2.1 == r4)) = some r := hm
        obtain rfl := Option.some.inj hm
        exact retV (rs := [.tmp 2]) (vs := [.bool ((r2.2 == 0) && (r2.1 == r4))]) hF rfl (rv_t (by kernel_rfl) <| rv_nil) rfl ⟨rfl, hS⟩
      · refine reg [] [] [3, 4, 6, 35] [pl 3 (.int .i64 r2.1), pl 4 (.int .i64 r2.2), pl 6 (.int .i64 r4), pl 35 (.bool (decide (r4 < 0)))] hF hS Fol (by kernel_rfl) (by kernel_rfl) (by kernel_rfl) ?_ (fun a w hF hS => ?_)
        · exact obs_nil
        refine cond_ev (t := 35) (b := decide (r4 < 0)) hF (by kernel_rfl) (fun hb => ?_) (fun hb => ?_)
        · replace hm := if_t hm hb
          refine reg [] [] [2] [pl 2 (.bool ((r2.2 == 9) && (r2.1 == 0)))] hF hS Fol (by kernel_rfl) (by kernel_rfl) (by kernel_rfl) ?_ (fun a w hF hS => ?_)
          · exact obs_nil
          refine wp_ret ?_
          refine then_r ?_
          have hm : some ((r2.2 == 9) && (r2.1 == 0)) = some r := hm
          obtain rfl := Option.some.inj hm
          exact retV (rs := [.tmp 2]) (vs := [.bool ((r2.2 == 9) && (r2.1 == 0))]) hF rfl (rv_t (by kernel_rfl) <| rv_nil) rfl ⟨rfl, hS⟩
        · replace hm := if_f hm hb
          refine wp_skip ?_
          refine then_n ?_
          exact ⟨hF.weak [3, 4, 6] (by kernel_rfl), hS, hm⟩
    · refine reg [] [] [0, 3, 4, 5, 24] [pl 0 (.slice A1 l1.length c1), pl 3 (.int .i64 r2.1), pl 4 (.int .i64 r2.2), pl 5 (.int .i64 no1), pl 24 (.bool (no1 != 0))] hF hS Fol (by kernel_rfl) (by kernel_rfl) (by kernel_rfl) ?_ (fun a w hF hS => ?_)
      · exact obs_nil
      refine cond_ev (t := 24) (b := (no1 != 0)) hF (by kernel_rfl) (fun hb => ?_) (fun hb => ?_)
      · replace hm := if_t hm hb
        refine reg [] [] [2] [pl 2 (.bool ((r2.2 == no1) && (r2.1 == 0)))] hF hS Fol (by kernel_rfl) (by kernel_rfl) (by kernel_rfl) ?_ (fun a w hF hS => ?_)
        · exact obs_nil
        refine wp_ret ?_
        refine then_r ?_
        have hm : some ((r2.2 == no1) && (r2.1 == 0)) = some r := hm
        obtain rfl := Option.some.inj hm
        exact retV (rs := [.tmp 2]) (vs := [.bool ((r2.2 == no1) && (r2.1 == 0))]) hF rfl (rv_t (by kernel_rfl) <| rv_nil) rfl ⟨rfl, hS⟩
      · replace hm := if_f hm hb
        refine wp_skip ?_
        refine then_n ?_
        exact ⟨hF.weak [0, 3, 4] (by kernel_rfl), hS, hm⟩
  · refine reg [] [] [0, 3, 4, 5, 20] [pl 0 (.slice A1 l1.length c1), pl 3 (.int .i64 r2.1), pl 4 (.int .i64 r2.2), pl 5 (.int .i64 11), pl 20 (.bool ((decide ((1 : Int) ≤ (l1.length : Int))) && (decide ((l1.length : Int) ≤ 13))))] hF hS Fol (by kernel_rfl) (by kernel_rfl) (by kernel_rfl) ?_ (fun a w hF hS => ?_)
    · exact obs_nil
    refine cond_ev (t := 20) (b := (decide ((1 : Int) ≤ (l1.length : Int))) && (decide ((l1.length : Int) ≤ 13))) hF (by kernel_rfl) (fun hb => ?_) (fun hb => ?_)
    · replace hm := if_t hm hb
      obtain ⟨r3, hr3, hm⟩ := call_b hm
      refine reg1 [⟨false, [], callFunc 47 #[.slice A1 l1.length c1], .int .i64 r3⟩] [none, some (.int .i64 r3), none] [0, 3, 4, 5] [pl 0 (.slice A1 l1.length c1), pl 3 (.int .i64 r2.1), pl 4 (.int .i64 r2.2), pl 5 (.int .i64 r3)] hF hS Fol (by kernel_rfl) (by kernel_rfl) (by kernel_rfl) ?_ (fun a w hF hS => ?_)
      · exact obs_cons (ob_call Try.func47 (by kernel_rfl) rfl (fun _ _ hS => gameroomref_CardsMay_w hr3 hS (fun _ hS => (hr_l1 _ (hS.dropN 1))) _hc_l1 rfl)) <| obs_nil
      refine then_n ?_
      have hS := hS.pickN 1 [] (by decide)
      exact ⟨r3, hF.weak [0, 3, 4, 5] (by kernel_rfl), hS, hm⟩
    · replace hm := if_f hm hb
      refine wp_skip ?_
      refine then_n ?_
      have hS := hS.pickN 1 [] (by decide)
      exact ⟨11, hF.weak [0, 3, 4, 5] (by kernel_rfl), hS, hm⟩

end Go.Proofs.Ytgafnmnacolgbaa
