/-
  Models and walks, printed by our own program (wip/gen).
-/
import Derived.Test.YtlkdblflibgfpaaFB
import Derived.Test.YtlkdblflibgfpaaLibAN
import Derived.Test.YtlkdblflibgfpaaSI
namespace Go.Proofs.Ytlkdblflibgfpaa
open Go Go.GL Go.RowKit




noncomputable def gameroomlaw_ints_m (l1 : List Int) : Option (List Int) :=
  asrt ((0 : Int) + (l1.length : Int) ≤ bigN) <| some ([] ++ l1)

set_option maxRecDepth 100000 in
set_option maxHeartbeats 4000000 in
theorem gameroomlaw_ints_w {A1 : Option Addr} {c1 : Nat} {n1 : Nat} {l1 : List Int} {r : (List Int)} {w0 w : World} {B : Nat} {fs : List HP} (hm : gameroomlaw_ints_m l1 = some r) (hS : Sep w0 B w (fs)) (hr_l1 : RdF w0 B fs A1 (vI l1)) (_hc_l1 : l1.length ≤ c1) (_hn_l1 : n1 = l1.length) :
    Calls Try.prog 16 #[.slice A1 n1 c1] w fun e w' => ∃ v, e = .returned v ∧ ∃ (A3 : Option Addr) (c3 : Nat), v = .slice A3 r.length c3 ∧ Sep w0 B w' (own 3 (.slice A3 r.length c3) (vI r) :: fs) := by
  obtain ⟨i3, hi3, hz3, hs3, hb3⟩ := info_parts Info3
  obtain rfl := _hn_l1
  unfold gameroomlaw_ints_m at hm
  replace hm := start_b hm
  refine enter (l := [.slice A1 l1.length c1]) (n := 5) Try.func16 rfl rfl (by simp) (fun a hF => ?_)
  refine reg [] [] [0] [pl 0 (.slice A1 l1.length c1)] hF hS Fol (by kernel_rfl) (by kernel_rfl) (by kernel_rfl) ?_ (fun a w hF hS => ?_)
  · exact obs_nil
  refine seqR ?_
  obtain ⟨hp1, hm⟩ := asrt_b hm
  refine at_run 1 [] [] [3] [pl 3 (.slice A1 l1.length c1)] hF hS (by kernel_rfl) (by kernel_rfl) ?_ (fun a w hF hS => ?_)
  · exact obs_nil
  have hS : Sep w0 B w (own 3 (.slice none 0 0) (vI ([] : List Int)) :: fs) := hS.nil 3
  obtain ⟨A2, c2, w, hrun, hS⟩ := run_app1 (P := Try.prog) (t := 22) (m := ([] : List Int)) (ys := l1) (A2 := A1) (m2 := l1.length) (c2 := c1) (Value.int .i64) (0 : Int) (hS.at_ 0 rfl) (hr_l1 _ (hS.dropN 1)) rfl 22 Und22 hi3 hz3 hs3 (by omega) rfl (fun _ => rfl) hp1
  have hS : Sep w0 B w (own 3 (.slice A2 (([] ++ l1).length) c2) (vI ([] ++ l1)) :: fs) := hS
  refine at_do (d := 4) hF (by kernel_rfl) (by kernel_rfl) hrun (fun a hF => ?_)
  refine at_run 1 [] [] [2] [pl 2 (.slice A2 (([] ++ l1).length) c2)] hF hS (by kernel_rfl) (by kernel_rfl) ?_ (fun a w hF hS => ?_)
  · exact obs_nil
  refine at_end [2] [pl 2 (.slice A2 (([] ++ l1).length) c2)] hF rfl (by kernel_rfl) (fun hF => ?_)
  refine then_n ?_
  refine wp_ret ?_
  have hm : some ([] ++ l1) = some r := hm
  obtain rfl := Option.some.inj hm
  exact retV (rs := [.tmp 2]) (vs := [.slice A2 (([] ++ l1).length) c2]) hF rfl (rv_t (by kernel_rfl) <| rv_nil) rfl ⟨_, rfl, A2, c2, rfl, hS⟩

noncomputable def crib_check_1_m (c1 : Int) : Option Bool :=
  some ((decide (c1 < 0)) || (decide ((52 : Int) ≤ c1)))

set_option maxRecDepth 100000 in
set_option maxHeartbeats 4000000 in
theorem crib_check_1_w {c1 : Int} {r : Bool} {w0 w : World} {B : Nat} {fs : List HP} (hm : crib_check_1_m c1 = some r) (hS : Sep w0 B w (fs)) :
    Calls Try.prog 183 #[.int .i64 c1] w fun e w' => e = .returned (.bool r) ∧ Sep w0 B w' (fs) := by
  unfold crib_check_1_m at hm
  replace hm := start_b hm
  refine enter (l := [.int .i64 c1]) (n := 9) Try.func183 rfl rfl (by simp) (fun a hF => ?_)
  refine reg [] [] [0] [pl 0 (.int .i64 c1)] hF hS Fol (by kernel_rfl) (by kernel_rfl) (by kernel_rfl) ?_ (fun a w hF hS => ?_)
  · exact obs_nil
  refine reg [] [] [2] [pl 2 (.bool ((decide (c1 < 0)) || (decide ((52 : Int) ≤ c1))))] hF hS Fol (by kernel_rfl) (by kernel_rfl) (by kernel_rfl) ?_ (fun a w hF hS => ?_)
  · exact obs_nil
  refine wp_ret ?_
  have hm : some ((decide (c1 < 0)) || (decide ((52 : Int) ≤ c1))) = some r := hm
  obtain rfl := Option.some.inj hm
  exact retV (rs := [.tmp 2]) (vs := [.bool ((decide (c1 < 0)) || (decide ((52 : Int) ≤ c1)))]) hF rfl (rv_t (by kernel_rfl) <| rv_nil) rfl ⟨rfl, hS⟩

noncomputable def slices_IndexFunc_J3 (z1 : Int) : Option (St Int (Fl Unit Int)) :=
  some (.next (w64 (z1 + 1)))

noncomputable def slices_IndexFunc_J2 (s1 : List Int) (z1 : Int) : Option (St Int (Fl Unit Int)) :=
  asrt (0 ≤ z1 ∧ z1 < (s1.length : Int)) <| (crib_check_1_m (geti s1 z1)).bind fun r1 => if r1 then (some (.done (.ret z1))) else ((slices_IndexFunc_J3 z1))

noncomputable def slices_IndexFunc_J1 : Option Int :=
  some (-1)

noncomputable def slices_IndexFunc_K1 : (Fl Unit Int) → Option Int :=
  fun (x : (Fl Unit Int)) => match x with | .go _ => slices_IndexFunc_J1 | .ret x => some x

noncomputable def slices_IndexFunc_L1 (s1 : List Int) : Int → Option (St Int (Fl Unit Int)) :=
  fun (x : Int) => match x with | z1 => if (decide (z1 < (s1.length : Int))) then ((slices_IndexFunc_J2 s1 z1)) else (some (.done (.go ())))

noncomputable def slices_IndexFunc_m (s1 : List Int) : Option Int :=
  (loop (slices_IndexFunc_L1 s1) 0).bind slices_IndexFunc_K1

set_option maxRecDepth 100000 in
set_option maxHeartbeats 4000000 in
theorem slices_IndexFunc_w {A1 : Option Addr} {c1 : Nat} {n1 : Nat} {s1 : List Int} {r : Int} {w0 w : World} {B : Nat} {fs : List HP} (hm : slices_IndexFunc_m s1 = some r) (hS : Sep w0 B w (fs)) (hr_s1 : RdF w0 B fs A1 (vI s1)) (_hc_s1 : s1.length ≤ c1) (_hn_s1 : n1 = s1.length) :
    Calls Try.prog 167 #[.slice A1 n1 c1, .func (.func 183) #[] #[]] w fun e w' => e = .returned (.int .i64 r) ∧ Sep w0 B w' (fs) := by
  obtain ⟨i3, hi3, hz3, hs3, hb3⟩ := info_parts Info3
  obtain rfl := _hn_s1
  unfold slices_IndexFunc_m at hm
  replace hm := start_b hm
  refine enter (l := [.slice A1 s1.length c1, .func (.func 183) #[] #[]]) (n := 19) Try.func167 rfl rfl (by simp) (fun a hF => ?_)
  refine reg [] [] [0, 1] [pl 0 (.slice A1 s1.length c1), pl 1 (.func (.func 183) #[] #[])] hF hS Fol (by kernel_rfl) (by kernel_rfl) (by kernel_rfl) ?_ (fun a w hF hS => ?_)
  · exact obs_nil
  refine seq_cut (fun a w => Fr 19 [] a ∧ Sep w0 B w (fs) ∧ (slices_IndexFunc_J1).bind some = some r) ?_ ?_
  · rintro a w ⟨hF, hS, hm⟩
    unfold slices_IndexFunc_J1 at hm
    refine reg [] [] [4] [pl 4 (.int .i64 (-1))] hF hS Fol (by kernel_rfl) (by kernel_rfl) (by kernel_rfl) ?_ (fun a w hF hS => ?_)
    · exact obs_nil
    refine wp_ret ?_
    have hm : some (-1) = some r := hm
    obtain rfl := Option.some.inj hm
    exact retV (rs := [.tmp 4]) (vs := [.int .i64 (-1)]) hF rfl (rv_t (by kernel_rfl) <| rv_nil) rfl ⟨rfl, hS⟩
  · refine reg [] [] [0, 1, 7, 8] [pl 0 (.slice A1 s1.length c1), pl 1 (.func (.func 183) #[] #[]), pl 7 (.int .i64 (s1.length : Int)), pl 8 (.int .i64 0)] hF hS Fol (by kernel_rfl) (by kernel_rfl) (by kernel_rfl) ?_ (fun a w hF hS => ?_)
    · exact obs_nil
    refine wp_block ?_
    refine wp_loop_model (S := Int) (R := (Fl Unit Int)) (slices_IndexFunc_L1 s1) (fun x => (slices_IndexFunc_K1 x).bind some) r (fun (x : Int) a w => Fr 19 [pl 0 (.slice A1 s1.length c1), pl 1 (.func (.func 183) #[] #[]), pl 7 (.int .i64 (s1.length : Int)), pl 8 (.int .i64 x)] a ∧ Sep w0 B w (fs)) (assoc_b hm) ⟨hF.weak [0, 1, 7, 8] (by kernel_rfl), hS⟩ ?_
    clear hF hS hm
    rintro nn1 z1 a w ⟨hF, hS⟩ hm
    generalize hφ1 : stK (slices_IndexFunc_L1 s1) nn1 (fun x => (slices_IndexFunc_K1 x).bind some) = φ1 at hm
    unfold slices_IndexFunc_L1 at hm
    dsimp only at hm
    refine reg [] [] [0, 1, 7, 8, 9] [pl 0 (.slice A1 s1.length c1), pl 1 (.func (.func 183) #[] #[]), pl 7 (.int .i64 (s1.length : Int)), pl 8 (.int .i64 z1), pl 9 (.bool (decide (z1 < (s1.length : Int))))] hF hS Fol (by kernel_rfl) (by kernel_rfl) (by kernel_rfl) ?_ (fun a w hF hS => ?_)
    · exact obs_nil
    refine seq_cut (fun a w => Fr 19 [pl 0 (.slice A1 s1.length c1), pl 1 (.func (.func 183) #[] #[]), pl 7 (.int .i64 (s1.length : Int)), pl 8 (.int .i64 z1)] a ∧ Sep w0 B w (fs) ∧ ((slices_IndexFunc_J2 s1 z1)).bind φ1 = some r) ?_ ?_
    · rintro a w ⟨hF, hS, hm⟩
      unfold slices_IndexFunc_J2 at hm
      refine seq_cut (fun a w => Fr 19 [pl 0 (.slice A1 s1.length c1), pl 1 (.func (.func 183) #[] #[]), pl 7 (.int .i64 (s1.length : Int)), pl 8 (.int .i64 z1)] a ∧ Sep w0 B w (fs) ∧ ((slices_IndexFunc_J3 z1)).bind φ1 = some r) ?_ ?_
      · rintro a w ⟨hF, hS, hm⟩
        unfold slices_IndexFunc_J3 at hm
        refine reg1 [] [] [0, 1, 7, 8] [pl 0 (.slice A1 s1.length c1), pl 1 (.func (.func 183) #[] #[]), pl 7 (.int .i64 (s1.length : Int)), pl 8 (.int .i64 (w64 (z1 + 1)))] hF hS Fol (by kernel_rfl) (by kernel_rfl) (by kernel_rfl) ?_ (fun a w hF hS => ?_)
        · exact obs_nil
        refine then_n ?_
        rw [← hφ1] at hm
        exact ⟨(w64 (z1 + 1)), ⟨hF.weak [0, 1, 7, 8] (by kernel_rfl), hS⟩, hm⟩
      · refine wp_block ?_
        refine reg [] [] [0, 1, 5, 7, 8] [pl 0 (.slice A1 s1.length c1), pl 1 (.func (.func 183) #[] #[]), pl 5 (.int .i64 z1), pl 7 (.int .i64 (s1.length : Int)), pl 8 (.int .i64 z1)] hF hS Fol (by kernel_rfl) (by kernel_rfl) (by kernel_rfl) ?_ (fun a w hF hS => ?_)
        · exact obs_nil
        obtain ⟨hp1, hm⟩ := asrt_b hm
        obtain ⟨r1, hr1, hm⟩ := call_b hm
        refine reg [⟨true, [], vS (Instr.indexAt 22 (.slice A1 s1.length c1) (.int .i64 z1)), .pointer (some (sAddr A1 z1))⟩, ⟨false, [], vS (Instr.loadAt 3 (.pointer (some (sAddr A1 z1)))), .int .i64 (geti s1 z1)⟩, ⟨false, [], callFunc 183 #[.int .i64 (geti s1 z1)], .bool r1⟩] [none, none, none, some (.pointer (some (sAddr A1 z1))), some (.int .i64 (geti s1 z1)), some (.bool r1)] [0, 1, 5, 7, 8, 16] [pl 0 (.slice A1 s1.length c1), pl 1 (.func (.func 183) #[] #[]), pl 5 (.int .i64 z1), pl 7 (.int .i64 (s1.length : Int)), pl 8 (.int .i64 z1), pl 16 (.bool r1)] hF hS Fol (by kernel_rfl) (by kernel_rfl) (by kernel_rfl) ?_ (fun a w hF hS => ?_)
        · exact obs_cons (ob_ix1 (f := (Value.int .i64)) (m := s1) Und22 hi3 hs3 (hr_s1 _ (hS.dropN 0)) rfl (fun _ => hp1)) <| obs_cons (ob_get1 (n := s1.length) (m := s1) (Value.int .i64) (0 : Int) Agg3 (fun _ hS => ⟨_, (hr_s1 _ (hS.dropN 0))⟩) (fun _ hS => rfl) (fun _ => hp1)) <| obs_cons (ob_call Try.func183 (by kernel_rfl) rfl (fun _ _ hS => crib_check_1_w hr1 hS )) <| obs_nil
        refine cond_ev (t := 16) (b := r1) hF (by kernel_rfl) (fun hb => ?_) (fun hb => ?_)
        · replace hm := if_t hm hb
          refine reg [] [] [4] [pl 4 (.int .i64 z1)] hF hS Fol (by kernel_rfl) (by kernel_rfl) (by kernel_rfl) ?_ (fun a w hF hS => ?_)
          · exact obs_nil
          refine wp_ret ?_
          refine block_r (then_r (then_r (block_r (then_r ?_))))
          rw [← hφ1] at hm
          replace hm := done_b hm
          unfold slices_IndexFunc_K1 at hm
          try dsimp only at hm
          have hm : some z1 = some r := hm
          obtain rfl := Option.some.inj hm
          exact retV (rs := [.tmp 4]) (vs := [.int .i64 z1]) hF rfl (rv_t (by kernel_rfl) <| rv_nil) rfl ⟨rfl, hS⟩
        · replace hm := if_f hm hb
          refine wp_skip ?_
          refine block_n ?_
          refine then_n ?_
          exact ⟨hF.weak [0, 1, 7, 8] (by kernel_rfl), hS, hm⟩
    · refine cond_ev (t := 9) (b := decide (z1 < (s1.length : Int))) hF (by kernel_rfl) (fun hb => ?_) (fun hb => ?_)
      · replace hm := if_t hm hb
        refine wp_skip ?_
        refine then_n ?_
        exact ⟨hF.weak [0, 1, 7, 8] (by kernel_rfl), hS, hm⟩
      · replace hm := if_f hm hb
        refine wp_exit ?_
        refine then_e (then_e (block_e (then_n ?_)))
        rw [← hφ1] at hm
        replace hm := done_b hm
        unfold slices_IndexFunc_K1 at hm
        try dsimp only at hm
        have hm : (slices_IndexFunc_J1).bind some = some r := hm
        exact ⟨hF.weak [] (by kernel_rfl), hS, hm⟩

noncomputable def slices_ContainsFunc_m (s1 : List Int) : Option Bool :=
  (slices_IndexFunc_m s1).bind fun r1 => some (decide ((0 : Int) ≤ r1))

set_option maxRecDepth 100000 in
set_option maxHeartbeats 4000000 in
theorem slices_ContainsFunc_w {A1 : Option Addr} {c1 : Nat} {n1 : Nat} {s1 : List Int} {r : Bool} {w0 w : World} {B : Nat} {fs : List HP} (hm : slices_ContainsFunc_m s1 = some r) (hS : Sep w0 B w (fs)) (hr_s1 : RdF w0 B fs A1 (vI s1)) (_hc_s1 : s1.length ≤ c1) (_hn_s1 : n1 = s1.length) :
    Calls Try.prog 91 #[.slice A1 n1 c1, .func (.func 183) #[] #[]] w fun e w' => e = .returned (.bool r) ∧ Sep w0 B w' (fs) := by
  obtain ⟨i3, hi3, hz3, hs3, hb3⟩ := info_parts Info3
  obtain rfl := _hn_s1
  unfold slices_ContainsFunc_m at hm
  replace hm := start_b hm
  refine enter (l := [.slice A1 s1.length c1, .func (.func 183) #[] #[]]) (n := 9) Try.func91 rfl rfl (by simp) (fun a hF => ?_)
  refine reg [] [] [0, 1] [pl 0 (.slice A1 s1.length c1), pl 1 (.func (.func 183) #[] #[])] hF hS Fol (by kernel_rfl) (by kernel_rfl) (by kernel_rfl) ?_ (fun a w hF hS => ?_)
  · exact obs_nil
  obtain ⟨r1, hr1, hm⟩ := call_b hm
  refine reg [⟨false, [], callFunc 167 #[.slice A1 s1.length c1, .func (.func 183) #[] #[]], .int .i64 r1⟩] [none, none, some (.int .i64 r1), none, none] [4] [pl 4 (.bool (decide ((0 : Int) ≤ r1)))] hF hS Fol (by kernel_rfl) (by kernel_rfl) (by kernel_rfl) ?_ (fun a w hF hS => ?_)
  · exact obs_cons (ob_call Try.func167 (by kernel_rfl) rfl (fun _ _ hS => slices_IndexFunc_w hr1 hS (fun _ hS => (hr_s1 _ (hS.dropN 0))) _hc_s1 rfl)) <| obs_nil
  refine wp_ret ?_
  have hm : some (decide ((0 : Int) ≤ r1)) = some r := hm
  obtain rfl := Option.some.inj hm
  exact retV (rs := [.tmp 4]) (vs := [.bool (decide ((0 : Int) ≤ r1))]) hF rfl (rv_t (by kernel_rfl) <| rv_nil) rfl ⟨rfl, hS⟩

noncomputable def slices_Values_m (s1 : List Int) : Option Unit :=
  some ()

set_option maxRecDepth 100000 in
set_option maxHeartbeats 4000000 in
theorem slices_Values_w {A1 : Option Addr} {c1 : Nat} {n1 : Nat} {s1 : List Int} {r : Unit} {w0 w : World} {B : Nat} {fs : List HP} (hm : slices_Values_m s1 = some r) (hS : Sep w0 B w (fs)) (hr_s1 : RdF w0 B fs A1 (vI s1)) (_hc_s1 : s1.length ≤ c1) (_hn_s1 : n1 = s1.length) :
    Calls Try.prog 109 #[.slice A1 n1 c1] w fun e w' => ∃ v, e = .returned v ∧ ∃ (g2 : Nat), v = .func (.func 175) #[] #[.pointer (some ⟨g2, 0, none⟩)] ∧ Sep w0 B w' (blk g2 22 #[.slice A1 n1 c1] :: fs) := by
  obtain ⟨i3, hi3, hz3, hs3, hb3⟩ := info_parts Info3
  obtain rfl := _hn_s1
  unfold slices_Values_m at hm
  replace hm := start_b hm
  refine enter (l := [.slice A1 s1.length c1]) (n := 4) Try.func109 rfl rfl (by simp) (fun a hF => ?_)
  refine seqR ?_
  refine at_do (d := 1) (s := vS (Instr.box 22 (.slice A1 s1.length c1))) (v := .pointer (some ⟨w.heap.size, 0, none⟩)) (w' := w.alloc (.cells #[.slice A1 s1.length c1] 22)) hF (by kernel_rfl) (by kernel_rfl) (by kernel_rfl) (fun a hF => ?_)
  have hS : Sep w0 B (w.alloc (.cells #[.slice A1 s1.length c1] 22)) (blk w.heap.size 22 #[.slice A1 s1.length c1] :: (fs)) := hS.box 22 #[.slice A1 s1.length c1]
  generalize w.heap.size = g1 at hF hS
  generalize w.alloc (.cells #[.slice A1 s1.length c1] 22) = w at hS ⊢
  refine at_run 1 [] [] [1] [pl 1 (.pointer (some ⟨g1, 0, none⟩))] hF hS (by kernel_rfl) (by kernel_rfl) ?_ (fun a w hF hS => ?_)
  · exact obs_nil
  refine at_end [1] [pl 1 (.pointer (some ⟨g1, 0, none⟩))] hF rfl (by kernel_rfl) (fun hF => ?_)
  refine then_n ?_
  refine reg [] [] [2] [pl 2 (.func (.func 175) #[] #[.pointer (some ⟨g1, 0, none⟩)])] hF hS Fol (by kernel_rfl) (by kernel_rfl) (by kernel_rfl) ?_ (fun a w hF hS => ?_)
  · exact obs_nil
  refine wp_ret ?_
  have hm : some () = some r := hm
  obtain rfl := Option.some.inj hm
  exact retV (rs := [.tmp 2]) (vs := [.func (.func 175) #[] #[.pointer (some ⟨g1, 0, none⟩)]]) hF rfl (rv_t (by kernel_rfl) <| rv_nil) rfl ⟨_, rfl, g1, rfl, hS⟩

noncomputable def slices_Sorted_m (v1 : List Int) : Option (List Int) :=
  asrt ((v1.length : Int) + 512 ≤ bigN) <| some (sortI v1)

theorem slices_Sorted_w {g1 : Nat} {A1 : Option Addr} {c1 : Nat} {n1 : Nat} {v1 : List Int} {r : (List Int)} {w0 w : World} {B : Nat} {fs : List HP} (hm : slices_Sorted_m v1 = some r) (hS : Sep w0 B w (blk g1 22 #[.slice A1 n1 c1] :: fs)) (hr_v1 : RdF w0 B fs A1 (vI v1)) (_hc_v1 : v1.length ≤ c1) (_hn_v1 : n1 = v1.length) :
    Calls Try.prog 108 #[.func (.func 175) #[] #[.pointer (some ⟨g1, 0, none⟩)]] w fun e w' => ∃ v, e = .returned v ∧ ∃ (A2 : Option Addr) (c2 : Nat), v = .slice A2 r.length c2 ∧ Sep w0 B w' (blk g1 22 #[.slice A1 n1 c1] :: own 3 (.slice A2 r.length c2) (vI r) :: fs) := by
  unfold slices_Sorted_m at hm
  obtain ⟨hb, hm⟩ := asrt_b (start_b hm)
  obtain rfl := Option.some.inj hm
  exact sorted_own hS hr_v1 _hn_v1 hb

noncomputable def slices_Compact_2_m (s1 : List Int) : Option (List Int) :=
  asrt ((s1.length : Int) ≤ bigN) <| some (compI s1)

theorem slices_Compact_2_w {A1 : Option Addr} {c1 : Nat} {n1 : Nat} {s1 : List Int} {r : (List Int)} {w0 w : World} {B : Nat} {fs : List HP} (hm : slices_Compact_2_m s1 = some r) (hS : Sep w0 B w (own 3 (.slice A1 n1 c1) (vI s1) :: fs)) :
    Calls Try.prog 165 #[.slice A1 n1 c1] w fun e w' => ∃ v, e = .returned v ∧ ∃ (A2 : Option Addr) (c2 : Nat), v = .slice A2 r.length c2 ∧ Sep w0 B w' (own 3 (.slice A2 r.length c2) (vI r) :: fs) := by
  unfold slices_Compact_2_m at hm
  obtain ⟨hb, hm⟩ := asrt_b (start_b hm)
  obtain rfl := Option.some.inj hm
  exact compact_own CompactL hS hb

noncomputable def crib_check_J2 : Option Int :=
  some 0

noncomputable def crib_check_J1 (l1 : List Int) : Option Int :=
  (slices_Values_m l1).bind fun r2 => (slices_Sorted_m l1).bind fun r3 => (slices_Compact_2_m r3).bind fun r4 => if (decide ((r4.length : Int) < (l1.length : Int))) then (some 6) else (crib_check_J2)

noncomputable def crib_check_m (l1 : List Int) : Option Int :=
  (slices_ContainsFunc_m l1).bind fun r1 => if r1 then (some 3) else ((crib_check_J1 l1))

set_option maxRecDepth 100000 in
set_option maxHeartbeats 4000000 in
theorem crib_check_w {A1 : Option Addr} {c1 : Nat} {n1 : Nat} {l1 : List Int} {r : Int} {w0 w : World} {B : Nat} {fs : List HP} (hm : crib_check_m l1 = some r) (hS : Sep w0 B w (fs)) (hr_l1 : RdF w0 B fs A1 (vI l1)) (_hc_l1 : l1.length ≤ c1) (_hn_l1 : n1 = l1.length) :
    Calls Try.prog 127 #[.slice A1 n1 c1] w fun e w' => e = .returned (.int .i64 r) ∧ Sep w0 B w' (fs) := by
  obtain ⟨i3, hi3, hz3, hs3, hb3⟩ := info_parts Info3
  obtain rfl := _hn_l1
  unfold crib_check_m at hm
  replace hm := start_b hm
  refine enter (l := [.slice A1 l1.length c1]) (n := 15) Try.func127 rfl rfl (by simp) (fun a hF => ?_)
  refine reg [] [] [0] [pl 0 (.slice A1 l1.length c1)] hF hS Fol (by kernel_rfl) (by kernel_rfl) (by kernel_rfl) ?_ (fun a w hF hS => ?_)
  · exact obs_nil
  refine seq_cut (fun a w => Fr 15 [pl 0 (.slice A1 l1.length c1)] a ∧ Sep w0 B w (fs) ∧ ((crib_check_J1 l1)).bind some = some r) ?_ ?_
  · rintro a w ⟨hF, hS, hm⟩
    unfold crib_check_J1 at hm
    refine seqR ?_
    obtain ⟨r2, hr2, hm⟩ := call_b hm
    obtain ⟨r3, hr3, hm⟩ := call_b hm
    refine at_run 1 [] [] [0, 6] [pl 0 (.slice A1 l1.length c1), pl 6 (.slice A1 l1.length c1)] hF hS (by kernel_rfl) (by kernel_rfl) ?_ (fun a w hF hS => ?_)
    · exact obs_nil
    refine at_call (f := 109) (args := #[.slice A1 l1.length c1]) (d := 7) hF (by kernel_rfl) (by kernel_rfl) Try.func109 (by kernel_rfl) rfl (slices_Values_w hr2 hS (fun _ hS => (hr_l1 _ (hS.dropN 0))) _hc_l1 rfl) (fun v a w hR hF => ?_)
    clear hS
    obtain ⟨g1, rfl, hS⟩ := hR
    have hS : Sep w0 B w (blk g1 22 #[.slice A1 l1.length c1] :: fs) := hS
    refine at_call (f := 108) (args := #[.func (.func 175) #[] #[.pointer (some ⟨g1, 0, none⟩)]]) (d := 8) hF (by kernel_rfl) (by kernel_rfl) Try.func108 (by kernel_rfl) rfl (slices_Sorted_w hr3 hS (fun _ hS => (hr_l1 _ (hS.dropN 0))) _hc_l1 rfl) (fun v a w hR hF => ?_)
    clear hS
    obtain ⟨A2, c2, rfl, hS⟩ := hR
    have hS : Sep w0 B w (blk g1 22 #[.slice A1 l1.length c1] :: own 3 (.slice A2 r3.length c2) (vI r3) :: fs) := hS
    refine at_run 1 [] [] [0, 3] [pl 0 (.slice A1 l1.length c1), pl 3 (.slice A2 r3.length c2)] hF hS (by kernel_rfl) (by kernel_rfl) ?_ (fun a w hF hS => ?_)
    · exact obs_nil
    refine at_end [0, 3] [pl 0 (.slice A1 l1.length c1), pl 3 (.slice A2 r3.length c2)] hF rfl (by kernel_rfl) (fun hF => ?_)
    refine then_n ?_
    refine seq_cut (fun a w => Fr 15 [] a ∧ Sep w0 B w (fs) ∧ (crib_check_J2).bind some = some r) ?_ ?_
    · rintro a w ⟨hF, hS, hm⟩
      unfold crib_check_J2 at hm
      refine reg [] [] [2] [pl 2 (.int .i64 0)] hF hS Fol (by kernel_rfl) (by kernel_rfl) (by kernel_rfl) ?_ (fun a w hF hS => ?_)
      · exact obs_nil
      refine wp_ret ?_
      have hm : some 0 = some r := hm
      obtain rfl := Option.some.inj hm
      exact retV (rs := [.tmp 2]) (vs := [.int .i64 0]) hF rfl (rv_t (by kernel_rfl) <| rv_nil) rfl ⟨rfl, hS⟩
    · refine seqR ?_
      obtain ⟨r4, hr4, hm⟩ := call_b hm
      refine at_run 1 [] [] [0, 9] [pl 0 (.slice A1 l1.length c1), pl 9 (.slice A2 r3.length c2)] hF hS (by kernel_rfl) (by kernel_rfl) ?_ (fun a w hF hS => ?_)
      · exact obs_nil
      have hS : Sep w0 B w (own 3 (.slice A2 r3.length c2) (vI r3) :: blk g1 22 #[.slice A1 l1.length c1] :: fs) := hS.pickN 2 [1, 0] (by decide)
      refine at_call (f := 165) (args := #[.slice A2 r3.length c2]) (d := 10) hF (by kernel_rfl) (by kernel_rfl) Try.func165 (by kernel_rfl) rfl (slices_Compact_2_w hr4 hS ) (fun v a w hR hF => ?_)
      clear hS
      obtain ⟨A3, c3, rfl, hS⟩ := hR
      have hS : Sep w0 B w (own 3 (.slice A3 r4.length c3) (vI r4) :: blk g1 22 #[.slice A1 l1.length c1] :: fs) := hS
      refine at_run 4 [] [] [14] [pl 14 (.bool (decide ((r4.length : Int) < (l1.length : Int))))] hF hS (by kernel_rfl) (by kernel_rfl) ?_ (fun a w hF hS => ?_)
      · exact obs_nil
      refine at_end [14] [pl 14 (.bool (decide ((r4.length : Int) < (l1.length : Int))))] hF rfl (by kernel_rfl) (fun hF => ?_)
      refine then_n ?_
      refine cond_ev (t := 14) (b := decide ((r4.length : Int) < (l1.length : Int))) hF (by kernel_rfl) (fun hb => ?_) (fun hb => ?_)
      · replace hm := if_t hm hb
        refine reg [] [] [2] [pl 2 (.int .i64 6)] hF hS Fol (by kernel_rfl) (by kernel_rfl) (by kernel_rfl) ?_ (fun a w hF hS => ?_)
        · exact obs_nil
        refine wp_ret ?_
        refine then_r ?_
        have hS := hS.pickN 2 [] (by decide)
        have hm : some 6 = some r := hm
        obtain rfl := Option.some.inj hm
        exact retV (rs := [.tmp 2]) (vs := [.int .i64 6]) hF rfl (rv_t (by kernel_rfl) <| rv_nil) rfl ⟨rfl, hS⟩
      · replace hm := if_f hm hb
        refine wp_skip ?_
        refine then_n ?_
        have hS := hS.pickN 2 [] (by decide)
        exact ⟨hF.weak [] (by kernel_rfl), hS, hm⟩
  · obtain ⟨r1, hr1, hm⟩ := call_b hm
    refine reg [⟨false, [], callFunc 91 #[.slice A1 l1.length c1, .func (.func 183) #[] #[]], .bool r1⟩] [none, some (.bool r1)] [0, 5] [pl 0 (.slice A1 l1.length c1), pl 5 (.bool r1)] hF hS Fol (by kernel_rfl) (by kernel_rfl) (by kernel_rfl) ?_ (fun a w hF hS => ?_)
    · exact obs_cons (ob_call Try.func91 (by kernel_rfl) rfl (fun _ _ hS => slices_ContainsFunc_w hr1 hS (fun _ hS => (hr_l1 _ (hS.dropN 0))) _hc_l1 rfl)) <| obs_nil
    refine cond_ev (t := 5) (b := r1) hF (by kernel_rfl) (fun hb => ?_) (fun hb => ?_)
    · replace hm := if_t hm hb
      refine reg [] [] [2] [pl 2 (.int .i64 3)] hF hS Fol (by kernel_rfl) (by kernel_rfl) (by kernel_rfl) ?_ (fun a w hF hS => ?_)
      · exact obs_nil
      refine wp_ret ?_
      refine then_r ?_
      have hm : some 3 = some r := hm
      obtain rfl := Option.some.inj hm
      exact retV (rs := [.tmp 2]) (vs := [.int .i64 3]) hF rfl (rv_t (by kernel_rfl) <| rv_nil) rfl ⟨rfl, hS⟩
    · replace hm := if_f hm hb
      refine wp_skip ?_
      refine then_n ?_
      exact ⟨hF.weak [0] (by kernel_rfl), hS, hm⟩

noncomputable def slices_Index_J3 (z1 : Int) : Option (St Int (Fl Unit Int)) :=
  some (.next (w64 (z1 + 1)))

noncomputable def slices_Index_J2 (s1 : List Int) (v1 : Int) (z1 : Int) : Option (St Int (Fl Unit Int)) :=
  asrt (0 ≤ z1 ∧ z1 < (s1.length : Int)) <| if (v1 == (geti s1 z1)) then (some (.done (.ret z1))) else ((slices_Index_J3 z1))

noncomputable def slices_Index_J1 : Option Int :=
  some (-1)

noncomputable def slices_Index_K1 : (Fl Unit Int) → Option Int :=
  fun (x : (Fl Unit Int)) => match x with | .go _ => slices_Index_J1 | .ret x => some x

noncomputable def slices_Index_L1 (s1 : List Int) (v1 : Int) : Int → Option (St Int (Fl Unit Int)) :=
  fun (x : Int) => match x with | z1 => if (decide (z1 < (s1.length : Int))) then ((slices_Index_J2 s1 v1 z1)) else (some (.done (.go ())))

noncomputable def slices_Index_m (s1 : List Int) (v1 : Int) : Option Int :=
  (loop (slices_Index_L1 s1 v1) 0).bind slices_Index_K1

set_option maxRecDepth 100000 in
set_option maxHeartbeats 4000000 in
theorem slices_Index_w {A1 : Option Addr} {c1 : Nat} {n1 : Nat} {s1 : List Int} {v1 : Int} {r : Int} {w0 w : World} {B : Nat} {fs : List HP} (hm : slices_Index_m s1 v1 = some r) (hS : Sep w0 B w (fs)) (hr_s1 : RdF w0 B fs A1 (vI s1)) (_hc_s1 : s1.length ≤ c1) (_hn_s1 : n1 = s1.length) :
    Calls Try.prog 85 #[.slice A1 n1 c1, .int .i64 v1] w fun e w' => e = .returned (.int .i64 r) ∧ Sep w0 B w' (fs) := by
  obtain ⟨i3, hi3, hz3, hs3, hb3⟩ := info_parts Info3
  obtain rfl := _hn_s1
  unfold slices_Index_m at hm
  replace hm := start_b hm
  refine enter (l := [.slice A1 s1.length c1, .int .i64 v1]) (n := 19) Try.func85 rfl rfl (by simp) (fun a hF => ?_)
  refine reg [] [] [0, 1] [pl 0 (.slice A1 s1.length c1), pl 1 (.int .i64 v1)] hF hS Fol (by kernel_rfl) (by kernel_rfl) (by kernel_rfl) ?_ (fun a w hF hS => ?_)
  · exact obs_nil
  refine seq_cut (fun a w => Fr 19 [] a ∧ Sep w0 B w (fs) ∧ (slices_Index_J1).bind some = some r) ?_ ?_
  · rintro a w ⟨hF, hS, hm⟩
    unfold slices_Index_J1 at hm
    refine reg [] [] [4] [pl 4 (.int .i64 (-1))] hF hS Fol (by kernel_rfl) (by kernel_rfl) (by kernel_rfl) ?_ (fun a w hF hS => ?_)
    · exact obs_nil
    refine wp_ret ?_
    have hm : some (-1) = some r := hm
    obtain rfl := Option.some.inj hm
    exact retV (rs := [.tmp 4]) (vs := [.int .i64 (-1)]) hF rfl (rv_t (by kernel_rfl) <| rv_nil) rfl ⟨rfl, hS⟩
  · refine reg [] [] [0, 1, 7, 8] [pl 0 (.slice A1 s1.length c1), pl 1 (.int .i64 v1), pl 7 (.int .i64 (s1.length : Int)), pl 8 (.int .i64 0)] hF hS Fol (by kernel_rfl) (by kernel_rfl) (by kernel_rfl) ?_ (fun a w hF hS => ?_)
    · exact obs_nil
    refine wp_block ?_
    refine wp_loop_model (S := Int) (R := (Fl Unit Int)) (slices_Index_L1 s1 v1) (fun x => (slices_Index_K1 x).bind some) r (fun (x : Int) a w => Fr 19 [pl 0 (.slice A1 s1.length c1), pl 1 (.int .i64 v1), pl 7 (.int .i64 (s1.length : Int)), pl 8 (.int .i64 x)] a ∧ Sep w0 B w (fs)) (assoc_b hm) ⟨hF.weak [0, 1, 7, 8] (by kernel_rfl), hS⟩ ?_
    clear hF hS hm
    rintro nn1 z1 a w ⟨hF, hS⟩ hm
    generalize hφ1 : stK (slices_Index_L1 s1 v1) nn1 (fun x => (slices_Index_K1 x).bind some) = φ1 at hm
    unfold slices_Index_L1 at hm
    dsimp only at hm
    refine reg [] [] [0, 1, 7, 8, 9] [pl 0 (.slice A1 s1.length c1), pl 1 (.int .i64 v1), pl 7 (.int .i64 (s1.length : Int)), pl 8 (.int .i64 z1), pl 9 (.bool (decide (z1 < (s1.length : Int))))] hF hS Fol (by kernel_rfl) (by kernel_rfl) (by kernel_rfl) ?_ (fun a w hF hS => ?_)
    · exact obs_nil
    refine seq_cut (fun a w => Fr 19 [pl 0 (.slice A1 s1.length c1), pl 1 (.int .i64 v1), pl 7 (.int .i64 (s1.length : Int)), pl 8 (.int .i64 z1)] a ∧ Sep w0 B w (fs) ∧ ((slices_Index_J2 s1 v1 z1)).bind φ1 = some r) ?_ ?_
    · rintro a w ⟨hF, hS, hm⟩
      unfold slices_Index_J2 at hm
      refine seq_cut (fun a w => Fr 19 [pl 0 (.slice A1 s1.length c1), pl 1 (.int .i64 v1), pl 7 (.int .i64 (s1.length : Int)), pl 8 (.int .i64 z1)] a ∧ Sep w0 B w (fs) ∧ ((slices_Index_J3 z1)).bind φ1 = some r) ?_ ?_
      · rintro a w ⟨hF, hS, hm⟩
        unfold slices_Index_J3 at hm
        refine reg1 [] [] [0, 1, 7, 8] [pl 0 (.slice A1 s1.length c1), pl 1 (.int .i64 v1), pl 7 (.int .i64 (s1.length : Int)), pl 8 (.int .i64 (w64 (z1 + 1)))] hF hS Fol (by kernel_rfl) (by kernel_rfl) (by kernel_rfl) ?_ (fun a w hF hS => ?_)
        · exact obs_nil
        refine then_n ?_
        rw [← hφ1] at hm
        exact ⟨(w64 (z1 + 1)), ⟨hF.weak [0, 1, 7, 8] (by kernel_rfl), hS⟩, hm⟩
      · refine wp_block ?_
        refine reg [] [] [0, 1, 5, 7, 8] [pl 0 (.slice A1 s1.length c1), pl 1 (.int .i64 v1), pl 5 (.int .i64 z1), pl 7 (.int .i64 (s1.length : Int)), pl 8 (.int .i64 z1)] hF hS Fol (by kernel_rfl) (by kernel_rfl) (by kernel_rfl) ?_ (fun a w hF hS => ?_)
        · exact obs_nil
        obtain ⟨hp1, hm⟩ := asrt_b hm
        refine reg [⟨true, [], vS (Instr.indexAt 22 (.slice A1 s1.length c1) (.int .i64 z1)), .pointer (some (sAddr A1 z1))⟩, ⟨false, [], vS (Instr.loadAt 3 (.pointer (some (sAddr A1 z1)))), .int .i64 (geti s1 z1)⟩] [none, none, none, some (.pointer (some (sAddr A1 z1))), some (.int .i64 (geti s1 z1)), none] [0, 1, 5, 7, 8, 16] [pl 0 (.slice A1 s1.length c1), pl 1 (.int .i64 v1), pl 5 (.int .i64 z1), pl 7 (.int .i64 (s1.length : Int)), pl 8 (.int .i64 z1), pl 16 (.bool (v1 == (geti s1 z1)))] hF hS Fol (by kernel_rfl) (by kernel_rfl) (by kernel_rfl) ?_ (fun a w hF hS => ?_)
        · exact obs_cons (ob_ix1 (f := (Value.int .i64)) (m := s1) Und22 hi3 hs3 (hr_s1 _ (hS.dropN 0)) rfl (fun _ => hp1)) <| obs_cons (ob_get1 (n := s1.length) (m := s1) (Value.int .i64) (0 : Int) Agg3 (fun _ hS => ⟨_, (hr_s1 _ (hS.dropN 0))⟩) (fun _ hS => rfl) (fun _ => hp1)) <| obs_nil
        refine cond_ev (t := 16) (b := (v1 == (geti s1 z1))) hF (by kernel_rfl) (fun hb => ?_) (fun hb => ?_)
        · replace hm := if_t hm hb
          refine reg [] [] [4] [pl 4 (.int .i64 z1)] hF hS Fol (by kernel_rfl) (by kernel_rfl) (by kernel_rfl) ?_ (fun a w hF hS => ?_)
          · exact obs_nil
          refine wp_ret ?_
          refine block_r (then_r (then_r (block_r (then_r ?_))))
          rw [← hφ1] at hm
          replace hm := done_b hm
          unfold slices_Index_K1 at hm
          try dsimp only at hm
          have hm : some z1 = some r := hm
          obtain rfl := Option.some.inj hm
          exact retV (rs := [.tmp 4]) (vs := [.int .i64 z1]) hF rfl (rv_t (by kernel_rfl) <| rv_nil) rfl ⟨rfl, hS⟩
        · replace hm := if_f hm hb
          refine wp_skip ?_
          refine block_n ?_
          refine then_n ?_
          exact ⟨hF.weak [0, 1, 7, 8] (by kernel_rfl), hS, hm⟩
    · refine cond_ev (t := 9) (b := decide (z1 < (s1.length : Int))) hF (by kernel_rfl) (fun hb => ?_) (fun hb => ?_)
      · replace hm := if_t hm hb
        refine wp_skip ?_
        refine then_n ?_
        exact ⟨hF.weak [0, 1, 7, 8] (by kernel_rfl), hS, hm⟩
      · replace hm := if_f hm hb
        refine wp_exit ?_
        refine then_e (then_e (block_e (then_n ?_)))
        rw [← hφ1] at hm
        replace hm := done_b hm
        unfold slices_Index_K1 at hm
        try dsimp only at hm
        have hm : (slices_Index_J1).bind some = some r := hm
        exact ⟨hF.weak [] (by kernel_rfl), hS, hm⟩

noncomputable def slices_Contains_m (s1 : List Int) (v1 : Int) : Option Bool :=
  (slices_Index_m s1 v1).bind fun r1 => some (decide ((0 : Int) ≤ r1))

set_option maxRecDepth 100000 in
set_option maxHeartbeats 4000000 in
theorem slices_Contains_w {A1 : Option Addr} {c1 : Nat} {n1 : Nat} {s1 : List Int} {v1 : Int} {r : Bool} {w0 w : World} {B : Nat} {fs : List HP} (hm : slices_Contains_m s1 v1 = some r) (hS : Sep w0 B w (fs)) (hr_s1 : RdF w0 B fs A1 (vI s1)) (_hc_s1 : s1.length ≤ c1) (_hn_s1 : n1 = s1.length) :
    Calls Try.prog 93 #[.slice A1 n1 c1, .int .i64 v1] w fun e w' => e = .returned (.bool r) ∧ Sep w0 B w' (fs) := by
  obtain ⟨i3, hi3, hz3, hs3, hb3⟩ := info_parts Info3
  obtain rfl := _hn_s1
  unfold slices_Contains_m at hm
  replace hm := start_b hm
  refine enter (l := [.slice A1 s1.length c1, .int .i64 v1]) (n := 9) Try.func93 rfl rfl (by simp) (fun a hF => ?_)
  refine reg [] [] [0, 1] [pl 0 (.slice A1 s1.length c1), pl 1 (.int .i64 v1)] hF hS Fol (by kernel_rfl) (by kernel_rfl) (by kernel_rfl) ?_ (fun a w hF hS => ?_)
  · exact obs_nil
  obtain ⟨r1, hr1, hm⟩ := call_b hm
  refine reg [⟨false, [], callFunc 85 #[.slice A1 s1.length c1, .int .i64 v1], .int .i64 r1⟩] [none, none, some (.int .i64 r1), none, none] [4] [pl 4 (.bool (decide ((0 : Int) ≤ r1)))] hF hS Fol (by kernel_rfl) (by kernel_rfl) (by kernel_rfl) ?_ (fun a w hF hS => ?_)
  · exact obs_cons (ob_call Try.func85 (by kernel_rfl) rfl (fun _ _ hS => slices_Index_w hr1 hS (fun _ hS => (hr_s1 _ (hS.dropN 0))) _hc_s1 rfl)) <| obs_nil
  refine wp_ret ?_
  have hm : some (decide ((0 : Int) ≤ r1)) = some r := hm
  obtain rfl := Option.some.inj hm
  exact retV (rs := [.tmp 4]) (vs := [.bool (decide ((0 : Int) ≤ r1))]) hF rfl (rv_t (by kernel_rfl) <| rv_nil) rfl ⟨rfl, hS⟩

noncomputable def crib_rules_m : Option Unit :=
  some ()

set_option maxRecDepth 100000 in
set_option maxHeartbeats 4000000 in
theorem crib_rules_w  {r : Unit} {w0 w : World} {B : Nat} {fs : List HP} (hm : crib_rules_m = some r) (hS : Sep w0 B w (fs)) :
    Calls Try.prog 184 #[] w fun e w' => ∃ v, e = .returned v ∧ ∃ (A1 : Option Addr), v = .slice A1 5 5 ∧ Sep w0 B w' (own 206 (.slice A1 5 5) (List.map fnV ([213, 214, 215, 216, 217] : List Nat)) :: fs) := by
  obtain ⟨i206, hi206, hz206, hs206, hb206⟩ := info_parts Info206
  unfold crib_rules_m at hm
  replace hm := start_b hm
  refine enter (l := []) (n := 2) Try.func184 rfl rfl (by simp) (fun a hF => ?_)
  refine reg [] [] [] [] hF hS Fol (by kernel_rfl) (by kernel_rfl) (by kernel_rfl) ?_ (fun a w hF hS => ?_)
  · exact obs_nil
  refine seqR ?_
  refine at_do (d := 1) (s := vS (Instr.buildSlice 204 5 #[(0, .func (.func 213) #[] #[]), (1, .func (.func 214) #[] #[]), (2, .func (.func 215) #[] #[]), (3, .func (.func 216) #[] #[]), (4, .func (.func 217) #[] #[])])) (v := .slice (some ⟨w.heap.size, 0, none⟩) 5 5) (w' := w.alloc (.cells #[.func (.func 213) #[] #[], .func (.func 214) #[] #[], .func (.func 215) #[] #[], .func (.func 216) #[] #[], .func (.func 217) #[] #[]] 206)) hF (by kernel_rfl) (by kernel_rfl) (by kernel_rfl) (fun a hF => ?_)
  have hS : Sep w0 B (w.alloc (.cells #[.func (.func 213) #[] #[], .func (.func 214) #[] #[], .func (.func 215) #[] #[], .func (.func 216) #[] #[], .func (.func 217) #[] #[]] 206)) (own 206 (.slice (some (⟨w.heap.size, 0, none⟩ : Addr)) 5 5) (List.map fnV ([213, 214, 215, 216, 217] : List Nat)) :: (fs)) := hS.lit 206 #[.func (.func 213) #[] #[], .func (.func 214) #[] #[], .func (.func 215) #[] #[], .func (.func 216) #[] #[], .func (.func 217) #[] #[]] 5 rfl (by omega)
  generalize (some (⟨w.heap.size, 0, none⟩ : Addr)) = g1 at hF hS
  generalize w.alloc (.cells #[.func (.func 213) #[] #[], .func (.func 214) #[] #[], .func (.func 215) #[] #[], .func (.func 216) #[] #[], .func (.func 217) #[] #[]] 206) = w at hS ⊢
  refine at_run 1 [] [] [0] [pl 0 (.slice g1 5 5)] hF hS (by kernel_rfl) (by kernel_rfl) ?_ (fun a w hF hS => ?_)
  · exact obs_nil
  refine at_end [0] [pl 0 (.slice g1 5 5)] hF rfl (by kernel_rfl) (fun hF => ?_)
  refine then_n ?_
  refine wp_ret ?_
  have hm : some () = some r := hm
  obtain rfl := Option.some.inj hm
  exact retV (rs := [.tmp 0]) (vs := [.slice g1 5 5]) hF rfl (rv_t (by kernel_rfl) <| rv_nil) rfl ⟨_, rfl, g1, rfl, hS⟩

noncomputable def crib_pip_m (c1 : Int) : Option Int :=
  some (w64 ((Int.tmod (w64 ((w64 (Int.tdiv c1 4)) + 1)) 13) + 1))

set_option maxRecDepth 100000 in
set_option maxHeartbeats 4000000 in
theorem crib_pip_w {c1 : Int} {r : Int} {w0 w : World} {B : Nat} {fs : List HP} (hm : crib_pip_m c1 = some r) (hS : Sep w0 B w (fs)) :
    Calls Try.prog 245 #[.int .i64 c1] w fun e w' => e = .returned (.int .i64 r) ∧ Sep w0 B w' (fs) := by
  unfold crib_pip_m at hm
  replace hm := start_b hm
  refine enter (l := [.int .i64 c1]) (n := 8) Try.func245 rfl rfl (by simp) (fun a hF => ?_)
  refine reg [] [] [0] [pl 0 (.int .i64 c1)] hF hS Fol (by kernel_rfl) (by kernel_rfl) (by kernel_rfl) ?_ (fun a w hF hS => ?_)
  · exact obs_nil
  refine reg [] [] [2] [pl 2 (.int .i64 (w64 ((Int.tmod (w64 ((w64 (Int.tdiv c1 4)) + 1)) 13) + 1)))] hF hS Fol (by kernel_rfl) (by kernel_rfl) (by kernel_rfl) ?_ (fun a w hF hS => ?_)
  · exact obs_nil
  refine wp_ret ?_
  have hm : some (w64 ((Int.tmod (w64 ((w64 (Int.tdiv c1 4)) + 1)) 13) + 1)) = some r := hm
  obtain rfl := Option.some.inj hm
  exact retV (rs := [.tmp 2]) (vs := [.int .i64 (w64 ((Int.tmod (w64 ((w64 (Int.tdiv c1 4)) + 1)) 13) + 1))]) hF rfl (rv_t (by kernel_rfl) <| rv_nil) rfl ⟨rfl, hS⟩

noncomputable def crib_points_m (c1 : Int) : Option Int :=
  (crib_pip_m c1).bind fun r1 => some (minI r1 10)

set_option maxRecDepth 100000 in
set_option maxHeartbeats 4000000 in
theorem crib_points_w {c1 : Int} {r : Int} {w0 w : World} {B : Nat} {fs : List HP} (hm : crib_points_m c1 = some r) (hS : Sep w0 B w (fs)) :
    Calls Try.prog 244 #[.int .i64 c1] w fun e w' => e = .returned (.int .i64 r) ∧ Sep w0 B w' (fs) := by
  unfold crib_points_m at hm
  replace hm := start_b hm
  refine enter (l := [.int .i64 c1]) (n := 6) Try.func244 rfl rfl (by simp) (fun a hF => ?_)
  refine reg [] [] [0] [pl 0 (.int .i64 c1)] hF hS Fol (by kernel_rfl) (by kernel_rfl) (by kernel_rfl) ?_ (fun a w hF hS => ?_)
  · exact obs_nil
  obtain ⟨r1, hr1, hm⟩ := call_b hm
  refine reg [⟨false, [], callFunc 245 #[.int .i64 c1], .int .i64 r1⟩, ⟨true, [], vS (Builtin.min_ #[3, 3] 3 #[.int .i64 r1, .int .i64 10]), .int .i64 (minI r1 10)⟩] [none, some (.int .i64 r1), some (.int .i64 (minI r1 10)), none] [2] [pl 2 (.int .i64 (minI r1 10))] hF hS Fol (by kernel_rfl) (by kernel_rfl) (by kernel_rfl) ?_ (fun a w hF hS => ?_)
  · exact obs_cons (ob_call Try.func245 (by kernel_rfl) rfl (fun _ _ hS => crib_pip_w hr1 hS )) <| obs_cons (ob_min rfl) <| obs_nil
  refine wp_ret ?_
  have hm : some (minI r1 10) = some r := hm
  obtain rfl := Option.some.inj hm
  exact retV (rs := [.tmp 2]) (vs := [.int .i64 (minI r1 10)]) hF rfl (rv_t (by kernel_rfl) <| rv_nil) rfl ⟨rfl, hS⟩

noncomputable def crib_fifteens_J6 (z2 : Int) (sum3 : Int) : Option (St (Int × Int) Int) :=
  some (.next (sum3, (w64 (z2 + 1))))

noncomputable def crib_fifteens_J5 (l1 : List Int) (z1 : Int) (sum1 : Int) (z2 : Int) : Option (St (Int × Int) Int) :=
  asrt (0 ≤ z2 ∧ z2 < (l1.length : Int)) <| (crib_points_m (geti l1 z2)).bind fun r1 => asrt ((0 : Int) ≤ z2) <| (crib_fifteens_J6 z2) (w64 (sum1 + (w64 (r1 * (bAnd (shrK .i64 z1 z2) 1)))))

noncomputable def crib_fifteens_J3 (z1 : Int) (n4 : Int) : Option (St (Int × Int) Int) :=
  some (.next (n4, (w64 (z1 + 1))))

noncomputable def crib_fifteens_J4 (n2 : Int) (z1 : Int) (sum2 : Int) : Option (St (Int × Int) Int) :=
  if (sum2 == 15) then ((crib_fifteens_J3 z1) (w64 (n2 + 2))) else ((crib_fifteens_J3 z1) n2)

noncomputable def crib_fifteens_K2 (n2 : Int) (z1 : Int) : Int → Option (St (Int × Int) Int) :=
  fun (x : Int) => match x with | sum2 => (crib_fifteens_J4 n2 z1) sum2

noncomputable def crib_fifteens_L2 (l1 : List Int) (z1 : Int) : (Int × Int) → Option (St (Int × Int) Int) :=
  fun (x : (Int × Int)) => match x with | (sum1, z2) => if (decide (z2 < (l1.length : Int))) then ((crib_fifteens_J5 l1 z1 sum1 z2)) else (some (.done sum1))

noncomputable def crib_fifteens_J2 (l1 : List Int) (n2 : Int) (z1 : Int) : Option (St (Int × Int) Int) :=
  (loop (crib_fifteens_L2 l1 z1) (0, 0)).bind (crib_fifteens_K2 n2 z1)

noncomputable def crib_fifteens_J1 (n3 : Int) : Option Int :=
  some n3

noncomputable def crib_fifteens_K1 : Int → Option Int :=
  fun (x : Int) => match x with | n3 => crib_fifteens_J1 n3

noncomputable def crib_fifteens_L1 (l1 : List Int) : (Int × Int) → Option (St (Int × Int) Int) :=
  fun (x : (Int × Int)) => match x with | (n2, z1) => if (decide (z1 < (shlK .i64 1 (l1.length : Int)))) then ((crib_fifteens_J2 l1 n2 z1)) else (some (.done n2))

noncomputable def crib_fifteens_m (l1 : List Int) (p11 : Bool) : Option Int :=
  asrt ((0 : Int) ≤ (l1.length : Int)) <| (loop (crib_fifteens_L1 l1) (0, 0)).bind crib_fifteens_K1

set_option maxRecDepth 100000 in
set_option maxHeartbeats 4000000 in
theorem crib_fifteens_w {A1 : Option Addr} {c1 : Nat} {n1 : Nat} {l1 : List Int} {p11 : Bool} {r : Int} {w0 w : World} {B : Nat} {fs : List HP} (hm : crib_fifteens_m l1 p11 = some r) (hS : Sep w0 B w (fs)) (hr_l1 : RdF w0 B fs A1 (vI l1)) (_hc_l1 : l1.length ≤ c1) (_hn_l1 : n1 = l1.length) :
    Calls Try.prog 213 #[.slice A1 n1 c1, .bool p11] w fun e w' => e = .returned (.int .i64 r) ∧ Sep w0 B w' (fs) := by
  obtain ⟨i3, hi3, hz3, hs3, hb3⟩ := info_parts Info3
  obtain rfl := _hn_l1
  unfold crib_fifteens_m at hm
  replace hm := start_b hm
  refine enter (l := [.slice A1 l1.length c1, .bool p11]) (n := 39) Try.func213 rfl rfl (by simp) (fun a hF => ?_)
  refine reg [] [] [0] [pl 0 (.slice A1 l1.length c1)] hF hS Fol (by kernel_rfl) (by kernel_rfl) (by kernel_rfl) ?_ (fun a w hF hS => ?_)
  · exact obs_nil
  refine reg [] [] [0, 5] [pl 0 (.slice A1 l1.length c1), pl 5 (.int .i64 0)] hF hS Fol (by kernel_rfl) (by kernel_rfl) (by kernel_rfl) ?_ (fun a w hF hS => ?_)
  · exact obs_nil
  refine seq_cut (fun a w => ∃ (n3 : Int), Fr 39 [pl 5 (.int .i64 n3)] a ∧ Sep w0 B w (fs) ∧ (crib_fifteens_J1 n3).bind some = some r) ?_ ?_
  · rintro a w ⟨n3, hF, hS, hm⟩
    unfold crib_fifteens_J1 at hm
    refine reg [] [] [4] [pl 4 (.int .i64 n3)] hF hS Fol (by kernel_rfl) (by kernel_rfl) (by kernel_rfl) ?_ (fun a w hF hS => ?_)
    · exact obs_nil
    refine wp_ret ?_
    have hm : some n3 = some r := hm
    obtain rfl := Option.some.inj hm
    exact retV (rs := [.tmp 4]) (vs := [.int .i64 n3]) hF rfl (rv_t (by kernel_rfl) <| rv_nil) rfl ⟨rfl, hS⟩
  · obtain ⟨hp1, hm⟩ := asrt_b hm
    refine reg [⟨true, [], vS (Op.shift .shl .i64 1 .i64 (l1.length : Int)), .int .i64 (shlK .i64 1 (l1.length : Int))⟩] [none, none, some (.int .i64 (shlK .i64 1 (l1.length : Int))), none] [0, 5, 12, 13] [pl 0 (.slice A1 l1.length c1), pl 5 (.int .i64 0), pl 12 (.int .i64 (shlK .i64 1 (l1.length : Int))), pl 13 (.int .i64 0)] hF hS Fol (by kernel_rfl) (by kernel_rfl) (by kernel_rfl) ?_ (fun a w hF hS => ?_)
    · exact obs_cons (ob_shl (fun _ => hp1)) <| obs_nil
    refine wp_block ?_
    refine wp_loop_model (S := (Int × Int)) (R := Int) (crib_fifteens_L1 l1) (fun x => (crib_fifteens_K1 x).bind some) r (fun (x : (Int × Int)) a w => Fr 39 [pl 0 (.slice A1 l1.length c1), pl 5 (.int .i64 x.1), pl 12 (.int .i64 (shlK .i64 1 (l1.length : Int))), pl 13 (.int .i64 x.2)] a ∧ Sep w0 B w (fs)) (assoc_b hm) ⟨hF.weak [0, 5, 12, 13] (by kernel_rfl), hS⟩ ?_
    clear hF hS hm
    rintro nn1 ⟨n2, z1⟩ a w ⟨hF, hS⟩ hm
    generalize hφ1 : stK (crib_fifteens_L1 l1) nn1 (fun x => (crib_fifteens_K1 x).bind some) = φ1 at hm
    unfold crib_fifteens_L1 at hm
    dsimp only at hF hS hm
    refine reg [] [] [0, 5, 12, 13, 14] [pl 0 (.slice A1 l1.length c1), pl 5 (.int .i64 n2), pl 12 (.int .i64 (shlK .i64 1 (l1.length : Int))), pl 13 (.int .i64 z1), pl 14 (.bool (decide (z1 < (shlK .i64 1 (l1.length : Int)))))] hF hS Fol (by kernel_rfl) (by kernel_rfl) (by kernel_rfl) ?_ (fun a w hF hS => ?_)
    · exact obs_nil
    refine seq_cut (fun a w => Fr 39 [pl 0 (.slice A1 l1.length c1), pl 5 (.int .i64 n2), pl 12 (.int .i64 (shlK .i64 1 (l1.length : Int))), pl 13 (.int .i64 z1)] a ∧ Sep w0 B w (fs) ∧ ((crib_fifteens_J2 l1 n2 z1)).bind φ1 = some r) ?_ ?_
    · rintro a w ⟨hF, hS, hm⟩
      unfold crib_fifteens_J2 at hm
      refine seq_cut (fun a w => ∃ (n4 : Int), Fr 39 [pl 0 (.slice A1 l1.length c1), pl 5 (.int .i64 n4), pl 12 (.int .i64 (shlK .i64 1 (l1.length : Int))), pl 13 (.int .i64 z1)] a ∧ Sep w0 B w (fs) ∧ ((crib_fifteens_J3 z1) n4).bind φ1 = some r) ?_ ?_
      · rintro a w ⟨n4, hF, hS, hm⟩
        unfold crib_fifteens_J3 at hm
        refine reg1 [] [] [0, 5, 12, 13] [pl 0 (.slice A1 l1.length c1), pl 5 (.int .i64 n4), pl 12 (.int .i64 (shlK .i64 1 (l1.length : Int))), pl 13 (.int .i64 (w64 (z1 + 1)))] hF hS Fol (by kernel_rfl) (by kernel_rfl) (by kernel_rfl) ?_ (fun a w hF hS => ?_)
        · exact obs_nil
        refine then_n ?_
        rw [← hφ1] at hm
        exact ⟨(n4, (w64 (z1 + 1))), ⟨hF.weak [0, 5, 12, 13] (by kernel_rfl), hS⟩, hm⟩
      · refine wp_block ?_
        refine reg [] [] [0, 5, 6, 12, 13] [pl 0 (.slice A1 l1.length c1), pl 5 (.int .i64 n2), pl 6 (.int .i64 z1), pl 12 (.int .i64 (shlK .i64 1 (l1.length : Int))), pl 13 (.int .i64 z1)] hF hS Fol (by kernel_rfl) (by kernel_rfl) (by kernel_rfl) ?_ (fun a w hF hS => ?_)
        · exact obs_nil
        refine reg [] [] [0, 5, 6, 7, 12, 13] [pl 0 (.slice A1 l1.length c1), pl 5 (.int .i64 n2), pl 6 (.int .i64 z1), pl 7 (.int .i64 0), pl 12 (.int .i64 (shlK .i64 1 (l1.length : Int))), pl 13 (.int .i64 z1)] hF hS Fol (by kernel_rfl) (by kernel_rfl) (by kernel_rfl) ?_ (fun a w hF hS => ?_)
        · exact obs_nil
        refine seq_cut (fun a w => ∃ (sum2 : Int), Fr 39 [pl 0 (.slice A1 l1.length c1), pl 5 (.int .i64 n2), pl 7 (.int .i64 sum2), pl 12 (.int .i64 (shlK .i64 1 (l1.length : Int))), pl 13 (.int .i64 z1)] a ∧ Sep w0 B w (fs) ∧ ((crib_fifteens_J4 n2 z1) sum2).bind φ1 = some r) ?_ ?_
        · rintro a w ⟨sum2, hF, hS, hm⟩
          unfold crib_fifteens_J4 at hm
          refine reg [] [] [0, 5, 12, 13, 34] [pl 0 (.slice A1 l1.length c1), pl 5 (.int .i64 n2), pl 12 (.int .i64 (shlK .i64 1 (l1.length : Int))), pl 13 (.int .i64 z1), pl 34 (.bool (sum2 == 15))] hF hS Fol (by kernel_rfl) (by kernel_rfl) (by kernel_rfl) ?_ (fun a w hF hS => ?_)
          · exact obs_nil
          refine cond_ev (t := 34) (b := (sum2 == 15)) hF (by kernel_rfl) (fun hb => ?_) (fun hb => ?_)
          · replace hm := if_t hm hb
            refine reg1 [] [] [0, 5, 12, 13] [pl 0 (.slice A1 l1.length c1), pl 5 (.int .i64 (w64 (n2 + 2))), pl 12 (.int .i64 (shlK .i64 1 (l1.length : Int))), pl 13 (.int .i64 z1)] hF hS Fol (by kernel_rfl) (by kernel_rfl) (by kernel_rfl) ?_ (fun a w hF hS => ?_)
            · exact obs_nil
            refine block_n ?_
            refine then_n ?_
            exact ⟨(w64 (n2 + 2)), hF.weak [0, 5, 12, 13] (by kernel_rfl), hS, hm⟩
          · replace hm := if_f hm hb
            refine wp_skip ?_
            refine block_n ?_
            refine then_n ?_
            exact ⟨n2, hF.weak [0, 5, 12, 13] (by kernel_rfl), hS, hm⟩
        · refine reg [] [] [0, 5, 6, 7, 12, 13, 16, 17, 18] [pl 0 (.slice A1 l1.length c1), pl 5 (.int .i64 n2), pl 6 (.int .i64 z1), pl 7 (.int .i64 0), pl 12 (.int .i64 (shlK .i64 1 (l1.length : Int))), pl 13 (.int .i64 z1), pl 16 (.slice A1 l1.length c1), pl 17 (.int .i64 (l1.length : Int)), pl 18 (.int .i64 0)] hF hS Fol (by kernel_rfl) (by kernel_rfl) (by kernel_rfl) ?_ (fun a w hF hS => ?_)
          · exact obs_nil
          refine wp_block ?_
          refine wp_loop_model (S := (Int × Int)) (R := Int) (crib_fifteens_L2 l1 z1) (fun x => ((crib_fifteens_K2 n2 z1) x).bind φ1) r (fun (x : (Int × Int)) a w => Fr 39 [pl 0 (.slice A1 l1.length c1), pl 5 (.int .i64 n2), pl 6 (.int .i64 z1), pl 7 (.int .i64 x.1), pl 12 (.int .i64 (shlK .i64 1 (l1.length : Int))), pl 13 (.int .i64 z1), pl 16 (.slice A1 l1.length c1), pl 17 (.int .i64 (l1.length : Int)), pl 18 (.int .i64 x.2)] a ∧ Sep w0 B w (fs)) (assoc_b hm) ⟨hF.weak [0, 5, 6, 7, 12, 13, 16, 17, 18] (by kernel_rfl), hS⟩ ?_
          clear hF hS hm
          rintro nn2 ⟨sum1, z2⟩ a w ⟨hF, hS⟩ hm
          generalize hφ2 : stK (crib_fifteens_L2 l1 z1) nn2 (fun x => ((crib_fifteens_K2 n2 z1) x).bind φ1) = φ2 at hm
          unfold crib_fifteens_L2 at hm
          dsimp only at hF hS hm
          refine reg [] [] [0, 5, 6, 7, 12, 13, 16, 17, 18, 19] [pl 0 (.slice A1 l1.length c1), pl 5 (.int .i64 n2), pl 6 (.int .i64 z1), pl 7 (.int .i64 sum1), pl 12 (.int .i64 (shlK .i64 1 (l1.length : Int))), pl 13 (.int .i64 z1), pl 16 (.slice A1 l1.length c1), pl 17 (.int .i64 (l1.length : Int)), pl 18 (.int .i64 z2), pl 19 (.bool (decide (z2 < (l1.length : Int))))] hF hS Fol (by kernel_rfl) (by kernel_rfl) (by kernel_rfl) ?_ (fun a w hF hS => ?_)
          · exact obs_nil
          refine seq_cut (fun a w => Fr 39 [pl 0 (.slice A1 l1.length c1), pl 5 (.int .i64 n2), pl 6 (.int .i64 z1), pl 7 (.int .i64 sum1), pl 12 (.int .i64 (shlK .i64 1 (l1.length : Int))), pl 13 (.int .i64 z1), pl 16 (.slice A1 l1.length c1), pl 17 (.int .i64 (l1.length : Int)), pl 18 (.int .i64 z2)] a ∧ Sep w0 B w (fs) ∧ ((crib_fifteens_J5 l1 z1 sum1 z2)).bind φ2 = some r) ?_ ?_
          · rintro a w ⟨hF, hS, hm⟩
            unfold crib_fifteens_J5 at hm
            refine seq_cut (fun a w => ∃ (sum3 : Int), Fr 39 [pl 0 (.slice A1 l1.length c1), pl 5 (.int .i64 n2), pl 6 (.int .i64 z1), pl 7 (.int .i64 sum3), pl 12 (.int .i64 (shlK .i64 1 (l1.length : Int))), pl 13 (.int .i64 z1), pl 16 (.slice A1 l1.length c1), pl 17 (.int .i64 (l1.length : Int)), pl 18 (.int .i64 z2)] a ∧ Sep w0 B w (fs) ∧ ((crib_fifteens_J6 z2) sum3).bind φ2 = some r) ?_ ?_
            · rintro a w ⟨sum3, hF, hS, hm⟩
              unfold crib_fifteens_J6 at hm
              refine reg1 [] [] [0, 5, 6, 7, 12, 13, 16, 17, 18] [pl 0 (.slice A1 l1.length c1), pl 5 (.int .i64 n2), pl 6 (.int .i64 z1), pl 7 (.int .i64 sum3), pl 12 (.int .i64 (shlK .i64 1 (l1.length : Int))), pl 13 (.int .i64 z1), pl 16 (.slice A1 l1.length c1), pl 17 (.int .i64 (l1.length : Int)), pl 18 (.int .i64 (w64 (z2 + 1)))] hF hS Fol (by kernel_rfl) (by kernel_rfl) (by kernel_rfl) ?_ (fun a w hF hS => ?_)
              · exact obs_nil
              refine then_n ?_
              rw [← hφ2] at hm
              exact ⟨(sum3, (w64 (z2 + 1))), ⟨hF.weak [0, 5, 6, 7, 12, 13, 16, 17, 18] (by kernel_rfl), hS⟩, hm⟩
            · refine wp_block ?_
              obtain ⟨hp2, hm⟩ := asrt_b hm
              refine reg [⟨true, [], vS (Instr.indexAt 22 (.slice A1 l1.length c1) (.int .i64 z2)), .pointer (some (sAddr A1 z2))⟩, ⟨false, [], vS (Instr.loadAt 3 (.pointer (some (sAddr A1 z2)))), .int .i64 (geti l1 z2)⟩] [none, some (.pointer (some (sAddr A1 z2))), some (.int .i64 (geti l1 z2)), none, none] [0, 5, 6, 7, 8, 9, 12, 13, 16, 17, 18] [pl 0 (.slice A1 l1.length c1), pl 5 (.int .i64 n2), pl 6 (.int .i64 z1), pl 7 (.int .i64 sum1), pl 8 (.int .i64 z2), pl 9 (.int .i64 (geti l1 z2)), pl 12 (.int .i64 (shlK .i64 1 (l1.length : Int))), pl 13 (.int .i64 z1), pl 16 (.slice A1 l1.length c1), pl 17 (.int .i64 (l1.length : Int)), pl 18 (.int .i64 z2)] hF hS Fol (by kernel_rfl) (by kernel_rfl) (by kernel_rfl) ?_ (fun a w hF hS => ?_)
              · exact obs_cons (ob_ix1 (f := (Value.int .i64)) (m := l1) Und22 hi3 hs3 (hr_l1 _ (hS.dropN 0)) rfl (fun _ => hp2)) <| obs_cons (ob_get1 (n := l1.length) (m := l1) (Value.int .i64) (0 : Int) Agg3 (fun _ hS => ⟨_, (hr_l1 _ (hS.dropN 0))⟩) (fun _ hS => rfl) (fun _ => hp2)) <| obs_nil
              obtain ⟨r1, hr1, hm⟩ := call_b hm
              obtain ⟨hp3, hm⟩ := asrt_b hm
              refine reg1 [⟨false, [], callFunc 244 #[.int .i64 (geti l1 z2)], .int .i64 r1⟩, ⟨true, [], vS (Op.shift .shr .i64 z1 .i64 z2), .int .i64 (shrK .i64 z1 z2)⟩] [none, none, some (.int .i64 r1), none, none, some (.int .i64 (shrK .i64 z1 z2)), none, none, none, none] [0, 5, 6, 7, 12, 13, 16, 17, 18] [pl 0 (.slice A1 l1.length c1), pl 5 (.int .i64 n2), pl 6 (.int .i64 z1), pl 7 (.int .i64 (w64 (sum1 + (w64 (r1 * (bAnd (shrK .i64 z1 z2) 1)))))), pl 12 (.int .i64 (shlK .i64 1 (l1.length : Int))), pl 13 (.int .i64 z1), pl 16 (.slice A1 l1.length c1), pl 17 (.int .i64 (l1.length : Int)), pl 18 (.int .i64 z2)] hF hS Fol (by kernel_rfl) (by kernel_rfl) (by kernel_rfl) ?_ (fun a w hF hS => ?_)
              · exact obs_cons (ob_call Try.func244 (by kernel_rfl) rfl (fun _ _ hS => crib_points_w hr1 hS )) <| obs_cons (ob_shr (fun _ => hp3)) <| obs_nil
              refine block_n ?_
              refine then_n ?_
              exact ⟨(w64 (sum1 + (w64 (r1 * (bAnd (shrK .i64 z1 z2) 1))))), hF.weak [0, 5, 6, 7, 12, 13, 16, 17, 18] (by kernel_rfl), hS, hm⟩
          · refine cond_ev (t := 19) (b := decide (z2 < (l1.length : Int))) hF (by kernel_rfl) (fun hb => ?_) (fun hb => ?_)
            · replace hm := if_t hm hb
              refine wp_skip ?_
              refine then_n ?_
              exact ⟨hF.weak [0, 5, 6, 7, 12, 13, 16, 17, 18] (by kernel_rfl), hS, hm⟩
            · replace hm := if_f hm hb
              refine wp_exit ?_
              refine then_e (then_e (block_e (then_n ?_)))
              rw [← hφ2] at hm
              replace hm := done_b hm
              unfold crib_fifteens_K2 at hm
              try dsimp only at hm
              have hm : ((crib_fifteens_J4 n2 z1) sum1).bind φ1 = some r := hm
              exact ⟨sum1, hF.weak [0, 5, 7, 12, 13] (by kernel_rfl), hS, hm⟩
    · refine cond_ev (t := 14) (b := decide (z1 < (shlK .i64 1 (l1.length : Int)))) hF (by kernel_rfl) (fun hb => ?_) (fun hb => ?_)
      · replace hm := if_t hm hb
        refine wp_skip ?_
        refine then_n ?_
        exact ⟨hF.weak [0, 5, 12, 13] (by kernel_rfl), hS, hm⟩
      · replace hm := if_f hm hb
        refine wp_exit ?_
        refine then_e (then_e (block_e (then_n ?_)))
        rw [← hφ1] at hm
        replace hm := done_b hm
        unfold crib_fifteens_K1 at hm
        try dsimp only at hm
        have hm : (crib_fifteens_J1 n2).bind some = some r := hm
        exact ⟨n2, hF.weak [5] (by kernel_rfl), hS, hm⟩

noncomputable def crib_pairs_J5 (z2 : Int) (n6 : Int) : Option (St (Int × Int) Int) :=
  some (.next (n6, (w64 (z2 + 1))))

noncomputable def crib_pairs_J4 (l1 : List Int) (z1 : Int) (n4 : Int) (z2 : Int) : Option (St (Int × Int) Int) :=
  asrt (0 ≤ z1 ∧ z1 < (l1.length : Int)) <| (crib_pip_m (geti l1 z1)).bind fun r1 => asrt (0 ≤ z2 ∧ z2 < (l1.length : Int)) <| (crib_pip_m (geti l1 z2)).bind fun r2 => if (r1 == r2) then ((crib_pairs_J5 z2) (w64 (n4 + 2))) else ((crib_pairs_J5 z2) n4)

noncomputable def crib_pairs_J3 (z1 : Int) (n5 : Int) : Option (St (Int × Int) Int) :=
  some (.next (n5, (w64 (z1 + 1))))

noncomputable def crib_pairs_K2 (z1 : Int) : Int → Option (St (Int × Int) Int) :=
  fun (x : Int) => match x with | n5 => (crib_pairs_J3 z1) n5

noncomputable def crib_pairs_L2 (l1 : List Int) (z1 : Int) : (Int × Int) → Option (St (Int × Int) Int) :=
  fun (x : (Int × Int)) => match x with | (n4, z2) => if (decide (z2 < z1)) then ((crib_pairs_J4 l1 z1 n4 z2)) else (some (.done n4))

noncomputable def crib_pairs_J2 (l1 : List Int) (n2 : Int) (z1 : Int) : Option (St (Int × Int) Int) :=
  (loop (crib_pairs_L2 l1 z1) (n2, 0)).bind (crib_pairs_K2 z1)

noncomputable def crib_pairs_J1 (n3 : Int) : Option Int :=
  some n3

noncomputable def crib_pairs_K1 : Int → Option Int :=
  fun (x : Int) => match x with | n3 => crib_pairs_J1 n3

noncomputable def crib_pairs_L1 (l1 : List Int) : (Int × Int) → Option (St (Int × Int) Int) :=
  fun (x : (Int × Int)) => match x with | (n2, z1) => if (decide (z1 < (l1.length : Int))) then ((crib_pairs_J2 l1 n2 z1)) else (some (.done n2))

noncomputable def crib_pairs_m (l1 : List Int) (p11 : Bool) : Option Int :=
  (loop (crib_pairs_L1 l1) (0, 0)).bind crib_pairs_K1

set_option maxRecDepth 100000 in
set_option maxHeartbeats 4000000 in
theorem crib_pairs_w {A1 : Option Addr} {c1 : Nat} {n1 : Nat} {l1 : List Int} {p11 : Bool} {r : Int} {w0 w : World} {B : Nat} {fs : List HP} (hm : crib_pairs_m l1 p11 = some r) (hS : Sep w0 B w (fs)) (hr_l1 : RdF w0 B fs A1 (vI l1)) (_hc_l1 : l1.length ≤ c1) (_hn_l1 : n1 = l1.length) :
    Calls Try.prog 214 #[.slice A1 n1 c1, .bool p11] w fun e w' => e = .returned (.int .i64 r) ∧ Sep w0 B w' (fs) := by
  obtain ⟨i3, hi3, hz3, hs3, hb3⟩ := info_parts Info3
  obtain rfl := _hn_l1
  unfold crib_pairs_m at hm
  replace hm := start_b hm
  refine enter (l := [.slice A1 l1.length c1, .bool p11]) (n := 33) Try.func214 rfl rfl (by simp) (fun a hF => ?_)
  refine reg [] [] [0] [pl 0 (.slice A1 l1.length c1)] hF hS Fol (by kernel_rfl) (by kernel_rfl) (by kernel_rfl) ?_ (fun a w hF hS => ?_)
  · exact obs_nil
  refine reg [] [] [0, 5] [pl 0 (.slice A1 l1.length c1), pl 5 (.int .i64 0)] hF hS Fol (by kernel_rfl) (by kernel_rfl) (by kernel_rfl) ?_ (fun a w hF hS => ?_)
  · exact obs_nil
  refine seq_cut (fun a w => ∃ (n3 : Int), Fr 33 [pl 5 (.int .i64 n3)] a ∧ Sep w0 B w (fs) ∧ (crib_pairs_J1 n3).bind some = some r) ?_ ?_
  · rintro a w ⟨n3, hF, hS, hm⟩
    unfold crib_pairs_J1 at hm
    refine reg [] [] [4] [pl 4 (.int .i64 n3)] hF hS Fol (by kernel_rfl) (by kernel_rfl) (by kernel_rfl) ?_ (fun a w hF hS => ?_)
    · exact obs_nil
    refine wp_ret ?_
    have hm : some n3 = some r := hm
    obtain rfl := Option.some.inj hm
    exact retV (rs := [.tmp 4]) (vs := [.int .i64 n3]) hF rfl (rv_t (by kernel_rfl) <| rv_nil) rfl ⟨rfl, hS⟩
  · refine reg [] [] [0, 5, 9, 10] [pl 0 (.slice A1 l1.length c1), pl 5 (.int .i64 0), pl 9 (.int .i64 (l1.length : Int)), pl 10 (.int .i64 0)] hF hS Fol (by kernel_rfl) (by kernel_rfl) (by kernel_rfl) ?_ (fun a w hF hS => ?_)
    · exact obs_nil
    refine wp_block ?_
    refine wp_loop_model (S := (Int × Int)) (R := Int) (crib_pairs_L1 l1) (fun x => (crib_pairs_K1 x).bind some) r (fun (x : (Int × Int)) a w => Fr 33 [pl 0 (.slice A1 l1.length c1), pl 5 (.int .i64 x.1), pl 9 (.int .i64 (l1.length : Int)), pl 10 (.int .i64 x.2)] a ∧ Sep w0 B w (fs)) (assoc_b hm) ⟨hF.weak [0, 5, 9, 10] (by kernel_rfl), hS⟩ ?_
    clear hF hS hm
    rintro nn1 ⟨n2, z1⟩ a w ⟨hF, hS⟩ hm
    generalize hφ1 : stK (crib_pairs_L1 l1) nn1 (fun x => (crib_pairs_K1 x).bind some) = φ1 at hm
    unfold crib_pairs_L1 at hm
    dsimp only at hF hS hm
    refine reg [] [] [0, 5, 9, 10, 11] [pl 0 (.slice A1 l1.length c1), pl 5 (.int .i64 n2), pl 9 (.int .i64 (l1.length : Int)), pl 10 (.int .i64 z1), pl 11 (.bool (decide (z1 < (l1.length : Int))))] hF hS Fol (by kernel_rfl) (by kernel_rfl) (by kernel_rfl) ?_ (fun a w hF hS => ?_)
    · exact obs_nil
    refine seq_cut (fun a w => Fr 33 [pl 0 (.slice A1 l1.length c1), pl 5 (.int .i64 n2), pl 9 (.int .i64 (l1.length : Int)), pl 10 (.int .i64 z1)] a ∧ Sep w0 B w (fs) ∧ ((crib_pairs_J2 l1 n2 z1)).bind φ1 = some r) ?_ ?_
    · rintro a w ⟨hF, hS, hm⟩
      unfold crib_pairs_J2 at hm
      refine seq_cut (fun a w => ∃ (n5 : Int), Fr 33 [pl 0 (.slice A1 l1.length c1), pl 5 (.int .i64 n5), pl 9 (.int .i64 (l1.length : Int)), pl 10 (.int .i64 z1)] a ∧ Sep w0 B w (fs) ∧ ((crib_pairs_J3 z1) n5).bind φ1 = some r) ?_ ?_
      · rintro a w ⟨n5, hF, hS, hm⟩
        unfold crib_pairs_J3 at hm
        refine reg1 [] [] [0, 5, 9, 10] [pl 0 (.slice A1 l1.length c1), pl 5 (.int .i64 n5), pl 9 (.int .i64 (l1.length : Int)), pl 10 (.int .i64 (w64 (z1 + 1)))] hF hS Fol (by kernel_rfl) (by kernel_rfl) (by kernel_rfl) ?_ (fun a w hF hS => ?_)
        · exact obs_nil
        refine then_n ?_
        rw [← hφ1] at hm
        exact ⟨(n5, (w64 (z1 + 1))), ⟨hF.weak [0, 5, 9, 10] (by kernel_rfl), hS⟩, hm⟩
      · refine wp_block ?_
        refine reg [] [] [0, 5, 6, 9, 10] [pl 0 (.slice A1 l1.length c1), pl 5 (.int .i64 n2), pl 6 (.int .i64 z1), pl 9 (.int .i64 (l1.length : Int)), pl 10 (.int .i64 z1)] hF hS Fol (by kernel_rfl) (by kernel_rfl) (by kernel_rfl) ?_ (fun a w hF hS => ?_)
        · exact obs_nil
        refine reg [] [] [0, 5, 6, 9, 10, 13, 14] [pl 0 (.slice A1 l1.length c1), pl 5 (.int .i64 n2), pl 6 (.int .i64 z1), pl 9 (.int .i64 (l1.length : Int)), pl 10 (.int .i64 z1), pl 13 (.int .i64 z1), pl 14 (.int .i64 0)] hF hS Fol (by kernel_rfl) (by kernel_rfl) (by kernel_rfl) ?_ (fun a w hF hS => ?_)
        · exact obs_nil
        refine wp_block ?_
        refine wp_loop_model (S := (Int × Int)) (R := Int) (crib_pairs_L2 l1 z1) (fun x => ((crib_pairs_K2 z1) x).bind φ1) r (fun (x : (Int × Int)) a w => Fr 33 [pl 0 (.slice A1 l1.length c1), pl 5 (.int .i64 x.1), pl 6 (.int .i64 z1), pl 9 (.int .i64 (l1.length : Int)), pl 10 (.int .i64 z1), pl 13 (.int .i64 z1), pl 14 (.int .i64 x.2)] a ∧ Sep w0 B w (fs)) (assoc_b hm) ⟨hF.weak [0, 5, 6, 9, 10, 13, 14] (by kernel_rfl), hS⟩ ?_
        clear hF hS hm
        rintro nn2 ⟨n4, z2⟩ a w ⟨hF, hS⟩ hm
        generalize hφ2 : stK (crib_pairs_L2 l1 z1) nn2 (fun x => ((crib_pairs_K2 z1) x).bind φ1) = φ2 at hm
        unfold crib_pairs_L2 at hm
        dsimp only at hF hS hm
        refine reg [] [] [0, 5, 6, 9, 10, 13, 14, 15] [pl 0 (.slice A1 l1.length c1), pl 5 (.int .i64 n4), pl 6 (.int .i64 z1), pl 9 (.int .i64 (l1.length : Int)), pl 10 (.int .i64 z1), pl 13 (.int .i64 z1), pl 14 (.int .i64 z2), pl 15 (.bool (decide (z2 < z1)))] hF hS Fol (by kernel_rfl) (by kernel_rfl) (by kernel_rfl) ?_ (fun a w hF hS => ?_)
        · exact obs_nil
        refine seq_cut (fun a w => Fr 33 [pl 0 (.slice A1 l1.length c1), pl 5 (.int .i64 n4), pl 6 (.int .i64 z1), pl 9 (.int .i64 (l1.length : Int)), pl 10 (.int .i64 z1), pl 13 (.int .i64 z1), pl 14 (.int .i64 z2)] a ∧ Sep w0 B w (fs) ∧ ((crib_pairs_J4 l1 z1 n4 z2)).bind φ2 = some r) ?_ ?_
        · rintro a w ⟨hF, hS, hm⟩
          unfold crib_pairs_J4 at hm
          refine seq_cut (fun a w => ∃ (n6 : Int), Fr 33 [pl 0 (.slice A1 l1.length c1), pl 5 (.int .i64 n6), pl 6 (.int .i64 z1), pl 9 (.int .i64 (l1.length : Int)), pl 10 (.int .i64 z1), pl 13 (.int .i64 z1), pl 14 (.int .i64 z2)] a ∧ Sep w0 B w (fs) ∧ ((crib_pairs_J5 z2) n6).bind φ2 = some r) ?_ ?_
          · rintro a w ⟨n6, hF, hS, hm⟩
            unfold crib_pairs_J5 at hm
            refine reg1 [] [] [0, 5, 6, 9, 10, 13, 14] [pl 0 (.slice A1 l1.length c1), pl 5 (.int .i64 n6), pl 6 (.int .i64 z1), pl 9 (.int .i64 (l1.length : Int)), pl 10 (.int .i64 z1), pl 13 (.int .i64 z1), pl 14 (.int .i64 (w64 (z2 + 1)))] hF hS Fol (by kernel_rfl) (by kernel_rfl) (by kernel_rfl) ?_ (fun a w hF hS => ?_)
            · exact obs_nil
            refine then_n ?_
            rw [← hφ2] at hm
            exact ⟨(n6, (w64 (z2 + 1))), ⟨hF.weak [0, 5, 6, 9, 10, 13, 14] (by kernel_rfl), hS⟩, hm⟩
          · refine wp_block ?_
            refine reg [] [] [0, 5, 6, 7, 9, 10, 13, 14] [pl 0 (.slice A1 l1.length c1), pl 5 (.int .i64 n4), pl 6 (.int .i64 z1), pl 7 (.int .i64 z2), pl 9 (.int .i64 (l1.length : Int)), pl 10 (.int .i64 z1), pl 13 (.int .i64 z1), pl 14 (.int .i64 z2)] hF hS Fol (by kernel_rfl) (by kernel_rfl) (by kernel_rfl) ?_ (fun a w hF hS => ?_)
            · exact obs_nil
            obtain ⟨hp1, hm⟩ := asrt_b hm
            obtain ⟨r1, hr1, hm⟩ := call_b hm
            obtain ⟨hp2, hm⟩ := asrt_b hm
            obtain ⟨r2, hr2, hm⟩ := call_b hm
            refine reg [⟨true, [], vS (Instr.indexAt 22 (.slice A1 l1.length c1) (.int .i64 z1)), .pointer (some (sAddr A1 z1))⟩, ⟨false, [], vS (Instr.loadAt 3 (.pointer (some (sAddr A1 z1)))), .int .i64 (geti l1 z1)⟩, ⟨false, [], callFunc 245 #[.int .i64 (geti l1 z1)], .int .i64 r1⟩, ⟨true, [], vS (Instr.indexAt 22 (.slice A1 l1.length c1) (.int .i64 z2)), .pointer (some (sAddr A1 z2))⟩, ⟨false, [], vS (Instr.loadAt 3 (.pointer (some (sAddr A1 z2)))), .int .i64 (geti l1 z2)⟩, ⟨false, [], callFunc 245 #[.int .i64 (geti l1 z2)], .int .i64 r2⟩] [none, none, some (.pointer (some (sAddr A1 z1))), some (.int .i64 (geti l1 z1)), some (.int .i64 r1), none, none, some (.pointer (some (sAddr A1 z2))), some (.int .i64 (geti l1 z2)), some (.int .i64 r2), none] [0, 5, 6, 9, 10, 13, 14, 27] [pl 0 (.slice A1 l1.length c1), pl 5 (.int .i64 n4), pl 6 (.int .i64 z1), pl 9 (.int .i64 (l1.length : Int)), pl 10 (.int .i64 z1), pl 13 (.int .i64 z1), pl 14 (.int .i64 z2), pl 27 (.bool (r1 == r2))] hF hS Fol (by kernel_rfl) (by kernel_rfl) (by kernel_rfl) ?_ (fun a w hF hS => ?_)
            · exact obs_cons (ob_ix1 (f := (Value.int .i64)) (m := l1) Und22 hi3 hs3 (hr_l1 _ (hS.dropN 0)) rfl (fun _ => hp1)) <| obs_cons (ob_get1 (n := l1.length) (m := l1) (Value.int .i64) (0 : Int) Agg3 (fun _ hS => ⟨_, (hr_l1 _ (hS.dropN 0))⟩) (fun _ hS => rfl) (fun _ => hp1)) <| obs_cons (ob_call Try.func245 (by kernel_rfl) rfl (fun _ _ hS => crib_pip_w hr1 hS )) <| obs_cons (ob_ix1 (f := (Value.int .i64)) (m := l1) Und22 hi3 hs3 (hr_l1 _ (hS.dropN 0)) rfl (fun _ => hp2)) <| obs_cons (ob_get1 (n := l1.length) (m := l1) (Value.int .i64) (0 : Int) Agg3 (fun _ hS => ⟨_, (hr_l1 _ (hS.dropN 0))⟩) (fun _ hS => rfl) (fun _ => hp2)) <| obs_cons (ob_call Try.func245 (by kernel_rfl) rfl (fun _ _ hS => crib_pip_w hr2 hS )) <| obs_nil
            refine cond_ev (t := 27) (b := (r1 == r2)) hF (by kernel_rfl) (fun hb => ?_) (fun hb => ?_)
            · replace hm := if_t hm hb
              refine reg1 [] [] [0, 5, 6, 9, 10, 13, 14] [pl 0 (.slice A1 l1.length c1), pl 5 (.int .i64 (w64 (n4 + 2))), pl 6 (.int .i64 z1), pl 9 (.int .i64 (l1.length : Int)), pl 10 (.int .i64 z1), pl 13 (.int .i64 z1), pl 14 (.int .i64 z2)] hF hS Fol (by kernel_rfl) (by kernel_rfl) (by kernel_rfl) ?_ (fun a w hF hS => ?_)
              · exact obs_nil
              refine block_n ?_
              refine then_n ?_
              exact ⟨(w64 (n4 + 2)), hF.weak [0, 5, 6, 9, 10, 13, 14] (by kernel_rfl), hS, hm⟩
            · replace hm := if_f hm hb
              refine wp_skip ?_
              refine block_n ?_
              refine then_n ?_
              exact ⟨n4, hF.weak [0, 5, 6, 9, 10, 13, 14] (by kernel_rfl), hS, hm⟩
        · refine cond_ev (t := 15) (b := decide (z2 < z1)) hF (by kernel_rfl) (fun hb => ?_) (fun hb => ?_)
          · replace hm := if_t hm hb
            refine wp_skip ?_
            refine then_n ?_
            exact ⟨hF.weak [0, 5, 6, 9, 10, 13, 14] (by kernel_rfl), hS, hm⟩
          · replace hm := if_f hm hb
            refine wp_exit ?_
            refine then_e (then_e (block_e (block_n (then_n ?_))))
            rw [← hφ2] at hm
            replace hm := done_b hm
            unfold crib_pairs_K2 at hm
            try dsimp only at hm
            have hm : ((crib_pairs_J3 z1) n4).bind φ1 = some r := hm
            exact ⟨n4, hF.weak [0, 5, 9, 10] (by kernel_rfl), hS, hm⟩
    · refine cond_ev (t := 11) (b := decide (z1 < (l1.length : Int))) hF (by kernel_rfl) (fun hb => ?_) (fun hb => ?_)
      · replace hm := if_t hm hb
        refine wp_skip ?_
        refine then_n ?_
        exact ⟨hF.weak [0, 5, 9, 10] (by kernel_rfl), hS, hm⟩
      · replace hm := if_f hm hb
        refine wp_exit ?_
        refine then_e (then_e (block_e (then_n ?_)))
        rw [← hφ1] at hm
        replace hm := done_b hm
        unfold crib_pairs_K1 at hm
        try dsimp only at hm
        have hm : (crib_pairs_J1 n2).bind some = some r := hm
        exact ⟨n2, hF.weak [5] (by kernel_rfl), hS, hm⟩

noncomputable def crib_runs_J3 (z1 : Int) (many3 : List Int) : Option (St (List Int × Int) (List Int)) :=
  some (.next (many3, (w64 (z1 + 1))))

noncomputable def crib_runs_J2 (l1 : List Int) (many1 : List Int) (z1 : Int) : Option (St (List Int × Int) (List Int)) :=
  asrt (0 ≤ z1 ∧ z1 < (l1.length : Int)) <| (crib_pip_m (geti l1 z1)).bind fun r1 => asrt (0 ≤ r1 ∧ r1 < 15) <| asrt (0 ≤ r1 ∧ r1 < 15) <| asrt (r1 < (many1.length : Int)) <| (crib_runs_J3 z1) (many1.set (Int.toNat r1) (w64 ((geti many1 r1) + 1)))

noncomputable def crib_runs_J8 (many2 : List Int) (p1 : Int) (k1 : Int) (ways1 : Int) : Option (St (Int × Int) (Int × Int)) :=
  asrt (0 ≤ (w64 (p1 + k1)) ∧ (w64 (p1 + k1)) < 15) <| some (.next ((w64 (k1 + 1)), (w64 (ways1 * (geti many2 (w64 (p1 + k1)))))))

noncomputable def crib_runs_L3 (many2 : List Int) (p1 : Int) : (Int × Int) → Option (St (Int × Int) (Int × Int)) :=
  fun (x : (Int × Int)) => match x with | (k1, ways1) => asrt (0 ≤ (minI (w64 (p1 + k1)) 14) ∧ (minI (w64 (p1 + k1)) 14) < 15) <| if (decide ((0 : Int) < (geti many2 (minI (w64 (p1 + k1)) 14)))) then ((crib_runs_J8 many2 p1 k1 ways1)) else (some (.done (k1, ways1)))

noncomputable def crib_runs_J6 (p1 : Int) (best3 : Int) (long2 : Int) : Option (St (Int × Int × Int) Int) :=
  some (.next (best3, long2, (w64 (p1 + 1))))

noncomputable def crib_runs_J7 (best1 : Int) (long1 : Int) (p1 : Int) (k2 : Int) (ways2 : Int) : Option (St (Int × Int × Int) Int) :=
  if ((decide ((3 : Int) ≤ k2)) && (decide (long1 < k2))) then ((crib_runs_J6 p1) (w64 (k2 * ways2)) k2) else ((crib_runs_J6 p1) best1 long1)

noncomputable def crib_runs_K3 (best1 : Int) (long1 : Int) (p1 : Int) : (Int × Int) → Option (St (Int × Int × Int) Int) :=
  fun (x : (Int × Int)) => match x with | (k2, ways2) => (crib_runs_J7 best1 long1 p1) k2 ways2

noncomputable def crib_runs_J5 (many2 : List Int) (best1 : Int) (long1 : Int) (p1 : Int) : Option (St (Int × Int × Int) Int) :=
  (loop (crib_runs_L3 many2 p1) (0, 1)).bind (crib_runs_K3 best1 long1 p1)

noncomputable def crib_runs_L2 (many2 : List Int) : (Int × Int × Int) → Option (St (Int × Int × Int) Int) :=
  fun (x : (Int × Int × Int)) => match x with | (best1, long1, p1) => if (decide (p1 < 15)) then ((crib_runs_J5 many2 best1 long1 p1)) else (some (.done best1))

noncomputable def crib_runs_J4 (best2 : Int) : Option Int :=
  some best2

noncomputable def crib_runs_K2 : Int → Option Int :=
  fun (x : Int) => match x with | best2 => crib_runs_J4 best2

noncomputable def crib_runs_J1 (many2 : List Int) : Option Int :=
  (loop (crib_runs_L2 many2) (0, 0, 1)).bind crib_runs_K2

noncomputable def crib_runs_K1 : (List Int) → Option Int :=
  fun (x : (List Int)) => match x with | many2 => crib_runs_J1 many2

noncomputable def crib_runs_L1 (l1 : List Int) : (List Int × Int) → Option (St (List Int × Int) (List Int)) :=
  fun (x : (List Int × Int)) => match x with | (many1, z1) => if (decide (z1 < (l1.length : Int))) then ((crib_runs_J2 l1 many1 z1)) else (some (.done many1))

noncomputable def crib_runs_m (l1 : List Int) (p11 : Bool) : Option Int :=
  (loop (crib_runs_L1 l1) ((List.replicate 15 (0 : Int)), 0)).bind crib_runs_K1

set_option maxRecDepth 100000 in
set_option maxHeartbeats 4000000 in
theorem crib_runs_w {A1 : Option Addr} {c1 : Nat} {n1 : Nat} {l1 : List Int} {p11 : Bool} {r : Int} {w0 w : World} {B : Nat} {fs : List HP} (hm : crib_runs_m l1 p11 = some r) (hS : Sep w0 B w (fs)) (hr_l1 : RdF w0 B fs A1 (vI l1)) (_hc_l1 : l1.length ≤ c1) (_hn_l1 : n1 = l1.length) :
    Calls Try.prog 215 #[.slice A1 n1 c1, .bool p11] w fun e w' => e = .returned (.int .i64 r) ∧ Sep w0 B w' (fs) := by
  obtain ⟨i3, hi3, hz3, hs3, hb3⟩ := info_parts Info3
  obtain rfl := _hn_l1
  unfold crib_runs_m at hm
  replace hm := start_b hm
  refine enter (l := [.slice A1 l1.length c1, .bool p11]) (n := 58) Try.func215 rfl rfl (by simp) (fun a hF => ?_)
  refine reg [] [] [0] [pl 0 (.slice A1 l1.length c1)] hF hS Fol (by kernel_rfl) (by kernel_rfl) (by kernel_rfl) ?_ (fun a w hF hS => ?_)
  · exact obs_nil
  refine seqR ?_
  refine at_do (d := 5) (s := vS (Instr.alloc 251 true (.tuple #[]))) (v := .pointer (some ⟨w.heap.size, 0, none⟩)) (w' := w.alloc (.cells (List.toArray (([] : List Value) ++ (arr1 (Value.int .i64) (0 : Int) 15 (List.replicate 15 (0 : Int)) ++ ([] : List Value)))) 251)) hF (by kernel_rfl) (by kernel_rfl) (by kernel_rfl) (fun a hF => ?_)
  have hS : Sep w0 B (w.alloc (.cells (List.toArray (([] : List Value) ++ (arr1 (Value.int .i64) (0 : Int) 15 (List.replicate 15 (0 : Int)) ++ ([] : List Value)))) 251)) (blk w.heap.size 251 (List.toArray (([] : List Value) ++ (arr1 (Value.int .i64) (0 : Int) 15 (List.replicate 15 (0 : Int)) ++ ([] : List Value)))) :: (fs)) := hS.box 251 (List.toArray (([] : List Value) ++ (arr1 (Value.int .i64) (0 : Int) 15 (List.replicate 15 (0 : Int)) ++ ([] : List Value))))
  generalize w.heap.size = g1 at hF hS
  generalize w.alloc (.cells (List.toArray (([] : List Value) ++ (arr1 (Value.int .i64) (0 : Int) 15 (List.replicate 15 (0 : Int)) ++ ([] : List Value)))) 251) = w at hS ⊢
  refine at_end [0, 5] [pl 0 (.slice A1 l1.length c1), pl 5 (.pointer (some ⟨g1, 0, none⟩))] hF rfl (by kernel_rfl) (fun hF => ?_)
  refine then_n ?_
  refine seq_cut (fun a w => ∃ (many2 : List Int), Fr 58 [pl 5 (.pointer (some ⟨g1, 0, none⟩))] a ∧ Sep w0 B w (blk g1 251 (List.toArray (([] : List Value) ++ (arr1 (Value.int .i64) (0 : Int) 15 many2 ++ ([] : List Value)))) :: fs) ∧ (crib_runs_J1 many2).bind some = some r) ?_ ?_
  · rintro a w ⟨many2, hF, hS, hm⟩
    unfold crib_runs_J1 at hm
    refine reg [] [] [5, 8] [pl 5 (.pointer (some ⟨g1, 0, none⟩)), pl 8 (.int .i64 0)] hF hS Fol (by kernel_rfl) (by kernel_rfl) (by kernel_rfl) ?_ (fun a w hF hS => ?_)
    · exact obs_nil
    refine reg [] [] [5, 8, 9] [pl 5 (.pointer (some ⟨g1, 0, none⟩)), pl 8 (.int .i64 0), pl 9 (.int .i64 0)] hF hS Fol (by kernel_rfl) (by kernel_rfl) (by kernel_rfl) ?_ (fun a w hF hS => ?_)
    · exact obs_nil
    refine seq_cut (fun a w => ∃ (best2 : Int), Fr 58 [pl 8 (.int .i64 best2)] a ∧ Sep w0 B w (fs) ∧ (crib_runs_J4 best2).bind some = some r) ?_ ?_
    · rintro a w ⟨best2, hF, hS, hm⟩
      unfold crib_runs_J4 at hm
      refine reg [] [] [4] [pl 4 (.int .i64 best2)] hF hS Fol (by kernel_rfl) (by kernel_rfl) (by kernel_rfl) ?_ (fun a w hF hS => ?_)
      · exact obs_nil
      refine wp_ret ?_
      have hm : some best2 = some r := hm
      obtain rfl := Option.some.inj hm
      exact retV (rs := [.tmp 4]) (vs := [.int .i64 best2]) hF rfl (rv_t (by kernel_rfl) <| rv_nil) rfl ⟨rfl, hS⟩
    · refine reg [] [] [5, 8, 9, 10] [pl 5 (.pointer (some ⟨g1, 0, none⟩)), pl 8 (.int .i64 0), pl 9 (.int .i64 0), pl 10 (.int .i64 1)] hF hS Fol (by kernel_rfl) (by kernel_rfl) (by kernel_rfl) ?_ (fun a w hF hS => ?_)
      · exact obs_nil
      refine wp_block ?_
      refine wp_loop_model (S := (Int × Int × Int)) (R := Int) (crib_runs_L2 many2) (fun x => (crib_runs_K2 x).bind some) r (fun (x : (Int × Int × Int)) a w => Fr 58 [pl 5 (.pointer (some ⟨g1, 0, none⟩)), pl 8 (.int .i64 x.1), pl 9 (.int .i64 x.2.1), pl 10 (.int .i64 x.2.2)] a ∧ Sep w0 B w (blk g1 251 (List.toArray (([] : List Value) ++ (arr1 (Value.int .i64) (0 : Int) 15 many2 ++ ([] : List Value)))) :: fs)) (assoc_b hm) ⟨hF.weak [5, 8, 9, 10] (by kernel_rfl), hS⟩ ?_
      clear hF hS hm
      rintro nn2 ⟨best1, long1, p1⟩ a w ⟨hF, hS⟩ hm
      generalize hφ2 : stK (crib_runs_L2 many2) nn2 (fun x => (crib_runs_K2 x).bind some) = φ2 at hm
      unfold crib_runs_L2 at hm
      dsimp only at hF hS hm
      refine seq_cut (fun a w => Fr 58 [pl 5 (.pointer (some ⟨g1, 0, none⟩)), pl 8 (.int .i64 best1), pl 9 (.int .i64 long1), pl 10 (.int .i64 p1)] a ∧ Sep w0 B w (blk g1 251 (List.toArray (([] : List Value) ++ (arr1 (Value.int .i64) (0 : Int) 15 many2 ++ ([] : List Value)))) :: fs) ∧ ((crib_runs_J5 many2 best1 long1 p1)).bind φ2 = some r) ?_ ?_
      · rintro a w ⟨hF, hS, hm⟩
        unfold crib_runs_J5 at hm
        refine seq_cut (fun a w => ∃ (best3 : Int) (long2 : Int), Fr 58 [pl 5 (.pointer (some ⟨g1, 0, none⟩)), pl 8 (.int .i64 best3), pl 9 (.int .i64 long2), pl 10 (.int .i64 p1)] a ∧ Sep w0 B w (blk g1 251 (List.toArray (([] : List Value) ++ (arr1 (Value.int .i64) (0 : Int) 15 many2 ++ ([] : List Value)))) :: fs) ∧ ((crib_runs_J6 p1) best3 long2).bind φ2 = some r) ?_ ?_
        · rintro a w ⟨best3, long2, hF, hS, hm⟩
          unfold crib_runs_J6 at hm
          refine reg1 [] [] [5, 8, 9, 10] [pl 5 (.pointer (some ⟨g1, 0, none⟩)), pl 8 (.int .i64 best3), pl 9 (.int .i64 long2), pl 10 (.int .i64 (w64 (p1 + 1)))] hF hS Fol (by kernel_rfl) (by kernel_rfl) (by kernel_rfl) ?_ (fun a w hF hS => ?_)
          · exact obs_nil
          refine then_n ?_
          rw [← hφ2] at hm
          exact ⟨(best3, long2, (w64 (p1 + 1))), ⟨hF.weak [5, 8, 9, 10] (by kernel_rfl), hS⟩, hm⟩
        · refine wp_block ?_
          refine reg [] [] [5, 8, 9, 10, 11, 12] [pl 5 (.pointer (some ⟨g1, 0, none⟩)), pl 8 (.int .i64 best1), pl 9 (.int .i64 long1), pl 10 (.int .i64 p1), pl 11 (.int .i64 0), pl 12 (.int .i64 1)] hF hS Fol (by kernel_rfl) (by kernel_rfl) (by kernel_rfl) ?_ (fun a w hF hS => ?_)
          · exact obs_nil
          refine seq_cut (fun a w => ∃ (k2 : Int) (ways2 : Int), Fr 58 [pl 5 (.pointer (some ⟨g1, 0, none⟩)), pl 8 (.int .i64 best1), pl 9 (.int .i64 long1), pl 10 (.int .i64 p1), pl 11 (.int .i64 k2), pl 12 (.int .i64 ways2)] a ∧ Sep w0 B w (blk g1 251 (List.toArray (([] : List Value) ++ (arr1 (Value.int .i64) (0 : Int) 15 many2 ++ ([] : List Value)))) :: fs) ∧ ((crib_runs_J7 best1 long1 p1) k2 ways2).bind φ2 = some r) ?_ ?_
          · rintro a w ⟨k2, ways2, hF, hS, hm⟩
            unfold crib_runs_J7 at hm
            refine reg [] [] [5, 8, 9, 10, 11, 12, 52] [pl 5 (.pointer (some ⟨g1, 0, none⟩)), pl 8 (.int .i64 best1), pl 9 (.int .i64 long1), pl 10 (.int .i64 p1), pl 11 (.int .i64 k2), pl 12 (.int .i64 ways2), pl 52 (.bool ((decide ((3 : Int) ≤ k2)) && (decide (long1 < k2))))] hF hS Fol (by kernel_rfl) (by kernel_rfl) (by kernel_rfl) ?_ (fun a w hF hS => ?_)
            · exact obs_nil
            refine cond_ev (t := 52) (b := (decide ((3 : Int) ≤ k2)) && (decide (long1 < k2))) hF (by kernel_rfl) (fun hb => ?_) (fun hb => ?_)
            · replace hm := if_t hm hb
              refine reg1 [] [] [5, 8, 9, 10] [pl 5 (.pointer (some ⟨g1, 0, none⟩)), pl 8 (.int .i64 (w64 (k2 * ways2))), pl 9 (.int .i64 k2), pl 10 (.int .i64 p1)] hF hS Fol (by kernel_rfl) (by kernel_rfl) (by kernel_rfl) ?_ (fun a w hF hS => ?_)
              · exact obs_nil
              refine block_n ?_
              refine then_n ?_
              exact ⟨(w64 (k2 * ways2)), k2, hF.weak [5, 8, 9, 10] (by kernel_rfl), hS, hm⟩
            · replace hm := if_f hm hb
              refine wp_skip ?_
              refine block_n ?_
              refine then_n ?_
              exact ⟨best1, long1, hF.weak [5, 8, 9, 10] (by kernel_rfl), hS, hm⟩
          · refine wp_block ?_
            refine wp_loop_model (S := (Int × Int)) (R := (Int × Int)) (crib_runs_L3 many2 p1) (fun x => ((crib_runs_K3 best1 long1 p1) x).bind φ2) r (fun (x : (Int × Int)) a w => Fr 58 [pl 5 (.pointer (some ⟨g1, 0, none⟩)), pl 8 (.int .i64 best1), pl 9 (.int .i64 long1), pl 10 (.int .i64 p1), pl 11 (.int .i64 x.1), pl 12 (.int .i64 x.2)] a ∧ Sep w0 B w (blk g1 251 (List.toArray (([] : List Value) ++ (arr1 (Value.int .i64) (0 : Int) 15 many2 ++ ([] : List Value)))) :: fs)) (assoc_b hm) ⟨hF.weak [5, 8, 9, 10, 11, 12] (by kernel_rfl), hS⟩ ?_
            clear hF hS hm
            rintro nn3 ⟨k1, ways1⟩ a w ⟨hF, hS⟩ hm
            generalize hφ3 : stK (crib_runs_L3 many2 p1) nn3 (fun x => ((crib_runs_K3 best1 long1 p1) x).bind φ2) = φ3 at hm
            unfold crib_runs_L3 at hm
            dsimp only at hF hS hm
            refine seq_cut (fun a w => Fr 58 [pl 5 (.pointer (some ⟨g1, 0, none⟩)), pl 8 (.int .i64 best1), pl 9 (.int .i64 long1), pl 10 (.int .i64 p1), pl 11 (.int .i64 k1), pl 12 (.int .i64 ways1)] a ∧ Sep w0 B w (blk g1 251 (List.toArray (([] : List Value) ++ (arr1 (Value.int .i64) (0 : Int) 15 many2 ++ ([] : List Value)))) :: fs) ∧ ((crib_runs_J8 many2 p1 k1 ways1)).bind φ3 = some r) ?_ ?_
            · rintro a w ⟨hF, hS, hm⟩
              unfold crib_runs_J8 at hm
              refine wp_block ?_
              obtain ⟨hp6, hm⟩ := asrt_b hm
              refine reg [⟨true, [], vS (Instr.indexAt 251 (.pointer (some ⟨g1, 0, none⟩)) (.int .i64 (w64 (p1 + k1)))), .pointer (some ((⟨g1, 0, none⟩ : Addr).add (Int.toNat (w64 (p1 + k1)) * 1)))⟩, ⟨false, [], vS (Instr.loadAt 3 (.pointer (some ((⟨g1, 0, none⟩ : Addr).add (Int.toNat (w64 (p1 + k1)) * 1))))), .int .i64 (geti many2 (w64 (p1 + k1)))⟩] [none, none, none, none, some (.pointer (some ((⟨g1, 0, none⟩ : Addr).add (Int.toNat (w64 (p1 + k1)) * 1)))), some (.int .i64 (geti many2 (w64 (p1 + k1)))), none, none] [5, 8, 9, 10, 11, 12] [pl 5 (.pointer (some ⟨g1, 0, none⟩)), pl 8 (.int .i64 best1), pl 9 (.int .i64 long1), pl 10 (.int .i64 p1), pl 11 (.int .i64 k1), pl 12 (.int .i64 (w64 (ways1 * (geti many2 (w64 (p1 + k1))))))] hF hS Fol (by kernel_rfl) (by kernel_rfl) (by kernel_rfl) ?_ (fun a w hF hS => ?_)
              · exact obs_cons (ob_ixA UndA251 hi3 hs3 (fun _ => hp6)) <| obs_cons (ob_getA (m := many2) (Value.int .i64) (0 : Int) 15 ([] : List Value) ([] : List Value) (w64 (p1 + k1)) Agg3 rfl (fun _ hS => ⟨_, _, _, _, _, hS.at_ 0 rfl⟩) (fun hy => by have h0 := hp6; omega)) <| obs_nil
              refine reg1 [] [] [5, 8, 9, 10, 11, 12] [pl 5 (.pointer (some ⟨g1, 0, none⟩)), pl 8 (.int .i64 best1), pl 9 (.int .i64 long1), pl 10 (.int .i64 p1), pl 11 (.int .i64 (w64 (k1 + 1))), pl 12 (.int .i64 (w64 (ways1 * (geti many2 (w64 (p1 + k1))))))] hF hS Fol (by kernel_rfl) (by kernel_rfl) (by kernel_rfl) ?_ (fun a w hF hS => ?_)
              · exact obs_nil
              refine block_n ?_
              refine then_n ?_
              rw [← hφ3] at hm
              exact ⟨((w64 (k1 + 1)), (w64 (ways1 * (geti many2 (w64 (p1 + k1)))))), ⟨hF.weak [5, 8, 9, 10, 11, 12] (by kernel_rfl), hS⟩, hm⟩
            · obtain ⟨hp5, hm⟩ := asrt_b hm
              refine reg [⟨true, [], vS (Builtin.min_ #[3, 3] 3 #[.int .i64 (w64 (p1 + k1)), .int .i64 14]), .int .i64 (minI (w64 (p1 + k1)) 14)⟩, ⟨true, [], vS (Instr.indexAt 251 (.pointer (some ⟨g1, 0, none⟩)) (.int .i64 (minI (w64 (p1 + k1)) 14))), .pointer (some ((⟨g1, 0, none⟩ : Addr).add (Int.toNat (minI (w64 (p1 + k1)) 14) * 1)))⟩, ⟨false, [], vS (Instr.loadAt 3 (.pointer (some ((⟨g1, 0, none⟩ : Addr).add (Int.toNat (minI (w64 (p1 + k1)) 14) * 1))))), .int .i64 (geti many2 (minI (w64 (p1 + k1)) 14))⟩] [none, none, none, some (.int .i64 (minI (w64 (p1 + k1)) 14)), some (.pointer (some ((⟨g1, 0, none⟩ : Addr).add (Int.toNat (minI (w64 (p1 + k1)) 14) * 1)))), some (.int .i64 (geti many2 (minI (w64 (p1 + k1)) 14))), none] [5, 8, 9, 10, 11, 12, 36] [pl 5 (.pointer (some ⟨g1, 0, none⟩)), pl 8 (.int .i64 best1), pl 9 (.int .i64 long1), pl 10 (.int .i64 p1), pl 11 (.int .i64 k1), pl 12 (.int .i64 ways1), pl 36 (.bool (decide ((0 : Int) < (geti many2 (minI (w64 (p1 + k1)) 14)))))] hF hS Fol (by kernel_rfl) (by kernel_rfl) (by kernel_rfl) ?_ (fun a w hF hS => ?_)
              · exact obs_cons (ob_min rfl) <| obs_cons (ob_ixA UndA251 hi3 hs3 (fun _ => hp5)) <| obs_cons (ob_getA (m := many2) (Value.int .i64) (0 : Int) 15 ([] : List Value) ([] : List Value) (minI (w64 (p1 + k1)) 14) Agg3 rfl (fun _ hS => ⟨_, _, _, _, _, hS.at_ 0 rfl⟩) (fun hy => by have h0 := hp5; omega)) <| obs_nil
              refine cond_ev (t := 36) (b := decide ((0 : Int) < (geti many2 (minI (w64 (p1 + k1)) 14)))) hF (by kernel_rfl) (fun hb => ?_) (fun hb => ?_)
              · replace hm := if_t hm hb
                refine wp_skip ?_
                refine then_n ?_
                exact ⟨hF.weak [5, 8, 9, 10, 11, 12] (by kernel_rfl), hS, hm⟩
              · replace hm := if_f hm hb
                refine wp_exit ?_
                refine then_e (then_e (block_e (then_n ?_)))
                rw [← hφ3] at hm
                replace hm := done_b hm
                unfold crib_runs_K3 at hm
                try dsimp only at hm
                have hm : ((crib_runs_J7 best1 long1 p1) k1 ways1).bind φ2 = some r := hm
                exact ⟨k1, ways1, hF.weak [5, 8, 9, 10, 11, 12] (by kernel_rfl), hS, hm⟩
      · refine reg [] [] [5, 8, 9, 10, 27] [pl 5 (.pointer (some ⟨g1, 0, none⟩)), pl 8 (.int .i64 best1), pl 9 (.int .i64 long1), pl 10 (.int .i64 p1), pl 27 (.bool (decide (p1 < 15)))] hF hS Fol (by kernel_rfl) (by kernel_rfl) (by kernel_rfl) ?_ (fun a w hF hS => ?_)
        · exact obs_nil
        refine cond_ev (t := 27) (b := decide (p1 < 15)) hF (by kernel_rfl) (fun hb => ?_) (fun hb => ?_)
        · replace hm := if_t hm hb
          refine wp_skip ?_
          refine then_n ?_
          exact ⟨hF.weak [5, 8, 9, 10] (by kernel_rfl), hS, hm⟩
        · replace hm := if_f hm hb
          refine wp_exit ?_
          refine then_e (then_e (block_e (then_n ?_)))
          have hS := hS.pickN 1 [] (by decide)
          rw [← hφ2] at hm
          replace hm := done_b hm
          unfold crib_runs_K2 at hm
          try dsimp only at hm
          have hm : (crib_runs_J4 best1).bind some = some r := hm
          exact ⟨best1, hF.weak [8] (by kernel_rfl), hS, hm⟩
  · refine reg [] [] [5, 13, 14, 15] [pl 5 (.pointer (some ⟨g1, 0, none⟩)), pl 13 (.slice A1 l1.length c1), pl 14 (.int .i64 (l1.length : Int)), pl 15 (.int .i64 0)] hF hS Fol (by kernel_rfl) (by kernel_rfl) (by kernel_rfl) ?_ (fun a w hF hS => ?_)
    · exact obs_nil
    refine wp_block ?_
    refine wp_loop_model (S := (List Int × Int)) (R := (List Int)) (crib_runs_L1 l1) (fun x => (crib_runs_K1 x).bind some) r (fun (x : (List Int × Int)) a w => Fr 58 [pl 5 (.pointer (some ⟨g1, 0, none⟩)), pl 13 (.slice A1 l1.length c1), pl 14 (.int .i64 (l1.length : Int)), pl 15 (.int .i64 x.2)] a ∧ Sep w0 B w (blk g1 251 (List.toArray (([] : List Value) ++ (arr1 (Value.int .i64) (0 : Int) 15 x.1 ++ ([] : List Value)))) :: fs)) (assoc_b hm) ⟨hF.weak [5, 13, 14, 15] (by kernel_rfl), hS⟩ ?_
    clear hF hS hm
    rintro nn1 ⟨many1, z1⟩ a w ⟨hF, hS⟩ hm
    generalize hφ1 : stK (crib_runs_L1 l1) nn1 (fun x => (crib_runs_K1 x).bind some) = φ1 at hm
    unfold crib_runs_L1 at hm
    dsimp only at hF hS hm
    refine reg [] [] [5, 13, 14, 15, 16] [pl 5 (.pointer (some ⟨g1, 0, none⟩)), pl 13 (.slice A1 l1.length c1), pl 14 (.int .i64 (l1.length : Int)), pl 15 (.int .i64 z1), pl 16 (.bool (decide (z1 < (l1.length : Int))))] hF hS Fol (by kernel_rfl) (by kernel_rfl) (by kernel_rfl) ?_ (fun a w hF hS => ?_)
    · exact obs_nil
    refine seq_cut (fun a w => Fr 58 [pl 5 (.pointer (some ⟨g1, 0, none⟩)), pl 13 (.slice A1 l1.length c1), pl 14 (.int .i64 (l1.length : Int)), pl 15 (.int .i64 z1)] a ∧ Sep w0 B w (blk g1 251 (List.toArray (([] : List Value) ++ (arr1 (Value.int .i64) (0 : Int) 15 many1 ++ ([] : List Value)))) :: fs) ∧ ((crib_runs_J2 l1 many1 z1)).bind φ1 = some r) ?_ ?_
    · rintro a w ⟨hF, hS, hm⟩
      unfold crib_runs_J2 at hm
      refine seq_cut (fun a w => ∃ (many3 : List Int), Fr 58 [pl 5 (.pointer (some ⟨g1, 0, none⟩)), pl 13 (.slice A1 l1.length c1), pl 14 (.int .i64 (l1.length : Int)), pl 15 (.int .i64 z1)] a ∧ Sep w0 B w (blk g1 251 (List.toArray (([] : List Value) ++ (arr1 (Value.int .i64) (0 : Int) 15 many3 ++ ([] : List Value)))) :: fs) ∧ ((crib_runs_J3 z1) many3).bind φ1 = some r) ?_ ?_
      · rintro a w ⟨many3, hF, hS, hm⟩
        unfold crib_runs_J3 at hm
        refine reg1 [] [] [5, 13, 14, 15] [pl 5 (.pointer (some ⟨g1, 0, none⟩)), pl 13 (.slice A1 l1.length c1), pl 14 (.int .i64 (l1.length : Int)), pl 15 (.int .i64 (w64 (z1 + 1)))] hF hS Fol (by kernel_rfl) (by kernel_rfl) (by kernel_rfl) ?_ (fun a w hF hS => ?_)
        · exact obs_nil
        refine then_n ?_
        rw [← hφ1] at hm
        exact ⟨(many3, (w64 (z1 + 1))), ⟨hF.weak [5, 13, 14, 15] (by kernel_rfl), hS⟩, hm⟩
      · refine wp_block ?_
        obtain ⟨hp1, hm⟩ := asrt_b hm
        refine reg [⟨true, [], vS (Instr.indexAt 22 (.slice A1 l1.length c1) (.int .i64 z1)), .pointer (some (sAddr A1 z1))⟩, ⟨false, [], vS (Instr.loadAt 3 (.pointer (some (sAddr A1 z1)))), .int .i64 (geti l1 z1)⟩] [some (.pointer (some (sAddr A1 z1))), some (.int .i64 (geti l1 z1)), none] [5, 7, 13, 14, 15] [pl 5 (.pointer (some ⟨g1, 0, none⟩)), pl 7 (.int .i64 (geti l1 z1)), pl 13 (.slice A1 l1.length c1), pl 14 (.int .i64 (l1.length : Int)), pl 15 (.int .i64 z1)] hF hS Fol (by kernel_rfl) (by kernel_rfl) (by kernel_rfl) ?_ (fun a w hF hS => ?_)
        · exact obs_cons (ob_ix1 (f := (Value.int .i64)) (m := l1) Und22 hi3 hs3 (hr_l1 _ (hS.dropN 1)) rfl (fun _ => hp1)) <| obs_cons (ob_get1 (n := l1.length) (m := l1) (Value.int .i64) (0 : Int) Agg3 (fun _ hS => ⟨_, (hr_l1 _ (hS.dropN 1))⟩) (fun _ hS => rfl) (fun _ => hp1)) <| obs_nil
        refine oneR ?_
        obtain ⟨r1, hr1, hm⟩ := call_b hm
        obtain ⟨hp2, hm⟩ := asrt_b hm
        obtain ⟨hp3, hm⟩ := asrt_b hm
        obtain ⟨hp4, hm⟩ := asrt_b hm
        refine at_run 6 [⟨false, [], callFunc 245 #[.int .i64 (geti l1 z1)], .int .i64 r1⟩, ⟨true, [], vS (Instr.indexAt 251 (.pointer (some ⟨g1, 0, none⟩)) (.int .i64 r1)), .pointer (some ((⟨g1, 0, none⟩ : Addr).add (Int.toNat r1 * 1)))⟩, ⟨false, [], vS (Instr.loadAt 3 (.pointer (some ((⟨g1, 0, none⟩ : Addr).add (Int.toNat r1 * 1))))), .int .i64 (geti many1 r1)⟩, ⟨true, [], vS (Instr.indexAt 251 (.pointer (some ⟨g1, 0, none⟩)) (.int .i64 r1)), .pointer (some ((⟨g1, 0, none⟩ : Addr).add (Int.toNat r1 * 1)))⟩] [none, some (.int .i64 r1), some (.pointer (some ((⟨g1, 0, none⟩ : Addr).add (Int.toNat r1 * 1)))), some (.int .i64 (geti many1 r1)), none, some (.pointer (some ((⟨g1, 0, none⟩ : Addr).add (Int.toNat r1 * 1))))] [5, 13, 14, 15, 23, 24] [pl 5 (.pointer (some ⟨g1, 0, none⟩)), pl 13 (.slice A1 l1.length c1), pl 14 (.int .i64 (l1.length : Int)), pl 15 (.int .i64 z1), pl 23 (.int .i64 (w64 ((geti many1 r1) + 1))), pl 24 (.pointer (some ((⟨g1, 0, none⟩ : Addr).add (Int.toNat r1 * 1))))] hF hS (by kernel_rfl) (by kernel_rfl) ?_ (fun a w hF hS => ?_)
        · exact obs_cons (ob_call Try.func245 (by kernel_rfl) rfl (fun _ _ hS => crib_pip_w hr1 hS )) <| obs_cons (ob_ixA UndA251 hi3 hs3 (fun _ => hp2)) <| obs_cons (ob_getA (m := many1) (Value.int .i64) (0 : Int) 15 ([] : List Value) ([] : List Value) r1 Agg3 rfl (fun _ hS => ⟨_, _, _, _, _, hS.at_ 0 rfl⟩) (fun hy => by have h0 := hp2; omega)) <| obs_cons (ob_ixA UndA251 hi3 hs3 (fun _ => hp3)) <| obs_nil
        obtain ⟨w, hrun, hS⟩ := run_setA (P := Try.prog) (t := 3) (x := (w64 ((geti many1 r1) + 1))) (i := r1) (m := many1) (d := Int.toNat r1 * 1) (Value.int .i64) (0 : Int) 15 ([] : List Value) ([] : List Value) (hS.at_ 0 rfl) rfl hi3 hs3 rfl (by have h0 := hp3; omega) (by have h0 := hp3; have h9 := hp4; omega)
        refine at_skip hF (by kernel_rfl) hrun ?_
        have hS : Sep w0 B w (blk g1 251 (List.toArray (([] : List Value) ++ (arr1 (Value.int .i64) (0 : Int) 15 (many1.set (Int.toNat r1) (w64 ((geti many1 r1) + 1))) ++ ([] : List Value)))) :: fs) := hS
        refine at_end [5, 13, 14, 15] [pl 5 (.pointer (some ⟨g1, 0, none⟩)), pl 13 (.slice A1 l1.length c1), pl 14 (.int .i64 (l1.length : Int)), pl 15 (.int .i64 z1)] hF rfl (by kernel_rfl) (fun hF => ?_)
        refine block_n ?_
        refine then_n ?_
        exact ⟨(many1.set (Int.toNat r1) (w64 ((geti many1 r1) + 1))), hF.weak [5, 13, 14, 15] (by kernel_rfl), hS, hm⟩
    · refine cond_ev (t := 16) (b := decide (z1 < (l1.length : Int))) hF (by kernel_rfl) (fun hb => ?_) (fun hb => ?_)
      · replace hm := if_t hm hb
        refine wp_skip ?_
        refine then_n ?_
        exact ⟨hF.weak [5, 13, 14, 15] (by kernel_rfl), hS, hm⟩
      · replace hm := if_f hm hb
        refine wp_exit ?_
        refine then_e (then_e (block_e (then_n ?_)))
        rw [← hφ1] at hm
        replace hm := done_b hm
        unfold crib_runs_K1 at hm
        try dsimp only at hm
        have hm : (crib_runs_J1 many1).bind some = some r := hm
        exact ⟨many1, hF.weak [5] (by kernel_rfl), hS, hm⟩

noncomputable def crib_flush_J3 (z1 : Int) : Option (St Int (Fl Unit Int)) :=
  some (.next (w64 (z1 + 1)))

noncomputable def crib_flush_J2 (l1 : List Int) (z1 : Int) : Option (St Int (Fl Unit Int)) :=
  asrt (0 ≤ z1 ∧ z1 < (((cut l1 (1 : Int) (4 : Int)).length : Nat) : Int)) <| if ((Int.tmod (geti (cut l1 (1 : Int) (4 : Int)) z1) 4) != (Int.tmod (geti l1 0) 4)) then (some (.done (.ret 0))) else ((crib_flush_J3 z1))

noncomputable def crib_flush_J4 : Option Int :=
  some 4

noncomputable def crib_flush_J1 (l1 : List Int) (crib1 : Bool) : Option Int :=
  asrt (0 ≤ (4 : Int) ∧ (4 : Int) < (l1.length : Int)) <| if ((Int.tmod (geti l1 4) 4) == (Int.tmod (geti l1 0) 4)) then (some 5) else (if crib1 then (some 0) else (crib_flush_J4))

noncomputable def crib_flush_K1 (l1 : List Int) (crib1 : Bool) : (Fl Unit Int) → Option Int :=
  fun (x : (Fl Unit Int)) => match x with | .go _ => (crib_flush_J1 l1 crib1) | .ret x => some x

noncomputable def crib_flush_L1 (l1 : List Int) : Int → Option (St Int (Fl Unit Int)) :=
  fun (x : Int) => match x with | z1 => if (decide (z1 < (((cut l1 (1 : Int) (4 : Int)).length : Nat) : Int))) then ((crib_flush_J2 l1 z1)) else (some (.done (.go ())))

noncomputable def crib_flush_m (l1 : List Int) (crib1 : Bool) : Option Int :=
  asrt (0 ≤ (0 : Int) ∧ (0 : Int) < (l1.length : Int)) <| asrt (0 ≤ (1 : Int) ∧ (1 : Int) ≤ (4 : Int) ∧ (4 : Int) ≤ (l1.length : Int)) <| (loop (crib_flush_L1 l1) 0).bind (crib_flush_K1 l1 crib1)

set_option maxRecDepth 100000 in
set_option maxHeartbeats 4000000 in
theorem crib_flush_w {A1 : Option Addr} {c1 : Nat} {n1 : Nat} {l1 : List Int} {crib1 : Bool} {r : Int} {w0 w : World} {B : Nat} {fs : List HP} (hm : crib_flush_m l1 crib1 = some r) (hS : Sep w0 B w (fs)) (hr_l1 : RdF w0 B fs A1 (vI l1)) (_hc_l1 : l1.length ≤ c1) (_hn_l1 : n1 = l1.length) :
    Calls Try.prog 216 #[.slice A1 n1 c1, .bool crib1] w fun e w' => e = .returned (.int .i64 r) ∧ Sep w0 B w' (fs) := by
  obtain ⟨i3, hi3, hz3, hs3, hb3⟩ := info_parts Info3
  obtain rfl := _hn_l1
  unfold crib_flush_m at hm
  replace hm := start_b hm
  refine enter (l := [.slice A1 l1.length c1, .bool crib1]) (n := 33) Try.func216 rfl rfl (by simp) (fun a hF => ?_)
  refine reg [] [] [0, 1] [pl 0 (.slice A1 l1.length c1), pl 1 (.bool crib1)] hF hS Fol (by kernel_rfl) (by kernel_rfl) (by kernel_rfl) ?_ (fun a w hF hS => ?_)
  · exact obs_nil
  obtain ⟨hp1, hm⟩ := asrt_b hm
  refine reg [⟨true, [], vS (Instr.indexAt 22 (.slice A1 l1.length c1) (.int .i64 0)), .pointer (some (sAddr A1 0))⟩, ⟨false, [], vS (Instr.loadAt 3 (.pointer (some (sAddr A1 0)))), .int .i64 (geti l1 0)⟩] [none, some (.pointer (some (sAddr A1 0))), some (.int .i64 (geti l1 0)), none, none] [0, 1, 5] [pl 0 (.slice A1 l1.length c1), pl 1 (.bool crib1), pl 5 (.int .i64 (Int.tmod (geti l1 0) 4))] hF hS Fol (by kernel_rfl) (by kernel_rfl) (by kernel_rfl) ?_ (fun a w hF hS => ?_)
  · exact obs_cons (ob_ix1 (f := (Value.int .i64)) (m := l1) Und22 hi3 hs3 (hr_l1 _ (hS.dropN 0)) rfl (fun _ => hp1)) <| obs_cons (ob_get1 (n := l1.length) (m := l1) (Value.int .i64) (0 : Int) Agg3 (fun _ hS => ⟨_, (hr_l1 _ (hS.dropN 0))⟩) (fun _ hS => rfl) (fun _ => hp1)) <| obs_nil
  refine seq_cut (fun a w => Fr 33 [pl 0 (.slice A1 l1.length c1), pl 1 (.bool crib1), pl 5 (.int .i64 (Int.tmod (geti l1 0) 4))] a ∧ Sep w0 B w (fs) ∧ ((crib_flush_J1 l1 crib1)).bind some = some r) ?_ ?_
  · rintro a w ⟨hF, hS, hm⟩
    unfold crib_flush_J1 at hm
    refine seq_cut (fun a w => Fr 33 [] a ∧ Sep w0 B w (fs) ∧ (crib_flush_J4).bind some = some r) ?_ ?_
    · rintro a w ⟨hF, hS, hm⟩
      unfold crib_flush_J4 at hm
      refine reg [] [] [4] [pl 4 (.int .i64 4)] hF hS Fol (by kernel_rfl) (by kernel_rfl) (by kernel_rfl) ?_ (fun a w hF hS => ?_)
      · exact obs_nil
      refine wp_ret ?_
      have hm : some 4 = some r := hm
      obtain rfl := Option.some.inj hm
      exact retV (rs := [.tmp 4]) (vs := [.int .i64 4]) hF rfl (rv_t (by kernel_rfl) <| rv_nil) rfl ⟨rfl, hS⟩
    · refine wp_block ?_
      obtain ⟨hp4, hm⟩ := asrt_b hm
      refine reg [⟨true, [], vS (Instr.indexAt 22 (.slice A1 l1.length c1) (.int .i64 4)), .pointer (some (sAddr A1 4))⟩, ⟨false, [], vS (Instr.loadAt 3 (.pointer (some (sAddr A1 4)))), .int .i64 (geti l1 4)⟩] [none, some (.pointer (some (sAddr A1 4))), some (.int .i64 (geti l1 4)), none, none, none, none] [1, 24] [pl 1 (.bool crib1), pl 24 (.bool ((Int.tmod (geti l1 4) 4) == (Int.tmod (geti l1 0) 4)))] hF hS Fol (by kernel_rfl) (by kernel_rfl) (by kernel_rfl) ?_ (fun a w hF hS => ?_)
      · exact obs_cons (ob_ix1 (f := (Value.int .i64)) (m := l1) Und22 hi3 hs3 (hr_l1 _ (hS.dropN 0)) rfl (fun _ => hp4)) <| obs_cons (ob_get1 (n := l1.length) (m := l1) (Value.int .i64) (0 : Int) Agg3 (fun _ hS => ⟨_, (hr_l1 _ (hS.dropN 0))⟩) (fun _ hS => rfl) (fun _ => hp4)) <| obs_nil
      refine cond_ev (t := 24) (b := ((Int.tmod (geti l1 4) 4) == (Int.tmod (geti l1 0) 4))) hF (by kernel_rfl) (fun hb => ?_) (fun hb => ?_)
      · replace hm := if_t hm hb
        refine reg [] [] [4] [pl 4 (.int .i64 5)] hF hS Fol (by kernel_rfl) (by kernel_rfl) (by kernel_rfl) ?_ (fun a w hF hS => ?_)
        · exact obs_nil
        refine wp_ret ?_
        refine block_r (then_r ?_)
        have hm : some 5 = some r := hm
        obtain rfl := Option.some.inj hm
        exact retV (rs := [.tmp 4]) (vs := [.int .i64 5]) hF rfl (rv_t (by kernel_rfl) <| rv_nil) rfl ⟨rfl, hS⟩
      · replace hm := if_f hm hb
        refine reg [] [] [31] [pl 31 (.bool crib1)] hF hS Fol (by kernel_rfl) (by kernel_rfl) (by kernel_rfl) ?_ (fun a w hF hS => ?_)
        · exact obs_nil
        refine cond_ev (t := 31) (b := crib1) hF (by kernel_rfl) (fun hb => ?_) (fun hb => ?_)
        · replace hm := if_t hm hb
          refine reg [] [] [4] [pl 4 (.int .i64 0)] hF hS Fol (by kernel_rfl) (by kernel_rfl) (by kernel_rfl) ?_ (fun a w hF hS => ?_)
          · exact obs_nil
          refine wp_ret ?_
          refine block_r (then_r ?_)
          have hm : some 0 = some r := hm
          obtain rfl := Option.some.inj hm
          exact retV (rs := [.tmp 4]) (vs := [.int .i64 0]) hF rfl (rv_t (by kernel_rfl) <| rv_nil) rfl ⟨rfl, hS⟩
        · replace hm := if_f hm hb
          refine wp_skip ?_
          refine block_n ?_
          refine then_n ?_
          exact ⟨hF.weak [] (by kernel_rfl), hS, hm⟩
  · obtain ⟨hp2, hm⟩ := asrt_b hm
    refine reg [⟨true, [], vS (Instr.sliceAt 22 (.slice A1 l1.length c1) (some (.int .i64 (1 : Int))) (some (.int .i64 (4 : Int))) none), .slice (cutAddr A1 c1 (1 : Int)) ((cut l1 (1 : Int) (4 : Int)).length) (c1 - Int.toNat (1 : Int))⟩] [none, some (.slice (cutAddr A1 c1 (1 : Int)) ((cut l1 (1 : Int) (4 : Int)).length) (c1 - Int.toNat (1 : Int))), none, none] [0, 1, 5, 13, 14, 15] [pl 0 (.slice A1 l1.length c1), pl 1 (.bool crib1), pl 5 (.int .i64 (Int.tmod (geti l1 0) 4)), pl 13 (.slice (cutAddr A1 c1 (1 : Int)) ((cut l1 (1 : Int) (4 : Int)).length) (c1 - Int.toNat (1 : Int))), pl 14 (.int .i64 (((cut l1 (1 : Int) (4 : Int)).length : Nat) : Int)), pl 15 (.int .i64 0)] hF hS Fol (by kernel_rfl) (by kernel_rfl) (by kernel_rfl) ?_ (fun a w hF hS => ?_)
    · exact obs_cons (ob_cutn (l := l1) (k := .i64) (k' := .i64) Und22 hi3 hs3 rfl (.inl rfl) (.inl rfl) (fun _ => hp2) _hc_l1) <| obs_nil
    refine wp_block ?_
    refine wp_loop_model (S := Int) (R := (Fl Unit Int)) (crib_flush_L1 l1) (fun x => ((crib_flush_K1 l1 crib1) x).bind some) r (fun (x : Int) a w => Fr 33 [pl 0 (.slice A1 l1.length c1), pl 1 (.bool crib1), pl 5 (.int .i64 (Int.tmod (geti l1 0) 4)), pl 13 (.slice (cutAddr A1 c1 (1 : Int)) ((cut l1 (1 : Int) (4 : Int)).length) (c1 - Int.toNat (1 : Int))), pl 14 (.int .i64 (((cut l1 (1 : Int) (4 : Int)).length : Nat) : Int)), pl 15 (.int .i64 x)] a ∧ Sep w0 B w (fs)) (assoc_b hm) ⟨hF.weak [0, 1, 5, 13, 14, 15] (by kernel_rfl), hS⟩ ?_
    clear hF hS hm
    rintro nn1 z1 a w ⟨hF, hS⟩ hm
    generalize hφ1 : stK (crib_flush_L1 l1) nn1 (fun x => ((crib_flush_K1 l1 crib1) x).bind some) = φ1 at hm
    unfold crib_flush_L1 at hm
    dsimp only at hm
    refine reg [] [] [0, 1, 5, 13, 14, 15, 16] [pl 0 (.slice A1 l1.length c1), pl 1 (.bool crib1), pl 5 (.int .i64 (Int.tmod (geti l1 0) 4)), pl 13 (.slice (cutAddr A1 c1 (1 : Int)) ((cut l1 (1 : Int) (4 : Int)).length) (c1 - Int.toNat (1 : Int))), pl 14 (.int .i64 (((cut l1 (1 : Int) (4 : Int)).length : Nat) : Int)), pl 15 (.int .i64 z1), pl 16 (.bool (decide (z1 < (((cut l1 (1 : Int) (4 : Int)).length : Nat) : Int))))] hF hS Fol (by kernel_rfl) (by kernel_rfl) (by kernel_rfl) ?_ (fun a w hF hS => ?_)
    · exact obs_nil
    refine seq_cut (fun a w => Fr 33 [pl 0 (.slice A1 l1.length c1), pl 1 (.bool crib1), pl 5 (.int .i64 (Int.tmod (geti l1 0) 4)), pl 13 (.slice (cutAddr A1 c1 (1 : Int)) ((cut l1 (1 : Int) (4 : Int)).length) (c1 - Int.toNat (1 : Int))), pl 14 (.int .i64 (((cut l1 (1 : Int) (4 : Int)).length : Nat) : Int)), pl 15 (.int .i64 z1)] a ∧ Sep w0 B w (fs) ∧ ((crib_flush_J2 l1 z1)).bind φ1 = some r) ?_ ?_
    · rintro a w ⟨hF, hS, hm⟩
      unfold crib_flush_J2 at hm
      refine seq_cut (fun a w => Fr 33 [pl 0 (.slice A1 l1.length c1), pl 1 (.bool crib1), pl 5 (.int .i64 (Int.tmod (geti l1 0) 4)), pl 13 (.slice (cutAddr A1 c1 (1 : Int)) ((cut l1 (1 : Int) (4 : Int)).length) (c1 - Int.toNat (1 : Int))), pl 14 (.int .i64 (((cut l1 (1 : Int) (4 : Int)).length : Nat) : Int)), pl 15 (.int .i64 z1)] a ∧ Sep w0 B w (fs) ∧ ((crib_flush_J3 z1)).bind φ1 = some r) ?_ ?_
      · rintro a w ⟨hF, hS, hm⟩
        unfold crib_flush_J3 at hm
        refine reg1 [] [] [0, 1, 5, 13, 14, 15] [pl 0 (.slice A1 l1.length c1), pl 1 (.bool crib1), pl 5 (.int .i64 (Int.tmod (geti l1 0) 4)), pl 13 (.slice (cutAddr A1 c1 (1 : Int)) ((cut l1 (1 : Int) (4 : Int)).length) (c1 - Int.toNat (1 : Int))), pl 14 (.int .i64 (((cut l1 (1 : Int) (4 : Int)).length : Nat) : Int)), pl 15 (.int .i64 (w64 (z1 + 1)))] hF hS Fol (by kernel_rfl) (by kernel_rfl) (by kernel_rfl) ?_ (fun a w hF hS => ?_)
        · exact obs_nil
        refine then_n ?_
        rw [← hφ1] at hm
        exact ⟨(w64 (z1 + 1)), ⟨hF.weak [0, 1, 5, 13, 14, 15] (by kernel_rfl), hS⟩, hm⟩
      · refine wp_block ?_
        obtain ⟨hp3, hm⟩ := asrt_b hm
        refine reg [⟨true, [], vS (Instr.indexAt 22 (.slice (cutAddr A1 c1 (1 : Int)) ((cut l1 (1 : Int) (4 : Int)).length) (c1 - Int.toNat (1 : Int))) (.int .i64 z1)), .pointer (some (sAddr (cutAddr A1 c1 (1 : Int)) z1))⟩, ⟨false, [], vS (Instr.loadAt 3 (.pointer (some (sAddr (cutAddr A1 c1 (1 : Int)) z1)))), .int .i64 (geti (cut l1 (1 : Int) (4 : Int)) z1)⟩] [some (.pointer (some (sAddr (cutAddr A1 c1 (1 : Int)) z1))), some (.int .i64 (geti (cut l1 (1 : Int) (4 : Int)) z1)), none] [0, 1, 5, 7, 13, 14, 15] [pl 0 (.slice A1 l1.length c1), pl 1 (.bool crib1), pl 5 (.int .i64 (Int.tmod (geti l1 0) 4)), pl 7 (.int .i64 (geti (cut l1 (1 : Int) (4 : Int)) z1)), pl 13 (.slice (cutAddr A1 c1 (1 : Int)) ((cut l1 (1 : Int) (4 : Int)).length) (c1 - Int.toNat (1 : Int))), pl 14 (.int .i64 (((cut l1 (1 : Int) (4 : Int)).length : Nat) : Int)), pl 15 (.int .i64 z1)] hF hS Fol (by kernel_rfl) (by kernel_rfl) (by kernel_rfl) ?_ (fun a w hF hS => ?_)
        · exact obs_cons (ob_ix1 (f := (Value.int .i64)) (m := (cut l1 (1 : Int) (4 : Int))) Und22 hi3 hs3 (Rd.cutF (hr_l1 _ (hS.dropN 0)) hp2 _hc_l1) rfl (fun _ => hp3)) <| obs_cons (ob_get1 (n := (cut l1 (1 : Int) (4 : Int)).length) (m := (cut l1 (1 : Int) (4 : Int))) (Value.int .i64) (0 : Int) Agg3 (fun _ hS => ⟨_, (Rd.cutF (hr_l1 _ (hS.dropN 0)) hp2 _hc_l1)⟩) (fun _ hS => rfl) (fun _ => hp3)) <| obs_nil
        refine reg [] [] [0, 1, 5, 13, 14, 15, 22] [pl 0 (.slice A1 l1.length c1), pl 1 (.bool crib1), pl 5 (.int .i64 (Int.tmod (geti l1 0) 4)), pl 13 (.slice (cutAddr A1 c1 (1 : Int)) ((cut l1 (1 : Int) (4 : Int)).length) (c1 - Int.toNat (1 : Int))), pl 14 (.int .i64 (((cut l1 (1 : Int) (4 : Int)).length : Nat) : Int)), pl 15 (.int .i64 z1), pl 22 (.bool ((Int.tmod (geti (cut l1 (1 : Int) (4 : Int)) z1) 4) != (Int.tmod (geti l1 0) 4)))] hF hS Fol (by kernel_rfl) (by kernel_rfl) (by kernel_rfl) ?_ (fun a w hF hS => ?_)
        · exact obs_nil
        refine cond_ev (t := 22) (b := ((Int.tmod (geti (cut l1 (1 : Int) (4 : Int)) z1) 4) != (Int.tmod (geti l1 0) 4))) hF (by kernel_rfl) (fun hb => ?_) (fun hb => ?_)
        · replace hm := if_t hm hb
          refine reg [] [] [4] [pl 4 (.int .i64 0)] hF hS Fol (by kernel_rfl) (by kernel_rfl) (by kernel_rfl) ?_ (fun a w hF hS => ?_)
          · exact obs_nil
          refine wp_ret ?_
          refine block_r (then_r (then_r (block_r (then_r ?_))))
          rw [← hφ1] at hm
          replace hm := done_b hm
          unfold crib_flush_K1 at hm
          try dsimp only at hm
          have hm : some 0 = some r := hm
          obtain rfl := Option.some.inj hm
          exact retV (rs := [.tmp 4]) (vs := [.int .i64 0]) hF rfl (rv_t (by kernel_rfl) <| rv_nil) rfl ⟨rfl, hS⟩
        · replace hm := if_f hm hb
          refine wp_skip ?_
          refine block_n ?_
          refine then_n ?_
          exact ⟨hF.weak [0, 1, 5, 13, 14, 15] (by kernel_rfl), hS, hm⟩
    · refine cond_ev (t := 16) (b := decide (z1 < (((cut l1 (1 : Int) (4 : Int)).length : Nat) : Int))) hF (by kernel_rfl) (fun hb => ?_) (fun hb => ?_)
      · replace hm := if_t hm hb
        refine wp_skip ?_
        refine then_n ?_
        exact ⟨hF.weak [0, 1, 5, 13, 14, 15] (by kernel_rfl), hS, hm⟩
      · replace hm := if_f hm hb
        refine wp_exit ?_
        refine then_e (then_e (block_e (then_n ?_)))
        rw [← hφ1] at hm
        replace hm := done_b hm
        unfold crib_flush_K1 at hm
        try dsimp only at hm
        have hm : ((crib_flush_J1 l1 crib1)).bind some = some r := hm
        exact ⟨hF.weak [0, 1, 5] (by kernel_rfl), hS, hm⟩

noncomputable def crib_jack_1_m (c1 : Int) (p11 : List Int) : Option Bool :=
  (crib_pip_m c1).bind fun r1 => asrt ((r1 == 11) = true → 0 ≤ (4 : Int) ∧ (4 : Int) < (p11.length : Int)) <| some ((r1 == 11) && ((Int.tmod c1 4) == (Int.tmod (geti p11 4) 4)))

set_option maxRecDepth 100000 in
set_option maxHeartbeats 4000000 in
theorem crib_jack_1_w {c1 : Int} {g1 : Nat} {A1 : Option Addr} {c2 : Nat} {n1 : Nat} {p11 : List Int} {r : Bool} {w0 w : World} {B : Nat} {fs : List HP} (hm : crib_jack_1_m c1 p11 = some r) (hS : Sep w0 B w (blk g1 22 #[.slice A1 n1 c2] :: fs)) (hr_p11 : RdF w0 B fs A1 (vI p11)) (_hc_p11 : p11.length ≤ c2) (_hn_p11 : n1 = p11.length) :
    Calls Try.prog 246 #[.int .i64 c1, .pointer (some ⟨g1, 0, none⟩)] w fun e w' => e = .returned (.bool r) ∧ Sep w0 B w' (blk g1 22 #[.slice A1 n1 c2] :: fs) := by
  obtain ⟨i3, hi3, hz3, hs3, hb3⟩ := info_parts Info3
  obtain rfl := _hn_p11
  unfold crib_jack_1_m at hm
  replace hm := start_b hm
  refine enter (l := [.int .i64 c1, .pointer (some ⟨g1, 0, none⟩)]) (n := 16) Try.func246 rfl rfl (by simp) (fun a hF => ?_)
  refine reg [] [] [0, 1] [pl 0 (.int .i64 c1), pl 1 (.pointer (some ⟨g1, 0, none⟩))] hF hS Fol (by kernel_rfl) (by kernel_rfl) (by kernel_rfl) ?_ (fun a w hF hS => ?_)
  · exact obs_nil
  obtain ⟨r1, hr1, hm⟩ := call_b hm
  obtain ⟨hp1, hm⟩ := asrt_b hm
  refine reg [⟨false, [], callFunc 245 #[.int .i64 c1], .int .i64 r1⟩, ⟨false, [((r1 == 11), true)], vS (Instr.loadAt 22 (.pointer (some ⟨g1, 0, none⟩))), .slice A1 p11.length c2⟩, ⟨true, [((r1 == 11), true)], vS (Instr.indexAt 22 (.slice A1 p11.length c2) (.int .i64 4)), .pointer (some (sAddr A1 4))⟩, ⟨false, [((r1 == 11), true)], vS (Instr.loadAt 3 (.pointer (some (sAddr A1 4)))), .int .i64 (geti p11 4)⟩] [none, some (.int .i64 r1), none, none, none, none, some (.slice A1 p11.length c2), some (.pointer (some (sAddr A1 4))), some (.int .i64 (geti p11 4)), none, none, none, none] [3] [pl 3 (.bool ((r1 == 11) && ((Int.tmod c1 4) == (Int.tmod (geti p11 4) 4))))] hF hS Fol (by kernel_rfl) (by kernel_rfl) (by kernel_rfl) ?_ (fun a w hF hS => ?_)
  · exact obs_cons (ob_call Try.func245 (by kernel_rfl) rfl (fun _ _ hS => crib_pip_w hr1 hS )) <| obs_cons (ob_load Agg22 (fun _ _ hS => (hS.at_ 0 rfl).cell rfl)) <| obs_cons (ob_ix1 (f := (Value.int .i64)) (m := p11) Und22 hi3 hs3 (hr_p11 _ (hS.dropN 1)) rfl (fun hy => hp1 (hy ((r1 == 11), true) (by simp)))) <| obs_cons (ob_get1 (n := p11.length) (m := p11) (Value.int .i64) (0 : Int) Agg3 (fun _ hS => ⟨_, (hr_p11 _ (hS.dropN 1))⟩) (fun _ hS => rfl) (fun hy => hp1 (hy ((r1 == 11), true) (by simp)))) <| obs_nil
  refine wp_ret ?_
  have hm : some ((r1 == 11) && ((Int.tmod c1 4) == (Int.tmod (geti p11 4) 4))) = some r := hm
  obtain rfl := Option.some.inj hm
  exact retV (rs := [.tmp 3]) (vs := [.bool ((r1 == 11) && ((Int.tmod c1 4) == (Int.tmod (geti p11 4) 4)))]) hF rfl (rv_t (by kernel_rfl) <| rv_nil) rfl ⟨rfl, hS⟩

noncomputable def slices_IndexFunc_2_J3 (z1 : Int) : Option (St Int (Fl Unit Int)) :=
  some (.next (w64 (z1 + 1)))

noncomputable def slices_IndexFunc_2_J2 (s1 : List Int) (v1 : List Int) (z1 : Int) : Option (St Int (Fl Unit Int)) :=
  asrt (0 ≤ z1 ∧ z1 < (s1.length : Int)) <| (crib_jack_1_m (geti s1 z1) v1).bind fun r1 => if r1 then (some (.done (.ret z1))) else ((slices_IndexFunc_2_J3 z1))

noncomputable def slices_IndexFunc_2_J1 : Option Int :=
  some (-1)

noncomputable def slices_IndexFunc_2_K1 : (Fl Unit Int) → Option Int :=
  fun (x : (Fl Unit Int)) => match x with | .go _ => slices_IndexFunc_2_J1 | .ret x => some x

noncomputable def slices_IndexFunc_2_L1 (s1 : List Int) (v1 : List Int) : Int → Option (St Int (Fl Unit Int)) :=
  fun (x : Int) => match x with | z1 => if (decide (z1 < (s1.length : Int))) then ((slices_IndexFunc_2_J2 s1 v1 z1)) else (some (.done (.go ())))

noncomputable def slices_IndexFunc_2_m (s1 : List Int) (v1 : List Int) : Option Int :=
  (loop (slices_IndexFunc_2_L1 s1 v1) 0).bind slices_IndexFunc_2_K1

set_option maxRecDepth 100000 in
set_option maxHeartbeats 4000000 in
theorem slices_IndexFunc_2_w {A1 : Option Addr} {c1 : Nat} {n1 : Nat} {s1 : List Int} {g1 : Nat} {A2 : Option Addr} {c2 : Nat} {n2 : Nat} {v1 : List Int} {r : Int} {w0 w : World} {B : Nat} {fs : List HP} (hm : slices_IndexFunc_2_m s1 v1 = some r) (hS : Sep w0 B w (blk g1 22 #[.slice A2 n2 c2] :: fs)) (hr_s1 : RdF w0 B fs A1 (vI s1)) (_hc_s1 : s1.length ≤ c1) (_hn_s1 : n1 = s1.length) (hr_v1 : RdF w0 B fs A2 (vI v1)) (_hc_v1 : v1.length ≤ c2) (_hn_v1 : n2 = v1.length) :
    Calls Try.prog 167 #[.slice A1 n1 c1, .func (.func 246) #[] #[.pointer (some ⟨g1, 0, none⟩)]] w fun e w' => e = .returned (.int .i64 r) ∧ Sep w0 B w' (blk g1 22 #[.slice A2 n2 c2] :: fs) := by
  obtain ⟨i3, hi3, hz3, hs3, hb3⟩ := info_parts Info3
  obtain rfl := _hn_s1
  obtain rfl := _hn_v1
  unfold slices_IndexFunc_2_m at hm
  replace hm := start_b hm
  refine enter (l := [.slice A1 s1.length c1, .func (.func 246) #[] #[.pointer (some ⟨g1, 0, none⟩)]]) (n := 19) Try.func167 rfl rfl (by simp) (fun a hF => ?_)
  refine reg [] [] [0, 1] [pl 0 (.slice A1 s1.length c1), pl 1 (.func (.func 246) #[] #[.pointer (some ⟨g1, 0, none⟩)])] hF hS Fol (by kernel_rfl) (by kernel_rfl) (by kernel_rfl) ?_ (fun a w hF hS => ?_)
  · exact obs_nil
  refine seq_cut (fun a w => Fr 19 [] a ∧ Sep w0 B w (blk g1 22 #[.slice A2 v1.length c2] :: fs) ∧ (slices_IndexFunc_2_J1).bind some = some r) ?_ ?_
  · rintro a w ⟨hF, hS, hm⟩
    unfold slices_IndexFunc_2_J1 at hm
    refine reg [] [] [4] [pl 4 (.int .i64 (-1))] hF hS Fol (by kernel_rfl) (by kernel_rfl) (by kernel_rfl) ?_ (fun a w hF hS => ?_)
    · exact obs_nil
    refine wp_ret ?_
    have hm : some (-1) = some r := hm
    obtain rfl := Option.some.inj hm
    exact retV (rs := [.tmp 4]) (vs := [.int .i64 (-1)]) hF rfl (rv_t (by kernel_rfl) <| rv_nil) rfl ⟨rfl, hS⟩
  · refine reg [] [] [0, 1, 7, 8] [pl 0 (.slice A1 s1.length c1), pl 1 (.func (.func 246) #[] #[.pointer (some ⟨g1, 0, none⟩)]), pl 7 (.int .i64 (s1.length : Int)), pl 8 (.int .i64 0)] hF hS Fol (by kernel_rfl) (by kernel_rfl) (by kernel_rfl) ?_ (fun a w hF hS => ?_)
    · exact obs_nil
    refine wp_block ?_
    refine wp_loop_model (S := Int) (R := (Fl Unit Int)) (slices_IndexFunc_2_L1 s1 v1) (fun x => (slices_IndexFunc_2_K1 x).bind some) r (fun (x : Int) a w => Fr 19 [pl 0 (.slice A1 s1.length c1), pl 1 (.func (.func 246) #[] #[.pointer (some ⟨g1, 0, none⟩)]), pl 7 (.int .i64 (s1.length : Int)), pl 8 (.int .i64 x)] a ∧ Sep w0 B w (blk g1 22 #[.slice A2 v1.length c2] :: fs)) (assoc_b hm) ⟨hF.weak [0, 1, 7, 8] (by kernel_rfl), hS⟩ ?_
    clear hF hS hm
    rintro nn1 z1 a w ⟨hF, hS⟩ hm
    generalize hφ1 : stK (slices_IndexFunc_2_L1 s1 v1) nn1 (fun x => (slices_IndexFunc_2_K1 x).bind some) = φ1 at hm
    unfold slices_IndexFunc_2_L1 at hm
    dsimp only at hm
    refine reg [] [] [0, 1, 7, 8, 9] [pl 0 (.slice A1 s1.length c1), pl 1 (.func (.func 246) #[] #[.pointer (some ⟨g1, 0, none⟩)]), pl 7 (.int .i64 (s1.length : Int)), pl 8 (.int .i64 z1), pl 9 (.bool (decide (z1 < (s1.length : Int))))] hF hS Fol (by kernel_rfl) (by kernel_rfl) (by kernel_rfl) ?_ (fun a w hF hS => ?_)
    · exact obs_nil
    refine seq_cut (fun a w => Fr 19 [pl 0 (.slice A1 s1.length c1), pl 1 (.func (.func 246) #[] #[.pointer (some ⟨g1, 0, none⟩)]), pl 7 (.int .i64 (s1.length : Int)), pl 8 (.int .i64 z1)] a ∧ Sep w0 B w (blk g1 22 #[.slice A2 v1.length c2] :: fs) ∧ ((slices_IndexFunc_2_J2 s1 v1 z1)).bind φ1 = some r) ?_ ?_
    · rintro a w ⟨hF, hS, hm⟩
      unfold slices_IndexFunc_2_J2 at hm
      refine seq_cut (fun a w => Fr 19 [pl 0 (.slice A1 s1.length c1), pl 1 (.func (.func 246) #[] #[.pointer (some ⟨g1, 0, none⟩)]), pl 7 (.int .i64 (s1.length : Int)), pl 8 (.int .i64 z1)] a ∧ Sep w0 B w (blk g1 22 #[.slice A2 v1.length c2] :: fs) ∧ ((slices_IndexFunc_2_J3 z1)).bind φ1 = some r) ?_ ?_
      · rintro a w ⟨hF, hS, hm⟩
        unfold slices_IndexFunc_2_J3 at hm
        refine reg1 [] [] [0, 1, 7, 8] [pl 0 (.slice A1 s1.length c1), pl 1 (.func (.func 246) #[] #[.pointer (some ⟨g1, 0, none⟩)]), pl 7 (.int .i64 (s1.length : Int)), pl 8 (.int .i64 (w64 (z1 + 1)))] hF hS Fol (by kernel_rfl) (by kernel_rfl) (by kernel_rfl) ?_ (fun a w hF hS => ?_)
        · exact obs_nil
        refine then_n ?_
        rw [← hφ1] at hm
        exact ⟨(w64 (z1 + 1)), ⟨hF.weak [0, 1, 7, 8] (by kernel_rfl), hS⟩, hm⟩
      · refine wp_block ?_
        refine reg [] [] [0, 1, 5, 7, 8] [pl 0 (.slice A1 s1.length c1), pl 1 (.func (.func 246) #[] #[.pointer (some ⟨g1, 0, none⟩)]), pl 5 (.int .i64 z1), pl 7 (.int .i64 (s1.length : Int)), pl 8 (.int .i64 z1)] hF hS Fol (by kernel_rfl) (by kernel_rfl) (by kernel_rfl) ?_ (fun a w hF hS => ?_)
        · exact obs_nil
        obtain ⟨hp1, hm⟩ := asrt_b hm
        obtain ⟨r1, hr1, hm⟩ := call_b hm
        refine reg [⟨true, [], vS (Instr.indexAt 22 (.slice A1 s1.length c1) (.int .i64 z1)), .pointer (some (sAddr A1 z1))⟩, ⟨false, [], vS (Instr.loadAt 3 (.pointer (some (sAddr A1 z1)))), .int .i64 (geti s1 z1)⟩, ⟨false, [], callFunc 246 #[.int .i64 (geti s1 z1), .pointer (some ⟨g1, 0, none⟩)], .bool r1⟩] [none, none, none, some (.pointer (some (sAddr A1 z1))), some (.int .i64 (geti s1 z1)), some (.bool r1)] [0, 1, 5, 7, 8, 16] [pl 0 (.slice A1 s1.length c1), pl 1 (.func (.func 246) #[] #[.pointer (some ⟨g1, 0, none⟩)]), pl 5 (.int .i64 z1), pl 7 (.int .i64 (s1.length : Int)), pl 8 (.int .i64 z1), pl 16 (.bool r1)] hF hS Fol (by kernel_rfl) (by kernel_rfl) (by kernel_rfl) ?_ (fun a w hF hS => ?_)
        · exact obs_cons (ob_ix1 (f := (Value.int .i64)) (m := s1) Und22 hi3 hs3 (hr_s1 _ (hS.dropN 1)) rfl (fun _ => hp1)) <| obs_cons (ob_get1 (n := s1.length) (m := s1) (Value.int .i64) (0 : Int) Agg3 (fun _ hS => ⟨_, (hr_s1 _ (hS.dropN 1))⟩) (fun _ hS => rfl) (fun _ => hp1)) <| obs_cons (ob_call Try.func246 (by kernel_rfl) rfl (fun _ _ hS => crib_jack_1_w hr1 hS (fun _ hS => (hr_v1 _ (hS.dropN 0))) _hc_v1 rfl)) <| obs_nil
        refine cond_ev (t := 16) (b := r1) hF (by kernel_rfl) (fun hb => ?_) (fun hb => ?_)
        · replace hm := if_t hm hb
          refine reg [] [] [4] [pl 4 (.int .i64 z1)] hF hS Fol (by kernel_rfl) (by kernel_rfl) (by kernel_rfl) ?_ (fun a w hF hS => ?_)
          · exact obs_nil
          refine wp_ret ?_
          refine block_r (then_r (then_r (block_r (then_r ?_))))
          rw [← hφ1] at hm
          replace hm := done_b hm
          unfold slices_IndexFunc_2_K1 at hm
          try dsimp only at hm
          have hm : some z1 = some r := hm
          obtain rfl := Option.some.inj hm
          exact retV (rs := [.tmp 4]) (vs := [.int .i64 z1]) hF rfl (rv_t (by kernel_rfl) <| rv_nil) rfl ⟨rfl, hS⟩
        · replace hm := if_f hm hb
          refine wp_skip ?_
          refine block_n ?_
          refine then_n ?_
          exact ⟨hF.weak [0, 1, 7, 8] (by kernel_rfl), hS, hm⟩
    · refine cond_ev (t := 9) (b := decide (z1 < (s1.length : Int))) hF (by kernel_rfl) (fun hb => ?_) (fun hb => ?_)
      · replace hm := if_t hm hb
        refine wp_skip ?_
        refine then_n ?_
        exact ⟨hF.weak [0, 1, 7, 8] (by kernel_rfl), hS, hm⟩
      · replace hm := if_f hm hb
        refine wp_exit ?_
        refine then_e (then_e (block_e (then_n ?_)))
        rw [← hφ1] at hm
        replace hm := done_b hm
        unfold slices_IndexFunc_2_K1 at hm
        try dsimp only at hm
        have hm : (slices_IndexFunc_2_J1).bind some = some r := hm
        exact ⟨hF.weak [] (by kernel_rfl), hS, hm⟩

noncomputable def slices_ContainsFunc_2_m (s1 : List Int) (v1 : List Int) : Option Bool :=
  (slices_IndexFunc_2_m s1 v1).bind fun r1 => some (decide ((0 : Int) ≤ r1))

set_option maxRecDepth 100000 in
set_option maxHeartbeats 4000000 in
theorem slices_ContainsFunc_2_w {A1 : Option Addr} {c1 : Nat} {n1 : Nat} {s1 : List Int} {g1 : Nat} {A2 : Option Addr} {c2 : Nat} {n2 : Nat} {v1 : List Int} {r : Bool} {w0 w : World} {B : Nat} {fs : List HP} (hm : slices_ContainsFunc_2_m s1 v1 = some r) (hS : Sep w0 B w (blk g1 22 #[.slice A2 n2 c2] :: fs)) (hr_s1 : RdF w0 B fs A1 (vI s1)) (_hc_s1 : s1.length ≤ c1) (_hn_s1 : n1 = s1.length) (hr_v1 : RdF w0 B fs A2 (vI v1)) (_hc_v1 : v1.length ≤ c2) (_hn_v1 : n2 = v1.length) :
    Calls Try.prog 91 #[.slice A1 n1 c1, .func (.func 246) #[] #[.pointer (some ⟨g1, 0, none⟩)]] w fun e w' => e = .returned (.bool r) ∧ Sep w0 B w' (blk g1 22 #[.slice A2 n2 c2] :: fs) := by
  obtain ⟨i3, hi3, hz3, hs3, hb3⟩ := info_parts Info3
  obtain rfl := _hn_s1
  obtain rfl := _hn_v1
  unfold slices_ContainsFunc_2_m at hm
  replace hm := start_b hm
  refine enter (l := [.slice A1 s1.length c1, .func (.func 246) #[] #[.pointer (some ⟨g1, 0, none⟩)]]) (n := 9) Try.func91 rfl rfl (by simp) (fun a hF => ?_)
  refine reg [] [] [0, 1] [pl 0 (.slice A1 s1.length c1), pl 1 (.func (.func 246) #[] #[.pointer (some ⟨g1, 0, none⟩)])] hF hS Fol (by kernel_rfl) (by kernel_rfl) (by kernel_rfl) ?_ (fun a w hF hS => ?_)
  · exact obs_nil
  obtain ⟨r1, hr1, hm⟩ := call_b hm
  refine reg [⟨false, [], callFunc 167 #[.slice A1 s1.length c1, .func (.func 246) #[] #[.pointer (some ⟨g1, 0, none⟩)]], .int .i64 r1⟩] [none, none, some (.int .i64 r1), none, none] [4] [pl 4 (.bool (decide ((0 : Int) ≤ r1)))] hF hS Fol (by kernel_rfl) (by kernel_rfl) (by kernel_rfl) ?_ (fun a w hF hS => ?_)
  · exact obs_cons (ob_call Try.func167 (by kernel_rfl) rfl (fun _ _ hS => slices_IndexFunc_2_w hr1 hS (fun _ hS => (hr_s1 _ (hS.dropN 0))) _hc_s1 rfl (fun _ hS => (hr_v1 _ (hS.dropN 0))) _hc_v1 rfl)) <| obs_nil
  refine wp_ret ?_
  have hm : some (decide ((0 : Int) ≤ r1)) = some r := hm
  obtain rfl := Option.some.inj hm
  exact retV (rs := [.tmp 4]) (vs := [.bool (decide ((0 : Int) ≤ r1))]) hF rfl (rv_t (by kernel_rfl) <| rv_nil) rfl ⟨rfl, hS⟩

noncomputable def crib_jack_J1 : Option Int :=
  some 0

noncomputable def crib_jack_m (l1 : List Int) (p11 : Bool) : Option Int :=
  asrt (0 ≤ (0 : Int) ∧ (0 : Int) ≤ (4 : Int) ∧ (4 : Int) ≤ (l1.length : Int)) <| (slices_ContainsFunc_2_m (cut l1 (0 : Int) (4 : Int)) l1).bind fun r1 => if r1 then (some 1) else (crib_jack_J1)

set_option maxRecDepth 100000 in
set_option maxHeartbeats 4000000 in
theorem crib_jack_w {A1 : Option Addr} {c1 : Nat} {n1 : Nat} {l1 : List Int} {p11 : Bool} {r : Int} {w0 w : World} {B : Nat} {fs : List HP} (hm : crib_jack_m l1 p11 = some r) (hS : Sep w0 B w (fs)) (hr_l1 : RdF w0 B fs A1 (vI l1)) (_hc_l1 : l1.length ≤ c1) (_hn_l1 : n1 = l1.length) :
    Calls Try.prog 217 #[.slice A1 n1 c1, .bool p11] w fun e w' => e = .returned (.int .i64 r) ∧ Sep w0 B w' (fs) := by
  obtain ⟨i3, hi3, hz3, hs3, hb3⟩ := info_parts Info3
  obtain rfl := _hn_l1
  unfold crib_jack_m at hm
  replace hm := start_b hm
  refine enter (l := [.slice A1 l1.length c1, .bool p11]) (n := 9) Try.func217 rfl rfl (by simp) (fun a hF => ?_)
  refine seqR ?_
  refine at_do (d := 2) (s := vS (Instr.box 22 (.slice A1 l1.length c1))) (v := .pointer (some ⟨w.heap.size, 0, none⟩)) (w' := w.alloc (.cells #[.slice A1 l1.length c1] 22)) hF (by kernel_rfl) (by kernel_rfl) (by kernel_rfl) (fun a hF => ?_)
  have hS : Sep w0 B (w.alloc (.cells #[.slice A1 l1.length c1] 22)) (blk w.heap.size 22 #[.slice A1 l1.length c1] :: (fs)) := hS.box 22 #[.slice A1 l1.length c1]
  generalize w.heap.size = g1 at hF hS
  generalize w.alloc (.cells #[.slice A1 l1.length c1] 22) = w at hS ⊢
  refine at_run 1 [] [] [2] [pl 2 (.pointer (some ⟨g1, 0, none⟩))] hF hS (by kernel_rfl) (by kernel_rfl) ?_ (fun a w hF hS => ?_)
  · exact obs_nil
  refine at_end [2] [pl 2 (.pointer (some ⟨g1, 0, none⟩))] hF rfl (by kernel_rfl) (fun hF => ?_)
  refine then_n ?_
  refine seq_cut (fun a w => Fr 9 [] a ∧ Sep w0 B w (fs) ∧ (crib_jack_J1).bind some = some r) ?_ ?_
  · rintro a w ⟨hF, hS, hm⟩
    unfold crib_jack_J1 at hm
    refine reg [] [] [4] [pl 4 (.int .i64 0)] hF hS Fol (by kernel_rfl) (by kernel_rfl) (by kernel_rfl) ?_ (fun a w hF hS => ?_)
    · exact obs_nil
    refine wp_ret ?_
    have hm : some 0 = some r := hm
    obtain rfl := Option.some.inj hm
    exact retV (rs := [.tmp 4]) (vs := [.int .i64 0]) hF rfl (rv_t (by kernel_rfl) <| rv_nil) rfl ⟨rfl, hS⟩
  · obtain ⟨hp1, hm⟩ := asrt_b hm
    obtain ⟨r1, hr1, hm⟩ := call_b hm
    refine reg [⟨false, [], vS (Instr.loadAt 22 (.pointer (some ⟨g1, 0, none⟩))), .slice A1 l1.length c1⟩, ⟨true, [], vS (Instr.sliceAt 22 (.slice A1 l1.length c1) none (some (.int .i64 (4 : Int))) none), .slice (cutAddr A1 c1 (0 : Int)) ((cut l1 (0 : Int) (4 : Int)).length) (c1 - Int.toNat (0 : Int))⟩, ⟨false, [], callFunc 91 #[.slice (cutAddr A1 c1 (0 : Int)) ((cut l1 (0 : Int) (4 : Int)).length) (c1 - Int.toNat (0 : Int)), .func (.func 246) #[] #[.pointer (some ⟨g1, 0, none⟩)]], .bool r1⟩] [some (.slice A1 l1.length c1), some (.slice (cutAddr A1 c1 (0 : Int)) ((cut l1 (0 : Int) (4 : Int)).length) (c1 - Int.toNat (0 : Int))), none, some (.bool r1)] [8] [pl 8 (.bool r1)] hF hS Fol (by kernel_rfl) (by kernel_rfl) (by kernel_rfl) ?_ (fun a w hF hS => ?_)
    · exact obs_cons (ob_load Agg22 (fun _ _ hS => (hS.at_ 0 rfl).cell rfl)) <| obs_cons (ob_cutn (l := l1) (k := .i64) (k' := .i64) Und22 hi3 hs3 rfl (.inr ⟨rfl, rfl⟩) (.inl rfl) (fun _ => hp1) _hc_l1) <| obs_cons (ob_call Try.func91 (by kernel_rfl) rfl (fun _ _ hS => slices_ContainsFunc_2_w hr1 hS (fun _ hS => (Rd.cutF (hr_l1 _ (hS.dropN 0)) hp1 _hc_l1)) (cap_cut hp1 _hc_l1) rfl (fun _ hS => (hr_l1 _ (hS.dropN 0))) _hc_l1 rfl)) <| obs_nil
    refine cond_ev (t := 8) (b := r1) hF (by kernel_rfl) (fun hb => ?_) (fun hb => ?_)
    · replace hm := if_t hm hb
      refine reg [] [] [4] [pl 4 (.int .i64 1)] hF hS Fol (by kernel_rfl) (by kernel_rfl) (by kernel_rfl) ?_ (fun a w hF hS => ?_)
      · exact obs_nil
      refine wp_ret ?_
      refine then_r ?_
      have hS := hS.pickN 1 [] (by decide)
      have hm : some 1 = some r := hm
      obtain rfl := Option.some.inj hm
      exact retV (rs := [.tmp 4]) (vs := [.int .i64 1]) hF rfl (rv_t (by kernel_rfl) <| rv_nil) rfl ⟨rfl, hS⟩
    · replace hm := if_f hm hb
      refine wp_skip ?_
      refine then_n ?_
      have hS := hS.pickN 1 [] (by decide)
      exact ⟨hF.weak [] (by kernel_rfl), hS, hm⟩

noncomputable def crib_show_J1 (n7 : Int) : Option Int :=
  some n7

noncomputable def crib_show_J11 (n6 : Int) : Option Int :=
  crib_show_J1 n6

noncomputable def crib_show_J10 (l1 : List Int) (crib1 : Bool) (n5 : Int) : Option Int :=
  asrt (0 ≤ (4 : Int) ∧ (4 : Int) < 5) <| (crib_jack_m l1 crib1).bind fun r6 => crib_show_J11 (w64 (n5 + r6))

noncomputable def crib_show_J9 (l1 : List Int) (crib1 : Bool) (n5 : Int) : Option Int :=
  (crib_show_J10 l1 crib1 n5)

noncomputable def crib_show_J8 (l1 : List Int) (crib1 : Bool) (n4 : Int) : Option Int :=
  asrt (0 ≤ (3 : Int) ∧ (3 : Int) < 5) <| (crib_flush_m l1 crib1).bind fun r5 => (crib_show_J9 l1 crib1) (w64 (n4 + r5))

noncomputable def crib_show_J7 (l1 : List Int) (crib1 : Bool) (n4 : Int) : Option Int :=
  (crib_show_J8 l1 crib1 n4)

noncomputable def crib_show_J6 (l1 : List Int) (crib1 : Bool) (n3 : Int) : Option Int :=
  asrt (0 ≤ (2 : Int) ∧ (2 : Int) < 5) <| (crib_runs_m l1 crib1).bind fun r4 => (crib_show_J7 l1 crib1) (w64 (n3 + r4))

noncomputable def crib_show_J5 (l1 : List Int) (crib1 : Bool) (n3 : Int) : Option Int :=
  (crib_show_J6 l1 crib1 n3)

noncomputable def crib_show_J4 (l1 : List Int) (crib1 : Bool) (n2 : Int) : Option Int :=
  asrt (0 ≤ (1 : Int) ∧ (1 : Int) < 5) <| (crib_pairs_m l1 crib1).bind fun r3 => (crib_show_J5 l1 crib1) (w64 (n2 + r3))

noncomputable def crib_show_J3 (l1 : List Int) (crib1 : Bool) (n2 : Int) : Option Int :=
  (crib_show_J4 l1 crib1 n2)

noncomputable def crib_show_J2 (l1 : List Int) (crib1 : Bool) : Option Int :=
  asrt (0 ≤ (0 : Int) ∧ (0 : Int) < 5) <| (crib_fifteens_m l1 crib1).bind fun r2 => (crib_show_J3 l1 crib1) (w64 (0 + r2))

noncomputable def crib_show_m (l1 : List Int) (crib1 : Bool) : Option Int :=
  (crib_rules_m).bind fun r1 => (crib_show_J2 l1 crib1)

set_option maxRecDepth 100000 in
set_option maxHeartbeats 4000000 in
theorem crib_show_w {A1 : Option Addr} {c1 : Nat} {n1 : Nat} {l1 : List Int} {crib1 : Bool} {r : Int} {w0 w : World} {B : Nat} {fs : List HP} (hm : crib_show_m l1 crib1 = some r) (hS : Sep w0 B w (fs)) (hr_l1 : RdF w0 B fs A1 (vI l1)) (_hc_l1 : l1.length ≤ c1) (_hn_l1 : n1 = l1.length) :
    Calls Try.prog 128 #[.slice A1 n1 c1, .bool crib1] w fun e w' => e = .returned (.int .i64 r) ∧ Sep w0 B w' (fs) := by
  obtain ⟨i3, hi3, hz3, hs3, hb3⟩ := info_parts Info3
  obtain ⟨i206, hi206, hz206, hs206, hb206⟩ := info_parts Info206
  obtain rfl := _hn_l1
  unfold crib_show_m at hm
  replace hm := start_b hm
  refine enter (l := [.slice A1 l1.length c1, .bool crib1]) (n := 22) Try.func128 rfl rfl (by simp) (fun a hF => ?_)
  refine reg [] [] [0, 1] [pl 0 (.slice A1 l1.length c1), pl 1 (.bool crib1)] hF hS Fol (by kernel_rfl) (by kernel_rfl) (by kernel_rfl) ?_ (fun a w hF hS => ?_)
  · exact obs_nil
  refine reg [] [] [0, 1, 5] [pl 0 (.slice A1 l1.length c1), pl 1 (.bool crib1), pl 5 (.int .i64 0)] hF hS Fol (by kernel_rfl) (by kernel_rfl) (by kernel_rfl) ?_ (fun a w hF hS => ?_)
  · exact obs_nil
  refine seq_cut (fun a w => ∃ (n7 : Int), Fr 22 [pl 5 (.int .i64 n7)] a ∧ Sep w0 B w (fs) ∧ (crib_show_J1 n7).bind some = some r) ?_ ?_
  · rintro a w ⟨n7, hF, hS, hm⟩
    unfold crib_show_J1 at hm
    refine reg [] [] [4] [pl 4 (.int .i64 n7)] hF hS Fol (by kernel_rfl) (by kernel_rfl) (by kernel_rfl) ?_ (fun a w hF hS => ?_)
    · exact obs_nil
    refine wp_ret ?_
    have hm : some n7 = some r := hm
    obtain rfl := Option.some.inj hm
    exact retV (rs := [.tmp 4]) (vs := [.int .i64 n7]) hF rfl (rv_t (by kernel_rfl) <| rv_nil) rfl ⟨rfl, hS⟩
  · refine seqR ?_
    obtain ⟨r1, hr1, hm⟩ := call_b hm
    refine at_call (f := 184) (args := #[]) (d := 8) hF (by kernel_rfl) (by kernel_rfl) Try.func184 (by kernel_rfl) rfl (crib_rules_w hr1 hS ) (fun v a w hR hF => ?_)
    clear hS
    obtain ⟨A2, rfl, hS⟩ := hR
    have hS : Sep w0 B w (own 206 (.slice A2 5 5) (List.map fnV ([213, 214, 215, 216, 217] : List Nat)) :: fs) := hS
    refine at_run 2 [] [] [0, 1, 5, 8, 9, 10] [pl 0 (.slice A1 l1.length c1), pl 1 (.bool crib1), pl 5 (.int .i64 0), pl 8 (.slice A2 5 5), pl 9 (.int .i64 5), pl 10 (.int .i64 0)] hF hS (by kernel_rfl) (by kernel_rfl) ?_ (fun a w hF hS => ?_)
    · exact obs_nil
    refine at_end [0, 1, 5, 8, 9, 10] [pl 0 (.slice A1 l1.length c1), pl 1 (.bool crib1), pl 5 (.int .i64 0), pl 8 (.slice A2 5 5), pl 9 (.int .i64 5), pl 10 (.int .i64 0)] hF rfl (by kernel_rfl) (fun hF => ?_)
    refine then_n ?_
    refine wp_block ?_
    refine wp_loop_rounds 6 ?_
    refine rounds_s (n := 5) ?_
    refine reg [] [] [0, 1, 5, 8, 9, 10, 11] [pl 0 (.slice A1 l1.length c1), pl 1 (.bool crib1), pl 5 (.int .i64 0), pl 8 (.slice A2 5 5), pl 9 (.int .i64 5), pl 10 (.int .i64 0), pl 11 (.bool (decide ((0 : Int) < 5)))] hF hS Fol (by kernel_rfl) (by kernel_rfl) (by kernel_rfl) ?_ (fun a w hF hS => ?_)
    · exact obs_nil
    refine seq_cut (fun a w => Fr 22 [pl 0 (.slice A1 l1.length c1), pl 1 (.bool crib1), pl 5 (.int .i64 0), pl 8 (.slice A2 5 5), pl 9 (.int .i64 5), pl 10 (.int .i64 0)] a ∧ Sep w0 B w (own 206 (.slice A2 5 5) (List.map fnV ([213, 214, 215, 216, 217] : List Nat)) :: fs) ∧ ((crib_show_J2 l1 crib1)).bind some = some r) ?_ ?_
    · rintro a w ⟨hF, hS, hm⟩
      unfold crib_show_J2 at hm
      refine seq_cut (fun a w => ∃ (n2 : Int), Fr 22 [pl 0 (.slice A1 l1.length c1), pl 1 (.bool crib1), pl 5 (.int .i64 n2), pl 8 (.slice A2 5 5), pl 9 (.int .i64 5), pl 10 (.int .i64 0)] a ∧ Sep w0 B w (own 206 (.slice A2 5 5) (List.map fnV ([213, 214, 215, 216, 217] : List Nat)) :: fs) ∧ ((crib_show_J3 l1 crib1) n2).bind some = some r) ?_ ?_
      · rintro a w ⟨n2, hF, hS, hm⟩
        unfold crib_show_J3 at hm
        refine reg1 [] [] [0, 1, 5, 8, 9, 10] [pl 0 (.slice A1 l1.length c1), pl 1 (.bool crib1), pl 5 (.int .i64 n2), pl 8 (.slice A2 5 5), pl 9 (.int .i64 5), pl 10 (.int .i64 1)] hF hS Fol (by kernel_rfl) (by kernel_rfl) (by kernel_rfl) ?_ (fun a w hF hS => ?_)
        · exact obs_nil
        refine then_n ?_
        refine rounds_s (n := 4) ?_
        refine reg [] [] [0, 1, 5, 8, 9, 10, 11] [pl 0 (.slice A1 l1.length c1), pl 1 (.bool crib1), pl 5 (.int .i64 n2), pl 8 (.slice A2 5 5), pl 9 (.int .i64 5), pl 10 (.int .i64 1), pl 11 (.bool (decide ((1 : Int) < 5)))] hF hS Fol (by kernel_rfl) (by kernel_rfl) (by kernel_rfl) ?_ (fun a w hF hS => ?_)
        · exact obs_nil
        refine seq_cut (fun a w => Fr 22 [pl 0 (.slice A1 l1.length c1), pl 1 (.bool crib1), pl 5 (.int .i64 n2), pl 8 (.slice A2 5 5), pl 9 (.int .i64 5), pl 10 (.int .i64 1)] a ∧ Sep w0 B w (own 206 (.slice A2 5 5) (List.map fnV ([213, 214, 215, 216, 217] : List Nat)) :: fs) ∧ ((crib_show_J4 l1 crib1 n2)).bind some = some r) ?_ ?_
        · rintro a w ⟨hF, hS, hm⟩
          unfold crib_show_J4 at hm
          refine seq_cut (fun a w => ∃ (n3 : Int), Fr 22 [pl 0 (.slice A1 l1.length c1), pl 1 (.bool crib1), pl 5 (.int .i64 n3), pl 8 (.slice A2 5 5), pl 9 (.int .i64 5), pl 10 (.int .i64 1)] a ∧ Sep w0 B w (own 206 (.slice A2 5 5) (List.map fnV ([213, 214, 215, 216, 217] : List Nat)) :: fs) ∧ ((crib_show_J5 l1 crib1) n3).bind some = some r) ?_ ?_
          · rintro a w ⟨n3, hF, hS, hm⟩
            unfold crib_show_J5 at hm
            refine reg1 [] [] [0, 1, 5, 8, 9, 10] [pl 0 (.slice A1 l1.length c1), pl 1 (.bool crib1), pl 5 (.int .i64 n3), pl 8 (.slice A2 5 5), pl 9 (.int .i64 5), pl 10 (.int .i64 2)] hF hS Fol (by kernel_rfl) (by kernel_rfl) (by kernel_rfl) ?_ (fun a w hF hS => ?_)
            · exact obs_nil
            refine then_n ?_
            refine rounds_s (n := 3) ?_
            refine reg [] [] [0, 1, 5, 8, 9, 10, 11] [pl 0 (.slice A1 l1.length c1), pl 1 (.bool crib1), pl 5 (.int .i64 n3), pl 8 (.slice A2 5 5), pl 9 (.int .i64 5), pl 10 (.int .i64 2), pl 11 (.bool (decide ((2 : Int) < 5)))] hF hS Fol (by kernel_rfl) (by kernel_rfl) (by kernel_rfl) ?_ (fun a w hF hS => ?_)
            · exact obs_nil
            refine seq_cut (fun a w => Fr 22 [pl 0 (.slice A1 l1.length c1), pl 1 (.bool crib1), pl 5 (.int .i64 n3), pl 8 (.slice A2 5 5), pl 9 (.int .i64 5), pl 10 (.int .i64 2)] a ∧ Sep w0 B w (own 206 (.slice A2 5 5) (List.map fnV ([213, 214, 215, 216, 217] : List Nat)) :: fs) ∧ ((crib_show_J6 l1 crib1 n3)).bind some = some r) ?_ ?_
            · rintro a w ⟨hF, hS, hm⟩
              unfold crib_show_J6 at hm
              refine seq_cut (fun a w => ∃ (n4 : Int), Fr 22 [pl 0 (.slice A1 l1.length c1), pl 1 (.bool crib1), pl 5 (.int .i64 n4), pl 8 (.slice A2 5 5), pl 9 (.int .i64 5), pl 10 (.int .i64 2)] a ∧ Sep w0 B w (own 206 (.slice A2 5 5) (List.map fnV ([213, 214, 215, 216, 217] : List Nat)) :: fs) ∧ ((crib_show_J7 l1 crib1) n4).bind some = some r) ?_ ?_
              · rintro a w ⟨n4, hF, hS, hm⟩
                unfold crib_show_J7 at hm
                refine reg1 [] [] [0, 1, 5, 8, 9, 10] [pl 0 (.slice A1 l1.length c1), pl 1 (.bool crib1), pl 5 (.int .i64 n4), pl 8 (.slice A2 5 5), pl 9 (.int .i64 5), pl 10 (.int .i64 3)] hF hS Fol (by kernel_rfl) (by kernel_rfl) (by kernel_rfl) ?_ (fun a w hF hS => ?_)
                · exact obs_nil
                refine then_n ?_
                refine rounds_s (n := 2) ?_
                refine reg [] [] [0, 1, 5, 8, 9, 10, 11] [pl 0 (.slice A1 l1.length c1), pl 1 (.bool crib1), pl 5 (.int .i64 n4), pl 8 (.slice A2 5 5), pl 9 (.int .i64 5), pl 10 (.int .i64 3), pl 11 (.bool (decide ((3 : Int) < 5)))] hF hS Fol (by kernel_rfl) (by kernel_rfl) (by kernel_rfl) ?_ (fun a w hF hS => ?_)
                · exact obs_nil
                refine seq_cut (fun a w => Fr 22 [pl 0 (.slice A1 l1.length c1), pl 1 (.bool crib1), pl 5 (.int .i64 n4), pl 8 (.slice A2 5 5), pl 9 (.int .i64 5), pl 10 (.int .i64 3)] a ∧ Sep w0 B w (own 206 (.slice A2 5 5) (List.map fnV ([213, 214, 215, 216, 217] : List Nat)) :: fs) ∧ ((crib_show_J8 l1 crib1 n4)).bind some = some r) ?_ ?_
                · rintro a w ⟨hF, hS, hm⟩
                  unfold crib_show_J8 at hm
                  refine seq_cut (fun a w => ∃ (n5 : Int), Fr 22 [pl 0 (.slice A1 l1.length c1), pl 1 (.bool crib1), pl 5 (.int .i64 n5), pl 8 (.slice A2 5 5), pl 9 (.int .i64 5), pl 10 (.int .i64 3)] a ∧ Sep w0 B w (own 206 (.slice A2 5 5) (List.map fnV ([213, 214, 215, 216, 217] : List Nat)) :: fs) ∧ ((crib_show_J9 l1 crib1) n5).bind some = some r) ?_ ?_
                  · rintro a w ⟨n5, hF, hS, hm⟩
                    unfold crib_show_J9 at hm
                    refine reg1 [] [] [0, 1, 5, 8, 9, 10] [pl 0 (.slice A1 l1.length c1), pl 1 (.bool crib1), pl 5 (.int .i64 n5), pl 8 (.slice A2 5 5), pl 9 (.int .i64 5), pl 10 (.int .i64 4)] hF hS Fol (by kernel_rfl) (by kernel_rfl) (by kernel_rfl) ?_ (fun a w hF hS => ?_)
                    · exact obs_nil
                    refine then_n ?_
                    refine rounds_s (n := 1) ?_
                    refine reg [] [] [0, 1, 5, 8, 9, 10, 11] [pl 0 (.slice A1 l1.length c1), pl 1 (.bool crib1), pl 5 (.int .i64 n5), pl 8 (.slice A2 5 5), pl 9 (.int .i64 5), pl 10 (.int .i64 4), pl 11 (.bool (decide ((4 : Int) < 5)))] hF hS Fol (by kernel_rfl) (by kernel_rfl) (by kernel_rfl) ?_ (fun a w hF hS => ?_)
                    · exact obs_nil
                    refine seq_cut (fun a w => Fr 22 [pl 0 (.slice A1 l1.length c1), pl 1 (.bool crib1), pl 5 (.int .i64 n5), pl 8 (.slice A2 5 5), pl 9 (.int .i64 5), pl 10 (.int .i64 4)] a ∧ Sep w0 B w (own 206 (.slice A2 5 5) (List.map fnV ([213, 214, 215, 216, 217] : List Nat)) :: fs) ∧ ((crib_show_J10 l1 crib1 n5)).bind some = some r) ?_ ?_
                    · rintro a w ⟨hF, hS, hm⟩
                      unfold crib_show_J10 at hm
                      refine seq_cut (fun a w => ∃ (n6 : Int), Fr 22 [pl 0 (.slice A1 l1.length c1), pl 1 (.bool crib1), pl 5 (.int .i64 n6), pl 8 (.slice A2 5 5), pl 9 (.int .i64 5), pl 10 (.int .i64 4)] a ∧ Sep w0 B w (own 206 (.slice A2 5 5) (List.map fnV ([213, 214, 215, 216, 217] : List Nat)) :: fs) ∧ (crib_show_J11 n6).bind some = some r) ?_ ?_
                      · rintro a w ⟨n6, hF, hS, hm⟩
                        unfold crib_show_J11 at hm
                        refine reg1 [] [] [0, 1, 5, 8, 9, 10] [pl 0 (.slice A1 l1.length c1), pl 1 (.bool crib1), pl 5 (.int .i64 n6), pl 8 (.slice A2 5 5), pl 9 (.int .i64 5), pl 10 (.int .i64 5)] hF hS Fol (by kernel_rfl) (by kernel_rfl) (by kernel_rfl) ?_ (fun a w hF hS => ?_)
                        · exact obs_nil
                        refine then_n ?_
                        refine rounds_s (n := 0) ?_
                        refine reg [] [] [0, 1, 5, 8, 9, 10, 11] [pl 0 (.slice A1 l1.length c1), pl 1 (.bool crib1), pl 5 (.int .i64 n6), pl 8 (.slice A2 5 5), pl 9 (.int .i64 5), pl 10 (.int .i64 5), pl 11 (.bool (decide ((5 : Int) < 5)))] hF hS Fol (by kernel_rfl) (by kernel_rfl) (by kernel_rfl) ?_ (fun a w hF hS => ?_)
                        · exact obs_nil
                        refine seq_cut (fun _ _ => False) (fun _ _ h => h.elim) ?_
                        refine cond_ev (t := 11) (b := decide ((5 : Int) < 5)) hF (by kernel_rfl) (fun hb => ?_) (fun hb => ?_)
                        · exact absurd hb (by decide)
                        · refine wp_exit ?_
                          refine then_e (then_e (block_e (then_n ?_)))
                          have hS := hS.pickN 1 [] (by decide)
                          exact ⟨n6, hF.weak [5] (by kernel_rfl), hS, hm⟩
                      · refine wp_block ?_
                        obtain ⟨hp5, hm⟩ := asrt_b hm
                        refine reg [⟨true, [], vS (Instr.indexAt 204 (.slice A2 5 5) (.int .i64 4)), .pointer (some (sAddr A2 4))⟩, ⟨false, [], vS (Instr.loadAt 206 (.pointer (some (sAddr A2 4)))), .func (.func 217) #[] #[]⟩] [some (.pointer (some (sAddr A2 4))), some (.func (.func 217) #[] #[]), none] [0, 1, 5, 7, 8, 9, 10] [pl 0 (.slice A1 l1.length c1), pl 1 (.bool crib1), pl 5 (.int .i64 n5), pl 7 (.func (.func 217) #[] #[]), pl 8 (.slice A2 5 5), pl 9 (.int .i64 5), pl 10 (.int .i64 4)] hF hS Fol (by kernel_rfl) (by kernel_rfl) (by kernel_rfl) ?_ (fun a w hF hS => ?_)
                        · exact obs_cons (ob_ix1 (f := fnV) (m := ([213, 214, 215, 216, 217] : List Nat)) Und204 hi206 hs206 (hS.at_ 0 rfl).rd rfl (fun _ => hp5)) <| obs_cons (ob_get1 (n := 5) (m := ([213, 214, 215, 216, 217] : List Nat)) fnV 0 Agg206 (fun _ hS => ⟨_, (hS.at_ 0 rfl).rd⟩) (fun _ hS => rfl) (fun _ => hp5)) <| obs_nil
                        refine oneR ?_
                        obtain ⟨r6, hr6, hm⟩ := call_b hm
                        refine at_run 7 [⟨false, [], callFunc 217 #[.slice A1 l1.length c1, .bool crib1], .int .i64 r6⟩] [none, none, none, none, some (.int .i64 r6), none, none] [0, 1, 5, 8, 9, 10] [pl 0 (.slice A1 l1.length c1), pl 1 (.bool crib1), pl 5 (.int .i64 (w64 (n5 + r6))), pl 8 (.slice A2 5 5), pl 9 (.int .i64 5), pl 10 (.int .i64 4)] hF hS (by kernel_rfl) (by kernel_rfl) ?_ (fun a w hF hS => ?_)
                        · exact obs_cons (ob_call Try.func217 (by kernel_rfl) rfl (fun _ _ hS => crib_jack_w hr6 hS (fun _ hS => (hr_l1 _ (hS.dropN 1))) _hc_l1 rfl)) <| obs_nil
                        refine at_end [0, 1, 5, 8, 9, 10] [pl 0 (.slice A1 l1.length c1), pl 1 (.bool crib1), pl 5 (.int .i64 (w64 (n5 + r6))), pl 8 (.slice A2 5 5), pl 9 (.int .i64 5), pl 10 (.int .i64 4)] hF rfl (by kernel_rfl) (fun hF => ?_)
                        refine block_n ?_
                        refine then_n ?_
                        exact ⟨(w64 (n5 + r6)), hF.weak [0, 1, 5, 8, 9, 10] (by kernel_rfl), hS, hm⟩
                    · refine cond_ev (t := 11) (b := decide ((4 : Int) < 5)) hF (by kernel_rfl) (fun hb => ?_) (fun hb => ?_)
                      · refine wp_skip ?_
                        refine then_n ?_
                        exact ⟨hF.weak [0, 1, 5, 8, 9, 10] (by kernel_rfl), hS, hm⟩
                      · exact absurd hb (by decide)
                  · refine wp_block ?_
                    obtain ⟨hp4, hm⟩ := asrt_b hm
                    refine reg [⟨true, [], vS (Instr.indexAt 204 (.slice A2 5 5) (.int .i64 3)), .pointer (some (sAddr A2 3))⟩, ⟨false, [], vS (Instr.loadAt 206 (.pointer (some (sAddr A2 3)))), .func (.func 216) #[] #[]⟩] [some (.pointer (some (sAddr A2 3))), some (.func (.func 216) #[] #[]), none] [0, 1, 5, 7, 8, 9, 10] [pl 0 (.slice A1 l1.length c1), pl 1 (.bool crib1), pl 5 (.int .i64 n4), pl 7 (.func (.func 216) #[] #[]), pl 8 (.slice A2 5 5), pl 9 (.int .i64 5), pl 10 (.int .i64 3)] hF hS Fol (by kernel_rfl) (by kernel_rfl) (by kernel_rfl) ?_ (fun a w hF hS => ?_)
                    · exact obs_cons (ob_ix1 (f := fnV) (m := ([213, 214, 215, 216, 217] : List Nat)) Und204 hi206 hs206 (hS.at_ 0 rfl).rd rfl (fun _ => hp4)) <| obs_cons (ob_get1 (n := 5) (m := ([213, 214, 215, 216, 217] : List Nat)) fnV 0 Agg206 (fun _ hS => ⟨_, (hS.at_ 0 rfl).rd⟩) (fun _ hS => rfl) (fun _ => hp4)) <| obs_nil
                    refine oneR ?_
                    obtain ⟨r5, hr5, hm⟩ := call_b hm
                    refine at_run 7 [⟨false, [], callFunc 216 #[.slice A1 l1.length c1, .bool crib1], .int .i64 r5⟩] [none, none, none, none, some (.int .i64 r5), none, none] [0, 1, 5, 8, 9, 10] [pl 0 (.slice A1 l1.length c1), pl 1 (.bool crib1), pl 5 (.int .i64 (w64 (n4 + r5))), pl 8 (.slice A2 5 5), pl 9 (.int .i64 5), pl 10 (.int .i64 3)] hF hS (by kernel_rfl) (by kernel_rfl) ?_ (fun a w hF hS => ?_)
                    · exact obs_cons (ob_call Try.func216 (by kernel_rfl) rfl (fun _ _ hS => crib_flush_w hr5 hS (fun _ hS => (hr_l1 _ (hS.dropN 1))) _hc_l1 rfl)) <| obs_nil
                    refine at_end [0, 1, 5, 8, 9, 10] [pl 0 (.slice A1 l1.length c1), pl 1 (.bool crib1), pl 5 (.int .i64 (w64 (n4 + r5))), pl 8 (.slice A2 5 5), pl 9 (.int .i64 5), pl 10 (.int .i64 3)] hF rfl (by kernel_rfl) (fun hF => ?_)
                    refine block_n ?_
                    refine then_n ?_
                    exact ⟨(w64 (n4 + r5)), hF.weak [0, 1, 5, 8, 9, 10] (by kernel_rfl), hS, hm⟩
                · refine cond_ev (t := 11) (b := decide ((3 : Int) < 5)) hF (by kernel_rfl) (fun hb => ?_) (fun hb => ?_)
                  · refine wp_skip ?_
                    refine then_n ?_
                    exact ⟨hF.weak [0, 1, 5, 8, 9, 10] (by kernel_rfl), hS, hm⟩
                  · exact absurd hb (by decide)
              · refine wp_block ?_
                obtain ⟨hp3, hm⟩ := asrt_b hm
                refine reg [⟨true, [], vS (Instr.indexAt 204 (.slice A2 5 5) (.int .i64 2)), .pointer (some (sAddr A2 2))⟩, ⟨false, [], vS (Instr.loadAt 206 (.pointer (some (sAddr A2 2)))), .func (.func 215) #[] #[]⟩] [some (.pointer (some (sAddr A2 2))), some (.func (.func 215) #[] #[]), none] [0, 1, 5, 7, 8, 9, 10] [pl 0 (.slice A1 l1.length c1), pl 1 (.bool crib1), pl 5 (.int .i64 n3), pl 7 (.func (.func 215) #[] #[]), pl 8 (.slice A2 5 5), pl 9 (.int .i64 5), pl 10 (.int .i64 2)] hF hS Fol (by kernel_rfl) (by kernel_rfl) (by kernel_rfl) ?_ (fun a w hF hS => ?_)
                · exact obs_cons (ob_ix1 (f := fnV) (m := ([213, 214, 215, 216, 217] : List Nat)) Und204 hi206 hs206 (hS.at_ 0 rfl).rd rfl (fun _ => hp3)) <| obs_cons (ob_get1 (n := 5) (m := ([213, 214, 215, 216, 217] : List Nat)) fnV 0 Agg206 (fun _ hS => ⟨_, (hS.at_ 0 rfl).rd⟩) (fun _ hS => rfl) (fun _ => hp3)) <| obs_nil
                refine oneR ?_
                obtain ⟨r4, hr4, hm⟩ := call_b hm
                refine at_run 7 [⟨false, [], callFunc 215 #[.slice A1 l1.length c1, .bool crib1], .int .i64 r4⟩] [none, none, none, none, some (.int .i64 r4), none, none] [0, 1, 5, 8, 9, 10] [pl 0 (.slice A1 l1.length c1), pl 1 (.bool crib1), pl 5 (.int .i64 (w64 (n3 + r4))), pl 8 (.slice A2 5 5), pl 9 (.int .i64 5), pl 10 (.int .i64 2)] hF hS (by kernel_rfl) (by kernel_rfl) ?_ (fun a w hF hS => ?_)
                · exact obs_cons (ob_call Try.func215 (by kernel_rfl) rfl (fun _ _ hS => crib_runs_w hr4 hS (fun _ hS => (hr_l1 _ (hS.dropN 1))) _hc_l1 rfl)) <| obs_nil
                refine at_end [0, 1, 5, 8, 9, 10] [pl 0 (.slice A1 l1.length c1), pl 1 (.bool crib1), pl 5 (.int .i64 (w64 (n3 + r4))), pl 8 (.slice A2 5 5), pl 9 (.int .i64 5), pl 10 (.int .i64 2)] hF rfl (by kernel_rfl) (fun hF => ?_)
                refine block_n ?_
                refine then_n ?_
                exact ⟨(w64 (n3 + r4)), hF.weak [0, 1, 5, 8, 9, 10] (by kernel_rfl), hS, hm⟩
            · refine cond_ev (t := 11) (b := decide ((2 : Int) < 5)) hF (by kernel_rfl) (fun hb => ?_) (fun hb => ?_)
              · refine wp_skip ?_
                refine then_n ?_
                exact ⟨hF.weak [0, 1, 5, 8, 9, 10] (by kernel_rfl), hS, hm⟩
              · exact absurd hb (by decide)
          · refine wp_block ?_
            obtain ⟨hp2, hm⟩ := asrt_b hm
            refine reg [⟨true, [], vS (Instr.indexAt 204 (.slice A2 5 5) (.int .i64 1)), .pointer (some (sAddr A2 1))⟩, ⟨false, [], vS (Instr.loadAt 206 (.pointer (some (sAddr A2 1)))), .func (.func 214) #[] #[]⟩] [some (.pointer (some (sAddr A2 1))), some (.func (.func 214) #[] #[]), none] [0, 1, 5, 7, 8, 9, 10] [pl 0 (.slice A1 l1.length c1), pl 1 (.bool crib1), pl 5 (.int .i64 n2), pl 7 (.func (.func 214) #[] #[]), pl 8 (.slice A2 5 5), pl 9 (.int .i64 5), pl 10 (.int .i64 1)] hF hS Fol (by kernel_rfl) (by kernel_rfl) (by kernel_rfl) ?_ (fun a w hF hS => ?_)
            · exact obs_cons (ob_ix1 (f := fnV) (m := ([213, 214, 215, 216, 217] : List Nat)) Und204 hi206 hs206 (hS.at_ 0 rfl).rd rfl (fun _ => hp2)) <| obs_cons (ob_get1 (n := 5) (m := ([213, 214, 215, 216, 217] : List Nat)) fnV 0 Agg206 (fun _ hS => ⟨_, (hS.at_ 0 rfl).rd⟩) (fun _ hS => rfl) (fun _ => hp2)) <| obs_nil
            refine oneR ?_
            obtain ⟨r3, hr3, hm⟩ := call_b hm
            refine at_run 7 [⟨false, [], callFunc 214 #[.slice A1 l1.length c1, .bool crib1], .int .i64 r3⟩] [none, none, none, none, some (.int .i64 r3), none, none] [0, 1, 5, 8, 9, 10] [pl 0 (.slice A1 l1.length c1), pl 1 (.bool crib1), pl 5 (.int .i64 (w64 (n2 + r3))), pl 8 (.slice A2 5 5), pl 9 (.int .i64 5), pl 10 (.int .i64 1)] hF hS (by kernel_rfl) (by kernel_rfl) ?_ (fun a w hF hS => ?_)
            · exact obs_cons (ob_call Try.func214 (by kernel_rfl) rfl (fun _ _ hS => crib_pairs_w hr3 hS (fun _ hS => (hr_l1 _ (hS.dropN 1))) _hc_l1 rfl)) <| obs_nil
            refine at_end [0, 1, 5, 8, 9, 10] [pl 0 (.slice A1 l1.length c1), pl 1 (.bool crib1), pl 5 (.int .i64 (w64 (n2 + r3))), pl 8 (.slice A2 5 5), pl 9 (.int .i64 5), pl 10 (.int .i64 1)] hF rfl (by kernel_rfl) (fun hF => ?_)
            refine block_n ?_
            refine then_n ?_
            exact ⟨(w64 (n2 + r3)), hF.weak [0, 1, 5, 8, 9, 10] (by kernel_rfl), hS, hm⟩
        · refine cond_ev (t := 11) (b := decide ((1 : Int) < 5)) hF (by kernel_rfl) (fun hb => ?_) (fun hb => ?_)
          · refine wp_skip ?_
            refine then_n ?_
            exact ⟨hF.weak [0, 1, 5, 8, 9, 10] (by kernel_rfl), hS, hm⟩
          · exact absurd hb (by decide)
      · refine wp_block ?_
        obtain ⟨hp1, hm⟩ := asrt_b hm
        refine reg [⟨true, [], vS (Instr.indexAt 204 (.slice A2 5 5) (.int .i64 0)), .pointer (some (sAddr A2 0))⟩, ⟨false, [], vS (Instr.loadAt 206 (.pointer (some (sAddr A2 0)))), .func (.func 213) #[] #[]⟩] [some (.pointer (some (sAddr A2 0))), some (.func (.func 213) #[] #[]), none] [0, 1, 5, 7, 8, 9, 10] [pl 0 (.slice A1 l1.length c1), pl 1 (.bool crib1), pl 5 (.int .i64 0), pl 7 (.func (.func 213) #[] #[]), pl 8 (.slice A2 5 5), pl 9 (.int .i64 5), pl 10 (.int .i64 0)] hF hS Fol (by kernel_rfl) (by kernel_rfl) (by kernel_rfl) ?_ (fun a w hF hS => ?_)
        · exact obs_cons (ob_ix1 (f := fnV) (m := ([213, 214, 215, 216, 217] : List Nat)) Und204 hi206 hs206 (hS.at_ 0 rfl).rd rfl (fun _ => hp1)) <| obs_cons (ob_get1 (n := 5) (m := ([213, 214, 215, 216, 217] : List Nat)) fnV 0 Agg206 (fun _ hS => ⟨_, (hS.at_ 0 rfl).rd⟩) (fun _ hS => rfl) (fun _ => hp1)) <| obs_nil
        refine oneR ?_
        obtain ⟨r2, hr2, hm⟩ := call_b hm
        refine at_run 7 [⟨false, [], callFunc 213 #[.slice A1 l1.length c1, .bool crib1], .int .i64 r2⟩] [none, none, none, none, some (.int .i64 r2), none, none] [0, 1, 5, 8, 9, 10] [pl 0 (.slice A1 l1.length c1), pl 1 (.bool crib1), pl 5 (.int .i64 (w64 (0 + r2))), pl 8 (.slice A2 5 5), pl 9 (.int .i64 5), pl 10 (.int .i64 0)] hF hS (by kernel_rfl) (by kernel_rfl) ?_ (fun a w hF hS => ?_)
        · exact obs_cons (ob_call Try.func213 (by kernel_rfl) rfl (fun _ _ hS => crib_fifteens_w hr2 hS (fun _ hS => (hr_l1 _ (hS.dropN 1))) _hc_l1 rfl)) <| obs_nil
        refine at_end [0, 1, 5, 8, 9, 10] [pl 0 (.slice A1 l1.length c1), pl 1 (.bool crib1), pl 5 (.int .i64 (w64 (0 + r2))), pl 8 (.slice A2 5 5), pl 9 (.int .i64 5), pl 10 (.int .i64 0)] hF rfl (by kernel_rfl) (fun hF => ?_)
        refine block_n ?_
        refine then_n ?_
        exact ⟨(w64 (0 + r2)), hF.weak [0, 1, 5, 8, 9, 10] (by kernel_rfl), hS, hm⟩
    · refine cond_ev (t := 11) (b := decide ((0 : Int) < 5)) hF (by kernel_rfl) (fun hb => ?_) (fun hb => ?_)
      · refine wp_skip ?_
        refine then_n ?_
        exact ⟨hF.weak [0, 1, 5, 8, 9, 10] (by kernel_rfl), hS, hm⟩
      · exact absurd hb (by decide)

noncomputable def slices_Clone_J1 (s1 : List Int) : Option (List Int) :=
  asrt ((0 : Int) + (s1.length : Int) ≤ bigN) <| some (([] : List Int) ++ s1)

noncomputable def slices_Clone_m (s1 : List Int) : Option (List Int) :=
  (slices_Clone_J1 s1)

set_option maxRecDepth 100000 in
set_option maxHeartbeats 4000000 in
theorem slices_Clone_w {A1 : Option Addr} {c1 : Nat} {n1 : Nat} {s1 : List Int} {r : (List Int)} {w0 w : World} {B : Nat} {fs : List HP} (hm : slices_Clone_m s1 = some r) (hS : Sep w0 B w (fs)) (hr_s1 : RdF w0 B fs A1 (vI s1)) (_hc_s1 : s1.length ≤ c1) (_hn_s1 : n1 = s1.length) :
    Calls Try.prog 101 #[.slice A1 n1 c1] w fun e w' => ∃ v, e = .returned v ∧ ∃ (A3 : Option Addr) (c3 : Nat), v = .slice A3 r.length c3 ∧ Sep w0 B w' (own 3 (.slice A3 r.length c3) (vI r) :: fs) := by
  obtain ⟨i3, hi3, hz3, hs3, hb3⟩ := info_parts Info3
  obtain rfl := _hn_s1
  unfold slices_Clone_m at hm
  replace hm := start_b hm
  refine enter (l := [.slice A1 s1.length c1]) (n := 8) Try.func101 rfl rfl (by simp) (fun a hF => ?_)
  refine reg [] [] [0] [pl 0 (.slice A1 s1.length c1)] hF hS Fol (by kernel_rfl) (by kernel_rfl) (by kernel_rfl) ?_ (fun a w hF hS => ?_)
  · exact obs_nil
  refine seq_cut (fun a w => Fr 8 [pl 0 (.slice A1 s1.length c1)] a ∧ Sep w0 B w (fs) ∧ ((slices_Clone_J1 s1)).bind some = some r) ?_ ?_
  · rintro a w ⟨hF, hS, hm⟩
    unfold slices_Clone_J1 at hm
    refine seqR ?_
    obtain ⟨hp1, hm⟩ := asrt_b hm
    refine at_do (d := 5) (s := vS (Instr.buildSlice 22 0 #[])) (v := .slice (some ⟨w.heap.size, 0, none⟩) 0 0) (w' := w.alloc (.cells #[] 3)) hF (by kernel_rfl) (by kernel_rfl) (by kernel_rfl) (fun a hF => ?_)
    have hS : Sep w0 B (w.alloc (.cells #[] 3)) (own 3 (.slice (some (⟨w.heap.size, 0, none⟩ : Addr)) 0 0) (vI ([] : List Int)) :: (fs)) := hS.lit 3 #[] 0 rfl (by omega)
    generalize (some (⟨w.heap.size, 0, none⟩ : Addr)) = g1 at hF hS
    generalize w.alloc (.cells #[] 3) = w at hS ⊢
    refine at_run 1 [] [] [5, 6] [pl 5 (.slice g1 0 0), pl 6 (.slice A1 s1.length c1)] hF hS (by kernel_rfl) (by kernel_rfl) ?_ (fun a w hF hS => ?_)
    · exact obs_nil
    obtain ⟨A2, c2, w, hrun, hS⟩ := run_app1 (P := Try.prog) (t := 22) (m := ([] : List Int)) (ys := s1) (A2 := A1) (m2 := s1.length) (c2 := c1) (Value.int .i64) (0 : Int) (hS.at_ 0 rfl) (hr_s1 _ (hS.dropN 1)) rfl 22 Und22 hi3 hz3 hs3 (by omega) rfl (fun _ => rfl) hp1
    have hS : Sep w0 B w (own 3 (.slice A2 ((([] : List Int) ++ s1).length) c2) (vI (([] : List Int) ++ s1)) :: fs) := hS
    refine at_do (d := 7) hF (by kernel_rfl) (by kernel_rfl) hrun (fun a hF => ?_)
    refine at_run 1 [] [] [2] [pl 2 (.slice A2 ((([] : List Int) ++ s1).length) c2)] hF hS (by kernel_rfl) (by kernel_rfl) ?_ (fun a w hF hS => ?_)
    · exact obs_nil
    refine at_end [2] [pl 2 (.slice A2 ((([] : List Int) ++ s1).length) c2)] hF rfl (by kernel_rfl) (fun hF => ?_)
    refine then_n ?_
    refine wp_ret ?_
    have hm : some (([] : List Int) ++ s1) = some r := hm
    obtain rfl := Option.some.inj hm
    exact retV (rs := [.tmp 2]) (vs := [.slice A2 ((([] : List Int) ++ s1).length) c2]) hF rfl (rv_t (by kernel_rfl) <| rv_nil) rfl ⟨_, rfl, A2, c2, rfl, hS⟩
  · refine reg [⟨true, [], vS (binOp .eql 22 (.slice A1 s1.length c1) (.slice none 0 0)), .bool A1.isNone⟩] [none, some (.bool A1.isNone)] [0, 4] [pl 0 (.slice A1 s1.length c1), pl 4 (.bool A1.isNone)] hF hS Fol (by kernel_rfl) (by kernel_rfl) (by kernel_rfl) ?_ (fun a w hF hS => ?_)
    · exact obs_cons (ob_isnil Und22 rfl) <| obs_nil
    refine cond_ev (t := 4) (b := A1.isNone) hF (by kernel_rfl) (fun hb => ?_) (fun hb => ?_)
    · have hA9 := Option.isNone_iff_eq_none.1 hb
      have hnil9 : s1 = [] := by have h9 := (hr_s1 _ (hS.dropN 0)); rw [hA9] at h9; exact h9.none_nil
      have hm : (some ([] : List Int)).bind some = some r := by rw [hnil9] at hm; simpa [asrt, bigN, slices_Clone_J1] using hm
      refine reg [] [] [2] [pl 2 (.slice none 0 0)] hF hS Fol (by kernel_rfl) (by kernel_rfl) (by kernel_rfl) ?_ (fun a w hF hS => ?_)
      · exact obs_nil
      refine wp_ret ?_
      refine then_r ?_
      have hS : Sep w0 B w (own 3 (.slice none 0 0) (vI ([] : List Int)) :: fs) := hS.nil 3
      have hl1 := (hS.at_ 0 rfl).len1
      have hS := (hS.at_ 0 rfl).reN hl1
      have hS : Sep w0 B w (own 3 (.slice none (([] : List Int).length) 0) (vI ([] : List Int)) :: fs) := hS
      have hm : some ([] : List Int) = some r := hm
      obtain rfl := Option.some.inj hm
      exact retV (rs := [.tmp 2]) (vs := [.slice none (([] : List Int).length) 0]) hF rfl (rv_t (by kernel_rfl) <| rv_nil) rfl ⟨_, rfl, none, 0, rfl, hS⟩
    · refine wp_skip ?_
      refine then_n ?_
      exact ⟨hF.weak [0] (by kernel_rfl), hS, hm⟩

noncomputable def crib_Keep_J14 (z2 : Int) (l3 : List Int) (sum3 : Int) : Option (St (List Int × Int × Int) (List Int × Int)) :=
  some (.next (l3, sum3, (w64 (z2 + 1))))

noncomputable def crib_Keep_J13 (hand1 : List Int) (l1 : List Int) (sum1 : Int) (z2 : Int) : Option (St (List Int × Int × Int) (List Int × Int)) :=
  (slices_Contains_m hand1 z2).bind fun r2 => if (!r2) then (asrt (0 ≤ (4 : Int) ∧ (4 : Int) < 5) <| (crib_show_m (l1.set (Int.toNat 4) z2) false).bind fun r3 => (crib_Keep_J14 z2) (l1.set (Int.toNat 4) z2) (w64 (sum1 + r3))) else ((crib_Keep_J14 z2) l1 sum1)

noncomputable def crib_Keep_J11 (d1 : Int) (best9 : List Int) (most9 : Int) : Option (St (List Int × Int × Int) (List Int × Int)) :=
  some (.next (best9, most9, (w64 (d1 + 1))))

noncomputable def crib_Keep_J12 (best7 : List Int) (most7 : Int) (d1 : Int) (l2 : List Int) (sum2 : Int) : Option (St (List Int × Int × Int) (List Int × Int)) :=
  if (decide (most7 < sum2)) then (asrt (0 ≤ (0 : Int) ∧ (0 : Int) ≤ (4 : Int) ∧ (4 : Int) ≤ 5) <| (slices_Clone_m (cut l2 (0 : Int) (4 : Int))).bind fun r4 => (crib_Keep_J11 d1) r4 sum2) else ((crib_Keep_J11 d1) best7 most7)

noncomputable def crib_Keep_K5 (best7 : List Int) (most7 : Int) (d1 : Int) : (List Int × Int) → Option (St (List Int × Int × Int) (List Int × Int)) :=
  fun (x : (List Int × Int)) => match x with | (l2, sum2) => (crib_Keep_J12 best7 most7 d1) l2 sum2

noncomputable def crib_Keep_L5 (hand1 : List Int) : (List Int × Int × Int) → Option (St (List Int × Int × Int) (List Int × Int)) :=
  fun (x : (List Int × Int × Int)) => match x with | (l1, sum1, z2) => if (decide (z2 < 52)) then ((crib_Keep_J13 hand1 l1 sum1 z2)) else (some (.done (l1, sum1)))

noncomputable def crib_Keep_J10 (hand1 : List Int) (z1 : Int) (b1 : Int) (c7 : Int) (best7 : List Int) (most7 : Int) (d1 : Int) : Option (St (List Int × Int × Int) (List Int × Int)) :=
  asrt (0 ≤ z1 ∧ z1 < (hand1.length : Int)) <| asrt (0 ≤ b1 ∧ b1 < (hand1.length : Int)) <| asrt (0 ≤ c7 ∧ c7 < (hand1.length : Int)) <| asrt (0 ≤ d1 ∧ d1 < (hand1.length : Int)) <| (loop (crib_Keep_L5 hand1) (([geti hand1 z1, geti hand1 b1, geti hand1 c7, geti hand1 d1, 0] : List Int), 0, 0)).bind (crib_Keep_K5 best7 most7 d1)

noncomputable def crib_Keep_J9 (c7 : Int) (best8 : List Int) (most8 : Int) : Option (St (List Int × Int × Int) (List Int × Int)) :=
  some (.next (best8, most8, (w64 (c7 + 1))))

noncomputable def crib_Keep_K4 (c7 : Int) : (List Int × Int) → Option (St (List Int × Int × Int) (List Int × Int)) :=
  fun (x : (List Int × Int)) => match x with | (best8, most8) => (crib_Keep_J9 c7) best8 most8

noncomputable def crib_Keep_L4 (hand1 : List Int) (z1 : Int) (b1 : Int) (c7 : Int) : (List Int × Int × Int) → Option (St (List Int × Int × Int) (List Int × Int)) :=
  fun (x : (List Int × Int × Int)) => match x with | (best7, most7, d1) => if (decide (d1 < 6)) then ((crib_Keep_J10 hand1 z1 b1 c7 best7 most7 d1)) else (some (.done (best7, most7)))

noncomputable def crib_Keep_J8 (hand1 : List Int) (z1 : Int) (b1 : Int) (best5 : List Int) (most5 : Int) (c7 : Int) : Option (St (List Int × Int × Int) (List Int × Int)) :=
  (loop (crib_Keep_L4 hand1 z1 b1 c7) (best5, most5, (w64 (c7 + 1)))).bind (crib_Keep_K4 c7)

noncomputable def crib_Keep_J7 (b1 : Int) (best6 : List Int) (most6 : Int) : Option (St (List Int × Int × Int) (List Int × Int)) :=
  some (.next (best6, most6, (w64 (b1 + 1))))

noncomputable def crib_Keep_K3 (b1 : Int) : (List Int × Int) → Option (St (List Int × Int × Int) (List Int × Int)) :=
  fun (x : (List Int × Int)) => match x with | (best6, most6) => (crib_Keep_J7 b1) best6 most6

noncomputable def crib_Keep_L3 (hand1 : List Int) (z1 : Int) (b1 : Int) : (List Int × Int × Int) → Option (St (List Int × Int × Int) (List Int × Int)) :=
  fun (x : (List Int × Int × Int)) => match x with | (best5, most5, c7) => if (decide (c7 < 6)) then ((crib_Keep_J8 hand1 z1 b1 best5 most5 c7)) else (some (.done (best5, most5)))

noncomputable def crib_Keep_J6 (hand1 : List Int) (z1 : Int) (best3 : List Int) (most3 : Int) (b1 : Int) : Option (St (List Int × Int × Int) (List Int × Int)) :=
  (loop (crib_Keep_L3 hand1 z1 b1) (best3, most3, (w64 (b1 + 1)))).bind (crib_Keep_K3 b1)

noncomputable def crib_Keep_J5 (z1 : Int) (best4 : List Int) (most4 : Int) : Option (St (List Int × Int × Int) (List Int × Int)) :=
  some (.next (best4, most4, (w64 (z1 + 1))))

noncomputable def crib_Keep_K2 (z1 : Int) : (List Int × Int) → Option (St (List Int × Int × Int) (List Int × Int)) :=
  fun (x : (List Int × Int)) => match x with | (best4, most4) => (crib_Keep_J5 z1) best4 most4

noncomputable def crib_Keep_L2 (hand1 : List Int) (z1 : Int) : (List Int × Int × Int) → Option (St (List Int × Int × Int) (List Int × Int)) :=
  fun (x : (List Int × Int × Int)) => match x with | (best3, most3, b1) => if (decide (b1 < 6)) then ((crib_Keep_J6 hand1 z1 best3 most3 b1)) else (some (.done (best3, most3)))

noncomputable def crib_Keep_J4 (hand1 : List Int) (best1 : List Int) (most1 : Int) (z1 : Int) : Option (St (List Int × Int × Int) (List Int × Int)) :=
  (loop (crib_Keep_L2 hand1 z1) (best1, most1, (w64 (z1 + 1)))).bind (crib_Keep_K2 z1)

noncomputable def crib_Keep_J3 (best2 : List Int) (most2 : Int) : Option (List Int × Int × Int) :=
  some (best2, most2, 0)

noncomputable def crib_Keep_K1 : (List Int × Int) → Option (List Int × Int × Int) :=
  fun (x : (List Int × Int)) => match x with | (best2, most2) => crib_Keep_J3 best2 most2

noncomputable def crib_Keep_L1 (hand1 : List Int) : (List Int × Int × Int) → Option (St (List Int × Int × Int) (List Int × Int)) :=
  fun (x : (List Int × Int × Int)) => match x with | (best1, most1, z1) => if (decide (z1 < 6)) then ((crib_Keep_J4 hand1 best1 most1 z1)) else (some (.done (best1, most1)))

noncomputable def crib_Keep_J2 (hand1 : List Int) : Option (List Int × Int × Int) :=
  (loop (crib_Keep_L1 hand1) (([] : List Int), (-1), 0)).bind crib_Keep_K1

noncomputable def crib_Keep_J1 (hand1 : List Int) : Option (List Int × Int × Int) :=
  (crib_check_m hand1).bind fun r1 => if (r1 != 0) then (some (([] : List Int), 0, r1)) else ((crib_Keep_J2 hand1))

noncomputable def crib_Keep_m (hand1 : List Int) : Option (List Int × Int × Int) :=
  if ((hand1.length : Int) != 6) then (some (([] : List Int), 0, 11)) else ((crib_Keep_J1 hand1))

set_option maxRecDepth 100000 in
set_option maxHeartbeats 4000000 in
theorem crib_Keep_w {A1 : Option Addr} {c1 : Nat} {n1 : Nat} {hand1 : List Int} {r : (List Int × Int × Int)} {w0 w : World} {B : Nat} {fs : List HP} (hm : crib_Keep_m hand1 = some r) (hS : Sep w0 B w (fs)) (hr_hand1 : RdF w0 B fs A1 (vI hand1)) (_hc_hand1 : hand1.length ≤ c1) (_hn_hand1 : n1 = hand1.length) :
    Calls Try.prog 81 #[.slice A1 n1 c1] w fun e w' => ∃ v, e = .returned v ∧ ∃ (A12 : Option Addr) (c13 : Nat), v = .tuple #[.slice A12 r.1.length c13, .int .i64 r.2.1, .int .i64 r.2.2] ∧ Sep w0 B w' (own 3 (.slice A12 r.1.length c13) (vI r.1) :: fs) := by
  obtain ⟨i3, hi3, hz3, hs3, hb3⟩ := info_parts Info3
  obtain rfl := _hn_hand1
  unfold crib_Keep_m at hm
  replace hm := start_b hm
  refine enter (l := [.slice A1 hand1.length c1]) (n := 86) Try.func81 rfl rfl (by simp) (fun a hF => ?_)
  refine reg [] [] [0] [pl 0 (.slice A1 hand1.length c1)] hF hS Fol (by kernel_rfl) (by kernel_rfl) (by kernel_rfl) ?_ (fun a w hF hS => ?_)
  · exact obs_nil
  refine seq_cut (fun a w => Fr 86 [pl 0 (.slice A1 hand1.length c1)] a ∧ Sep w0 B w (fs) ∧ ((crib_Keep_J1 hand1)).bind some = some r) ?_ ?_
  · rintro a w ⟨hF, hS, hm⟩
    unfold crib_Keep_J1 at hm
    refine seq_cut (fun a w => Fr 86 [pl 0 (.slice A1 hand1.length c1)] a ∧ Sep w0 B w (fs) ∧ ((crib_Keep_J2 hand1)).bind some = some r) ?_ ?_
    · rintro a w ⟨hF, hS, hm⟩
      unfold crib_Keep_J2 at hm
      refine reg [] [] [0, 6] [pl 0 (.slice A1 hand1.length c1), pl 6 (.slice none 0 0)] hF hS Fol (by kernel_rfl) (by kernel_rfl) (by kernel_rfl) ?_ (fun a w hF hS => ?_)
      · exact obs_nil
      refine reg [] [] [0, 6, 7] [pl 0 (.slice A1 hand1.length c1), pl 6 (.slice none 0 0), pl 7 (.int .i64 (-1))] hF hS Fol (by kernel_rfl) (by kernel_rfl) (by kernel_rfl) ?_ (fun a w hF hS => ?_)
      · exact obs_nil
      refine seq_cut (fun a w => ∃ (best2 : List Int) (most2 : Int) (A3 : Option Addr) (c3 : Nat), Fr 86 [pl 6 (.slice A3 best2.length c3), pl 7 (.int .i64 most2)] a ∧ Sep w0 B w (own 3 (.slice A3 best2.length c3) (vI best2) :: fs) ∧ (crib_Keep_J3 best2 most2).bind some = some r) ?_ ?_
      · rintro a w ⟨best2, most2, A3, c3, hF, hS, hm⟩
        unfold crib_Keep_J3 at hm
        refine reg [] [] [2, 3, 4] [pl 2 (.slice A3 best2.length c3), pl 3 (.int .i64 most2), pl 4 (.int .i64 0)] hF hS Fol (by kernel_rfl) (by kernel_rfl) (by kernel_rfl) ?_ (fun a w hF hS => ?_)
        · exact obs_nil
        refine wp_ret ?_
        have hm : some (best2, most2, 0) = some r := hm
        obtain rfl := Option.some.inj hm
        exact retV (rs := [.tmp 2, .tmp 3, .tmp 4]) (vs := [.slice A3 best2.length c3, .int .i64 most2, .int .i64 0]) hF rfl (rv_t (by kernel_rfl) <| rv_t (by kernel_rfl) <| rv_t (by kernel_rfl) <| rv_nil) rfl ⟨_, rfl, A3, c3, rfl, hS⟩
      · refine reg [] [] [0, 6, 7, 23] [pl 0 (.slice A1 hand1.length c1), pl 6 (.slice none 0 0), pl 7 (.int .i64 (-1)), pl 23 (.int .i64 0)] hF hS Fol (by kernel_rfl) (by kernel_rfl) (by kernel_rfl) ?_ (fun a w hF hS => ?_)
        · exact obs_nil
        refine wp_block ?_
        have hS : Sep w0 B w (own 3 (.slice none 0 0) (vI ([] : List Int)) :: fs) := hS.nil 3
        have hl3 := (hS.at_ 0 rfl).len1
        have hS := (hS.at_ 0 rfl).reN hl3
        have hS : Sep w0 B w (own 3 (.slice none (([] : List Int).length) 0) (vI ([] : List Int)) :: fs) := hS
        have hF := hF.cast (t := 6) (v := .slice none 0 0) (v' := .slice none (([] : List Int).length) 0) rfl rfl (congrArg (fun k => Value.slice none k 0) hl3)
        refine wp_loop_model (S := (List Int × Int × Int)) (R := (List Int × Int)) (crib_Keep_L1 hand1) (fun x => (crib_Keep_K1 x).bind some) r (fun (x : (List Int × Int × Int)) a w => ∃ (A2 : Option Addr) (c2 : Nat), Fr 86 [pl 0 (.slice A1 hand1.length c1), pl 6 (.slice A2 x.1.length c2), pl 7 (.int .i64 x.2.1), pl 23 (.int .i64 x.2.2)] a ∧ Sep w0 B w (own 3 (.slice A2 x.1.length c2) (vI x.1) :: fs)) (assoc_b hm) ⟨none, 0, hF.weak [0, 6, 7, 23] (by kernel_rfl), hS⟩ ?_
        clear hF hS hm
        rintro nn1 ⟨best1, most1, z1⟩ a w ⟨A2, c2, hF, hS⟩ hm
        generalize hφ1 : stK (crib_Keep_L1 hand1) nn1 (fun x => (crib_Keep_K1 x).bind some) = φ1 at hm
        unfold crib_Keep_L1 at hm
        dsimp only at hF hS hm
        refine reg [] [] [0, 6, 7, 23, 24] [pl 0 (.slice A1 hand1.length c1), pl 6 (.slice A2 best1.length c2), pl 7 (.int .i64 most1), pl 23 (.int .i64 z1), pl 24 (.bool (decide (z1 < 6)))] hF hS Fol (by kernel_rfl) (by kernel_rfl) (by kernel_rfl) ?_ (fun a w hF hS => ?_)
        · exact obs_nil
        refine seq_cut (fun a w => Fr 86 [pl 0 (.slice A1 hand1.length c1), pl 6 (.slice A2 best1.length c2), pl 7 (.int .i64 most1), pl 23 (.int .i64 z1)] a ∧ Sep w0 B w (own 3 (.slice A2 best1.length c2) (vI best1) :: fs) ∧ ((crib_Keep_J4 hand1 best1 most1 z1)).bind φ1 = some r) ?_ ?_
        · rintro a w ⟨hF, hS, hm⟩
          unfold crib_Keep_J4 at hm
          refine seq_cut (fun a w => ∃ (best4 : List Int) (most4 : Int) (A5 : Option Addr) (c5 : Nat), Fr 86 [pl 0 (.slice A1 hand1.length c1), pl 6 (.slice A5 best4.length c5), pl 7 (.int .i64 most4), pl 23 (.int .i64 z1)] a ∧ Sep w0 B w (own 3 (.slice A5 best4.length c5) (vI best4) :: fs) ∧ ((crib_Keep_J5 z1) best4 most4).bind φ1 = some r) ?_ ?_
          · rintro a w ⟨best4, most4, A5, c5, hF, hS, hm⟩
            unfold crib_Keep_J5 at hm
            refine reg1 [] [] [0, 6, 7, 23] [pl 0 (.slice A1 hand1.length c1), pl 6 (.slice A5 best4.length c5), pl 7 (.int .i64 most4), pl 23 (.int .i64 (w64 (z1 + 1)))] hF hS Fol (by kernel_rfl) (by kernel_rfl) (by kernel_rfl) ?_ (fun a w hF hS => ?_)
            · exact obs_nil
            refine then_n ?_
            rw [← hφ1] at hm
            exact ⟨(best4, most4, (w64 (z1 + 1))), ⟨A5, c5, hF.weak [0, 6, 7, 23] (by kernel_rfl), hS⟩, hm⟩
          · refine wp_block ?_
            refine reg [] [] [0, 6, 7, 8, 23] [pl 0 (.slice A1 hand1.length c1), pl 6 (.slice A2 best1.length c2), pl 7 (.int .i64 most1), pl 8 (.int .i64 z1), pl 23 (.int .i64 z1)] hF hS Fol (by kernel_rfl) (by kernel_rfl) (by kernel_rfl) ?_ (fun a w hF hS => ?_)
            · exact obs_nil
            refine reg [] [] [0, 6, 7, 8, 9, 23] [pl 0 (.slice A1 hand1.length c1), pl 6 (.slice A2 best1.length c2), pl 7 (.int .i64 most1), pl 8 (.int .i64 z1), pl 9 (.int .i64 (w64 (z1 + 1))), pl 23 (.int .i64 z1)] hF hS Fol (by kernel_rfl) (by kernel_rfl) (by kernel_rfl) ?_ (fun a w hF hS => ?_)
            · exact obs_nil
            refine wp_block ?_
            refine wp_loop_model (S := (List Int × Int × Int)) (R := (List Int × Int)) (crib_Keep_L2 hand1 z1) (fun x => ((crib_Keep_K2 z1) x).bind φ1) r (fun (x : (List Int × Int × Int)) a w => ∃ (A4 : Option Addr) (c4 : Nat), Fr 86 [pl 0 (.slice A1 hand1.length c1), pl 6 (.slice A4 x.1.length c4), pl 7 (.int .i64 x.2.1), pl 8 (.int .i64 z1), pl 9 (.int .i64 x.2.2), pl 23 (.int .i64 z1)] a ∧ Sep w0 B w (own 3 (.slice A4 x.1.length c4) (vI x.1) :: fs)) (assoc_b hm) ⟨A2, c2, hF.weak [0, 6, 7, 8, 9, 23] (by kernel_rfl), hS⟩ ?_
            clear hF hS hm
            rintro nn2 ⟨best3, most3, b1⟩ a w ⟨A4, c4, hF, hS⟩ hm
            generalize hφ2 : stK (crib_Keep_L2 hand1 z1) nn2 (fun x => ((crib_Keep_K2 z1) x).bind φ1) = φ2 at hm
            unfold crib_Keep_L2 at hm
            dsimp only at hF hS hm
            refine seq_cut (fun a w => Fr 86 [pl 0 (.slice A1 hand1.length c1), pl 6 (.slice A4 best3.length c4), pl 7 (.int .i64 most3), pl 8 (.int .i64 z1), pl 9 (.int .i64 b1), pl 23 (.int .i64 z1)] a ∧ Sep w0 B w (own 3 (.slice A4 best3.length c4) (vI best3) :: fs) ∧ ((crib_Keep_J6 hand1 z1 best3 most3 b1)).bind φ2 = some r) ?_ ?_
            · rintro a w ⟨hF, hS, hm⟩
              unfold crib_Keep_J6 at hm
              refine seq_cut (fun a w => ∃ (best6 : List Int) (most6 : Int) (A7 : Option Addr) (c8 : Nat), Fr 86 [pl 0 (.slice A1 hand1.length c1), pl 6 (.slice A7 best6.length c8), pl 7 (.int .i64 most6), pl 8 (.int .i64 z1), pl 9 (.int .i64 b1), pl 23 (.int .i64 z1)] a ∧ Sep w0 B w (own 3 (.slice A7 best6.length c8) (vI best6) :: fs) ∧ ((crib_Keep_J7 b1) best6 most6).bind φ2 = some r) ?_ ?_
              · rintro a w ⟨best6, most6, A7, c8, hF, hS, hm⟩
                unfold crib_Keep_J7 at hm
                refine reg1 [] [] [0, 6, 7, 8, 9, 23] [pl 0 (.slice A1 hand1.length c1), pl 6 (.slice A7 best6.length c8), pl 7 (.int .i64 most6), pl 8 (.int .i64 z1), pl 9 (.int .i64 (w64 (b1 + 1))), pl 23 (.int .i64 z1)] hF hS Fol (by kernel_rfl) (by kernel_rfl) (by kernel_rfl) ?_ (fun a w hF hS => ?_)
                · exact obs_nil
                refine then_n ?_
                rw [← hφ2] at hm
                exact ⟨(best6, most6, (w64 (b1 + 1))), ⟨A7, c8, hF.weak [0, 6, 7, 8, 9, 23] (by kernel_rfl), hS⟩, hm⟩
              · refine wp_block ?_
                refine reg [] [] [0, 6, 7, 8, 9, 10, 23] [pl 0 (.slice A1 hand1.length c1), pl 6 (.slice A4 best3.length c4), pl 7 (.int .i64 most3), pl 8 (.int .i64 z1), pl 9 (.int .i64 b1), pl 10 (.int .i64 (w64 (b1 + 1))), pl 23 (.int .i64 z1)] hF hS Fol (by kernel_rfl) (by kernel_rfl) (by kernel_rfl) ?_ (fun a w hF hS => ?_)
                · exact obs_nil
                refine wp_block ?_
                refine wp_loop_model (S := (List Int × Int × Int)) (R := (List Int × Int)) (crib_Keep_L3 hand1 z1 b1) (fun x => ((crib_Keep_K3 b1) x).bind φ2) r (fun (x : (List Int × Int × Int)) a w => ∃ (A6 : Option Addr) (c6 : Nat), Fr 86 [pl 0 (.slice A1 hand1.length c1), pl 6 (.slice A6 x.1.length c6), pl 7 (.int .i64 x.2.1), pl 8 (.int .i64 z1), pl 9 (.int .i64 b1), pl 10 (.int .i64 x.2.2), pl 23 (.int .i64 z1)] a ∧ Sep w0 B w (own 3 (.slice A6 x.1.length c6) (vI x.1) :: fs)) (assoc_b hm) ⟨A4, c4, hF.weak [0, 6, 7, 8, 9, 10, 23] (by kernel_rfl), hS⟩ ?_
                clear hF hS hm
                rintro nn3 ⟨best5, most5, c7⟩ a w ⟨A6, c6, hF, hS⟩ hm
                generalize hφ3 : stK (crib_Keep_L3 hand1 z1 b1) nn3 (fun x => ((crib_Keep_K3 b1) x).bind φ2) = φ3 at hm
                unfold crib_Keep_L3 at hm
                dsimp only at hF hS hm
                refine seq_cut (fun a w => Fr 86 [pl 0 (.slice A1 hand1.length c1), pl 6 (.slice A6 best5.length c6), pl 7 (.int .i64 most5), pl 8 (.int .i64 z1), pl 9 (.int .i64 b1), pl 10 (.int .i64 c7), pl 23 (.int .i64 z1)] a ∧ Sep w0 B w (own 3 (.slice A6 best5.length c6) (vI best5) :: fs) ∧ ((crib_Keep_J8 hand1 z1 b1 best5 most5 c7)).bind φ3 = some r) ?_ ?_
                · rintro a w ⟨hF, hS, hm⟩
                  unfold crib_Keep_J8 at hm
                  refine seq_cut (fun a w => ∃ (best8 : List Int) (most8 : Int) (A9 : Option Addr) (c10 : Nat), Fr 86 [pl 0 (.slice A1 hand1.length c1), pl 6 (.slice A9 best8.length c10), pl 7 (.int .i64 most8), pl 8 (.int .i64 z1), pl 9 (.int .i64 b1), pl 10 (.int .i64 c7), pl 23 (.int .i64 z1)] a ∧ Sep w0 B w (own 3 (.slice A9 best8.length c10) (vI best8) :: fs) ∧ ((crib_Keep_J9 c7) best8 most8).bind φ3 = some r) ?_ ?_
                  · rintro a w ⟨best8, most8, A9, c10, hF, hS, hm⟩
                    unfold crib_Keep_J9 at hm
                    refine reg1 [] [] [0, 6, 7, 8, 9, 10, 23] [pl 0 (.slice A1 hand1.length c1), pl 6 (.slice A9 best8.length c10), pl 7 (.int .i64 most8), pl 8 (.int .i64 z1), pl 9 (.int .i64 b1), pl 10 (.int .i64 (w64 (c7 + 1))), pl 23 (.int .i64 z1)] hF hS Fol (by kernel_rfl) (by kernel_rfl) (by kernel_rfl) ?_ (fun a w hF hS => ?_)
                    · exact obs_nil
                    refine then_n ?_
                    rw [← hφ3] at hm
                    exact ⟨(best8, most8, (w64 (c7 + 1))), ⟨A9, c10, hF.weak [0, 6, 7, 8, 9, 10, 23] (by kernel_rfl), hS⟩, hm⟩
                  · refine wp_block ?_
                    refine reg [] [] [0, 6, 7, 8, 9, 10, 11, 23] [pl 0 (.slice A1 hand1.length c1), pl 6 (.slice A6 best5.length c6), pl 7 (.int .i64 most5), pl 8 (.int .i64 z1), pl 9 (.int .i64 b1), pl 10 (.int .i64 c7), pl 11 (.int .i64 (w64 (c7 + 1))), pl 23 (.int .i64 z1)] hF hS Fol (by kernel_rfl) (by kernel_rfl) (by kernel_rfl) ?_ (fun a w hF hS => ?_)
                    · exact obs_nil
                    refine wp_block ?_
                    refine wp_loop_model (S := (List Int × Int × Int)) (R := (List Int × Int)) (crib_Keep_L4 hand1 z1 b1 c7) (fun x => ((crib_Keep_K4 c7) x).bind φ3) r (fun (x : (List Int × Int × Int)) a w => ∃ (A8 : Option Addr) (c9 : Nat), Fr 86 [pl 0 (.slice A1 hand1.length c1), pl 6 (.slice A8 x.1.length c9), pl 7 (.int .i64 x.2.1), pl 8 (.int .i64 z1), pl 9 (.int .i64 b1), pl 10 (.int .i64 c7), pl 11 (.int .i64 x.2.2), pl 23 (.int .i64 z1)] a ∧ Sep w0 B w (own 3 (.slice A8 x.1.length c9) (vI x.1) :: fs)) (assoc_b hm) ⟨A6, c6, hF.weak [0, 6, 7, 8, 9, 10, 11, 23] (by kernel_rfl), hS⟩ ?_
                    clear hF hS hm
                    rintro nn4 ⟨best7, most7, d1⟩ a w ⟨A8, c9, hF, hS⟩ hm
                    generalize hφ4 : stK (crib_Keep_L4 hand1 z1 b1 c7) nn4 (fun x => ((crib_Keep_K4 c7) x).bind φ3) = φ4 at hm
                    unfold crib_Keep_L4 at hm
                    dsimp only at hF hS hm
                    refine seq_cut (fun a w => Fr 86 [pl 0 (.slice A1 hand1.length c1), pl 6 (.slice A8 best7.length c9), pl 7 (.int .i64 most7), pl 8 (.int .i64 z1), pl 9 (.int .i64 b1), pl 10 (.int .i64 c7), pl 11 (.int .i64 d1), pl 23 (.int .i64 z1)] a ∧ Sep w0 B w (own 3 (.slice A8 best7.length c9) (vI best7) :: fs) ∧ ((crib_Keep_J10 hand1 z1 b1 c7 best7 most7 d1)).bind φ4 = some r) ?_ ?_
                    · rintro a w ⟨hF, hS, hm⟩
                      unfold crib_Keep_J10 at hm
                      refine seq_cut (fun a w => ∃ (best9 : List Int) (most9 : Int) (A11 : Option Addr) (c12 : Nat), Fr 86 [pl 0 (.slice A1 hand1.length c1), pl 6 (.slice A11 best9.length c12), pl 7 (.int .i64 most9), pl 8 (.int .i64 z1), pl 9 (.int .i64 b1), pl 10 (.int .i64 c7), pl 11 (.int .i64 d1), pl 23 (.int .i64 z1)] a ∧ Sep w0 B w (own 3 (.slice A11 best9.length c12) (vI best9) :: fs) ∧ ((crib_Keep_J11 d1) best9 most9).bind φ4 = some r) ?_ ?_
                      · rintro a w ⟨best9, most9, A11, c12, hF, hS, hm⟩
                        unfold crib_Keep_J11 at hm
                        refine reg1 [] [] [0, 6, 7, 8, 9, 10, 11, 23] [pl 0 (.slice A1 hand1.length c1), pl 6 (.slice A11 best9.length c12), pl 7 (.int .i64 most9), pl 8 (.int .i64 z1), pl 9 (.int .i64 b1), pl 10 (.int .i64 c7), pl 11 (.int .i64 (w64 (d1 + 1))), pl 23 (.int .i64 z1)] hF hS Fol (by kernel_rfl) (by kernel_rfl) (by kernel_rfl) ?_ (fun a w hF hS => ?_)
                        · exact obs_nil
                        refine then_n ?_
                        rw [← hφ4] at hm
                        exact ⟨(best9, most9, (w64 (d1 + 1))), ⟨A11, c12, hF.weak [0, 6, 7, 8, 9, 10, 11, 23] (by kernel_rfl), hS⟩, hm⟩
                      · refine wp_block ?_
                        refine wp_seq ?_
                        obtain ⟨hp1, hm⟩ := asrt_b hm
                        obtain ⟨hp2, hm⟩ := asrt_b hm
                        obtain ⟨hp3, hm⟩ := asrt_b hm
                        obtain ⟨hp4, hm⟩ := asrt_b hm
                        refine regMix4 [0, 1, 2, 3, 4, 5, 6, 7, 8, 9, 10, 11, 12, 13, 14, 15] [16, 17] [⟨true, [], vS (Instr.indexAt 22 (.slice A1 hand1.length c1) (.int .i64 z1)), .pointer (some (sAddr A1 z1))⟩, ⟨false, [], vS (Instr.loadAt 3 (.pointer (some (sAddr A1 z1)))), .int .i64 (geti hand1 z1)⟩, ⟨true, [], vS (Instr.indexAt 22 (.slice A1 hand1.length c1) (.int .i64 b1)), .pointer (some (sAddr A1 b1))⟩, ⟨false, [], vS (Instr.loadAt 3 (.pointer (some (sAddr A1 b1)))), .int .i64 (geti hand1 b1)⟩, ⟨true, [], vS (Instr.indexAt 22 (.slice A1 hand1.length c1) (.int .i64 c7)), .pointer (some (sAddr A1 c7))⟩, ⟨false, [], vS (Instr.loadAt 3 (.pointer (some (sAddr A1 c7)))), .int .i64 (geti hand1 c7)⟩, ⟨true, [], vS (Instr.indexAt 22 (.slice A1 hand1.length c1) (.int .i64 d1)), .pointer (some (sAddr A1 d1))⟩, ⟨false, [], vS (Instr.loadAt 3 (.pointer (some (sAddr A1 d1)))), .int .i64 (geti hand1 d1)⟩] [none, none, some (.pointer (some (sAddr A1 z1))), some (.int .i64 (geti hand1 z1)), none, none, some (.pointer (some (sAddr A1 b1))), some (.int .i64 (geti hand1 b1)), none, none, some (.pointer (some (sAddr A1 c7))), some (.int .i64 (geti hand1 c7)), none, none, some (.pointer (some (sAddr A1 d1))), some (.int .i64 (geti hand1 d1))] [0, 6, 7, 8, 9, 10, 11, 23, 47, 51, 55, 59] [pl 0 (.slice A1 hand1.length c1), pl 6 (.slice A8 best7.length c9), pl 7 (.int .i64 most7), pl 8 (.int .i64 z1), pl 9 (.int .i64 b1), pl 10 (.int .i64 c7), pl 11 (.int .i64 d1), pl 23 (.int .i64 z1), pl 47 (.int .i64 (geti hand1 z1)), pl 51 (.int .i64 (geti hand1 b1)), pl 55 (.int .i64 (geti hand1 c7)), pl 59 (.int .i64 (geti hand1 d1))] hF hS Fol (by kernel_rfl) (by kernel_rfl) (by kernel_rfl) (by kernel_rfl) (by kernel_rfl) ?_ (fun a w hF hS => ?_)
                        · exact obs_cons (ob_ix1 (f := (Value.int .i64)) (m := hand1) Und22 hi3 hs3 (hr_hand1 _ (hS.dropN 1)) rfl (fun _ => hp1)) <| obs_cons (ob_get1 (n := hand1.length) (m := hand1) (Value.int .i64) (0 : Int) Agg3 (fun _ hS => ⟨_, (hr_hand1 _ (hS.dropN 1))⟩) (fun _ hS => rfl) (fun _ => hp1)) <| obs_cons (ob_ix1 (f := (Value.int .i64)) (m := hand1) Und22 hi3 hs3 (hr_hand1 _ (hS.dropN 1)) rfl (fun _ => hp2)) <| obs_cons (ob_get1 (n := hand1.length) (m := hand1) (Value.int .i64) (0 : Int) Agg3 (fun _ hS => ⟨_, (hr_hand1 _ (hS.dropN 1))⟩) (fun _ hS => rfl) (fun _ => hp2)) <| obs_cons (ob_ix1 (f := (Value.int .i64)) (m := hand1) Und22 hi3 hs3 (hr_hand1 _ (hS.dropN 1)) rfl (fun _ => hp3)) <| obs_cons (ob_get1 (n := hand1.length) (m := hand1) (Value.int .i64) (0 : Int) Agg3 (fun _ hS => ⟨_, (hr_hand1 _ (hS.dropN 1))⟩) (fun _ hS => rfl) (fun _ => hp3)) <| obs_cons (ob_ix1 (f := (Value.int .i64)) (m := hand1) Und22 hi3 hs3 (hr_hand1 _ (hS.dropN 1)) rfl (fun _ => hp4)) <| obs_cons (ob_get1 (n := hand1.length) (m := hand1) (Value.int .i64) (0 : Int) Agg3 (fun _ hS => ⟨_, (hr_hand1 _ (hS.dropN 1))⟩) (fun _ hS => rfl) (fun _ => hp4)) <| obs_nil
                        refine at_do (d := 60) (s := vS (Instr.buildSlice 22 5 #[(0, .int .i64 (geti hand1 z1)), (1, .int .i64 (geti hand1 b1)), (2, .int .i64 (geti hand1 c7)), (3, .int .i64 (geti hand1 d1)), (4, .int .i64 0)])) (v := .slice (some ⟨w.heap.size, 0, none⟩) 5 5) (w' := w.alloc (.cells #[.int .i64 (geti hand1 z1), .int .i64 (geti hand1 b1), .int .i64 (geti hand1 c7), .int .i64 (geti hand1 d1), .int .i64 0] 3)) hF (by kernel_rfl) (by kernel_rfl) (by kernel_rfl) (fun a hF => ?_)
                        have hS : Sep w0 B (w.alloc (.cells #[.int .i64 (geti hand1 z1), .int .i64 (geti hand1 b1), .int .i64 (geti hand1 c7), .int .i64 (geti hand1 d1), .int .i64 0] 3)) (own 3 (.slice (some (⟨w.heap.size, 0, none⟩ : Addr)) 5 5) (vI ([geti hand1 z1, geti hand1 b1, geti hand1 c7, geti hand1 d1, 0] : List Int)) :: (own 3 (.slice A8 best7.length c9) (vI best7) :: fs)) := hS.lit 3 #[.int .i64 (geti hand1 z1), .int .i64 (geti hand1 b1), .int .i64 (geti hand1 c7), .int .i64 (geti hand1 d1), .int .i64 0] 5 rfl (by omega)
                        generalize (some (⟨w.heap.size, 0, none⟩ : Addr)) = g1 at hF hS
                        generalize w.alloc (.cells #[.int .i64 (geti hand1 z1), .int .i64 (geti hand1 b1), .int .i64 (geti hand1 c7), .int .i64 (geti hand1 d1), .int .i64 0] 3) = w at hS ⊢
                        refine at_run 1 [] [] [0, 6, 7, 8, 9, 10, 11, 12, 23] [pl 0 (.slice A1 hand1.length c1), pl 6 (.slice A8 best7.length c9), pl 7 (.int .i64 most7), pl 8 (.int .i64 z1), pl 9 (.int .i64 b1), pl 10 (.int .i64 c7), pl 11 (.int .i64 d1), pl 12 (.slice g1 5 5), pl 23 (.int .i64 z1)] hF hS (by kernel_rfl) (by kernel_rfl) ?_ (fun a w hF hS => ?_)
                        · exact obs_nil
                        refine at_end [0, 6, 7, 8, 9, 10, 11, 12, 23] [pl 0 (.slice A1 hand1.length c1), pl 6 (.slice A8 best7.length c9), pl 7 (.int .i64 most7), pl 8 (.int .i64 z1), pl 9 (.int .i64 b1), pl 10 (.int .i64 c7), pl 11 (.int .i64 d1), pl 12 (.slice g1 5 5), pl 23 (.int .i64 z1)] hF rfl (by kernel_rfl) (fun hF => ?_)
                        refine np_n ?_
                        refine then_n ?_
                        refine reg [] [] [0, 6, 7, 8, 9, 10, 11, 12, 13, 23] [pl 0 (.slice A1 hand1.length c1), pl 6 (.slice A8 best7.length c9), pl 7 (.int .i64 most7), pl 8 (.int .i64 z1), pl 9 (.int .i64 b1), pl 10 (.int .i64 c7), pl 11 (.int .i64 d1), pl 12 (.slice g1 5 5), pl 13 (.int .i64 0), pl 23 (.int .i64 z1)] hF hS Fol (by kernel_rfl) (by kernel_rfl) (by kernel_rfl) ?_ (fun a w hF hS => ?_)
                        · exact obs_nil
                        refine seq_cut (fun a w => ∃ (l2 : List Int) (sum2 : Int), Fr 86 [pl 0 (.slice A1 hand1.length c1), pl 6 (.slice A8 best7.length c9), pl 7 (.int .i64 most7), pl 8 (.int .i64 z1), pl 9 (.int .i64 b1), pl 10 (.int .i64 c7), pl 11 (.int .i64 d1), pl 12 (.slice g1 5 5), pl 13 (.int .i64 sum2), pl 23 (.int .i64 z1)] a ∧ Sep w0 B w (own 3 (.slice A8 best7.length c9) (vI best7) :: own 3 (.slice g1 5 5) (vI l2) :: fs) ∧ ((crib_Keep_J12 best7 most7 d1) l2 sum2).bind φ4 = some r) ?_ ?_
                        · rintro a w ⟨l2, sum2, hF, hS, hm⟩
                          unfold crib_Keep_J12 at hm
                          refine reg [] [] [0, 6, 7, 8, 9, 10, 11, 12, 13, 23, 78] [pl 0 (.slice A1 hand1.length c1), pl 6 (.slice A8 best7.length c9), pl 7 (.int .i64 most7), pl 8 (.int .i64 z1), pl 9 (.int .i64 b1), pl 10 (.int .i64 c7), pl 11 (.int .i64 d1), pl 12 (.slice g1 5 5), pl 13 (.int .i64 sum2), pl 23 (.int .i64 z1), pl 78 (.bool (decide (most7 < sum2)))] hF hS Fol (by kernel_rfl) (by kernel_rfl) (by kernel_rfl) ?_ (fun a w hF hS => ?_)
                          · exact obs_nil
                          refine cond_ev (t := 78) (b := decide (most7 < sum2)) hF (by kernel_rfl) (fun hb => ?_) (fun hb => ?_)
                          · replace hm := if_t hm hb
                            refine oneR ?_
                            obtain ⟨hp6, hm⟩ := asrt_b hm
                            obtain ⟨r4, hr4, hm⟩ := call_b hm
                            have hb1 := cutb (n := 5) ((hS.at_ 1 rfl).len1) hp6
                            refine at_run 2 [⟨true, [], vS (Instr.sliceAt 22 (.slice g1 5 5) none (some (.int .i64 (4 : Int))) none), .slice (cutAddr g1 5 (0 : Int)) ((cut l2 (0 : Int) (4 : Int)).length) (5 - Int.toNat (0 : Int))⟩] [none, some (.slice (cutAddr g1 5 (0 : Int)) ((cut l2 (0 : Int) (4 : Int)).length) (5 - Int.toNat (0 : Int)))] [0, 8, 9, 10, 11, 13, 23, 80] [pl 0 (.slice A1 hand1.length c1), pl 8 (.int .i64 z1), pl 9 (.int .i64 b1), pl 10 (.int .i64 c7), pl 11 (.int .i64 d1), pl 13 (.int .i64 sum2), pl 23 (.int .i64 z1), pl 80 (.slice (cutAddr g1 5 (0 : Int)) ((cut l2 (0 : Int) (4 : Int)).length) (5 - Int.toNat (0 : Int)))] hF hS (by kernel_rfl) (by kernel_rfl) ?_ (fun a w hF hS => ?_)
                            · exact obs_cons (ob_cutn (l := l2) (k := .i64) (k' := .i64) Und22 hi3 hs3 ((hS.at_ 1 rfl).len1) (.inr ⟨rfl, rfl⟩) (.inl rfl) (fun _ => hb1) ((hS.at_ 1 rfl).cap1)) <| obs_nil
                            refine at_call (f := 101) (args := #[.slice (cutAddr g1 5 (0 : Int)) ((cut l2 (0 : Int) (4 : Int)).length) (5 - Int.toNat (0 : Int))]) (d := 81) hF (by kernel_rfl) (by kernel_rfl) Try.func101 (by kernel_rfl) rfl (slices_Clone_w hr4 hS (fun _ hS => (Rd.cutF (hS.at_ 1 rfl).rd hb1 ((hS.at_ 1 rfl).cap1))) (cap_cut hb1 ((hS.at_ 1 rfl).cap1)) rfl) (fun v a w hR hF => ?_)
                            clear hS
                            obtain ⟨A10, c11, rfl, hS⟩ := hR
                            have hS : Sep w0 B w (own 3 (.slice A10 r4.length c11) (vI r4) :: own 3 (.slice A8 best7.length c9) (vI best7) :: own 3 (.slice g1 5 5) (vI l2) :: fs) := hS
                            refine at_run 3 [] [] [0, 6, 7, 8, 9, 10, 11, 23] [pl 0 (.slice A1 hand1.length c1), pl 6 (.slice A10 r4.length c11), pl 7 (.int .i64 sum2), pl 8 (.int .i64 z1), pl 9 (.int .i64 b1), pl 10 (.int .i64 c7), pl 11 (.int .i64 d1), pl 23 (.int .i64 z1)] hF hS (by kernel_rfl) (by kernel_rfl) ?_ (fun a w hF hS => ?_)
                            · exact obs_nil
                            refine at_end [0, 6, 7, 8, 9, 10, 11, 23] [pl 0 (.slice A1 hand1.length c1), pl 6 (.slice A10 r4.length c11), pl 7 (.int .i64 sum2), pl 8 (.int .i64 z1), pl 9 (.int .i64 b1), pl 10 (.int .i64 c7), pl 11 (.int .i64 d1), pl 23 (.int .i64 z1)] hF rfl (by kernel_rfl) (fun hF => ?_)
                            refine block_n ?_
                            refine then_n ?_
                            have hS := hS.pickN 3 [0] (by decide)
                            exact ⟨r4, sum2, A10, c11, hF.weak [0, 6, 7, 8, 9, 10, 11, 23] (by kernel_rfl), hS, hm⟩
                          · replace hm := if_f hm hb
                            refine wp_skip ?_
                            refine block_n ?_
                            refine then_n ?_
                            have hS := hS.pickN 2 [0] (by decide)
                            exact ⟨best7, most7, A8, c9, hF.weak [0, 6, 7, 8, 9, 10, 11, 23] (by kernel_rfl), hS, hm⟩
                        · refine reg [] [] [0, 6, 7, 8, 9, 10, 11, 12, 13, 23, 61] [pl 0 (.slice A1 hand1.length c1), pl 6 (.slice A8 best7.length c9), pl 7 (.int .i64 most7), pl 8 (.int .i64 z1), pl 9 (.int .i64 b1), pl 10 (.int .i64 c7), pl 11 (.int .i64 d1), pl 12 (.slice g1 5 5), pl 13 (.int .i64 0), pl 23 (.int .i64 z1), pl 61 (.int .i64 0)] hF hS Fol (by kernel_rfl) (by kernel_rfl) (by kernel_rfl) ?_ (fun a w hF hS => ?_)
                          · exact obs_nil
                          refine wp_block ?_
                          have hS := hS.pickN 2 [1, 0] (by decide)
                          refine wp_loop_model (S := (List Int × Int × Int)) (R := (List Int × Int)) (crib_Keep_L5 hand1) (fun x => ((crib_Keep_K5 best7 most7 d1) x).bind φ4) r (fun (x : (List Int × Int × Int)) a w => Fr 86 [pl 0 (.slice A1 hand1.length c1), pl 6 (.slice A8 best7.length c9), pl 7 (.int .i64 most7), pl 8 (.int .i64 z1), pl 9 (.int .i64 b1), pl 10 (.int .i64 c7), pl 11 (.int .i64 d1), pl 12 (.slice g1 5 5), pl 13 (.int .i64 x.2.1), pl 23 (.int .i64 z1), pl 61 (.int .i64 x.2.2)] a ∧ Sep w0 B w (own 3 (.slice A8 best7.length c9) (vI best7) :: own 3 (.slice g1 5 5) (vI x.1) :: fs)) (assoc_b hm) ⟨hF.weak [0, 6, 7, 8, 9, 10, 11, 12, 13, 23, 61] (by kernel_rfl), hS⟩ ?_
                          clear hF hS hm
                          rintro nn5 ⟨l1, sum1, z2⟩ a w ⟨hF, hS⟩ hm
                          generalize hφ5 : stK (crib_Keep_L5 hand1) nn5 (fun x => ((crib_Keep_K5 best7 most7 d1) x).bind φ4) = φ5 at hm
                          unfold crib_Keep_L5 at hm
                          dsimp only at hF hS hm
                          refine reg [] [] [0, 6, 7, 8, 9, 10, 11, 12, 13, 23, 61, 62] [pl 0 (.slice A1 hand1.length c1), pl 6 (.slice A8 best7.length c9), pl 7 (.int .i64 most7), pl 8 (.int .i64 z1), pl 9 (.int .i64 b1), pl 10 (.int .i64 c7), pl 11 (.int .i64 d1), pl 12 (.slice g1 5 5), pl 13 (.int .i64 sum1), pl 23 (.int .i64 z1), pl 61 (.int .i64 z2), pl 62 (.bool (decide (z2 < 52)))] hF hS Fol (by kernel_rfl) (by kernel_rfl) (by kernel_rfl) ?_ (fun a w hF hS => ?_)
                          · exact obs_nil
                          refine seq_cut (fun a w => Fr 86 [pl 0 (.slice A1 hand1.length c1), pl 6 (.slice A8 best7.length c9), pl 7 (.int .i64 most7), pl 8 (.int .i64 z1), pl 9 (.int .i64 b1), pl 10 (.int .i64 c7), pl 11 (.int .i64 d1), pl 12 (.slice g1 5 5), pl 13 (.int .i64 sum1), pl 23 (.int .i64 z1), pl 61 (.int .i64 z2)] a ∧ Sep w0 B w (own 3 (.slice A8 best7.length c9) (vI best7) :: own 3 (.slice g1 5 5) (vI l1) :: fs) ∧ ((crib_Keep_J13 hand1 l1 sum1 z2)).bind φ5 = some r) ?_ ?_
                          · rintro a w ⟨hF, hS, hm⟩
                            unfold crib_Keep_J13 at hm
                            refine seq_cut (fun a w => ∃ (l3 : List Int) (sum3 : Int), Fr 86 [pl 0 (.slice A1 hand1.length c1), pl 6 (.slice A8 best7.length c9), pl 7 (.int .i64 most7), pl 8 (.int .i64 z1), pl 9 (.int .i64 b1), pl 10 (.int .i64 c7), pl 11 (.int .i64 d1), pl 12 (.slice g1 5 5), pl 13 (.int .i64 sum3), pl 23 (.int .i64 z1), pl 61 (.int .i64 z2)] a ∧ Sep w0 B w (own 3 (.slice A8 best7.length c9) (vI best7) :: own 3 (.slice g1 5 5) (vI l3) :: fs) ∧ ((crib_Keep_J14 z2) l3 sum3).bind φ5 = some r) ?_ ?_
                            · rintro a w ⟨l3, sum3, hF, hS, hm⟩
                              unfold crib_Keep_J14 at hm
                              refine reg1 [] [] [0, 6, 7, 8, 9, 10, 11, 12, 13, 23, 61] [pl 0 (.slice A1 hand1.length c1), pl 6 (.slice A8 best7.length c9), pl 7 (.int .i64 most7), pl 8 (.int .i64 z1), pl 9 (.int .i64 b1), pl 10 (.int .i64 c7), pl 11 (.int .i64 d1), pl 12 (.slice g1 5 5), pl 13 (.int .i64 sum3), pl 23 (.int .i64 z1), pl 61 (.int .i64 (w64 (z2 + 1)))] hF hS Fol (by kernel_rfl) (by kernel_rfl) (by kernel_rfl) ?_ (fun a w hF hS => ?_)
                              · exact obs_nil
                              refine then_n ?_
                              rw [← hφ5] at hm
                              exact ⟨(l3, sum3, (w64 (z2 + 1))), ⟨hF.weak [0, 6, 7, 8, 9, 10, 11, 12, 13, 23, 61] (by kernel_rfl), hS⟩, hm⟩
                            · refine wp_block ?_
                              refine reg [] [] [0, 6, 7, 8, 9, 10, 11, 12, 13, 14, 23, 61] [pl 0 (.slice A1 hand1.length c1), pl 6 (.slice A8 best7.length c9), pl 7 (.int .i64 most7), pl 8 (.int .i64 z1), pl 9 (.int .i64 b1), pl 10 (.int .i64 c7), pl 11 (.int .i64 d1), pl 12 (.slice g1 5 5), pl 13 (.int .i64 sum1), pl 14 (.int .i64 z2), pl 23 (.int .i64 z1), pl 61 (.int .i64 z2)] hF hS Fol (by kernel_rfl) (by kernel_rfl) (by kernel_rfl) ?_ (fun a w hF hS => ?_)
                              · exact obs_nil
                              obtain ⟨r2, hr2, hm⟩ := call_b hm
                              refine reg [⟨false, [], callFunc 93 #[.slice A1 hand1.length c1, .int .i64 z2], .bool r2⟩] [none, none, some (.bool r2), none] [0, 6, 7, 8, 9, 10, 11, 12, 13, 14, 23, 61, 67] [pl 0 (.slice A1 hand1.length c1), pl 6 (.slice A8 best7.length c9), pl 7 (.int .i64 most7), pl 8 (.int .i64 z1), pl 9 (.int .i64 b1), pl 10 (.int .i64 c7), pl 11 (.int .i64 d1), pl 12 (.slice g1 5 5), pl 13 (.int .i64 sum1), pl 14 (.int .i64 z2), pl 23 (.int .i64 z1), pl 61 (.int .i64 z2), pl 67 (.bool (!r2))] hF hS Fol (by kernel_rfl) (by kernel_rfl) (by kernel_rfl) ?_ (fun a w hF hS => ?_)
                              · exact obs_cons (ob_call Try.func93 (by kernel_rfl) rfl (fun _ _ hS => slices_Contains_w hr2 hS (fun _ hS => (hr_hand1 _ (hS.dropN 2))) _hc_hand1 rfl)) <| obs_nil
                              refine cond_ev (t := 67) (b := !r2) hF (by kernel_rfl) (fun hb => ?_) (fun hb => ?_)
                              · replace hm := if_t hm hb
                                refine seqR ?_
                                obtain ⟨hp5, hm⟩ := asrt_b hm
                                refine at_run 3 [⟨true, [], vS (Instr.indexAt 22 (.slice g1 5 5) (.int .i64 4)), .pointer (some (sAddr g1 4))⟩] [none, none, some (.pointer (some (sAddr g1 4)))] [0, 6, 7, 8, 9, 10, 11, 12, 13, 23, 61, 69, 70] [pl 0 (.slice A1 hand1.length c1), pl 6 (.slice A8 best7.length c9), pl 7 (.int .i64 most7), pl 8 (.int .i64 z1), pl 9 (.int .i64 b1), pl 10 (.int .i64 c7), pl 11 (.int .i64 d1), pl 12 (.slice g1 5 5), pl 13 (.int .i64 sum1), pl 23 (.int .i64 z1), pl 61 (.int .i64 z2), pl 69 (.int .i64 z2), pl 70 (.pointer (some (sAddr g1 4)))] hF hS (by kernel_rfl) (by kernel_rfl) ?_ (fun a w hF hS => ?_)
                                · exact obs_cons (ob_ix1 (f := (Value.int .i64)) (m := l1) Und22 hi3 hs3 (hS.at_ 1 rfl).rd ((hS.at_ 1 rfl).len1) (fun _ => hp5)) <| obs_nil
                                obtain ⟨w, hrun, hS⟩ := run_set1 (P := Try.prog) (t := 3) (x := z2) (Value.int .i64) (hS.at_ 1 rfl) hi3 hs3 rfl rfl hp5
                                refine at_skip hF (by kernel_rfl) hrun ?_
                                have hS : Sep w0 B w (own 3 (.slice A8 best7.length c9) (vI best7) :: own 3 (.slice g1 5 5) (vI (l1.set (Int.toNat 4) z2)) :: fs) := hS
                                refine at_end [0, 6, 7, 8, 9, 10, 11, 12, 13, 23, 61] [pl 0 (.slice A1 hand1.length c1), pl 6 (.slice A8 best7.length c9), pl 7 (.int .i64 most7), pl 8 (.int .i64 z1), pl 9 (.int .i64 b1), pl 10 (.int .i64 c7), pl 11 (.int .i64 d1), pl 12 (.slice g1 5 5), pl 13 (.int .i64 sum1), pl 23 (.int .i64 z1), pl 61 (.int .i64 z2)] hF rfl (by kernel_rfl) (fun hF => ?_)
                                refine then_n ?_
                                obtain ⟨r3, hr3, hm⟩ := call_b hm
                                refine reg1 [⟨false, [], callFunc 128 #[.slice g1 5 5, .bool false], .int .i64 r3⟩] [none, none, some (.int .i64 r3), none, none] [0, 6, 7, 8, 9, 10, 11, 12, 13, 23, 61] [pl 0 (.slice A1 hand1.length c1), pl 6 (.slice A8 best7.length c9), pl 7 (.int .i64 most7), pl 8 (.int .i64 z1), pl 9 (.int .i64 b1), pl 10 (.int .i64 c7), pl 11 (.int .i64 d1), pl 12 (.slice g1 5 5), pl 13 (.int .i64 (w64 (sum1 + r3))), pl 23 (.int .i64 z1), pl 61 (.int .i64 z2)] hF hS Fol (by kernel_rfl) (by kernel_rfl) (by kernel_rfl) ?_ (fun a w hF hS => ?_)
                                · exact obs_cons (ob_call Try.func128 (by kernel_rfl) rfl (fun _ _ hS => crib_show_w hr3 hS (fun _ hS => (hS.at_ 1 rfl).rd) ((hS.at_ 1 rfl).cap1) ((hS.at_ 1 rfl).len1))) <| obs_nil
                                refine block_n ?_
                                refine then_n ?_
                                exact ⟨(l1.set (Int.toNat 4) z2), (w64 (sum1 + r3)), hF.weak [0, 6, 7, 8, 9, 10, 11, 12, 13, 23, 61] (by kernel_rfl), hS, hm⟩
                              · replace hm := if_f hm hb
                                refine wp_skip ?_
                                refine block_n ?_
                                refine then_n ?_
                                exact ⟨l1, sum1, hF.weak [0, 6, 7, 8, 9, 10, 11, 12, 13, 23, 61] (by kernel_rfl), hS, hm⟩
                          · refine cond_ev (t := 62) (b := decide (z2 < 52)) hF (by kernel_rfl) (fun hb => ?_) (fun hb => ?_)
                            · replace hm := if_t hm hb
                              refine wp_skip ?_
                              refine then_n ?_
                              exact ⟨hF.weak [0, 6, 7, 8, 9, 10, 11, 12, 13, 23, 61] (by kernel_rfl), hS, hm⟩
                            · replace hm := if_f hm hb
                              refine wp_exit ?_
                              refine then_e (then_e (block_e (then_n ?_)))
                              rw [← hφ5] at hm
                              replace hm := done_b hm
                              unfold crib_Keep_K5 at hm
                              try dsimp only at hm
                              have hm : ((crib_Keep_J12 best7 most7 d1) l1 sum1).bind φ4 = some r := hm
                              exact ⟨l1, sum1, hF.weak [0, 6, 7, 8, 9, 10, 11, 12, 13, 23] (by kernel_rfl), hS, hm⟩
                    · refine reg [] [] [0, 6, 7, 8, 9, 10, 11, 23, 41] [pl 0 (.slice A1 hand1.length c1), pl 6 (.slice A8 best7.length c9), pl 7 (.int .i64 most7), pl 8 (.int .i64 z1), pl 9 (.int .i64 b1), pl 10 (.int .i64 c7), pl 11 (.int .i64 d1), pl 23 (.int .i64 z1), pl 41 (.bool (decide (d1 < 6)))] hF hS Fol (by kernel_rfl) (by kernel_rfl) (by kernel_rfl) ?_ (fun a w hF hS => ?_)
                      · exact obs_nil
                      refine cond_ev (t := 41) (b := decide (d1 < 6)) hF (by kernel_rfl) (fun hb => ?_) (fun hb => ?_)
                      · replace hm := if_t hm hb
                        refine wp_skip ?_
                        refine then_n ?_
                        exact ⟨hF.weak [0, 6, 7, 8, 9, 10, 11, 23] (by kernel_rfl), hS, hm⟩
                      · replace hm := if_f hm hb
                        refine wp_exit ?_
                        refine then_e (then_e (block_e (block_n (then_n ?_))))
                        rw [← hφ4] at hm
                        replace hm := done_b hm
                        unfold crib_Keep_K4 at hm
                        try dsimp only at hm
                        have hm : ((crib_Keep_J9 c7) best7 most7).bind φ3 = some r := hm
                        exact ⟨best7, most7, A8, c9, hF.weak [0, 6, 7, 8, 9, 10, 23] (by kernel_rfl), hS, hm⟩
                · refine reg [] [] [0, 6, 7, 8, 9, 10, 23, 35] [pl 0 (.slice A1 hand1.length c1), pl 6 (.slice A6 best5.length c6), pl 7 (.int .i64 most5), pl 8 (.int .i64 z1), pl 9 (.int .i64 b1), pl 10 (.int .i64 c7), pl 23 (.int .i64 z1), pl 35 (.bool (decide (c7 < 6)))] hF hS Fol (by kernel_rfl) (by kernel_rfl) (by kernel_rfl) ?_ (fun a w hF hS => ?_)
                  · exact obs_nil
                  refine cond_ev (t := 35) (b := decide (c7 < 6)) hF (by kernel_rfl) (fun hb => ?_) (fun hb => ?_)
                  · replace hm := if_t hm hb
                    refine wp_skip ?_
                    refine then_n ?_
                    exact ⟨hF.weak [0, 6, 7, 8, 9, 10, 23] (by kernel_rfl), hS, hm⟩
                  · replace hm := if_f hm hb
                    refine wp_exit ?_
                    refine then_e (then_e (block_e (block_n (then_n ?_))))
                    rw [← hφ3] at hm
                    replace hm := done_b hm
                    unfold crib_Keep_K3 at hm
                    try dsimp only at hm
                    have hm : ((crib_Keep_J7 b1) best5 most5).bind φ2 = some r := hm
                    exact ⟨best5, most5, A6, c6, hF.weak [0, 6, 7, 8, 9, 23] (by kernel_rfl), hS, hm⟩
            · refine reg [] [] [0, 6, 7, 8, 9, 23, 29] [pl 0 (.slice A1 hand1.length c1), pl 6 (.slice A4 best3.length c4), pl 7 (.int .i64 most3), pl 8 (.int .i64 z1), pl 9 (.int .i64 b1), pl 23 (.int .i64 z1), pl 29 (.bool (decide (b1 < 6)))] hF hS Fol (by kernel_rfl) (by kernel_rfl) (by kernel_rfl) ?_ (fun a w hF hS => ?_)
              · exact obs_nil
              refine cond_ev (t := 29) (b := decide (b1 < 6)) hF (by kernel_rfl) (fun hb => ?_) (fun hb => ?_)
              · replace hm := if_t hm hb
                refine wp_skip ?_
                refine then_n ?_
                exact ⟨hF.weak [0, 6, 7, 8, 9, 23] (by kernel_rfl), hS, hm⟩
              · replace hm := if_f hm hb
                refine wp_exit ?_
                refine then_e (then_e (block_e (block_n (then_n ?_))))
                rw [← hφ2] at hm
                replace hm := done_b hm
                unfold crib_Keep_K2 at hm
                try dsimp only at hm
                have hm : ((crib_Keep_J5 z1) best3 most3).bind φ1 = some r := hm
                exact ⟨best3, most3, A4, c4, hF.weak [0, 6, 7, 23] (by kernel_rfl), hS, hm⟩
        · refine cond_ev (t := 24) (b := decide (z1 < 6)) hF (by kernel_rfl) (fun hb => ?_) (fun hb => ?_)
          · replace hm := if_t hm hb
            refine wp_skip ?_
            refine then_n ?_
            exact ⟨hF.weak [0, 6, 7, 23] (by kernel_rfl), hS, hm⟩
          · replace hm := if_f hm hb
            refine wp_exit ?_
            refine then_e (then_e (block_e (then_n ?_)))
            rw [← hφ1] at hm
            replace hm := done_b hm
            unfold crib_Keep_K1 at hm
            try dsimp only at hm
            have hm : (crib_Keep_J3 best1 most1).bind some = some r := hm
            exact ⟨best1, most1, A2, c2, hF.weak [6, 7] (by kernel_rfl), hS, hm⟩
    · obtain ⟨r1, hr1, hm⟩ := call_b hm
      refine reg [⟨false, [], callFunc 127 #[.slice A1 hand1.length c1], .int .i64 r1⟩] [none, some (.int .i64 r1), none] [0, 5] [pl 0 (.slice A1 hand1.length c1), pl 5 (.int .i64 r1)] hF hS Fol (by kernel_rfl) (by kernel_rfl) (by kernel_rfl) ?_ (fun a w hF hS => ?_)
      · exact obs_cons (ob_call Try.func127 (by kernel_rfl) rfl (fun _ _ hS => crib_check_w hr1 hS (fun _ hS => (hr_hand1 _ (hS.dropN 0))) _hc_hand1 rfl)) <| obs_nil
      refine reg [] [] [0, 5, 21] [pl 0 (.slice A1 hand1.length c1), pl 5 (.int .i64 r1), pl 21 (.bool (r1 != 0))] hF hS Fol (by kernel_rfl) (by kernel_rfl) (by kernel_rfl) ?_ (fun a w hF hS => ?_)
      · exact obs_nil
      refine cond_ev (t := 21) (b := (r1 != 0)) hF (by kernel_rfl) (fun hb => ?_) (fun hb => ?_)
      · replace hm := if_t hm hb
        refine reg [] [] [2, 3, 4] [pl 2 (.slice none 0 0), pl 3 (.int .i64 0), pl 4 (.int .i64 r1)] hF hS Fol (by kernel_rfl) (by kernel_rfl) (by kernel_rfl) ?_ (fun a w hF hS => ?_)
        · exact obs_nil
        refine wp_ret ?_
        refine then_r ?_
        have hS : Sep w0 B w (own 3 (.slice none 0 0) (vI ([] : List Int)) :: fs) := hS.nil 3
        have hl2 := (hS.at_ 0 rfl).len1
        have hS := (hS.at_ 0 rfl).reN hl2
        have hS : Sep w0 B w (own 3 (.slice none (([] : List Int).length) 0) (vI ([] : List Int)) :: fs) := hS
        have hm : some (([] : List Int), 0, r1) = some r := hm
        obtain rfl := Option.some.inj hm
        exact retV (rs := [.tmp 2, .tmp 3, .tmp 4]) (vs := [.slice none (([] : List Int).length) 0, .int .i64 0, .int .i64 r1]) hF rfl (rv_t (by kernel_rfl) <| rv_t (by kernel_rfl) <| rv_t (by kernel_rfl) <| rv_nil) rfl ⟨_, rfl, none, 0, rfl, hS⟩
      · replace hm := if_f hm hb
        refine wp_skip ?_
        refine then_n ?_
        exact ⟨hF.weak [0] (by kernel_rfl), hS, hm⟩
  · refine reg [] [] [0, 17] [pl 0 (.slice A1 hand1.length c1), pl 17 (.bool ((hand1.length : Int) != 6))] hF hS Fol (by kernel_rfl) (by kernel_rfl) (by kernel_rfl) ?_ (fun a w hF hS => ?_)
    · exact obs_nil
    refine cond_ev (t := 17) (b := ((hand1.length : Int) != 6)) hF (by kernel_rfl) (fun hb => ?_) (fun hb => ?_)
    · replace hm := if_t hm hb
      refine reg [] [] [2, 3, 4] [pl 2 (.slice none 0 0), pl 3 (.int .i64 0), pl 4 (.int .i64 11)] hF hS Fol (by kernel_rfl) (by kernel_rfl) (by kernel_rfl) ?_ (fun a w hF hS => ?_)
      · exact obs_nil
      refine wp_ret ?_
      refine then_r ?_
      have hS : Sep w0 B w (own 3 (.slice none 0 0) (vI ([] : List Int)) :: fs) := hS.nil 3
      have hl1 := (hS.at_ 0 rfl).len1
      have hS := (hS.at_ 0 rfl).reN hl1
      have hS : Sep w0 B w (own 3 (.slice none (([] : List Int).length) 0) (vI ([] : List Int)) :: fs) := hS
      have hm : some (([] : List Int), 0, 11) = some r := hm
      obtain rfl := Option.some.inj hm
      exact retV (rs := [.tmp 2, .tmp 3, .tmp 4]) (vs := [.slice none (([] : List Int).length) 0, .int .i64 0, .int .i64 11]) hF rfl (rv_t (by kernel_rfl) <| rv_t (by kernel_rfl) <| rv_t (by kernel_rfl) <| rv_nil) rfl ⟨_, rfl, none, 0, rfl, hS⟩
    · replace hm := if_f hm hb
      refine wp_skip ?_
      refine then_n ?_
      exact ⟨hF.weak [0] (by kernel_rfl), hS, hm⟩

noncomputable def gameroomref_within_m (n1 : Int) (low1 : Int) (high1 : Int) : Option Bool :=
  some ((decide (low1 ≤ n1)) && (decide (n1 ≤ high1)))

set_option maxRecDepth 100000 in
set_option maxHeartbeats 4000000 in
theorem gameroomref_within_w {n1 : Int} {low1 : Int} {high1 : Int} {r : Bool} {w0 w : World} {B : Nat} {fs : List HP} (hm : gameroomref_within_m n1 low1 high1 = some r) (hS : Sep w0 B w (fs)) :
    Calls Try.prog 95 #[.int .i64 n1, .int .i64 low1, .int .i64 high1] w fun e w' => e = .returned (.bool r) ∧ Sep w0 B w' (fs) := by
  unfold gameroomref_within_m at hm
  replace hm := start_b hm
  refine enter (l := [.int .i64 n1, .int .i64 low1, .int .i64 high1]) (n := 15) Try.func95 rfl rfl (by simp) (fun a hF => ?_)
  refine reg [] [] [0, 1, 2] [pl 0 (.int .i64 n1), pl 1 (.int .i64 low1), pl 2 (.int .i64 high1)] hF hS Fol (by kernel_rfl) (by kernel_rfl) (by kernel_rfl) ?_ (fun a w hF hS => ?_)
  · exact obs_nil
  refine reg [] [] [6] [pl 6 (.bool ((decide (low1 ≤ n1)) && (decide (n1 ≤ high1))))] hF hS Fol (by kernel_rfl) (by kernel_rfl) (by kernel_rfl) ?_ (fun a w hF hS => ?_)
  · exact obs_nil
  refine wp_ret ?_
  have hm : some ((decide (low1 ≤ n1)) && (decide (n1 ≤ high1))) = some r := hm
  obtain rfl := Option.some.inj hm
  exact retV (rs := [.tmp 6]) (vs := [.bool ((decide (low1 ≤ n1)) && (decide (n1 ≤ high1)))]) hF rfl (rv_t (by kernel_rfl) <| rv_nil) rfl ⟨rfl, hS⟩

noncomputable def gameroomref_at_J3 (i1 : Int) : Option (St Int (Fl Unit Int)) :=
  some (.next (w64 (i1 + 1)))

noncomputable def gameroomref_at_J2 (l1 : List Int) (n2 : Int) (i1 : Int) : Option (St Int (Fl Unit Int)) :=
  asrt (0 ≤ i1 ∧ i1 < (l1.length : Int)) <| if ((geti l1 i1) == n2) then (some (.done (.ret i1))) else ((gameroomref_at_J3 i1))

noncomputable def gameroomref_at_J1 : Option Int :=
  some (-1)

noncomputable def gameroomref_at_K1 : (Fl Unit Int) → Option Int :=
  fun (x : (Fl Unit Int)) => match x with | .go _ => gameroomref_at_J1 | .ret x => some x

noncomputable def gameroomref_at_L1 (l1 : List Int) (n2 : Int) : Int → Option (St Int (Fl Unit Int)) :=
  fun (x : Int) => match x with | i1 => if (decide (i1 < (l1.length : Int))) then ((gameroomref_at_J2 l1 n2 i1)) else (some (.done (.go ())))

noncomputable def gameroomref_at_m (l1 : List Int) (n2 : Int) : Option Int :=
  (loop (gameroomref_at_L1 l1 n2) 0).bind gameroomref_at_K1

set_option maxRecDepth 100000 in
set_option maxHeartbeats 4000000 in
theorem gameroomref_at_w {A1 : Option Addr} {c1 : Nat} {n1 : Nat} {l1 : List Int} {n2 : Int} {r : Int} {w0 w : World} {B : Nat} {fs : List HP} (hm : gameroomref_at_m l1 n2 = some r) (hS : Sep w0 B w (fs)) (hr_l1 : RdF w0 B fs A1 (vI l1)) (_hc_l1 : l1.length ≤ c1) (_hn_l1 : n1 = l1.length) :
    Calls Try.prog 87 #[.slice A1 n1 c1, .int .i64 n2] w fun e w' => e = .returned (.int .i64 r) ∧ Sep w0 B w' (fs) := by
  obtain ⟨i3, hi3, hz3, hs3, hb3⟩ := info_parts Info3
  obtain rfl := _hn_l1
  unfold gameroomref_at_m at hm
  replace hm := start_b hm
  refine enter (l := [.slice A1 l1.length c1, .int .i64 n2]) (n := 19) Try.func87 rfl rfl (by simp) (fun a hF => ?_)
  refine reg [] [] [0, 1] [pl 0 (.slice A1 l1.length c1), pl 1 (.int .i64 n2)] hF hS Fol (by kernel_rfl) (by kernel_rfl) (by kernel_rfl) ?_ (fun a w hF hS => ?_)
  · exact obs_nil
  refine seq_cut (fun a w => Fr 19 [] a ∧ Sep w0 B w (fs) ∧ (gameroomref_at_J1).bind some = some r) ?_ ?_
  · rintro a w ⟨hF, hS, hm⟩
    unfold gameroomref_at_J1 at hm
    refine reg [] [] [4] [pl 4 (.int .i64 (-1))] hF hS Fol (by kernel_rfl) (by kernel_rfl) (by kernel_rfl) ?_ (fun a w hF hS => ?_)
    · exact obs_nil
    refine wp_ret ?_
    have hm : some (-1) = some r := hm
    obtain rfl := Option.some.inj hm
    exact retV (rs := [.tmp 4]) (vs := [.int .i64 (-1)]) hF rfl (rv_t (by kernel_rfl) <| rv_nil) rfl ⟨rfl, hS⟩
  · refine reg [] [] [0, 1, 5] [pl 0 (.slice A1 l1.length c1), pl 1 (.int .i64 n2), pl 5 (.int .i64 0)] hF hS Fol (by kernel_rfl) (by kernel_rfl) (by kernel_rfl) ?_ (fun a w hF hS => ?_)
    · exact obs_nil
    refine wp_block ?_
    refine wp_loop_model (S := Int) (R := (Fl Unit Int)) (gameroomref_at_L1 l1 n2) (fun x => (gameroomref_at_K1 x).bind some) r (fun (x : Int) a w => Fr 19 [pl 0 (.slice A1 l1.length c1), pl 1 (.int .i64 n2), pl 5 (.int .i64 x)] a ∧ Sep w0 B w (fs)) (assoc_b hm) ⟨hF.weak [0, 1, 5] (by kernel_rfl), hS⟩ ?_
    clear hF hS hm
    rintro nn1 i1 a w ⟨hF, hS⟩ hm
    generalize hφ1 : stK (gameroomref_at_L1 l1 n2) nn1 (fun x => (gameroomref_at_K1 x).bind some) = φ1 at hm
    unfold gameroomref_at_L1 at hm
    dsimp only at hm
    refine seq_cut (fun a w => Fr 19 [pl 0 (.slice A1 l1.length c1), pl 1 (.int .i64 n2), pl 5 (.int .i64 i1)] a ∧ Sep w0 B w (fs) ∧ ((gameroomref_at_J2 l1 n2 i1)).bind φ1 = some r) ?_ ?_
    · rintro a w ⟨hF, hS, hm⟩
      unfold gameroomref_at_J2 at hm
      refine seq_cut (fun a w => Fr 19 [pl 0 (.slice A1 l1.length c1), pl 1 (.int .i64 n2), pl 5 (.int .i64 i1)] a ∧ Sep w0 B w (fs) ∧ ((gameroomref_at_J3 i1)).bind φ1 = some r) ?_ ?_
      · rintro a w ⟨hF, hS, hm⟩
        unfold gameroomref_at_J3 at hm
        refine reg1 [] [] [0, 1, 5] [pl 0 (.slice A1 l1.length c1), pl 1 (.int .i64 n2), pl 5 (.int .i64 (w64 (i1 + 1)))] hF hS Fol (by kernel_rfl) (by kernel_rfl) (by kernel_rfl) ?_ (fun a w hF hS => ?_)
        · exact obs_nil
        refine then_n ?_
        rw [← hφ1] at hm
        exact ⟨(w64 (i1 + 1)), ⟨hF.weak [0, 1, 5] (by kernel_rfl), hS⟩, hm⟩
      · refine wp_block ?_
        obtain ⟨hp1, hm⟩ := asrt_b hm
        refine reg [⟨true, [], vS (Instr.indexAt 22 (.slice A1 l1.length c1) (.int .i64 i1)), .pointer (some (sAddr A1 i1))⟩, ⟨false, [], vS (Instr.loadAt 3 (.pointer (some (sAddr A1 i1)))), .int .i64 (geti l1 i1)⟩] [none, none, some (.pointer (some (sAddr A1 i1))), some (.int .i64 (geti l1 i1)), none, none] [0, 1, 5, 17] [pl 0 (.slice A1 l1.length c1), pl 1 (.int .i64 n2), pl 5 (.int .i64 i1), pl 17 (.bool ((geti l1 i1) == n2))] hF hS Fol (by kernel_rfl) (by kernel_rfl) (by kernel_rfl) ?_ (fun a w hF hS => ?_)
        · exact obs_cons (ob_ix1 (f := (Value.int .i64)) (m := l1) Und22 hi3 hs3 (hr_l1 _ (hS.dropN 0)) rfl (fun _ => hp1)) <| obs_cons (ob_get1 (n := l1.length) (m := l1) (Value.int .i64) (0 : Int) Agg3 (fun _ hS => ⟨_, (hr_l1 _ (hS.dropN 0))⟩) (fun _ hS => rfl) (fun _ => hp1)) <| obs_nil
        refine cond_ev (t := 17) (b := ((geti l1 i1) == n2)) hF (by kernel_rfl) (fun hb => ?_) (fun hb => ?_)
        · replace hm := if_t hm hb
          refine reg [] [] [4] [pl 4 (.int .i64 i1)] hF hS Fol (by kernel_rfl) (by kernel_rfl) (by kernel_rfl) ?_ (fun a w hF hS => ?_)
          · exact obs_nil
          refine wp_ret ?_
          refine block_r (then_r (then_r (block_r (then_r ?_))))
          rw [← hφ1] at hm
          replace hm := done_b hm
          unfold gameroomref_at_K1 at hm
          try dsimp only at hm
          have hm : some i1 = some r := hm
          obtain rfl := Option.some.inj hm
          exact retV (rs := [.tmp 4]) (vs := [.int .i64 i1]) hF rfl (rv_t (by kernel_rfl) <| rv_nil) rfl ⟨rfl, hS⟩
        · replace hm := if_f hm hb
          refine wp_skip ?_
          refine block_n ?_
          refine then_n ?_
          exact ⟨hF.weak [0, 1, 5] (by kernel_rfl), hS, hm⟩
    · refine reg [] [] [0, 1, 5, 9] [pl 0 (.slice A1 l1.length c1), pl 1 (.int .i64 n2), pl 5 (.int .i64 i1), pl 9 (.bool (decide (i1 < (l1.length : Int))))] hF hS Fol (by kernel_rfl) (by kernel_rfl) (by kernel_rfl) ?_ (fun a w hF hS => ?_)
      · exact obs_nil
      refine cond_ev (t := 9) (b := decide (i1 < (l1.length : Int))) hF (by kernel_rfl) (fun hb => ?_) (fun hb => ?_)
      · replace hm := if_t hm hb
        refine wp_skip ?_
        refine then_n ?_
        exact ⟨hF.weak [0, 1, 5] (by kernel_rfl), hS, hm⟩
      · replace hm := if_f hm hb
        refine wp_exit ?_
        refine then_e (then_e (block_e (then_n ?_)))
        rw [← hφ1] at hm
        replace hm := done_b hm
        unfold gameroomref_at_K1 at hm
        try dsimp only at hm
        have hm : (gameroomref_at_J1).bind some = some r := hm
        exact ⟨hF.weak [] (by kernel_rfl), hS, hm⟩

noncomputable def gameroomref_CardsMay_J3 (i1 : Int) : Option (St Int (Fl Unit Int)) :=
  some (.next (w64 (i1 + 1)))

noncomputable def gameroomref_CardsMay_J2 (l1 : List Int) (i1 : Int) : Option (St Int (Fl Unit Int)) :=
  asrt (0 ≤ i1 ∧ i1 < (l1.length : Int)) <| (gameroomref_within_m (geti l1 i1) 0 51).bind fun r1 => if (!r1) then (some (.done (.ret 3))) else ((gameroomref_CardsMay_J3 i1))

noncomputable def gameroomref_CardsMay_J6 (i2 : Int) : Option (St Int (Fl Unit Int)) :=
  some (.next (w64 (i2 + 1)))

noncomputable def gameroomref_CardsMay_J5 (l1 : List Int) (i2 : Int) : Option (St Int (Fl Unit Int)) :=
  asrt (0 ≤ (0 : Int) ∧ (0 : Int) ≤ i2 ∧ i2 ≤ (l1.length : Int)) <| asrt (0 ≤ i2 ∧ i2 < (l1.length : Int)) <| (gameroomref_at_m (cut l1 (0 : Int) i2) (geti l1 i2)).bind fun r2 => if (decide ((0 : Int) ≤ r2)) then (some (.done (.ret 6))) else ((gameroomref_CardsMay_J6 i2))

noncomputable def gameroomref_CardsMay_L2 (l1 : List Int) : Int → Option (St Int (Fl Unit Int)) :=
  fun (x : Int) => match x with | i2 => if (decide (i2 < (l1.length : Int))) then ((gameroomref_CardsMay_J5 l1 i2)) else (some (.done (.go ())))

noncomputable def gameroomref_CardsMay_J4 : Option Int :=
  some 0

noncomputable def gameroomref_CardsMay_K2 : (Fl Unit Int) → Option Int :=
  fun (x : (Fl Unit Int)) => match x with | .go _ => gameroomref_CardsMay_J4 | .ret x => some x

noncomputable def gameroomref_CardsMay_J1 (l1 : List Int) : Option Int :=
  (loop (gameroomref_CardsMay_L2 l1) 0).bind gameroomref_CardsMay_K2

noncomputable def gameroomref_CardsMay_K1 (l1 : List Int) : (Fl Unit Int) → Option Int :=
  fun (x : (Fl Unit Int)) => match x with | .go _ => (gameroomref_CardsMay_J1 l1) | .ret x => some x

noncomputable def gameroomref_CardsMay_L1 (l1 : List Int) : Int → Option (St Int (Fl Unit Int)) :=
  fun (x : Int) => match x with | i1 => if (decide (i1 < (l1.length : Int))) then ((gameroomref_CardsMay_J2 l1 i1)) else (some (.done (.go ())))

noncomputable def gameroomref_CardsMay_m (l1 : List Int) : Option Int :=
  (loop (gameroomref_CardsMay_L1 l1) 0).bind (gameroomref_CardsMay_K1 l1)

set_option maxRecDepth 100000 in
set_option maxHeartbeats 4000000 in
theorem gameroomref_CardsMay_w {A1 : Option Addr} {c1 : Nat} {n1 : Nat} {l1 : List Int} {r : Int} {w0 w : World} {B : Nat} {fs : List HP} (hm : gameroomref_CardsMay_m l1 = some r) (hS : Sep w0 B w (fs)) (hr_l1 : RdF w0 B fs A1 (vI l1)) (_hc_l1 : l1.length ≤ c1) (_hn_l1 : n1 = l1.length) :
    Calls Try.prog 26 #[.slice A1 n1 c1] w fun e w' => e = .returned (.int .i64 r) ∧ Sep w0 B w' (fs) := by
  obtain ⟨i3, hi3, hz3, hs3, hb3⟩ := info_parts Info3
  obtain rfl := _hn_l1
  unfold gameroomref_CardsMay_m at hm
  replace hm := start_b hm
  refine enter (l := [.slice A1 l1.length c1]) (n := 32) Try.func26 rfl rfl (by simp) (fun a hF => ?_)
  refine reg [] [] [0] [pl 0 (.slice A1 l1.length c1)] hF hS Fol (by kernel_rfl) (by kernel_rfl) (by kernel_rfl) ?_ (fun a w hF hS => ?_)
  · exact obs_nil
  refine seq_cut (fun a w => Fr 32 [pl 0 (.slice A1 l1.length c1)] a ∧ Sep w0 B w (fs) ∧ ((gameroomref_CardsMay_J1 l1)).bind some = some r) ?_ ?_
  · rintro a w ⟨hF, hS, hm⟩
    unfold gameroomref_CardsMay_J1 at hm
    refine seq_cut (fun a w => Fr 32 [] a ∧ Sep w0 B w (fs) ∧ (gameroomref_CardsMay_J4).bind some = some r) ?_ ?_
    · rintro a w ⟨hF, hS, hm⟩
      unfold gameroomref_CardsMay_J4 at hm
      refine reg [] [] [2] [pl 2 (.int .i64 0)] hF hS Fol (by kernel_rfl) (by kernel_rfl) (by kernel_rfl) ?_ (fun a w hF hS => ?_)
      · exact obs_nil
      refine wp_ret ?_
      have hm : some 0 = some r := hm
      obtain rfl := Option.some.inj hm
      exact retV (rs := [.tmp 2]) (vs := [.int .i64 0]) hF rfl (rv_t (by kernel_rfl) <| rv_nil) rfl ⟨rfl, hS⟩
    · refine reg [] [] [0, 4] [pl 0 (.slice A1 l1.length c1), pl 4 (.int .i64 0)] hF hS Fol (by kernel_rfl) (by kernel_rfl) (by kernel_rfl) ?_ (fun a w hF hS => ?_)
      · exact obs_nil
      refine wp_block ?_
      refine wp_loop_model (S := Int) (R := (Fl Unit Int)) (gameroomref_CardsMay_L2 l1) (fun x => (gameroomref_CardsMay_K2 x).bind some) r (fun (x : Int) a w => Fr 32 [pl 0 (.slice A1 l1.length c1), pl 4 (.int .i64 x)] a ∧ Sep w0 B w (fs)) (assoc_b hm) ⟨hF.weak [0, 4] (by kernel_rfl), hS⟩ ?_
      clear hF hS hm
      rintro nn2 i2 a w ⟨hF, hS⟩ hm
      generalize hφ2 : stK (gameroomref_CardsMay_L2 l1) nn2 (fun x => (gameroomref_CardsMay_K2 x).bind some) = φ2 at hm
      unfold gameroomref_CardsMay_L2 at hm
      dsimp only at hm
      refine seq_cut (fun a w => Fr 32 [pl 0 (.slice A1 l1.length c1), pl 4 (.int .i64 i2)] a ∧ Sep w0 B w (fs) ∧ ((gameroomref_CardsMay_J5 l1 i2)).bind φ2 = some r) ?_ ?_
      · rintro a w ⟨hF, hS, hm⟩
        unfold gameroomref_CardsMay_J5 at hm
        refine seq_cut (fun a w => Fr 32 [pl 0 (.slice A1 l1.length c1), pl 4 (.int .i64 i2)] a ∧ Sep w0 B w (fs) ∧ ((gameroomref_CardsMay_J6 i2)).bind φ2 = some r) ?_ ?_
        · rintro a w ⟨hF, hS, hm⟩
          unfold gameroomref_CardsMay_J6 at hm
          refine reg1 [] [] [0, 4] [pl 0 (.slice A1 l1.length c1), pl 4 (.int .i64 (w64 (i2 + 1)))] hF hS Fol (by kernel_rfl) (by kernel_rfl) (by kernel_rfl) ?_ (fun a w hF hS => ?_)
          · exact obs_nil
          refine then_n ?_
          rw [← hφ2] at hm
          exact ⟨(w64 (i2 + 1)), ⟨hF.weak [0, 4] (by kernel_rfl), hS⟩, hm⟩
        · refine wp_block ?_
          obtain ⟨hp2, hm⟩ := asrt_b hm
          obtain ⟨hp3, hm⟩ := asrt_b hm
          obtain ⟨r2, hr2, hm⟩ := call_b hm
          refine reg [⟨true, [], vS (Instr.sliceAt 22 (.slice A1 l1.length c1) none (some (.int .i64 i2)) none), .slice (cutAddr A1 c1 (0 : Int)) ((cut l1 (0 : Int) i2).length) (c1 - Int.toNat (0 : Int))⟩, ⟨true, [], vS (Instr.indexAt 22 (.slice A1 l1.length c1) (.int .i64 i2)), .pointer (some (sAddr A1 i2))⟩, ⟨false, [], vS (Instr.loadAt 3 (.pointer (some (sAddr A1 i2)))), .int .i64 (geti l1 i2)⟩, ⟨false, [], callFunc 87 #[.slice (cutAddr A1 c1 (0 : Int)) ((cut l1 (0 : Int) i2).length) (c1 - Int.toNat (0 : Int)), .int .i64 (geti l1 i2)], .int .i64 r2⟩] [none, none, some (.slice (cutAddr A1 c1 (0 : Int)) ((cut l1 (0 : Int) i2).length) (c1 - Int.toNat (0 : Int))), none, none, some (.pointer (some (sAddr A1 i2))), some (.int .i64 (geti l1 i2)), some (.int .i64 r2), none] [0, 4, 31] [pl 0 (.slice A1 l1.length c1), pl 4 (.int .i64 i2), pl 31 (.bool (decide ((0 : Int) ≤ r2)))] hF hS Fol (by kernel_rfl) (by kernel_rfl) (by kernel_rfl) ?_ (fun a w hF hS => ?_)
          · exact obs_cons (ob_cutn (l := l1) (k := .i64) (k' := .i64) Und22 hi3 hs3 rfl (.inr ⟨rfl, rfl⟩) (.inl rfl) (fun _ => hp2) _hc_l1) <| obs_cons (ob_ix1 (f := (Value.int .i64)) (m := l1) Und22 hi3 hs3 (hr_l1 _ (hS.dropN 0)) rfl (fun _ => hp3)) <| obs_cons (ob_get1 (n := l1.length) (m := l1) (Value.int .i64) (0 : Int) Agg3 (fun _ hS => ⟨_, (hr_l1 _ (hS.dropN 0))⟩) (fun _ hS => rfl) (fun _ => hp3)) <| obs_cons (ob_call Try.func87 (by kernel_rfl) rfl (fun _ _ hS => gameroomref_at_w hr2 hS (fun _ hS => (Rd.cutF (hr_l1 _ (hS.dropN 0)) hp2 _hc_l1)) (cap_cut hp2 _hc_l1) rfl)) <| obs_nil
          refine cond_ev (t := 31) (b := decide ((0 : Int) ≤ r2)) hF (by kernel_rfl) (fun hb => ?_) (fun hb => ?_)
          · replace hm := if_t hm hb
            refine reg [] [] [2] [pl 2 (.int .i64 6)] hF hS Fol (by kernel_rfl) (by kernel_rfl) (by kernel_rfl) ?_ (fun a w hF hS => ?_)
            · exact obs_nil
            refine wp_ret ?_
            refine block_r (then_r (then_r (block_r (then_r ?_))))
            rw [← hφ2] at hm
            replace hm := done_b hm
            unfold gameroomref_CardsMay_K2 at hm
            try dsimp only at hm
            have hm : some 6 = some r := hm
            obtain rfl := Option.some.inj hm
            exact retV (rs := [.tmp 2]) (vs := [.int .i64 6]) hF rfl (rv_t (by kernel_rfl) <| rv_nil) rfl ⟨rfl, hS⟩
          · replace hm := if_f hm hb
            refine wp_skip ?_
            refine block_n ?_
            refine then_n ?_
            exact ⟨hF.weak [0, 4] (by kernel_rfl), hS, hm⟩
      · refine reg [] [] [0, 4, 20] [pl 0 (.slice A1 l1.length c1), pl 4 (.int .i64 i2), pl 20 (.bool (decide (i2 < (l1.length : Int))))] hF hS Fol (by kernel_rfl) (by kernel_rfl) (by kernel_rfl) ?_ (fun a w hF hS => ?_)
        · exact obs_nil
        refine cond_ev (t := 20) (b := decide (i2 < (l1.length : Int))) hF (by kernel_rfl) (fun hb => ?_) (fun hb => ?_)
        · replace hm := if_t hm hb
          refine wp_skip ?_
          refine then_n ?_
          exact ⟨hF.weak [0, 4] (by kernel_rfl), hS, hm⟩
        · replace hm := if_f hm hb
          refine wp_exit ?_
          refine then_e (then_e (block_e (then_n ?_)))
          rw [← hφ2] at hm
          replace hm := done_b hm
          unfold gameroomref_CardsMay_K2 at hm
          try dsimp only at hm
          have hm : (gameroomref_CardsMay_J4).bind some = some r := hm
          exact ⟨hF.weak [] (by kernel_rfl), hS, hm⟩
  · refine reg [] [] [0, 3] [pl 0 (.slice A1 l1.length c1), pl 3 (.int .i64 0)] hF hS Fol (by kernel_rfl) (by kernel_rfl) (by kernel_rfl) ?_ (fun a w hF hS => ?_)
    · exact obs_nil
    refine wp_block ?_
    refine wp_loop_model (S := Int) (R := (Fl Unit Int)) (gameroomref_CardsMay_L1 l1) (fun x => ((gameroomref_CardsMay_K1 l1) x).bind some) r (fun (x : Int) a w => Fr 32 [pl 0 (.slice A1 l1.length c1), pl 3 (.int .i64 x)] a ∧ Sep w0 B w (fs)) (assoc_b hm) ⟨hF.weak [0, 3] (by kernel_rfl), hS⟩ ?_
    clear hF hS hm
    rintro nn1 i1 a w ⟨hF, hS⟩ hm
    generalize hφ1 : stK (gameroomref_CardsMay_L1 l1) nn1 (fun x => ((gameroomref_CardsMay_K1 l1) x).bind some) = φ1 at hm
    unfold gameroomref_CardsMay_L1 at hm
    dsimp only at hm
    refine seq_cut (fun a w => Fr 32 [pl 0 (.slice A1 l1.length c1), pl 3 (.int .i64 i1)] a ∧ Sep w0 B w (fs) ∧ ((gameroomref_CardsMay_J2 l1 i1)).bind φ1 = some r) ?_ ?_
    · rintro a w ⟨hF, hS, hm⟩
      unfold gameroomref_CardsMay_J2 at hm
      refine seq_cut (fun a w => Fr 32 [pl 0 (.slice A1 l1.length c1), pl 3 (.int .i64 i1)] a ∧ Sep w0 B w (fs) ∧ ((gameroomref_CardsMay_J3 i1)).bind φ1 = some r) ?_ ?_
      · rintro a w ⟨hF, hS, hm⟩
        unfold gameroomref_CardsMay_J3 at hm
        refine reg1 [] [] [0, 3] [pl 0 (.slice A1 l1.length c1), pl 3 (.int .i64 (w64 (i1 + 1)))] hF hS Fol (by kernel_rfl) (by kernel_rfl) (by kernel_rfl) ?_ (fun a w hF hS => ?_)
        · exact obs_nil
        refine then_n ?_
        rw [← hφ1] at hm
        exact ⟨(w64 (i1 + 1)), ⟨hF.weak [0, 3] (by kernel_rfl), hS⟩, hm⟩
      · refine wp_block ?_
        obtain ⟨hp1, hm⟩ := asrt_b hm
        obtain ⟨r1, hr1, hm⟩ := call_b hm
        refine reg [⟨true, [], vS (Instr.indexAt 22 (.slice A1 l1.length c1) (.int .i64 i1)), .pointer (some (sAddr A1 i1))⟩, ⟨false, [], vS (Instr.loadAt 3 (.pointer (some (sAddr A1 i1)))), .int .i64 (geti l1 i1)⟩, ⟨false, [], callFunc 95 #[.int .i64 (geti l1 i1), .int .i64 0, .int .i64 51], .bool r1⟩] [none, none, some (.pointer (some (sAddr A1 i1))), some (.int .i64 (geti l1 i1)), some (.bool r1), none] [0, 3, 16] [pl 0 (.slice A1 l1.length c1), pl 3 (.int .i64 i1), pl 16 (.bool (!r1))] hF hS Fol (by kernel_rfl) (by kernel_rfl) (by kernel_rfl) ?_ (fun a w hF hS => ?_)
        · exact obs_cons (ob_ix1 (f := (Value.int .i64)) (m := l1) Und22 hi3 hs3 (hr_l1 _ (hS.dropN 0)) rfl (fun _ => hp1)) <| obs_cons (ob_get1 (n := l1.length) (m := l1) (Value.int .i64) (0 : Int) Agg3 (fun _ hS => ⟨_, (hr_l1 _ (hS.dropN 0))⟩) (fun _ hS => rfl) (fun _ => hp1)) <| obs_cons (ob_call Try.func95 (by kernel_rfl) rfl (fun _ _ hS => gameroomref_within_w hr1 hS )) <| obs_nil
        refine cond_ev (t := 16) (b := !r1) hF (by kernel_rfl) (fun hb => ?_) (fun hb => ?_)
        · replace hm := if_t hm hb
          refine reg [] [] [2] [pl 2 (.int .i64 3)] hF hS Fol (by kernel_rfl) (by kernel_rfl) (by kernel_rfl) ?_ (fun a w hF hS => ?_)
          · exact obs_nil
          refine wp_ret ?_
          refine block_r (then_r (then_r (block_r (then_r ?_))))
          rw [← hφ1] at hm
          replace hm := done_b hm
          unfold gameroomref_CardsMay_K1 at hm
          try dsimp only at hm
          have hm : some 3 = some r := hm
          obtain rfl := Option.some.inj hm
          exact retV (rs := [.tmp 2]) (vs := [.int .i64 3]) hF rfl (rv_t (by kernel_rfl) <| rv_nil) rfl ⟨rfl, hS⟩
        · replace hm := if_f hm hb
          refine wp_skip ?_
          refine block_n ?_
          refine then_n ?_
          exact ⟨hF.weak [0, 3] (by kernel_rfl), hS, hm⟩
    · refine reg [] [] [0, 3, 8] [pl 0 (.slice A1 l1.length c1), pl 3 (.int .i64 i1), pl 8 (.bool (decide (i1 < (l1.length : Int))))] hF hS Fol (by kernel_rfl) (by kernel_rfl) (by kernel_rfl) ?_ (fun a w hF hS => ?_)
      · exact obs_nil
      refine cond_ev (t := 8) (b := decide (i1 < (l1.length : Int))) hF (by kernel_rfl) (fun hb => ?_) (fun hb => ?_)
      · replace hm := if_t hm hb
        refine wp_skip ?_
        refine then_n ?_
        exact ⟨hF.weak [0, 3] (by kernel_rfl), hS, hm⟩
      · replace hm := if_f hm hb
        refine wp_exit ?_
        refine then_e (then_e (block_e (then_n ?_)))
        rw [← hφ1] at hm
        replace hm := done_b hm
        unfold gameroomref_CardsMay_K1 at hm
        try dsimp only at hm
        have hm : ((gameroomref_CardsMay_J1 l1)).bind some = some r := hm
        exact ⟨hF.weak [0] (by kernel_rfl), hS, hm⟩

noncomputable def gameroomref_pipOf_J1 (card1 : Int) : Option Int :=
  some (w64 ((w64 (Int.tdiv card1 4)) + 2))

noncomputable def gameroomref_pipOf_m (card1 : Int) : Option Int :=
  if ((w64 (Int.tdiv card1 4)) == 12) then (some 1) else ((gameroomref_pipOf_J1 card1))

set_option maxRecDepth 100000 in
set_option maxHeartbeats 4000000 in
theorem gameroomref_pipOf_w {card1 : Int} {r : Int} {w0 w : World} {B : Nat} {fs : List HP} (hm : gameroomref_pipOf_m card1 = some r) (hS : Sep w0 B w (fs)) :
    Calls Try.prog 130 #[.int .i64 card1] w fun e w' => e = .returned (.int .i64 r) ∧ Sep w0 B w' (fs) := by
  unfold gameroomref_pipOf_m at hm
  replace hm := start_b hm
  refine enter (l := [.int .i64 card1]) (n := 9) Try.func130 rfl rfl (by simp) (fun a hF => ?_)
  refine reg [] [] [0] [pl 0 (.int .i64 card1)] hF hS Fol (by kernel_rfl) (by kernel_rfl) (by kernel_rfl) ?_ (fun a w hF hS => ?_)
  · exact obs_nil
  refine seq_cut (fun a w => Fr 9 [pl 0 (.int .i64 card1)] a ∧ Sep w0 B w (fs) ∧ ((gameroomref_pipOf_J1 card1)).bind some = some r) ?_ ?_
  · rintro a w ⟨hF, hS, hm⟩
    unfold gameroomref_pipOf_J1 at hm
    refine reg [] [] [2] [pl 2 (.int .i64 (w64 ((w64 (Int.tdiv card1 4)) + 2)))] hF hS Fol (by kernel_rfl) (by kernel_rfl) (by kernel_rfl) ?_ (fun a w hF hS => ?_)
    · exact obs_nil
    refine wp_ret ?_
    have hm : some (w64 ((w64 (Int.tdiv card1 4)) + 2)) = some r := hm
    obtain rfl := Option.some.inj hm
    exact retV (rs := [.tmp 2]) (vs := [.int .i64 (w64 ((w64 (Int.tdiv card1 4)) + 2))]) hF rfl (rv_t (by kernel_rfl) <| rv_nil) rfl ⟨rfl, hS⟩
  · refine reg [] [] [0, 5] [pl 0 (.int .i64 card1), pl 5 (.bool ((w64 (Int.tdiv card1 4)) == 12))] hF hS Fol (by kernel_rfl) (by kernel_rfl) (by kernel_rfl) ?_ (fun a w hF hS => ?_)
    · exact obs_nil
    refine cond_ev (t := 5) (b := ((w64 (Int.tdiv card1 4)) == 12)) hF (by kernel_rfl) (fun hb => ?_) (fun hb => ?_)
    · replace hm := if_t hm hb
      refine reg [] [] [2] [pl 2 (.int .i64 1)] hF hS Fol (by kernel_rfl) (by kernel_rfl) (by kernel_rfl) ?_ (fun a w hF hS => ?_)
      · exact obs_nil
      refine wp_ret ?_
      refine then_r ?_
      have hm : some 1 = some r := hm
      obtain rfl := Option.some.inj hm
      exact retV (rs := [.tmp 2]) (vs := [.int .i64 1]) hF rfl (rv_t (by kernel_rfl) <| rv_nil) rfl ⟨rfl, hS⟩
    · replace hm := if_f hm hb
      refine wp_skip ?_
      refine then_n ?_
      exact ⟨hF.weak [0] (by kernel_rfl), hS, hm⟩

noncomputable def gameroomref_pointsOf_J1 (card1 : Int) : Option Int :=
  (gameroomref_pipOf_m card1).bind fun r2 => some r2

noncomputable def gameroomref_pointsOf_m (card1 : Int) : Option Int :=
  (gameroomref_pipOf_m card1).bind fun r1 => if (decide ((10 : Int) < r1)) then (some 10) else ((gameroomref_pointsOf_J1 card1))

set_option maxRecDepth 100000 in
set_option maxHeartbeats 4000000 in
theorem gameroomref_pointsOf_w {card1 : Int} {r : Int} {w0 w : World} {B : Nat} {fs : List HP} (hm : gameroomref_pointsOf_m card1 = some r) (hS : Sep w0 B w (fs)) :
    Calls Try.prog 129 #[.int .i64 card1] w fun e w' => e = .returned (.int .i64 r) ∧ Sep w0 B w' (fs) := by
  unfold gameroomref_pointsOf_m at hm
  replace hm := start_b hm
  refine enter (l := [.int .i64 card1]) (n := 8) Try.func129 rfl rfl (by simp) (fun a hF => ?_)
  refine reg [] [] [0] [pl 0 (.int .i64 card1)] hF hS Fol (by kernel_rfl) (by kernel_rfl) (by kernel_rfl) ?_ (fun a w hF hS => ?_)
  · exact obs_nil
  refine seq_cut (fun a w => Fr 8 [pl 0 (.int .i64 card1)] a ∧ Sep w0 B w (fs) ∧ ((gameroomref_pointsOf_J1 card1)).bind some = some r) ?_ ?_
  · rintro a w ⟨hF, hS, hm⟩
    unfold gameroomref_pointsOf_J1 at hm
    obtain ⟨r2, hr2, hm⟩ := call_b hm
    refine reg [⟨false, [], callFunc 130 #[.int .i64 card1], .int .i64 r2⟩] [none, some (.int .i64 r2), none] [2] [pl 2 (.int .i64 r2)] hF hS Fol (by kernel_rfl) (by kernel_rfl) (by kernel_rfl) ?_ (fun a w hF hS => ?_)
    · exact obs_cons (ob_call Try.func130 (by kernel_rfl) rfl (fun _ _ hS => gameroomref_pipOf_w hr2 hS )) <| obs_nil
    refine wp_ret ?_
    have hm : some r2 = some r := hm
    obtain rfl := Option.some.inj hm
    exact retV (rs := [.tmp 2]) (vs := [.int .i64 r2]) hF rfl (rv_t (by kernel_rfl) <| rv_nil) rfl ⟨rfl, hS⟩
  · obtain ⟨r1, hr1, hm⟩ := call_b hm
    refine reg [⟨false, [], callFunc 130 #[.int .i64 card1], .int .i64 r1⟩] [none, some (.int .i64 r1), none] [0, 5] [pl 0 (.int .i64 card1), pl 5 (.bool (decide ((10 : Int) < r1)))] hF hS Fol (by kernel_rfl) (by kernel_rfl) (by kernel_rfl) ?_ (fun a w hF hS => ?_)
    · exact obs_cons (ob_call Try.func130 (by kernel_rfl) rfl (fun _ _ hS => gameroomref_pipOf_w hr1 hS )) <| obs_nil
    refine cond_ev (t := 5) (b := decide ((10 : Int) < r1)) hF (by kernel_rfl) (fun hb => ?_) (fun hb => ?_)
    · replace hm := if_t hm hb
      refine reg [] [] [2] [pl 2 (.int .i64 10)] hF hS Fol (by kernel_rfl) (by kernel_rfl) (by kernel_rfl) ?_ (fun a w hF hS => ?_)
      · exact obs_nil
      refine wp_ret ?_
      refine then_r ?_
      have hm : some 10 = some r := hm
      obtain rfl := Option.some.inj hm
      exact retV (rs := [.tmp 2]) (vs := [.int .i64 10]) hF rfl (rv_t (by kernel_rfl) <| rv_nil) rfl ⟨rfl, hS⟩
    · replace hm := if_f hm hb
      refine wp_skip ?_
      refine then_n ?_
      exact ⟨hF.weak [0] (by kernel_rfl), hS, hm⟩

noncomputable def gameroomref_rowWays_J6 (i1 : Int) (many3 : Int) : Option (St (Int × Int) Int) :=
  some (.next (many3, (w64 (i1 + 1))))

noncomputable def gameroomref_rowWays_J5 (l1 : List Int) (p1 : Int) (many1 : Int) (i1 : Int) : Option (St (Int × Int) Int) :=
  asrt (0 ≤ i1 ∧ i1 < (l1.length : Int)) <| (gameroomref_pipOf_m (geti l1 i1)).bind fun r1 => if (r1 == p1) then ((gameroomref_rowWays_J6 i1) (w64 (many1 + 1))) else ((gameroomref_rowWays_J6 i1) many1)

noncomputable def gameroomref_rowWays_J3 (p1 : Int) (ways3 : Int) : Option (St (Int × Int) Int) :=
  some (.next (ways3, (w64 (p1 + 1))))

noncomputable def gameroomref_rowWays_J4 (ways1 : Int) (p1 : Int) (many2 : Int) : Option (St (Int × Int) Int) :=
  (gameroomref_rowWays_J3 p1) (w64 (ways1 * many2))

noncomputable def gameroomref_rowWays_K2 (ways1 : Int) (p1 : Int) : Int → Option (St (Int × Int) Int) :=
  fun (x : Int) => match x with | many2 => (gameroomref_rowWays_J4 ways1 p1) many2

noncomputable def gameroomref_rowWays_L2 (l1 : List Int) (p1 : Int) : (Int × Int) → Option (St (Int × Int) Int) :=
  fun (x : (Int × Int)) => match x with | (many1, i1) => if (decide (i1 < (l1.length : Int))) then ((gameroomref_rowWays_J5 l1 p1 many1 i1)) else (some (.done many1))

noncomputable def gameroomref_rowWays_J2 (l1 : List Int) (ways1 : Int) (p1 : Int) : Option (St (Int × Int) Int) :=
  (loop (gameroomref_rowWays_L2 l1 p1) (0, 0)).bind (gameroomref_rowWays_K2 ways1 p1)

noncomputable def gameroomref_rowWays_J1 (ways2 : Int) : Option Int :=
  some ways2

noncomputable def gameroomref_rowWays_K1 : Int → Option Int :=
  fun (x : Int) => match x with | ways2 => gameroomref_rowWays_J1 ways2

noncomputable def gameroomref_rowWays_L1 (l1 : List Int) (low1 : Int) (n2 : Int) : (Int × Int) → Option (St (Int × Int) Int) :=
  fun (x : (Int × Int)) => match x with | (ways1, p1) => if (decide (p1 < (w64 (low1 + n2)))) then ((gameroomref_rowWays_J2 l1 ways1 p1)) else (some (.done ways1))
end Go.Proofs.Ytlkdblflibgfpaa
