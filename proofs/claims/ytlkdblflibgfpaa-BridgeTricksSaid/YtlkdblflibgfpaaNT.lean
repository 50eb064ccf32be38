/-
  Models and walks, printed by our own program (wip/gen).
-/
import Derived.Test.YtlkdblflibgfpaaFB
import Derived.Test.YtlkdblflibgfpaaSI
namespace Go.Proofs.Ytlkdblflibgfpaa
open Go Go.GL Go.RowKit


noncomputable def gameroomlaw_ints_m (l1 : List Int) : Option (List Int) :=
  asrt ((0 : Int) + (l1.length : Int) ≤ bigN) <| some ([] ++ l1)

set_option maxRecDepth 100000 in
set_option maxHeartbeats 4000000 in
theorem gameroomlaw_ints_w {A1 : Option Addr} {c1 : Nat} {n1 : Nat} {l1 : List Int} {r : (List Int)} {w0 w : World} {B : Nat} {fs : List HP} (hm : gameroomlaw_ints_m l1 = some r) (hS : Sep w0 B w (fs)) (hr_l1 : RdF w0 B fs A1 (vI l1)) (_hc_l1 : l1.length ≤ c1) (_hn_l1 : n1 = l1.length) :
    Calls Try.prog 16 #[.slice A1 n1 c1] w fun e w' => ∃ v, e = .returned v ∧ ∃ (A3 : Option Addr) (c3 : Nat), v = .slice A3 r.length c3 ∧ Sep w0 B w' (own 3 (.slice A3 r.length c3) (vI r) :: fs) := by
  obtain ⟨i3, hi3, hz3, hs3, hb3⟩ := info_parts Info3
  obtain rfl := _hn_l1
  unfold gameroomlaw_ints_m at hm
  replace hm := start_b hm
  refine enter (l := [.slice A1 l1.length c1]) (n := 5) Try.func16 rfl rfl (by simp) (fun a hF => ?_)
  refine reg [] [] [0] [pl 0 (.slice A1 l1.length c1)] hF hS Fol (by kernel_rfl) (by kernel_rfl) (by kernel_rfl) ?_ (fun a w hF hS => ?_)
  · exact obs_nil
  refine seqR ?_
  obtain ⟨hp1, hm⟩ := asrt_b hm
  refine at_run 1 [] [] [3] [pl 3 (.slice A1 l1.length c1)] hF hS (by kernel_rfl) (by kernel_rfl) ?_ (fun a w hF hS => ?_)
  · exact obs_nil
  have hS : Sep w0 B w (own 3 (.slice none 0 0) (vI ([] : List Int)) :: fs) := hS.nil 3
  obtain ⟨A2, c2, w, hrun, hS⟩ := run_app1 (P := Try.prog) (t := 22) (m := ([] : List Int)) (ys := l1) (A2 := A1) (m2 := l1.length) (c2 := c1) (Value.int .i64) (0 : Int) (hS.at_ 0 rfl) (hr_l1 _ (hS.dropN 1)) rfl 22 Und22 hi3 hz3 hs3 (by omega) rfl (fun _ => rfl) hp1
  have hS : Sep w0 B w (own 3 (.slice A2 (([] ++ l1).length) c2) (vI ([] ++ l1)) :: fs) := hS
  refine at_do (d := 4) hF (by kernel_rfl) (by kernel_rfl) hrun (fun a hF => ?_)
  refine at_run 1 [] [] [2] [pl 2 (.slice A2 (([] ++ l1).length) c2)] hF hS (by kernel_rfl) (by kernel_rfl) ?_ (fun a w hF hS => ?_)
  · exact obs_nil
  refine at_end [2] [pl 2 (.slice A2 (([] ++ l1).length) c2)] hF rfl (by kernel_rfl) (fun hF => ?_)
  refine then_n ?_
  refine wp_ret ?_
  have hm : some ([] ++ l1) = some r := hm
  obtain rfl := Option.some.inj hm
  exact retV (rs := [.tmp 2]) (vs := [.slice A2 (([] ++ l1).length) c2]) hF rfl (rv_t (by kernel_rfl) <| rv_nil) rfl ⟨_, rfl, A2, c2, rfl, hS⟩

noncomputable def bridge_strange_m (c1 : Int) : Option Bool :=
  some ((decide (c1 < 0)) || (decide ((52 : Int) ≤ c1)))

set_option maxRecDepth 100000 in
set_option maxHeartbeats 4000000 in
theorem bridge_strange_w {c1 : Int} {r : Bool} {w0 w : World} {B : Nat} {fs : List HP} (hm : bridge_strange_m c1 = some r) (hS : Sep w0 B w (fs)) :
    Calls Try.prog 92 #[.int .i64 c1] w fun e w' => e = .returned (.bool r) ∧ Sep w0 B w' (fs) := by
  unfold bridge_strange_m at hm
  replace hm := start_b hm
  refine enter (l := [.int .i64 c1]) (n := 9) Try.func92 rfl rfl (by simp) (fun a hF => ?_)
  refine reg [] [] [0] [pl 0 (.int .i64 c1)] hF hS Fol (by kernel_rfl) (by kernel_rfl) (by kernel_rfl) ?_ (fun a w hF hS => ?_)
  · exact obs_nil
  refine reg [] [] [2] [pl 2 (.bool ((decide (c1 < 0)) || (decide ((52 : Int) ≤ c1))))] hF hS Fol (by kernel_rfl) (by kernel_rfl) (by kernel_rfl) ?_ (fun a w hF hS => ?_)
  · exact obs_nil
  refine wp_ret ?_
  have hm : some ((decide (c1 < 0)) || (decide ((52 : Int) ≤ c1))) = some r := hm
  obtain rfl := Option.some.inj hm
  exact retV (rs := [.tmp 2]) (vs := [.bool ((decide (c1 < 0)) || (decide ((52 : Int) ≤ c1)))]) hF rfl (rv_t (by kernel_rfl) <| rv_nil) rfl ⟨rfl, hS⟩

noncomputable def slices_IndexFunc_J3 (z1 : Int) : Option (St Int (Fl Unit Int)) :=
  some (.next (w64 (z1 + 1)))

noncomputable def slices_IndexFunc_J2 (s1 : List Int) (z1 : Int) : Option (St Int (Fl Unit Int)) :=
  asrt (0 ≤ z1 ∧ z1 < (s1.length : Int)) <| (bridge_strange_m (geti s1 z1)).bind fun r1 => if r1 then (some (.done (.ret z1))) else ((slices_IndexFunc_J3 z1))

noncomputable def slices_IndexFunc_J1 : Option Int :=
  some (-1)

noncomputable def slices_IndexFunc_K1 : (Fl Unit Int) → Option Int :=
  fun (x : (Fl Unit Int)) => match x with | .go _ => slices_IndexFunc_J1 | .ret x => some x

noncomputable def slices_IndexFunc_L1 (s1 : List Int) : Int → Option (St Int (Fl Unit Int)) :=
  fun (x : Int) => match x with | z1 => if (decide (z1 < (s1.length : Int))) then ((slices_IndexFunc_J2 s1 z1)) else (some (.done (.go ())))

noncomputable def slices_IndexFunc_m (s1 : List Int) : Option Int :=
  (loop (slices_IndexFunc_L1 s1) 0).bind slices_IndexFunc_K1

set_option maxRecDepth 100000 in
set_option maxHeartbeats 4000000 in
theorem slices_IndexFunc_w {A1 : Option Addr} {c1 : Nat} {n1 : Nat} {s1 : List Int} {r : Int} {w0 w : World} {B : Nat} {fs : List HP} (hm : slices_IndexFunc_m s1 = some r) (hS : Sep w0 B w (fs)) (hr_s1 : RdF w0 B fs A1 (vI s1)) (_hc_s1 : s1.length ≤ c1) (_hn_s1 : n1 = s1.length) :
    Calls Try.prog 167 #[.slice A1 n1 c1, .func (.func 92) #[] #[]] w fun e w' => e = .returned (.int .i64 r) ∧ Sep w0 B w' (fs) := by
  obtain ⟨i3, hi3, hz3, hs3, hb3⟩ := info_parts Info3
  obtain rfl := _hn_s1
  unfold slices_IndexFunc_m at hm
  replace hm := start_b hm
  refine enter (l := [.slice A1 s1.length c1, .func (.func 92) #[] #[]]) (n := 19) Try.func167 rfl rfl (by simp) (fun a hF => ?_)
  refine reg [] [] [0, 1] [pl 0 (.slice A1 s1.length c1), pl 1 (.func (.func 92) #[] #[])] hF hS Fol (by kernel_rfl) (by kernel_rfl) (by kernel_rfl) ?_ (fun a w hF hS => ?_)
  · exact obs_nil
  refine seq_cut (fun a w => Fr 19 [] a ∧ Sep w0 B w (fs) ∧ (slices_IndexFunc_J1).bind some = some r) ?_ ?_
  · rintro a w ⟨hF, hS, hm⟩
    unfold slices_IndexFunc_J1 at hm
    refine reg [] [] [4] [pl 4 (.int .i64 (-1))] hF hS Fol (by kernel_rfl) (by kernel_rfl) (by kernel_rfl) ?_ (fun a w hF hS => ?_)
    · exact obs_nil
    refine wp_ret ?_
    have hm : some (-1) = some r := hm
    obtain rfl := Option.some.inj hm
    exact retV (rs := [.tmp 4]) (vs := [.int .i64 (-1)]) hF rfl (rv_t (by kernel_rfl) <| rv_nil) rfl ⟨rfl, hS⟩
  · refine reg [] [] [0, 1, 7, 8] [pl 0 (.slice A1 s1.length c1), pl 1 (.func (.func 92) #[] #[]), pl 7 (.int .i64 (s1.length : Int)), pl 8 (.int .i64 0)] hF hS Fol (by kernel_rfl) (by kernel_rfl) (by kernel_rfl) ?_ (fun a w hF hS => ?_)
    · exact obs_nil
    refine wp_block ?_
    refine wp_loop_model (S := Int) (R := (Fl Unit Int)) (slices_IndexFunc_L1 s1) (fun x => (slices_IndexFunc_K1 x).bind some) r (fun (x : Int) a w => Fr 19 [pl 0 (.slice A1 s1.length c1), pl 1 (.func (.func 92) #[] #[]), pl 7 (.int .i64 (s1.length : Int)), pl 8 (.int .i64 x)] a ∧ Sep w0 B w (fs)) (assoc_b hm) ⟨hF.weak [0, 1, 7, 8] (by kernel_rfl), hS⟩ ?_
    clear hF hS hm
    rintro nn1 z1 a w ⟨hF, hS⟩ hm
    generalize hφ1 : stK (slices_IndexFunc_L1 s1) nn1 (fun x => (slices_IndexFunc_K1 x).bind some) = φ1 at hm
    unfold slices_IndexFunc_L1 at hm
    dsimp only at hm
    refine reg [] [] [0, 1, 7, 8, 9] [pl 0 (.slice A1 s1.length c1), pl 1 (.func (.func 92) #[] #[]), pl 7 (.int .i64 (s1.length : Int)), pl 8 (.int .i64 z1), pl 9 (.bool (decide (z1 < (s1.length : Int))))] hF hS Fol (by kernel_rfl) (by kernel_rfl) (by kernel_rfl) ?_ (fun a w hF hS => ?_)
    · exact obs_nil
    refine seq_cut (fun a w => Fr 19 [pl 0 (.slice A1 s1.length c1), pl 1 (.func (.func 92) #[] #[]), pl 7 (.int .i64 (s1.length : Int)), pl 8 (.int .i64 z1)] a ∧ Sep w0 B w (fs) ∧ ((slices_IndexFunc_J2 s1 z1)).bind φ1 = some r) ?_ ?_
    · rintro a w ⟨hF, hS, hm⟩
      unfold slices_IndexFunc_J2 at hm
      refine seq_cut (fun a w => Fr 19 [pl 0 (.slice A1 s1.length c1), pl 1 (.func (.func 92) #[] #[]), pl 7 (.int .i64 (s1.length : Int)), pl 8 (.int .i64 z1)] a ∧ Sep w0 B w (fs) ∧ ((slices_IndexFunc_J3 z1)).bind φ1 = some r) ?_ ?_
      · rintro a w ⟨hF, hS, hm⟩
        unfold slices_IndexFunc_J3 at hm
        refine reg1 [] [] [0, 1, 7, 8] [pl 0 (.slice A1 s1.length c1), pl 1 (.func (.func 92) #[] #[]), pl 7 (.int .i64 (s1.length : Int)), pl 8 (.int .i64 (w64 (z1 + 1)))] hF hS Fol (by kernel_rfl) (by kernel_rfl) (by kernel_rfl) ?_ (fun a w hF hS => ?_)
        · exact obs_nil
        refine then_n ?_
        rw [← hφ1] at hm
        exact ⟨(w64 (z1 + 1)), ⟨hF.weak [0, 1, 7, 8] (by kernel_rfl), hS⟩, hm⟩
      · refine wp_block ?_
        refine reg [] [] [0, 1, 5, 7, 8] [pl 0 (.slice A1 s1.length c1), pl 1 (.func (.func 92) #[] #[]), pl 5 (.int .i64 z1), pl 7 (.int .i64 (s1.length : Int)), pl 8 (.int .i64 z1)] hF hS Fol (by kernel_rfl) (by kernel_rfl) (by kernel_rfl) ?_ (fun a w hF hS => ?_)
        · exact obs_nil
        obtain ⟨hp1, hm⟩ := asrt_b hm
        obtain ⟨r1, hr1, hm⟩ := call_b hm
        refine reg [⟨true, [], vS (Instr.indexAt 22 (.slice A1 s1.length c1) (.int .i64 z1)), .pointer (some (sAddr A1 z1))⟩, ⟨false, [], vS (Instr.loadAt 3 (.pointer (some (sAddr A1 z1)))), .int .i64 (geti s1 z1)⟩, ⟨false, [], callFunc 92 #[.int .i64 (geti s1 z1)], .bool r1⟩] [none, none, none, some (.pointer (some (sAddr A1 z1))), some (.int .i64 (geti s1 z1)), some (.bool r1)] [0, 1, 5, 7, 8, 16] [pl 0 (.slice A1 s1.length c1), pl 1 (.func (.func 92) #[] #[]), pl 5 (.int .i64 z1), pl 7 (.int .i64 (s1.length : Int)), pl 8 (.int .i64 z1), pl 16 (.bool r1)] hF hS Fol (by kernel_rfl) (by kernel_rfl) (by kernel_rfl) ?_ (fun a w hF hS => ?_)
        · exact obs_cons (ob_ix1 (f := (Value.int .i64)) (m := s1) Und22 hi3 hs3 (hr_s1 _ (hS.dropN 0)) rfl (fun _ => hp1)) <| obs_cons (ob_get1 (n := s1.length) (m := s1) (Value.int .i64) (0 : Int) Agg3 (fun _ hS => ⟨_, (hr_s1 _ (hS.dropN 0))⟩) (fun _ hS => rfl) (fun _ => hp1)) <| obs_cons (ob_call Try.func92 (by kernel_rfl) rfl (fun _ _ hS => bridge_strange_w hr1 hS )) <| obs_nil
        refine cond_ev (t := 16) (b := r1) hF (by kernel_rfl) (fun hb => ?_) (fun hb => ?_)
        · replace hm := if_t hm hb
          refine reg [] [] [4] [pl 4 (.int .i64 z1)] hF hS Fol (by kernel_rfl) (by kernel_rfl) (by kernel_rfl) ?_ (fun a w hF hS => ?_)
          · exact obs_nil
          refine wp_ret ?_
          refine block_r (then_r (then_r (block_r (then_r ?_))))
          rw [← hφ1] at hm
          replace hm := done_b hm
          unfold slices_IndexFunc_K1 at hm
          try dsimp only at hm
          have hm : some z1 = some r := hm
          obtain rfl := Option.some.inj hm
          exact retV (rs := [.tmp 4]) (vs := [.int .i64 z1]) hF rfl (rv_t (by kernel_rfl) <| rv_nil) rfl ⟨rfl, hS⟩
        · replace hm := if_f hm hb
          refine wp_skip ?_
          refine block_n ?_
          refine then_n ?_
          exact ⟨hF.weak [0, 1, 7, 8] (by kernel_rfl), hS, hm⟩
    · refine cond_ev (t := 9) (b := decide (z1 < (s1.length : Int))) hF (by kernel_rfl) (fun hb => ?_) (fun hb => ?_)
      · replace hm := if_t hm hb
        refine wp_skip ?_
        refine then_n ?_
        exact ⟨hF.weak [0, 1, 7, 8] (by kernel_rfl), hS, hm⟩
      · replace hm := if_f hm hb
        refine wp_exit ?_
        refine then_e (then_e (block_e (then_n ?_)))
        rw [← hφ1] at hm
        replace hm := done_b hm
        unfold slices_IndexFunc_K1 at hm
        try dsimp only at hm
        have hm : (slices_IndexFunc_J1).bind some = some r := hm
        exact ⟨hF.weak [] (by kernel_rfl), hS, hm⟩

noncomputable def slices_ContainsFunc_m (s1 : List Int) : Option Bool :=
  (slices_IndexFunc_m s1).bind fun r1 => some (decide ((0 : Int) ≤ r1))

set_option maxRecDepth 100000 in
set_option maxHeartbeats 4000000 in
theorem slices_ContainsFunc_w {A1 : Option Addr} {c1 : Nat} {n1 : Nat} {s1 : List Int} {r : Bool} {w0 w : World} {B : Nat} {fs : List HP} (hm : slices_ContainsFunc_m s1 = some r) (hS : Sep w0 B w (fs)) (hr_s1 : RdF w0 B fs A1 (vI s1)) (_hc_s1 : s1.length ≤ c1) (_hn_s1 : n1 = s1.length) :
    Calls Try.prog 91 #[.slice A1 n1 c1, .func (.func 92) #[] #[]] w fun e w' => e = .returned (.bool r) ∧ Sep w0 B w' (fs) := by
  obtain ⟨i3, hi3, hz3, hs3, hb3⟩ := info_parts Info3
  obtain rfl := _hn_s1
  unfold slices_ContainsFunc_m at hm
  replace hm := start_b hm
  refine enter (l := [.slice A1 s1.length c1, .func (.func 92) #[] #[]]) (n := 9) Try.func91 rfl rfl (by simp) (fun a hF => ?_)
  refine reg [] [] [0, 1] [pl 0 (.slice A1 s1.length c1), pl 1 (.func (.func 92) #[] #[])] hF hS Fol (by kernel_rfl) (by kernel_rfl) (by kernel_rfl) ?_ (fun a w hF hS => ?_)
  · exact obs_nil
  obtain ⟨r1, hr1, hm⟩ := call_b hm
  refine reg [⟨false, [], callFunc 167 #[.slice A1 s1.length c1, .func (.func 92) #[] #[]], .int .i64 r1⟩] [none, none, some (.int .i64 r1), none, none] [4] [pl 4 (.bool (decide ((0 : Int) ≤ r1)))] hF hS Fol (by kernel_rfl) (by kernel_rfl) (by kernel_rfl) ?_ (fun a w hF hS => ?_)
  · exact obs_cons (ob_call Try.func167 (by kernel_rfl) rfl (fun _ _ hS => slices_IndexFunc_w hr1 hS (fun _ hS => (hr_s1 _ (hS.dropN 0))) _hc_s1 rfl)) <| obs_nil
  refine wp_ret ?_
  have hm : some (decide ((0 : Int) ≤ r1)) = some r := hm
  obtain rfl := Option.some.inj hm
  exact retV (rs := [.tmp 4]) (vs := [.bool (decide ((0 : Int) ≤ r1))]) hF rfl (rv_t (by kernel_rfl) <| rv_nil) rfl ⟨rfl, hS⟩

noncomputable def slices_Values_m (s1 : List Int) : Option Unit :=
  some ()

set_option maxRecDepth 100000 in
set_option maxHeartbeats 4000000 in
theorem slices_Values_w {A1 : Option Addr} {c1 : Nat} {n1 : Nat} {s1 : List Int} {r : Unit} {w0 w : World} {B : Nat} {fs : List HP} (hm : slices_Values_m s1 = some r) (hS : Sep w0 B w (fs)) (hr_s1 : RdF w0 B fs A1 (vI s1)) (_hc_s1 : s1.length ≤ c1) (_hn_s1 : n1 = s1.length) :
    Calls Try.prog 109 #[.slice A1 n1 c1] w fun e w' => ∃ v, e = .returned v ∧ ∃ (g2 : Nat), v = .func (.func 175) #[] #[.pointer (some ⟨g2, 0, none⟩)] ∧ Sep w0 B w' (blk g2 22 #[.slice A1 n1 c1] :: fs) := by
  obtain ⟨i3, hi3, hz3, hs3, hb3⟩ := info_parts Info3
  obtain rfl := _hn_s1
  unfold slices_Values_m at hm
  replace hm := start_b hm
  refine enter (l := [.slice A1 s1.length c1]) (n := 4) Try.func109 rfl rfl (by simp) (fun a hF => ?_)
  refine seqR ?_
  refine at_do (d := 1) (s := vS (Instr.box 22 (.slice A1 s1.length c1))) (v := .pointer (some ⟨w.heap.size, 0, none⟩)) (w' := w.alloc (.cells #[.slice A1 s1.length c1] 22)) hF (by kernel_rfl) (by kernel_rfl) (by kernel_rfl) (fun a hF => ?_)
  have hS : Sep w0 B (w.alloc (.cells #[.slice A1 s1.length c1] 22)) (blk w.heap.size 22 #[.slice A1 s1.length c1] :: (fs)) := hS.box 22 #[.slice A1 s1.length c1]
  generalize w.heap.size = g1 at hF hS
  generalize w.alloc (.cells #[.slice A1 s1.length c1] 22) = w at hS ⊢
  refine at_run 1 [] [] [1] [pl 1 (.pointer (some ⟨g1, 0, none⟩))] hF hS (by kernel_rfl) (by kernel_rfl) ?_ (fun a w hF hS => ?_)
  · exact obs_nil
  refine at_end [1] [pl 1 (.pointer (some ⟨g1, 0, none⟩))] hF rfl (by kernel_rfl) (fun hF => ?_)
  refine then_n ?_
  refine reg [] [] [2] [pl 2 (.func (.func 175) #[] #[.pointer (some ⟨g1, 0, none⟩)])] hF hS Fol (by kernel_rfl) (by kernel_rfl) (by kernel_rfl) ?_ (fun a w hF hS => ?_)
  · exact obs_nil
  refine wp_ret ?_
  have hm : some () = some r := hm
  obtain rfl := Option.some.inj hm
  exact retV (rs := [.tmp 2]) (vs := [.func (.func 175) #[] #[.pointer (some ⟨g1, 0, none⟩)]]) hF rfl (rv_t (by kernel_rfl) <| rv_nil) rfl ⟨_, rfl, g1, rfl, hS⟩

noncomputable def slices_Sorted_m (v1 : List Int) : Option (List Int) :=
  asrt ((v1.length : Int) + 512 ≤ bigN) <| some (sortI v1)

theorem slices_Sorted_w {g1 : Nat} {A1 : Option Addr} {c1 : Nat} {n1 : Nat} {v1 : List Int} {r : (List Int)} {w0 w : World} {B : Nat} {fs : List HP} (hm : slices_Sorted_m v1 = some r) (hS : Sep w0 B w (blk g1 22 #[.slice A1 n1 c1] :: fs)) (hr_v1 : RdF w0 B fs A1 (vI v1)) (_hc_v1 : v1.length ≤ c1) (_hn_v1 : n1 = v1.length) :
    Calls Try.prog 108 #[.func (.func 175) #[] #[.pointer (some ⟨g1, 0, none⟩)]] w fun e w' => ∃ v, e = .returned v ∧ ∃ (A2 : Option Addr) (c2 : Nat), v = .slice A2 r.length c2 ∧ Sep w0 B w' (blk g1 22 #[.slice A1 n1 c1] :: own 3 (.slice A2 r.length c2) (vI r) :: fs) := by
  unfold slices_Sorted_m at hm
  obtain ⟨hb, hm⟩ := asrt_b (start_b hm)
  obtain rfl := Option.some.inj hm
  exact sorted_own hS hr_v1 _hn_v1 hb

noncomputable def slices_Compact_2_m (s1 : List Int) : Option (List Int) :=
  asrt ((s1.length : Int) ≤ bigN) <| some (compI s1)

theorem slices_Compact_2_w {A1 : Option Addr} {c1 : Nat} {n1 : Nat} {s1 : List Int} {r : (List Int)} {w0 w : World} {B : Nat} {fs : List HP} (hm : slices_Compact_2_m s1 = some r) (hS : Sep w0 B w (own 3 (.slice A1 n1 c1) (vI s1) :: fs)) :
    Calls Try.prog 165 #[.slice A1 n1 c1] w fun e w' => ∃ v, e = .returned v ∧ ∃ (A2 : Option Addr) (c2 : Nat), v = .slice A2 r.length c2 ∧ Sep w0 B w' (own 3 (.slice A2 r.length c2) (vI r) :: fs) := by
  unfold slices_Compact_2_m at hm
  obtain ⟨hb, hm⟩ := asrt_b (start_b hm)
  obtain rfl := Option.some.inj hm
  exact compact_own CompactL hS hb

noncomputable def bridge_check_J2 : Option Int :=
  some 0

noncomputable def bridge_check_J1 (l1 : List Int) : Option Int :=
  (slices_Values_m l1).bind fun r2 => (slices_Sorted_m l1).bind fun r3 => (slices_Compact_2_m r3).bind fun r4 => if (decide ((r4.length : Int) < (l1.length : Int))) then (some 6) else (bridge_check_J2)

noncomputable def bridge_check_m (l1 : List Int) : Option Int :=
  (slices_ContainsFunc_m l1).bind fun r1 => if r1 then (some 3) else ((bridge_check_J1 l1))

set_option maxRecDepth 100000 in
set_option maxHeartbeats 4000000 in
theorem bridge_check_w {A1 : Option Addr} {c1 : Nat} {n1 : Nat} {l1 : List Int} {r : Int} {w0 w : World} {B : Nat} {fs : List HP} (hm : bridge_check_m l1 = some r) (hS : Sep w0 B w (fs)) (hr_l1 : RdF w0 B fs A1 (vI l1)) (_hc_l1 : l1.length ≤ c1) (_hn_l1 : n1 = l1.length) :
    Calls Try.prog 89 #[.slice A1 n1 c1] w fun e w' => e = .returned (.int .i64 r) ∧ Sep w0 B w' (fs) := by
  obtain ⟨i3, hi3, hz3, hs3, hb3⟩ := info_parts Info3
  obtain rfl := _hn_l1
  unfold bridge_check_m at hm
  replace hm := start_b hm
  refine enter (l := [.slice A1 l1.length c1]) (n := 15) Try.func89 rfl rfl (by simp) (fun a hF => ?_)
  refine reg [] [] [0] [pl 0 (.slice A1 l1.length c1)] hF hS Fol (by kernel_rfl) (by kernel_rfl) (by kernel_rfl) ?_ (fun a w hF hS => ?_)
  · exact obs_nil
  refine seq_cut (fun a w => Fr 15 [pl 0 (.slice A1 l1.length c1)] a ∧ Sep w0 B w (fs) ∧ ((bridge_check_J1 l1)).bind some = some r) ?_ ?_
  · rintro a w ⟨hF, hS, hm⟩
    unfold bridge_check_J1 at hm
    refine seqR ?_
    obtain ⟨r2, hr2, hm⟩ := call_b hm
    obtain ⟨r3, hr3, hm⟩ := call_b hm
    refine at_run 1 [] [] [0, 6] [pl 0 (.slice A1 l1.length c1), pl 6 (.slice A1 l1.length c1)] hF hS (by kernel_rfl) (by kernel_rfl) ?_ (fun a w hF hS => ?_)
    · exact obs_nil
    refine at_call (f := 109) (args := #[.slice A1 l1.length c1]) (d := 7) hF (by kernel_rfl) (by kernel_rfl) Try.func109 (by kernel_rfl) rfl (slices_Values_w hr2 hS (fun _ hS => (hr_l1 _ (hS.dropN 0))) _hc_l1 rfl) (fun v a w hR hF => ?_)
    clear hS
    obtain ⟨g1, rfl, hS⟩ := hR
    have hS : Sep w0 B w (blk g1 22 #[.slice A1 l1.length c1] :: fs) := hS
    refine at_call (f := 108) (args := #[.func (.func 175) #[] #[.pointer (some ⟨g1, 0, none⟩)]]) (d := 8) hF (by kernel_rfl) (by kernel_rfl) Try.func108 (by kernel_rfl) rfl (slices_Sorted_w hr3 hS (fun _ hS => (hr_l1 _ (hS.dropN 0))) _hc_l1 rfl) (fun v a w hR hF => ?_)
    clear hS
    obtain ⟨A2, c2, rfl, hS⟩ := hR
    have hS : Sep w0 B w (blk g1 22 #[.slice A1 l1.length c1] :: own 3 (.slice A2 r3.length c2) (vI r3) :: fs) := hS
    refine at_run 1 [] [] [0, 3] [pl 0 (.slice A1 l1.length c1), pl 3 (.slice A2 r3.length c2)] hF hS (by kernel_rfl) (by kernel_rfl) ?_ (fun a w hF hS => ?_)
    · exact obs_nil
    refine at_end [0, 3] [pl 0 (.slice A1 l1.length c1), pl 3 (.slice A2 r3.length c2)] hF rfl (by kernel_rfl) (fun hF => ?_)
    refine then_n ?_
    refine seq_cut (fun a w => Fr 15 [] a ∧ Sep w0 B w (fs) ∧ (bridge_check_J2).bind some = some r) ?_ ?_
    · rintro a w ⟨hF, hS, hm⟩
      unfold bridge_check_J2 at hm
      refine reg [] [] [2] [pl 2 (.int .i64 0)] hF hS Fol (by kernel_rfl) (by kernel_rfl) (by kernel_rfl) ?_ (fun a w hF hS => ?_)
      · exact obs_nil
      refine wp_ret ?_
      have hm : some 0 = some r := hm
      obtain rfl := Option.some.inj hm
      exact retV (rs := [.tmp 2]) (vs := [.int .i64 0]) hF rfl (rv_t (by kernel_rfl) <| rv_nil) rfl ⟨rfl, hS⟩
    · refine seqR ?_
      obtain ⟨r4, hr4, hm⟩ := call_b hm
      refine at_run 1 [] [] [0, 9] [pl 0 (.slice A1 l1.length c1), pl 9 (.slice A2 r3.length c2)] hF hS (by kernel_rfl) (by kernel_rfl) ?_ (fun a w hF hS => ?_)
      · exact obs_nil
      have hS : Sep w0 B w (own 3 (.slice A2 r3.length c2) (vI r3) :: blk g1 22 #[.slice A1 l1.length c1] :: fs) := hS.pickN 2 [1, 0] (by decide)
      refine at_call (f := 165) (args := #[.slice A2 r3.length c2]) (d := 10) hF (by kernel_rfl) (by kernel_rfl) Try.func165 (by kernel_rfl) rfl (slices_Compact_2_w hr4 hS ) (fun v a w hR hF => ?_)
      clear hS
      obtain ⟨A3, c3, rfl, hS⟩ := hR
      have hS : Sep w0 B w (own 3 (.slice A3 r4.length c3) (vI r4) :: blk g1 22 #[.slice A1 l1.length c1] :: fs) := hS
      refine at_run 4 [] [] [14] [pl 14 (.bool (decide ((r4.length : Int) < (l1.length : Int))))] hF hS (by kernel_rfl) (by kernel_rfl) ?_ (fun a w hF hS => ?_)
      · exact obs_nil
      refine at_end [14] [pl 14 (.bool (decide ((r4.length : Int) < (l1.length : Int))))] hF rfl (by kernel_rfl) (fun hF => ?_)
      refine then_n ?_
      refine cond_ev (t := 14) (b := decide ((r4.length : Int) < (l1.length : Int))) hF (by kernel_rfl) (fun hb => ?_) (fun hb => ?_)
      · replace hm := if_t hm hb
        refine reg [] [] [2] [pl 2 (.int .i64 6)] hF hS Fol (by kernel_rfl) (by kernel_rfl) (by kernel_rfl) ?_ (fun a w hF hS => ?_)
        · exact obs_nil
        refine wp_ret ?_
        refine then_r ?_
        have hS := hS.pickN 2 [] (by decide)
        have hm : some 6 = some r := hm
        obtain rfl := Option.some.inj hm
        exact retV (rs := [.tmp 2]) (vs := [.int .i64 6]) hF rfl (rv_t (by kernel_rfl) <| rv_nil) rfl ⟨rfl, hS⟩
      · replace hm := if_f hm hb
        refine wp_skip ?_
        refine then_n ?_
        have hS := hS.pickN 2 [] (by decide)
        exact ⟨hF.weak [] (by kernel_rfl), hS, hm⟩
  · obtain ⟨r1, hr1, hm⟩ := call_b hm
    refine reg [⟨false, [], callFunc 91 #[.slice A1 l1.length c1, .func (.func 92) #[] #[]], .bool r1⟩] [none, some (.bool r1)] [0, 5] [pl 0 (.slice A1 l1.length c1), pl 5 (.bool r1)] hF hS Fol (by kernel_rfl) (by kernel_rfl) (by kernel_rfl) ?_ (fun a w hF hS => ?_)
    · exact obs_cons (ob_call Try.func91 (by kernel_rfl) rfl (fun _ _ hS => slices_ContainsFunc_w hr1 hS (fun _ hS => (hr_l1 _ (hS.dropN 0))) _hc_l1 rfl)) <| obs_nil
    refine cond_ev (t := 5) (b := r1) hF (by kernel_rfl) (fun hb => ?_) (fun hb => ?_)
    · replace hm := if_t hm hb
      refine reg [] [] [2] [pl 2 (.int .i64 3)] hF hS Fol (by kernel_rfl) (by kernel_rfl) (by kernel_rfl) ?_ (fun a w hF hS => ?_)
      · exact obs_nil
      refine wp_ret ?_
      refine then_r ?_
      have hm : some 3 = some r := hm
      obtain rfl := Option.some.inj hm
      exact retV (rs := [.tmp 2]) (vs := [.int .i64 3]) hF rfl (rv_t (by kernel_rfl) <| rv_nil) rfl ⟨rfl, hS⟩
    · replace hm := if_f hm hb
      refine wp_skip ?_
      refine then_n ?_
      exact ⟨hF.weak [0] (by kernel_rfl), hS, hm⟩

noncomputable def bridge_winner_1_J1 : Option Int :=
  some 0

noncomputable def bridge_winner_1_m (c1 : Int) (p11 : Int) (p21 : List Int) : Option Int :=
  if ((Int.tmod c1 4) == p11) then (some (w64 (200 + c1))) else (asrt (0 ≤ (0 : Int) ∧ (0 : Int) < (p21.length : Int)) <| if ((Int.tmod c1 4) == (Int.tmod (geti p21 0) 4)) then (some (w64 (100 + c1))) else (bridge_winner_1_J1))

set_option maxRecDepth 100000 in
set_option maxHeartbeats 4000000 in
theorem bridge_winner_1_w {c1 : Int} {g1 : Nat} {p11 : Int} {g2 : Nat} {A1 : Option Addr} {c2 : Nat} {n1 : Nat} {p21 : List Int} {r : Int} {w0 w : World} {B : Nat} {fs : List HP} (hm : bridge_winner_1_m c1 p11 p21 = some r) (hS : Sep w0 B w (blk g1 3 #[.int .i64 p11] :: blk g2 22 #[.slice A1 n1 c2] :: fs)) (hr_p21 : RdF w0 B fs A1 (vI p21)) (_hc_p21 : p21.length ≤ c2) (_hn_p21 : n1 = p21.length) :
    Calls Try.prog 166 #[.int .i64 c1, .pointer (some ⟨g1, 0, none⟩), .pointer (some ⟨g2, 0, none⟩)] w fun e w' => e = .returned (.int .i64 r) ∧ Sep w0 B w' (blk g1 3 #[.int .i64 p11] :: blk g2 22 #[.slice A1 n1 c2] :: fs) := by
  obtain ⟨i3, hi3, hz3, hs3, hb3⟩ := info_parts Info3
  obtain rfl := _hn_p21
  unfold bridge_winner_1_m at hm
  replace hm := start_b hm
  refine enter (l := [.int .i64 c1, .pointer (some ⟨g1, 0, none⟩), .pointer (some ⟨g2, 0, none⟩)]) (n := 20) Try.func166 rfl rfl (by simp) (fun a hF => ?_)
  refine reg [] [] [0, 1, 2] [pl 0 (.int .i64 c1), pl 1 (.pointer (some ⟨g1, 0, none⟩)), pl 2 (.pointer (some ⟨g2, 0, none⟩))] hF hS Fol (by kernel_rfl) (by kernel_rfl) (by kernel_rfl) ?_ (fun a w hF hS => ?_)
  · exact obs_nil
  refine seq_cut (fun a w => Fr 20 [] a ∧ Sep w0 B w (blk g1 3 #[.int .i64 p11] :: blk g2 22 #[.slice A1 p21.length c2] :: fs) ∧ (bridge_winner_1_J1).bind some = some r) ?_ ?_
  · rintro a w ⟨hF, hS, hm⟩
    unfold bridge_winner_1_J1 at hm
    refine reg [] [] [4] [pl 4 (.int .i64 0)] hF hS Fol (by kernel_rfl) (by kernel_rfl) (by kernel_rfl) ?_ (fun a w hF hS => ?_)
    · exact obs_nil
    refine wp_ret ?_
    have hm : some 0 = some r := hm
    obtain rfl := Option.some.inj hm
    exact retV (rs := [.tmp 4]) (vs := [.int .i64 0]) hF rfl (rv_t (by kernel_rfl) <| rv_nil) rfl ⟨rfl, hS⟩
  · refine reg [] [] [0, 1, 2, 6] [pl 0 (.int .i64 c1), pl 1 (.pointer (some ⟨g1, 0, none⟩)), pl 2 (.pointer (some ⟨g2, 0, none⟩)), pl 6 (.int .i64 (Int.tmod c1 4))] hF hS Fol (by kernel_rfl) (by kernel_rfl) (by kernel_rfl) ?_ (fun a w hF hS => ?_)
    · exact obs_nil
    refine wp_block ?_
    refine reg [⟨false, [], vS (Instr.loadAt 3 (.pointer (some ⟨g1, 0, none⟩))), .int .i64 p11⟩] [some (.int .i64 p11), none, none] [0, 2, 6, 7] [pl 0 (.int .i64 c1), pl 2 (.pointer (some ⟨g2, 0, none⟩)), pl 6 (.int .i64 (Int.tmod c1 4)), pl 7 (.bool ((Int.tmod c1 4) == p11))] hF hS Fol (by kernel_rfl) (by kernel_rfl) (by kernel_rfl) ?_ (fun a w hF hS => ?_)
    · exact obs_cons (ob_load Agg3 (fun _ _ hS => (hS.at_ 0 rfl).cell rfl)) <| obs_nil
    refine cond_ev (t := 7) (b := ((Int.tmod c1 4) == p11)) hF (by kernel_rfl) (fun hb => ?_) (fun hb => ?_)
    · replace hm := if_t hm hb
      refine reg [] [] [4] [pl 4 (.int .i64 (w64 (200 + c1)))] hF hS Fol (by kernel_rfl) (by kernel_rfl) (by kernel_rfl) ?_ (fun a w hF hS => ?_)
      · exact obs_nil
      refine wp_ret ?_
      refine block_r (then_r ?_)
      have hm : some (w64 (200 + c1)) = some r := hm
      obtain rfl := Option.some.inj hm
      exact retV (rs := [.tmp 4]) (vs := [.int .i64 (w64 (200 + c1))]) hF rfl (rv_t (by kernel_rfl) <| rv_nil) rfl ⟨rfl, hS⟩
    · replace hm := if_f hm hb
      obtain ⟨hp1, hm⟩ := asrt_b hm
      refine reg [⟨false, [], vS (Instr.loadAt 22 (.pointer (some ⟨g2, 0, none⟩))), .slice A1 p21.length c2⟩, ⟨true, [], vS (Instr.indexAt 22 (.slice A1 p21.length c2) (.int .i64 0)), .pointer (some (sAddr A1 0))⟩, ⟨false, [], vS (Instr.loadAt 3 (.pointer (some (sAddr A1 0)))), .int .i64 (geti p21 0)⟩] [some (.slice A1 p21.length c2), some (.pointer (some (sAddr A1 0))), some (.int .i64 (geti p21 0)), none, none, none] [0, 12] [pl 0 (.int .i64 c1), pl 12 (.bool ((Int.tmod c1 4) == (Int.tmod (geti p21 0) 4)))] hF hS Fol (by kernel_rfl) (by kernel_rfl) (by kernel_rfl) ?_ (fun a w hF hS => ?_)
      · exact obs_cons (ob_load Agg22 (fun _ _ hS => (hS.at_ 1 rfl).cell rfl)) <| obs_cons (ob_ix1 (f := (Value.int .i64)) (m := p21) Und22 hi3 hs3 (hr_p21 _ (hS.dropN 2)) rfl (fun _ => hp1)) <| obs_cons (ob_get1 (n := p21.length) (m := p21) (Value.int .i64) (0 : Int) Agg3 (fun _ hS => ⟨_, (hr_p21 _ (hS.dropN 2))⟩) (fun _ hS => rfl) (fun _ => hp1)) <| obs_nil
      refine cond_ev (t := 12) (b := ((Int.tmod c1 4) == (Int.tmod (geti p21 0) 4))) hF (by kernel_rfl) (fun hb => ?_) (fun hb => ?_)
      · replace hm := if_t hm hb
        refine reg [] [] [4] [pl 4 (.int .i64 (w64 (100 + c1)))] hF hS Fol (by kernel_rfl) (by kernel_rfl) (by kernel_rfl) ?_ (fun a w hF hS => ?_)
        · exact obs_nil
        refine wp_ret ?_
        refine block_r (then_r ?_)
        have hm : some (w64 (100 + c1)) = some r := hm
        obtain rfl := Option.some.inj hm
        exact retV (rs := [.tmp 4]) (vs := [.int .i64 (w64 (100 + c1))]) hF rfl (rv_t (by kernel_rfl) <| rv_nil) rfl ⟨rfl, hS⟩
      · replace hm := if_f hm hb
        refine wp_skip ?_
        refine block_n ?_
        refine then_n ?_
        exact ⟨hF.weak [] (by kernel_rfl), hS, hm⟩

noncomputable def bridge_winner_J3 (z1 : Int) (best3 : Int) : Option (St (Int × Int) Int) :=
  some (.next (best3, (w64 (z1 + 1))))

noncomputable def bridge_winner_J4 (best1 : Int) (z1 : Int) (z2 : Bool) : Option (St (Int × Int) Int) :=
  if z2 then ((bridge_winner_J3 z1) z1) else ((bridge_winner_J3 z1) best1)

noncomputable def bridge_winner_J2 (l1 : List Int) (strain1 : Int) (best1 : Int) (z1 : Int) : Option (St (Int × Int) Int) :=
  asrt (0 ≤ z1 ∧ z1 < (l1.length : Int)) <| asrt (0 ≤ best1 ∧ best1 < (l1.length : Int)) <| (bridge_winner_1_m (geti l1 z1) strain1 l1).bind fun r1 => (bridge_winner_1_m (geti l1 best1) strain1 l1).bind fun r2 => (bridge_winner_J4 best1 z1) (decide (r2 < r1))

noncomputable def bridge_winner_J1 (best2 : Int) : Option Int :=
  some best2

noncomputable def bridge_winner_K1 : Int → Option Int :=
  fun (x : Int) => match x with | best2 => bridge_winner_J1 best2

noncomputable def bridge_winner_L1 (l1 : List Int) (strain1 : Int) : (Int × Int) → Option (St (Int × Int) Int) :=
  fun (x : (Int × Int)) => match x with | (best1, z1) => if (decide (z1 < (l1.length : Int))) then ((bridge_winner_J2 l1 strain1 best1 z1)) else (some (.done best1))

noncomputable def bridge_winner_m (l1 : List Int) (strain1 : Int) : Option Int :=
  (loop (bridge_winner_L1 l1 strain1) (0, 0)).bind bridge_winner_K1

set_option maxRecDepth 100000 in
set_option maxHeartbeats 4000000 in
theorem bridge_winner_w {A1 : Option Addr} {c1 : Nat} {n1 : Nat} {l1 : List Int} {strain1 : Int} {r : Int} {w0 w : World} {B : Nat} {fs : List HP} (hm : bridge_winner_m l1 strain1 = some r) (hS : Sep w0 B w (fs)) (hr_l1 : RdF w0 B fs A1 (vI l1)) (_hc_l1 : l1.length ≤ c1) (_hn_l1 : n1 = l1.length) :
    Calls Try.prog 90 #[.slice A1 n1 c1, .int .i64 strain1] w fun e w' => e = .returned (.int .i64 r) ∧ Sep w0 B w' (fs) := by
  obtain ⟨i3, hi3, hz3, hs3, hb3⟩ := info_parts Info3
  obtain rfl := _hn_l1
  unfold bridge_winner_m at hm
  replace hm := start_b hm
  refine enter (l := [.slice A1 l1.length c1, .int .i64 strain1]) (n := 30) Try.func90 rfl rfl (by simp) (fun a hF => ?_)
  refine seqR ?_
  refine at_do (d := 2) (s := vS (Instr.box 22 (.slice A1 l1.length c1))) (v := .pointer (some ⟨w.heap.size, 0, none⟩)) (w' := w.alloc (.cells #[.slice A1 l1.length c1] 22)) hF (by kernel_rfl) (by kernel_rfl) (by kernel_rfl) (fun a hF => ?_)
  have hS : Sep w0 B (w.alloc (.cells #[.slice A1 l1.length c1] 22)) (blk w.heap.size 22 #[.slice A1 l1.length c1] :: (fs)) := hS.box 22 #[.slice A1 l1.length c1]
  generalize w.heap.size = g1 at hF hS
  generalize w.alloc (.cells #[.slice A1 l1.length c1] 22) = w at hS ⊢
  refine at_do (d := 3) (s := vS (Instr.box 3 (.int .i64 strain1))) (v := .pointer (some ⟨w.heap.size, 0, none⟩)) (w' := w.alloc (.cells #[.int .i64 strain1] 3)) hF (by kernel_rfl) (by kernel_rfl) (by kernel_rfl) (fun a hF => ?_)
  have hS : Sep w0 B (w.alloc (.cells #[.int .i64 strain1] 3)) (blk w.heap.size 3 #[.int .i64 strain1] :: (blk g1 22 #[.slice A1 l1.length c1] :: fs)) := hS.box 3 #[.int .i64 strain1]
  generalize w.heap.size = g2 at hF hS
  generalize w.alloc (.cells #[.int .i64 strain1] 3) = w at hS ⊢
  refine at_run 1 [] [] [2, 3] [pl 2 (.pointer (some ⟨g1, 0, none⟩)), pl 3 (.pointer (some ⟨g2, 0, none⟩))] hF hS (by kernel_rfl) (by kernel_rfl) ?_ (fun a w hF hS => ?_)
  · exact obs_nil
  refine at_end [2, 3] [pl 2 (.pointer (some ⟨g1, 0, none⟩)), pl 3 (.pointer (some ⟨g2, 0, none⟩))] hF rfl (by kernel_rfl) (fun hF => ?_)
  refine then_n ?_
  refine reg [] [] [2, 3, 5] [pl 2 (.pointer (some ⟨g1, 0, none⟩)), pl 3 (.pointer (some ⟨g2, 0, none⟩)), pl 5 (.int .i64 0)] hF hS Fol (by kernel_rfl) (by kernel_rfl) (by kernel_rfl) ?_ (fun a w hF hS => ?_)
  · exact obs_nil
  refine reg [] [] [2, 5, 6] [pl 2 (.pointer (some ⟨g1, 0, none⟩)), pl 5 (.int .i64 0), pl 6 (.func (.func 166) #[] #[.pointer (some ⟨g2, 0, none⟩), .pointer (some ⟨g1, 0, none⟩)])] hF hS Fol (by kernel_rfl) (by kernel_rfl) (by kernel_rfl) ?_ (fun a w hF hS => ?_)
  · exact obs_nil
  refine seq_cut (fun a w => ∃ (best2 : Int), Fr 30 [pl 5 (.int .i64 best2)] a ∧ Sep w0 B w (fs) ∧ (bridge_winner_J1 best2).bind some = some r) ?_ ?_
  · rintro a w ⟨best2, hF, hS, hm⟩
    unfold bridge_winner_J1 at hm
    refine reg [] [] [4] [pl 4 (.int .i64 best2)] hF hS Fol (by kernel_rfl) (by kernel_rfl) (by kernel_rfl) ?_ (fun a w hF hS => ?_)
    · exact obs_nil
    refine wp_ret ?_
    have hm : some best2 = some r := hm
    obtain rfl := Option.some.inj hm
    exact retV (rs := [.tmp 4]) (vs := [.int .i64 best2]) hF rfl (rv_t (by kernel_rfl) <| rv_nil) rfl ⟨rfl, hS⟩
  · refine reg [⟨false, [], vS (Instr.loadAt 22 (.pointer (some ⟨g1, 0, none⟩))), .slice A1 l1.length c1⟩] [some (.slice A1 l1.length c1), none, none] [2, 5, 6, 10, 11, 12] [pl 2 (.pointer (some ⟨g1, 0, none⟩)), pl 5 (.int .i64 0), pl 6 (.func (.func 166) #[] #[.pointer (some ⟨g2, 0, none⟩), .pointer (some ⟨g1, 0, none⟩)]), pl 10 (.slice A1 l1.length c1), pl 11 (.int .i64 (l1.length : Int)), pl 12 (.int .i64 0)] hF hS Fol (by kernel_rfl) (by kernel_rfl) (by kernel_rfl) ?_ (fun a w hF hS => ?_)
    · exact obs_cons (ob_load Agg22 (fun _ _ hS => (hS.at_ 1 rfl).cell rfl)) <| obs_nil
    refine wp_block ?_
    have hS := hS.pickN 2 [1, 0] (by decide)
    refine wp_loop_model (S := (Int × Int)) (R := Int) (bridge_winner_L1 l1 strain1) (fun x => (bridge_winner_K1 x).bind some) r (fun (x : (Int × Int)) a w => Fr 30 [pl 2 (.pointer (some ⟨g1, 0, none⟩)), pl 5 (.int .i64 x.1), pl 6 (.func (.func 166) #[] #[.pointer (some ⟨g2, 0, none⟩), .pointer (some ⟨g1, 0, none⟩)]), pl 10 (.slice A1 l1.length c1), pl 11 (.int .i64 (l1.length : Int)), pl 12 (.int .i64 x.2)] a ∧ Sep w0 B w (blk g1 22 #[.slice A1 l1.length c1] :: blk g2 3 #[.int .i64 strain1] :: fs)) (assoc_b hm) ⟨hF.weak [2, 5, 6, 10, 11, 12] (by kernel_rfl), hS⟩ ?_
    clear hF hS hm
    rintro nn1 ⟨best1, z1⟩ a w ⟨hF, hS⟩ hm
    generalize hφ1 : stK (bridge_winner_L1 l1 strain1) nn1 (fun x => (bridge_winner_K1 x).bind some) = φ1 at hm
    unfold bridge_winner_L1 at hm
    dsimp only at hF hS hm
    refine reg [] [] [2, 5, 6, 10, 11, 12, 13] [pl 2 (.pointer (some ⟨g1, 0, none⟩)), pl 5 (.int .i64 best1), pl 6 (.func (.func 166) #[] #[.pointer (some ⟨g2, 0, none⟩), .pointer (some ⟨g1, 0, none⟩)]), pl 10 (.slice A1 l1.length c1), pl 11 (.int .i64 (l1.length : Int)), pl 12 (.int .i64 z1), pl 13 (.bool (decide (z1 < (l1.length : Int))))] hF hS Fol (by kernel_rfl) (by kernel_rfl) (by kernel_rfl) ?_ (fun a w hF hS => ?_)
    · exact obs_nil
    refine seq_cut (fun a w => Fr 30 [pl 2 (.pointer (some ⟨g1, 0, none⟩)), pl 5 (.int .i64 best1), pl 6 (.func (.func 166) #[] #[.pointer (some ⟨g2, 0, none⟩), .pointer (some ⟨g1, 0, none⟩)]), pl 10 (.slice A1 l1.length c1), pl 11 (.int .i64 (l1.length : Int)), pl 12 (.int .i64 z1)] a ∧ Sep w0 B w (blk g1 22 #[.slice A1 l1.length c1] :: blk g2 3 #[.int .i64 strain1] :: fs) ∧ ((bridge_winner_J2 l1 strain1 best1 z1)).bind φ1 = some r) ?_ ?_
    · rintro a w ⟨hF, hS, hm⟩
      unfold bridge_winner_J2 at hm
      refine seq_cut (fun a w => ∃ (best3 : Int), Fr 30 [pl 2 (.pointer (some ⟨g1, 0, none⟩)), pl 5 (.int .i64 best3), pl 6 (.func (.func 166) #[] #[.pointer (some ⟨g2, 0, none⟩), .pointer (some ⟨g1, 0, none⟩)]), pl 10 (.slice A1 l1.length c1), pl 11 (.int .i64 (l1.length : Int)), pl 12 (.int .i64 z1)] a ∧ Sep w0 B w (blk g1 22 #[.slice A1 l1.length c1] :: blk g2 3 #[.int .i64 strain1] :: fs) ∧ ((bridge_winner_J3 z1) best3).bind φ1 = some r) ?_ ?_
      · rintro a w ⟨best3, hF, hS, hm⟩
        unfold bridge_winner_J3 at hm
        refine reg1 [] [] [2, 5, 6, 10, 11, 12] [pl 2 (.pointer (some ⟨g1, 0, none⟩)), pl 5 (.int .i64 best3), pl 6 (.func (.func 166) #[] #[.pointer (some ⟨g2, 0, none⟩), .pointer (some ⟨g1, 0, none⟩)]), pl 10 (.slice A1 l1.length c1), pl 11 (.int .i64 (l1.length : Int)), pl 12 (.int .i64 (w64 (z1 + 1)))] hF hS Fol (by kernel_rfl) (by kernel_rfl) (by kernel_rfl) ?_ (fun a w hF hS => ?_)
        · exact obs_nil
        refine then_n ?_
        rw [← hφ1] at hm
        exact ⟨(best3, (w64 (z1 + 1))), ⟨hF.weak [2, 5, 6, 10, 11, 12] (by kernel_rfl), hS⟩, hm⟩
      · refine wp_block ?_
        obtain ⟨hp1, hm⟩ := asrt_b hm
        refine reg [⟨true, [], vS (Instr.indexAt 22 (.slice A1 l1.length c1) (.int .i64 z1)), .pointer (some (sAddr A1 z1))⟩, ⟨false, [], vS (Instr.loadAt 3 (.pointer (some (sAddr A1 z1)))), .int .i64 (geti l1 z1)⟩] [none, some (.pointer (some (sAddr A1 z1))), some (.int .i64 (geti l1 z1)), none, none] [2, 5, 6, 7, 8, 10, 11, 12] [pl 2 (.pointer (some ⟨g1, 0, none⟩)), pl 5 (.int .i64 best1), pl 6 (.func (.func 166) #[] #[.pointer (some ⟨g2, 0, none⟩), .pointer (some ⟨g1, 0, none⟩)]), pl 7 (.int .i64 z1), pl 8 (.int .i64 (geti l1 z1)), pl 10 (.slice A1 l1.length c1), pl 11 (.int .i64 (l1.length : Int)), pl 12 (.int .i64 z1)] hF hS Fol (by kernel_rfl) (by kernel_rfl) (by kernel_rfl) ?_ (fun a w hF hS => ?_)
        · exact obs_cons (ob_ix1 (f := (Value.int .i64)) (m := l1) Und22 hi3 hs3 (hr_l1 _ (hS.dropN 2)) rfl (fun _ => hp1)) <| obs_cons (ob_get1 (n := l1.length) (m := l1) (Value.int .i64) (0 : Int) Agg3 (fun _ hS => ⟨_, (hr_l1 _ (hS.dropN 2))⟩) (fun _ hS => rfl) (fun _ => hp1)) <| obs_nil
        refine seq_cut (fun a w => ∃ (z2 : Bool), Fr 30 [pl 2 (.pointer (some ⟨g1, 0, none⟩)), pl 5 (.int .i64 best1), pl 6 (.func (.func 166) #[] #[.pointer (some ⟨g2, 0, none⟩), .pointer (some ⟨g1, 0, none⟩)]), pl 7 (.int .i64 z1), pl 10 (.slice A1 l1.length c1), pl 11 (.int .i64 (l1.length : Int)), pl 12 (.int .i64 z1), pl 26 (.bool z2)] a ∧ Sep w0 B w (blk g1 22 #[.slice A1 l1.length c1] :: blk g2 3 #[.int .i64 strain1] :: fs) ∧ ((bridge_winner_J4 best1 z1) z2).bind φ1 = some r) ?_ ?_
        · rintro a w ⟨z2, hF, hS, hm⟩
          unfold bridge_winner_J4 at hm
          refine cond_ev (t := 26) (b := z2) hF (by kernel_rfl) (fun hb => ?_) (fun hb => ?_)
          · replace hm := if_t hm hb
            refine reg1 [] [] [2, 5, 6, 10, 11, 12] [pl 2 (.pointer (some ⟨g1, 0, none⟩)), pl 5 (.int .i64 z1), pl 6 (.func (.func 166) #[] #[.pointer (some ⟨g2, 0, none⟩), .pointer (some ⟨g1, 0, none⟩)]), pl 10 (.slice A1 l1.length c1), pl 11 (.int .i64 (l1.length : Int)), pl 12 (.int .i64 z1)] hF hS Fol (by kernel_rfl) (by kernel_rfl) (by kernel_rfl) ?_ (fun a w hF hS => ?_)
            · exact obs_nil
            refine block_n ?_
            refine then_n ?_
            exact ⟨z1, hF.weak [2, 5, 6, 10, 11, 12] (by kernel_rfl), hS, hm⟩
          · replace hm := if_f hm hb
            refine wp_skip ?_
            refine block_n ?_
            refine then_n ?_
            exact ⟨best1, hF.weak [2, 5, 6, 10, 11, 12] (by kernel_rfl), hS, hm⟩
        · obtain ⟨hp2, hm⟩ := asrt_b hm
          obtain ⟨r1, hr1, hm⟩ := call_b hm
          obtain ⟨r2, hr2, hm⟩ := call_b hm
          refine regMix5 [0, 1, 3, 4, 5, 6, 7] [] 3 #[true, true, false, true, true, true, true, true, false, false] [⟨false, [], vS (Instr.loadAt 22 (.pointer (some ⟨g1, 0, none⟩))), .slice A1 l1.length c1⟩, ⟨true, [], vS (Instr.indexAt 22 (.slice A1 l1.length c1) (.int .i64 best1)), .pointer (some (sAddr A1 best1))⟩, ⟨false, [], vS (Instr.loadAt 3 (.pointer (some (sAddr A1 best1)))), .int .i64 (geti l1 best1)⟩] [none, none, none, some (.slice A1 l1.length c1), none, some (.pointer (some (sAddr A1 best1))), some (.int .i64 (geti l1 best1))] [2, 5, 6, 7, 10, 11, 12, 17, 18, 20, 24] [pl 2 (.pointer (some ⟨g1, 0, none⟩)), pl 5 (.int .i64 best1), pl 6 (.func (.func 166) #[] #[.pointer (some ⟨g2, 0, none⟩), .pointer (some ⟨g1, 0, none⟩)]), pl 7 (.int .i64 z1), pl 10 (.slice A1 l1.length c1), pl 11 (.int .i64 (l1.length : Int)), pl 12 (.int .i64 z1), pl 17 (.func (.func 166) #[] #[.pointer (some ⟨g2, 0, none⟩), .pointer (some ⟨g1, 0, none⟩)]), pl 18 (.int .i64 (geti l1 z1)), pl 20 (.func (.func 166) #[] #[.pointer (some ⟨g2, 0, none⟩), .pointer (some ⟨g1, 0, none⟩)]), pl 24 (.int .i64 (geti l1 best1))] hF hS Fol (by kernel_rfl) (by kernel_rfl) (by kernel_rfl) (by kernel_rfl) ?_ (fun a w hF hS => ?_)
          · exact obs_cons (ob_load Agg22 (fun _ _ hS => (hS.at_ 0 rfl).cell rfl)) <| obs_cons (ob_ix1 (f := (Value.int .i64)) (m := l1) Und22 hi3 hs3 (hr_l1 _ (hS.dropN 2)) rfl (fun _ => hp2)) <| obs_cons (ob_get1 (n := l1.length) (m := l1) (Value.int .i64) (0 : Int) Agg3 (fun _ hS => ⟨_, (hr_l1 _ (hS.dropN 2))⟩) (fun _ hS => rfl) (fun _ => hp2)) <| obs_nil
          refine any_step [2] (by kernel_rfl) rfl ?_
          refine (all_cons ?_ all_nil)
          · refine any_op (listed' := #[true, true, true, true, true, true, true, true, false, false]) (by kernel_rfl) (by kernel_rfl) ?_
            refine at_run 1 [⟨false, [], callFunc 166 #[.int .i64 (geti l1 z1), .pointer (some ⟨g2, 0, none⟩), .pointer (some ⟨g1, 0, none⟩)], .int .i64 r1⟩] [some (.int .i64 r1)] [2, 5, 6, 7, 10, 11, 12, 19, 20, 24] [pl 2 (.pointer (some ⟨g1, 0, none⟩)), pl 5 (.int .i64 best1), pl 6 (.func (.func 166) #[] #[.pointer (some ⟨g2, 0, none⟩), .pointer (some ⟨g1, 0, none⟩)]), pl 7 (.int .i64 z1), pl 10 (.slice A1 l1.length c1), pl 11 (.int .i64 (l1.length : Int)), pl 12 (.int .i64 z1), pl 19 (.int .i64 r1), pl 20 (.func (.func 166) #[] #[.pointer (some ⟨g2, 0, none⟩), .pointer (some ⟨g1, 0, none⟩)]), pl 24 (.int .i64 (geti l1 best1))] hF hS (by kernel_rfl) (by kernel_rfl) ?_ (fun a w hF hS => ?_)
            · exact obs_cons (ob_call Try.func166 (by kernel_rfl) rfl (fun _ _ hS => quiet_pick hS 2 [1, 0] (by decide) [1, 0] (by decide) (qs := (blk g2 3 #[.int .i64 strain1] :: blk g1 22 #[.slice A1 l1.length c1] :: fs)) rfl (fun hS => bridge_winner_1_w hr1 hS (fun _ hS => (hr_l1 _ (hS.dropN 0))) _hc_l1 rfl) 2 rfl)) <| obs_nil
            refine any_fin rfl hS ?_
            refine any_step [8] (by kernel_rfl) rfl ?_
            refine (all_cons ?_ all_nil)
            · refine any_op (listed' := #[true, true, true, true, true, true, true, true, true, false]) (by kernel_rfl) (by kernel_rfl) ?_
              refine at_run 1 [⟨false, [], callFunc 166 #[.int .i64 (geti l1 best1), .pointer (some ⟨g2, 0, none⟩), .pointer (some ⟨g1, 0, none⟩)], .int .i64 r2⟩] [some (.int .i64 r2)] [2, 5, 6, 7, 10, 11, 12, 19, 25] [pl 2 (.pointer (some ⟨g1, 0, none⟩)), pl 5 (.int .i64 best1), pl 6 (.func (.func 166) #[] #[.pointer (some ⟨g2, 0, none⟩), .pointer (some ⟨g1, 0, none⟩)]), pl 7 (.int .i64 z1), pl 10 (.slice A1 l1.length c1), pl 11 (.int .i64 (l1.length : Int)), pl 12 (.int .i64 z1), pl 19 (.int .i64 r1), pl 25 (.int .i64 r2)] hF hS (by kernel_rfl) (by kernel_rfl) ?_ (fun a w hF hS => ?_)
              · exact obs_cons (ob_call Try.func166 (by kernel_rfl) rfl (fun _ _ hS => quiet_pick hS 2 [1, 0] (by decide) [1, 0] (by decide) (qs := (blk g2 3 #[.int .i64 strain1] :: blk g1 22 #[.slice A1 l1.length c1] :: fs)) rfl (fun hS => bridge_winner_1_w hr2 hS (fun _ hS => (hr_l1 _ (hS.dropN 0))) _hc_l1 rfl) 2 rfl)) <| obs_nil
              refine any_fin rfl hS ?_
              refine any_step [9] (by kernel_rfl) rfl ?_
              refine (all_cons ?_ all_nil)
              · refine any_op (listed' := #[true, true, true, true, true, true, true, true, true, true]) (by kernel_rfl) (by kernel_rfl) ?_
                refine at_runW 1 [] [] [2, 5, 6, 7, 10, 11, 12, 26] [pl 2 (.pointer (some ⟨g1, 0, none⟩)), pl 5 (.int .i64 best1), pl 6 (.func (.func 166) #[] #[.pointer (some ⟨g2, 0, none⟩), .pointer (some ⟨g1, 0, none⟩)]), pl 7 (.int .i64 z1), pl 10 (.slice A1 l1.length c1), pl 11 (.int .i64 (l1.length : Int)), pl 12 (.int .i64 z1), pl 26 (.bool (decide (r2 < r1)))] hF hS (by kernel_rfl) (by kernel_rfl) ?_ (fun a hF => ?_)
                · exact obs_nil
                refine any_finI rfl (fun h => h) ?_
                refine any_end (by kernel_rfl) ?_
                refine np_n ?_
                refine then_n ?_
                exact ⟨(decide (r2 < r1)), hF.weak [2, 5, 6, 7, 10, 11, 12, 26] (by kernel_rfl), hS, hm⟩
    · refine cond_ev (t := 13) (b := decide (z1 < (l1.length : Int))) hF (by kernel_rfl) (fun hb => ?_) (fun hb => ?_)
      · replace hm := if_t hm hb
        refine wp_skip ?_
        refine then_n ?_
        exact ⟨hF.weak [2, 5, 6, 10, 11, 12] (by kernel_rfl), hS, hm⟩
      · replace hm := if_f hm hb
        refine wp_exit ?_
        refine then_e (then_e (block_e (then_n ?_)))
        have hS := hS.pickN 2 [] (by decide)
        rw [← hφ1] at hm
        replace hm := done_b hm
        unfold bridge_winner_K1 at hm
        try dsimp only at hm
        have hm : (bridge_winner_J1 best1).bind some = some r := hm
        exact ⟨best1, hF.weak [5] (by kernel_rfl), hS, hm⟩

noncomputable def bridge_Trick_J3 (l1 : List Int) (strain1 : Int) : Option (Int × Int) :=
  (bridge_winner_m l1 strain1).bind fun r2 => some (r2, 0)

noncomputable def bridge_Trick_J2 (l1 : List Int) (strain1 : Int) : Option (Int × Int) :=
  if ((decide (strain1 < 0)) || (decide ((4 : Int) < strain1))) then (some (0, 4)) else ((bridge_Trick_J3 l1 strain1))

noncomputable def bridge_Trick_J1 (l1 : List Int) (strain1 : Int) : Option (Int × Int) :=
  (bridge_check_m l1).bind fun r1 => if (r1 != 0) then (some (0, r1)) else ((bridge_Trick_J2 l1 strain1))

noncomputable def bridge_Trick_m (l1 : List Int) (strain1 : Int) : Option (Int × Int) :=
  if ((l1.length : Int) != 4) then (some (0, 11)) else ((bridge_Trick_J1 l1 strain1))

set_option maxRecDepth 100000 in
set_option maxHeartbeats 4000000 in
theorem bridge_Trick_w {A1 : Option Addr} {c1 : Nat} {n1 : Nat} {l1 : List Int} {strain1 : Int} {r : (Int × Int)} {w0 w : World} {B : Nat} {fs : List HP} (hm : bridge_Trick_m l1 strain1 = some r) (hS : Sep w0 B w (fs)) (hr_l1 : RdF w0 B fs A1 (vI l1)) (_hc_l1 : l1.length ≤ c1) (_hn_l1 : n1 = l1.length) :
    Calls Try.prog 24 #[.slice A1 n1 c1, .int .i64 strain1] w fun e w' => e = .returned (.tuple #[.int .i64 r.1, .int .i64 r.2]) ∧ Sep w0 B w' (fs) := by
  obtain ⟨i3, hi3, hz3, hs3, hb3⟩ := info_parts Info3
  obtain rfl := _hn_l1
  unfold bridge_Trick_m at hm
  replace hm := start_b hm
  refine enter (l := [.slice A1 l1.length c1, .int .i64 strain1]) (n := 24) Try.func24 rfl rfl (by simp) (fun a hF => ?_)
  refine reg [] [] [0, 1] [pl 0 (.slice A1 l1.length c1), pl 1 (.int .i64 strain1)] hF hS Fol (by kernel_rfl) (by kernel_rfl) (by kernel_rfl) ?_ (fun a w hF hS => ?_)
  · exact obs_nil
  refine seq_cut (fun a w => Fr 24 [pl 0 (.slice A1 l1.length c1), pl 1 (.int .i64 strain1)] a ∧ Sep w0 B w (fs) ∧ ((bridge_Trick_J1 l1 strain1)).bind some = some r) ?_ ?_
  · rintro a w ⟨hF, hS, hm⟩
    unfold bridge_Trick_J1 at hm
    refine seq_cut (fun a w => Fr 24 [pl 0 (.slice A1 l1.length c1), pl 1 (.int .i64 strain1)] a ∧ Sep w0 B w (fs) ∧ ((bridge_Trick_J2 l1 strain1)).bind some = some r) ?_ ?_
    · rintro a w ⟨hF, hS, hm⟩
      unfold bridge_Trick_J2 at hm
      refine seq_cut (fun a w => Fr 24 [pl 0 (.slice A1 l1.length c1), pl 1 (.int .i64 strain1)] a ∧ Sep w0 B w (fs) ∧ ((bridge_Trick_J3 l1 strain1)).bind some = some r) ?_ ?_
      · rintro a w ⟨hF, hS, hm⟩
        unfold bridge_Trick_J3 at hm
        obtain ⟨r2, hr2, hm⟩ := call_b hm
        refine reg [⟨false, [], callFunc 90 #[.slice A1 l1.length c1, .int .i64 strain1], .int .i64 r2⟩] [none, none, some (.int .i64 r2), none, none] [4, 5] [pl 4 (.int .i64 r2), pl 5 (.int .i64 0)] hF hS Fol (by kernel_rfl) (by kernel_rfl) (by kernel_rfl) ?_ (fun a w hF hS => ?_)
        · exact obs_cons (ob_call Try.func90 (by kernel_rfl) rfl (fun _ _ hS => bridge_winner_w hr2 hS (fun _ hS => (hr_l1 _ (hS.dropN 0))) _hc_l1 rfl)) <| obs_nil
        refine wp_ret ?_
        have hm : some (r2, 0) = some r := hm
        obtain rfl := Option.some.inj hm
        exact retV (rs := [.tmp 4, .tmp 5]) (vs := [.int .i64 r2, .int .i64 0]) hF rfl (rv_t (by kernel_rfl) <| rv_t (by kernel_rfl) <| rv_nil) rfl ⟨rfl, hS⟩
      · refine reg [] [] [0, 1, 20] [pl 0 (.slice A1 l1.length c1), pl 1 (.int .i64 strain1), pl 20 (.bool ((decide (strain1 < 0)) || (decide ((4 : Int) < strain1))))] hF hS Fol (by kernel_rfl) (by kernel_rfl) (by kernel_rfl) ?_ (fun a w hF hS => ?_)
        · exact obs_nil
        refine cond_ev (t := 20) (b := (decide (strain1 < 0)) || (decide ((4 : Int) < strain1))) hF (by kernel_rfl) (fun hb => ?_) (fun hb => ?_)
        · replace hm := if_t hm hb
          refine reg [] [] [4, 5] [pl 4 (.int .i64 0), pl 5 (.int .i64 4)] hF hS Fol (by kernel_rfl) (by kernel_rfl) (by kernel_rfl) ?_ (fun a w hF hS => ?_)
          · exact obs_nil
          refine wp_ret ?_
          refine then_r ?_
          have hm : some (0, 4) = some r := hm
          obtain rfl := Option.some.inj hm
          exact retV (rs := [.tmp 4, .tmp 5]) (vs := [.int .i64 0, .int .i64 4]) hF rfl (rv_t (by kernel_rfl) <| rv_t (by kernel_rfl) <| rv_nil) rfl ⟨rfl, hS⟩
        · replace hm := if_f hm hb
          refine wp_skip ?_
          refine then_n ?_
          exact ⟨hF.weak [0, 1] (by kernel_rfl), hS, hm⟩
    · obtain ⟨r1, hr1, hm⟩ := call_b hm
      refine reg [⟨false, [], callFunc 89 #[.slice A1 l1.length c1], .int .i64 r1⟩] [none, some (.int .i64 r1), none] [0, 1, 6] [pl 0 (.slice A1 l1.length c1), pl 1 (.int .i64 strain1), pl 6 (.int .i64 r1)] hF hS Fol (by kernel_rfl) (by kernel_rfl) (by kernel_rfl) ?_ (fun a w hF hS => ?_)
      · exact obs_cons (ob_call Try.func89 (by kernel_rfl) rfl (fun _ _ hS => bridge_check_w hr1 hS (fun _ hS => (hr_l1 _ (hS.dropN 0))) _hc_l1 rfl)) <| obs_nil
      refine reg [] [] [0, 1, 6, 13] [pl 0 (.slice A1 l1.length c1), pl 1 (.int .i64 strain1), pl 6 (.int .i64 r1), pl 13 (.bool (r1 != 0))] hF hS Fol (by kernel_rfl) (by kernel_rfl) (by kernel_rfl) ?_ (fun a w hF hS => ?_)
      · exact obs_nil
      refine cond_ev (t := 13) (b := (r1 != 0)) hF (by kernel_rfl) (fun hb => ?_) (fun hb => ?_)
      · replace hm := if_t hm hb
        refine reg [] [] [4, 5] [pl 4 (.int .i64 0), pl 5 (.int .i64 r1)] hF hS Fol (by kernel_rfl) (by kernel_rfl) (by kernel_rfl) ?_ (fun a w hF hS => ?_)
        · exact obs_nil
        refine wp_ret ?_
        refine then_r ?_
        have hm : some (0, r1) = some r := hm
        obtain rfl := Option.some.inj hm
        exact retV (rs := [.tmp 4, .tmp 5]) (vs := [.int .i64 0, .int .i64 r1]) hF rfl (rv_t (by kernel_rfl) <| rv_t (by kernel_rfl) <| rv_nil) rfl ⟨rfl, hS⟩
      · replace hm := if_f hm hb
        refine wp_skip ?_
        refine then_n ?_
        exact ⟨hF.weak [0, 1] (by kernel_rfl), hS, hm⟩
  · refine reg [] [] [0, 1, 9] [pl 0 (.slice A1 l1.length c1), pl 1 (.int .i64 strain1), pl 9 (.bool ((l1.length : Int) != 4))] hF hS Fol (by kernel_rfl) (by kernel_rfl) (by kernel_rfl) ?_ (fun a w hF hS => ?_)
    · exact obs_nil
    refine cond_ev (t := 9) (b := ((l1.length : Int) != 4)) hF (by kernel_rfl) (fun hb => ?_) (fun hb => ?_)
    · replace hm := if_t hm hb
      refine reg [] [] [4, 5] [pl 4 (.int .i64 0), pl 5 (.int .i64 11)] hF hS Fol (by kernel_rfl) (by kernel_rfl) (by kernel_rfl) ?_ (fun a w hF hS => ?_)
      · exact obs_nil
      refine wp_ret ?_
      refine then_r ?_
      have hm : some (0, 11) = some r := hm
      obtain rfl := Option.some.inj hm
      exact retV (rs := [.tmp 4, .tmp 5]) (vs := [.int .i64 0, .int .i64 11]) hF rfl (rv_t (by kernel_rfl) <| rv_t (by kernel_rfl) <| rv_nil) rfl ⟨rfl, hS⟩
    · replace hm := if_f hm hb
      refine wp_skip ?_
      refine then_n ?_
      exact ⟨hF.weak [0, 1] (by kernel_rfl), hS, hm⟩

noncomputable def slices_Index_J3 (z1 : Int) : Option (St Int (Fl Unit Int)) :=
  some (.next (w64 (z1 + 1)))

noncomputable def slices_Index_J2 (s1 : List Int) (v1 : Int) (z1 : Int) : Option (St Int (Fl Unit Int)) :=
  asrt (0 ≤ z1 ∧ z1 < (s1.length : Int)) <| if (v1 == (geti s1 z1)) then (some (.done (.ret z1))) else ((slices_Index_J3 z1))

noncomputable def slices_Index_J1 : Option Int :=
  some (-1)

noncomputable def slices_Index_K1 : (Fl Unit Int) → Option Int :=
  fun (x : (Fl Unit Int)) => match x with | .go _ => slices_Index_J1 | .ret x => some x

noncomputable def slices_Index_L1 (s1 : List Int) (v1 : Int) : Int → Option (St Int (Fl Unit Int)) :=
  fun (x : Int) => match x with | z1 => if (decide (z1 < (s1.length : Int))) then ((slices_Index_J2 s1 v1 z1)) else (some (.done (.go ())))

noncomputable def slices_Index_m (s1 : List Int) (v1 : Int) : Option Int :=
  (loop (slices_Index_L1 s1 v1) 0).bind slices_Index_K1

set_option maxRecDepth 100000 in
set_option maxHeartbeats 4000000 in
theorem slices_Index_w {A1 : Option Addr} {c1 : Nat} {n1 : Nat} {s1 : List Int} {v1 : Int} {r : Int} {w0 w : World} {B : Nat} {fs : List HP} (hm : slices_Index_m s1 v1 = some r) (hS : Sep w0 B w (fs)) (hr_s1 : RdF w0 B fs A1 (vI s1)) (_hc_s1 : s1.length ≤ c1) (_hn_s1 : n1 = s1.length) :
    Calls Try.prog 85 #[.slice A1 n1 c1, .int .i64 v1] w fun e w' => e = .returned (.int .i64 r) ∧ Sep w0 B w' (fs) := by
  obtain ⟨i3, hi3, hz3, hs3, hb3⟩ := info_parts Info3
  obtain rfl := _hn_s1
  unfold slices_Index_m at hm
  replace hm := start_b hm
  refine enter (l := [.slice A1 s1.length c1, .int .i64 v1]) (n := 19) Try.func85 rfl rfl (by simp) (fun a hF => ?_)
  refine reg [] [] [0, 1] [pl 0 (.slice A1 s1.length c1), pl 1 (.int .i64 v1)] hF hS Fol (by kernel_rfl) (by kernel_rfl) (by kernel_rfl) ?_ (fun a w hF hS => ?_)
  · exact obs_nil
  refine seq_cut (fun a w => Fr 19 [] a ∧ Sep w0 B w (fs) ∧ (slices_Index_J1).bind some = some r) ?_ ?_
  · rintro a w ⟨hF, hS, hm⟩
    unfold slices_Index_J1 at hm
    refine reg [] [] [4] [pl 4 (.int .i64 (-1))] hF hS Fol (by kernel_rfl) (by kernel_rfl) (by kernel_rfl) ?_ (fun a w hF hS => ?_)
    · exact obs_nil
    refine wp_ret ?_
    have hm : some (-1) = some r := hm
    obtain rfl := Option.some.inj hm
    exact retV (rs := [.tmp 4]) (vs := [.int .i64 (-1)]) hF rfl (rv_t (by kernel_rfl) <| rv_nil) rfl ⟨rfl, hS⟩
  · refine reg [] [] [0, 1, 7, 8] [pl 0 (.slice A1 s1.length c1), pl 1 (.int .i64 v1), pl 7 (.int .i64 (s1.length : Int)), pl 8 (.int .i64 0)] hF hS Fol (by kernel_rfl) (by kernel_rfl) (by kernel_rfl) ?_ (fun a w hF hS => ?_)
    · exact obs_nil
    refine wp_block ?_
    refine wp_loop_model (S := Int) (R := (Fl Unit Int)) (slices_Index_L1 s1 v1) (fun x => (slices_Index_K1 x).bind some) r (fun (x : Int) a w => Fr 19 [pl 0 (.slice A1 s1.length c1), pl 1 (.int .i64 v1), pl 7 (.int .i64 (s1.length : Int)), pl 8 (.int .i64 x)] a ∧ Sep w0 B w (fs)) (assoc_b hm) ⟨hF.weak [0, 1, 7, 8] (by kernel_rfl), hS⟩ ?_
    clear hF hS hm
    rintro nn1 z1 a w ⟨hF, hS⟩ hm
    generalize hφ1 : stK (slices_Index_L1 s1 v1) nn1 (fun x => (slices_Index_K1 x).bind some) = φ1 at hm
    unfold slices_Index_L1 at hm
    dsimp only at hm
    refine reg [] [] [0, 1, 7, 8, 9] [pl 0 (.slice A1 s1.length c1), pl 1 (.int .i64 v1), pl 7 (.int .i64 (s1.length : Int)), pl 8 (.int .i64 z1), pl 9 (.bool (decide (z1 < (s1.length : Int))))] hF hS Fol (by kernel_rfl) (by kernel_rfl) (by kernel_rfl) ?_ (fun a w hF hS => ?_)
    · exact obs_nil
    refine seq_cut (fun a w => Fr 19 [pl 0 (.slice A1 s1.length c1), pl 1 (.int .i64 v1), pl 7 (.int .i64 (s1.length : Int)), pl 8 (.int .i64 z1)] a ∧ Sep w0 B w (fs) ∧ ((slices_Index_J2 s1 v1 z1)).bind φ1 = some r) ?_ ?_
    · rintro a w ⟨hF, hS, hm⟩
      unfold slices_Index_J2 at hm
      refine seq_cut (fun a w => Fr 19 [pl 0 (.slice A1 s1.length c1), pl 1 (.int .i64 v1), pl 7 (.int .i64 (s1.length : Int)), pl 8 (.int .i64 z1)] a ∧ Sep w0 B w (fs) ∧ ((slices_Index_J3 z1)).bind φ1 = some r) ?_ ?_
      · rintro a w ⟨hF, hS, hm⟩
        unfold slices_Index_J3 at hm
        refine reg1 [] [] [0, 1, 7, 8] [pl 0 (.slice A1 s1.length c1), pl 1 (.int .i64 v1), pl 7 (.int .i64 (s1.length : Int)), pl 8 (.int .i64 (w64 (z1 + 1)))] hF hS Fol (by kernel_rfl) (by kernel_rfl) (by kernel_rfl) ?_ (fun a w hF hS => ?_)
        · exact obs_nil
        refine then_n ?_
        rw [← hφ1] at hm
        exact ⟨(w64 (z1 + 1)), ⟨hF.weak [0, 1, 7, 8] (by kernel_rfl), hS⟩, hm⟩
      · refine wp_block ?_
        refine reg [] [] [0, 1, 5, 7, 8] [pl 0 (.slice A1 s1.length c1), pl 1 (.int .i64 v1), pl 5 (.int .i64 z1), pl 7 (.int .i64 (s1.length : Int)), pl 8 (.int .i64 z1)] hF hS Fol (by kernel_rfl) (by kernel_rfl) (by kernel_rfl) ?_ (fun a w hF hS => ?_)
        · exact obs_nil
        obtain ⟨hp1, hm⟩ := asrt_b hm
        refine reg [⟨true, [], vS (Instr.indexAt 22 (.slice A1 s1.length c1) (.int .i64 z1)), .pointer (some (sAddr A1 z1))⟩, ⟨false, [], vS (Instr.loadAt 3 (.pointer (some (sAddr A1 z1)))), .int .i64 (geti s1 z1)⟩] [none, none, none, some (.pointer (some (sAddr A1 z1))), some (.int .i64 (geti s1 z1)), none] [0, 1, 5, 7, 8, 16] [pl 0 (.slice A1 s1.length c1), pl 1 (.int .i64 v1), pl 5 (.int .i64 z1), pl 7 (.int .i64 (s1.length : Int)), pl 8 (.int .i64 z1), pl 16 (.bool (v1 == (geti s1 z1)))] hF hS Fol (by kernel_rfl) (by kernel_rfl) (by kernel_rfl) ?_ (fun a w hF hS => ?_)
        · exact obs_cons (ob_ix1 (f := (Value.int .i64)) (m := s1) Und22 hi3 hs3 (hr_s1 _ (hS.dropN 0)) rfl (fun _ => hp1)) <| obs_cons (ob_get1 (n := s1.length) (m := s1) (Value.int .i64) (0 : Int) Agg3 (fun _ hS => ⟨_, (hr_s1 _ (hS.dropN 0))⟩) (fun _ hS => rfl) (fun _ => hp1)) <| obs_nil
        refine cond_ev (t := 16) (b := (v1 == (geti s1 z1))) hF (by kernel_rfl) (fun hb => ?_) (fun hb => ?_)
        · replace hm := if_t hm hb
          refine reg [] [] [4] [pl 4 (.int .i64 z1)] hF hS Fol (by kernel_rfl) (by kernel_rfl) (by kernel_rfl) ?_ (fun a w hF hS => ?_)
          · exact obs_nil
          refine wp_ret ?_
          refine block_r (then_r (then_r (block_r (then_r ?_))))
          rw [← hφ1] at hm
          replace hm := done_b hm
          unfold slices_Index_K1 at hm
          try dsimp only at hm
          have hm : some z1 = some r := hm
          obtain rfl := Option.some.inj hm
          exact retV (rs := [.tmp 4]) (vs := [.int .i64 z1]) hF rfl (rv_t (by kernel_rfl) <| rv_nil) rfl ⟨rfl, hS⟩
        · replace hm := if_f hm hb
          refine wp_skip ?_
          refine block_n ?_
          refine then_n ?_
          exact ⟨hF.weak [0, 1, 7, 8] (by kernel_rfl), hS, hm⟩
    · refine cond_ev (t := 9) (b := decide (z1 < (s1.length : Int))) hF (by kernel_rfl) (fun hb => ?_) (fun hb => ?_)
      · replace hm := if_t hm hb
        refine wp_skip ?_
        refine then_n ?_
        exact ⟨hF.weak [0, 1, 7, 8] (by kernel_rfl), hS, hm⟩
      · replace hm := if_f hm hb
        refine wp_exit ?_
        refine then_e (then_e (block_e (then_n ?_)))
        rw [← hφ1] at hm
        replace hm := done_b hm
        unfold slices_Index_K1 at hm
        try dsimp only at hm
        have hm : (slices_Index_J1).bind some = some r := hm
        exact ⟨hF.weak [] (by kernel_rfl), hS, hm⟩

noncomputable def slices_Contains_m (s1 : List Int) (v1 : Int) : Option Bool :=
  (slices_Index_m s1 v1).bind fun r1 => some (decide ((0 : Int) ≤ r1))

set_option maxRecDepth 100000 in
set_option maxHeartbeats 4000000 in
theorem slices_Contains_w {A1 : Option Addr} {c1 : Nat} {n1 : Nat} {s1 : List Int} {v1 : Int} {r : Bool} {w0 w : World} {B : Nat} {fs : List HP} (hm : slices_Contains_m s1 v1 = some r) (hS : Sep w0 B w (fs)) (hr_s1 : RdF w0 B fs A1 (vI s1)) (_hc_s1 : s1.length ≤ c1) (_hn_s1 : n1 = s1.length) :
    Calls Try.prog 93 #[.slice A1 n1 c1, .int .i64 v1] w fun e w' => e = .returned (.bool r) ∧ Sep w0 B w' (fs) := by
  obtain ⟨i3, hi3, hz3, hs3, hb3⟩ := info_parts Info3
  obtain rfl := _hn_s1
  unfold slices_Contains_m at hm
  replace hm := start_b hm
  refine enter (l := [.slice A1 s1.length c1, .int .i64 v1]) (n := 9) Try.func93 rfl rfl (by simp) (fun a hF => ?_)
  refine reg [] [] [0, 1] [pl 0 (.slice A1 s1.length c1), pl 1 (.int .i64 v1)] hF hS Fol (by kernel_rfl) (by kernel_rfl) (by kernel_rfl) ?_ (fun a w hF hS => ?_)
  · exact obs_nil
  obtain ⟨r1, hr1, hm⟩ := call_b hm
  refine reg [⟨false, [], callFunc 85 #[.slice A1 s1.length c1, .int .i64 v1], .int .i64 r1⟩] [none, none, some (.int .i64 r1), none, none] [4] [pl 4 (.bool (decide ((0 : Int) ≤ r1)))] hF hS Fol (by kernel_rfl) (by kernel_rfl) (by kernel_rfl) ?_ (fun a w hF hS => ?_)
  · exact obs_cons (ob_call Try.func85 (by kernel_rfl) rfl (fun _ _ hS => slices_Index_w hr1 hS (fun _ hS => (hr_s1 _ (hS.dropN 0))) _hc_s1 rfl)) <| obs_nil
  refine wp_ret ?_
  have hm : some (decide ((0 : Int) ≤ r1)) = some r := hm
  obtain rfl := Option.some.inj hm
  exact retV (rs := [.tmp 4]) (vs := [.bool (decide ((0 : Int) ≤ r1))]) hF rfl (rv_t (by kernel_rfl) <| rv_nil) rfl ⟨rfl, hS⟩

noncomputable def bridge_may_1_m (c1 : Int) (p11 : Int) : Option Bool :=
  some ((Int.tmod c1 4) == (Int.tmod p11 4))

set_option maxRecDepth 100000 in
set_option maxHeartbeats 4000000 in
theorem bridge_may_1_w {c1 : Int} {g1 : Nat} {p11 : Int} {r : Bool} {w0 w : World} {B : Nat} {fs : List HP} (hm : bridge_may_1_m c1 p11 = some r) (hS : Sep w0 B w (blk g1 3 #[.int .i64 p11] :: fs)) :
    Calls Try.prog 168 #[.int .i64 c1, .pointer (some ⟨g1, 0, none⟩)] w fun e w' => e = .returned (.bool r) ∧ Sep w0 B w' (blk g1 3 #[.int .i64 p11] :: fs) := by
  unfold bridge_may_1_m at hm
  replace hm := start_b hm
  refine enter (l := [.int .i64 c1, .pointer (some ⟨g1, 0, none⟩)]) (n := 9) Try.func168 rfl rfl (by simp) (fun a hF => ?_)
  refine reg [] [] [0, 1] [pl 0 (.int .i64 c1), pl 1 (.pointer (some ⟨g1, 0, none⟩))] hF hS Fol (by kernel_rfl) (by kernel_rfl) (by kernel_rfl) ?_ (fun a w hF hS => ?_)
  · exact obs_nil
  refine reg [⟨false, [], vS (Instr.loadAt 3 (.pointer (some ⟨g1, 0, none⟩))), .int .i64 p11⟩] [none, none, some (.int .i64 p11), none, none, none] [3] [pl 3 (.bool ((Int.tmod c1 4) == (Int.tmod p11 4)))] hF hS Fol (by kernel_rfl) (by kernel_rfl) (by kernel_rfl) ?_ (fun a w hF hS => ?_)
  · exact obs_cons (ob_load Agg3 (fun _ _ hS => (hS.at_ 0 rfl).cell rfl)) <| obs_nil
  refine wp_ret ?_
  have hm : some ((Int.tmod c1 4) == (Int.tmod p11 4)) = some r := hm
  obtain rfl := Option.some.inj hm
  exact retV (rs := [.tmp 3]) (vs := [.bool ((Int.tmod c1 4) == (Int.tmod p11 4))]) hF rfl (rv_t (by kernel_rfl) <| rv_nil) rfl ⟨rfl, hS⟩

noncomputable def slices_IndexFunc_2_J3 (z1 : Int) : Option (St Int (Fl Unit Int)) :=
  some (.next (w64 (z1 + 1)))

noncomputable def slices_IndexFunc_2_J2 (s1 : List Int) (v1 : Int) (z1 : Int) : Option (St Int (Fl Unit Int)) :=
  asrt (0 ≤ z1 ∧ z1 < (s1.length : Int)) <| (bridge_may_1_m (geti s1 z1) v1).bind fun r1 => if r1 then (some (.done (.ret z1))) else ((slices_IndexFunc_2_J3 z1))

noncomputable def slices_IndexFunc_2_J1 : Option Int :=
  some (-1)

noncomputable def slices_IndexFunc_2_K1 : (Fl Unit Int) → Option Int :=
  fun (x : (Fl Unit Int)) => match x with | .go _ => slices_IndexFunc_2_J1 | .ret x => some x

noncomputable def slices_IndexFunc_2_L1 (s1 : List Int) (v1 : Int) : Int → Option (St Int (Fl Unit Int)) :=
  fun (x : Int) => match x with | z1 => if (decide (z1 < (s1.length : Int))) then ((slices_IndexFunc_2_J2 s1 v1 z1)) else (some (.done (.go ())))

noncomputable def slices_IndexFunc_2_m (s1 : List Int) (v1 : Int) : Option Int :=
  (loop (slices_IndexFunc_2_L1 s1 v1) 0).bind slices_IndexFunc_2_K1

set_option maxRecDepth 100000 in
set_option maxHeartbeats 4000000 in
theorem slices_IndexFunc_2_w {A1 : Option Addr} {c1 : Nat} {n1 : Nat} {s1 : List Int} {g1 : Nat} {v1 : Int} {r : Int} {w0 w : World} {B : Nat} {fs : List HP} (hm : slices_IndexFunc_2_m s1 v1 = some r) (hS : Sep w0 B w (blk g1 3 #[.int .i64 v1] :: fs)) (hr_s1 : RdF w0 B fs A1 (vI s1)) (_hc_s1 : s1.length ≤ c1) (_hn_s1 : n1 = s1.length) :
    Calls Try.prog 167 #[.slice A1 n1 c1, .func (.func 168) #[] #[.pointer (some ⟨g1, 0, none⟩)]] w fun e w' => e = .returned (.int .i64 r) ∧ Sep w0 B w' (blk g1 3 #[.int .i64 v1] :: fs) := by
  obtain ⟨i3, hi3, hz3, hs3, hb3⟩ := info_parts Info3
  obtain rfl := _hn_s1
  unfold slices_IndexFunc_2_m at hm
  replace hm := start_b hm
  refine enter (l := [.slice A1 s1.length c1, .func (.func 168) #[] #[.pointer (some ⟨g1, 0, none⟩)]]) (n := 19) Try.func167 rfl rfl (by simp) (fun a hF => ?_)
  refine reg [] [] [0, 1] [pl 0 (.slice A1 s1.length c1), pl 1 (.func (.func 168) #[] #[.pointer (some ⟨g1, 0, none⟩)])] hF hS Fol (by kernel_rfl) (by kernel_rfl) (by kernel_rfl) ?_ (fun a w hF hS => ?_)
  · exact obs_nil
  refine seq_cut (fun a w => Fr 19 [] a ∧ Sep w0 B w (blk g1 3 #[.int .i64 v1] :: fs) ∧ (slices_IndexFunc_2_J1).bind some = some r) ?_ ?_
  · rintro a w ⟨hF, hS, hm⟩
    unfold slices_IndexFunc_2_J1 at hm
    refine reg [] [] [4] [pl 4 (.int .i64 (-1))] hF hS Fol (by kernel_rfl) (by kernel_rfl) (by kernel_rfl) ?_ (fun a w hF hS => ?_)
    · exact obs_nil
    refine wp_ret ?_
    have hm : some (-1) = some r := hm
    obtain rfl := Option.some.inj hm
    exact retV (rs := [.tmp 4]) (vs := [.int .i64 (-1)]) hF rfl (rv_t (by kernel_rfl) <| rv_nil) rfl ⟨rfl, hS⟩
  · refine reg [] [] [0, 1, 7, 8] [pl 0 (.slice A1 s1.length c1), pl 1 (.func (.func 168) #[] #[.pointer (some ⟨g1, 0, none⟩)]), pl 7 (.int .i64 (s1.length : Int)), pl 8 (.int .i64 0)] hF hS Fol (by kernel_rfl) (by kernel_rfl) (by kernel_rfl) ?_ (fun a w hF hS => ?_)
    · exact obs_nil
    refine wp_block ?_
    refine wp_loop_model (S := Int) (R := (Fl Unit Int)) (slices_IndexFunc_2_L1 s1 v1) (fun x => (slices_IndexFunc_2_K1 x).bind some) r (fun (x : Int) a w => Fr 19 [pl 0 (.slice A1 s1.length c1), pl 1 (.func (.func 168) #[] #[.pointer (some ⟨g1, 0, none⟩)]), pl 7 (.int .i64 (s1.length : Int)), pl 8 (.int .i64 x)] a ∧ Sep w0 B w (blk g1 3 #[.int .i64 v1] :: fs)) (assoc_b hm) ⟨hF.weak [0, 1, 7, 8] (by kernel_rfl), hS⟩ ?_
    clear hF hS hm
    rintro nn1 z1 a w ⟨hF, hS⟩ hm
    generalize hφ1 : stK (slices_IndexFunc_2_L1 s1 v1) nn1 (fun x => (slices_IndexFunc_2_K1 x).bind some) = φ1 at hm
    unfold slices_IndexFunc_2_L1 at hm
    dsimp only at hm
    refine reg [] [] [0, 1, 7, 8, 9] [pl 0 (.slice A1 s1.length c1), pl 1 (.func (.func 168) #[] #[.pointer (some ⟨g1, 0, none⟩)]), pl 7 (.int .i64 (s1.length : Int)), pl 8 (.int .i64 z1), pl 9 (.bool (decide (z1 < (s1.length : Int))))] hF hS Fol (by kernel_rfl) (by kernel_rfl) (by kernel_rfl) ?_ (fun a w hF hS => ?_)
    · exact obs_nil
    refine seq_cut (fun a w => Fr 19 [pl 0 (.slice A1 s1.length c1), pl 1 (.func (.func 168) #[] #[.pointer (some ⟨g1, 0, none⟩)]), pl 7 (.int .i64 (s1.length : Int)), pl 8 (.int .i64 z1)] a ∧ Sep w0 B w (blk g1 3 #[.int .i64 v1] :: fs) ∧ ((slices_IndexFunc_2_J2 s1 v1 z1)).bind φ1 = some r) ?_ ?_
    · rintro a w ⟨hF, hS, hm⟩
      unfold slices_IndexFunc_2_J2 at hm
      refine seq_cut (fun a w => Fr 19 [pl 0 (.slice A1 s1.length c1), pl 1 (.func (.func 168) #[] #[.pointer (some ⟨g1, 0, none⟩)]), pl 7 (.int .i64 (s1.length : Int)), pl 8 (.int .i64 z1)] a ∧ Sep w0 B w (blk g1 3 #[.int .i64 v1] :: fs) ∧ ((slices_IndexFunc_2_J3 z1)).bind φ1 = some r) ?_ ?_
      · rintro a w ⟨hF, hS, hm⟩
        unfold slices_IndexFunc_2_J3 at hm
        refine reg1 [] [] [0, 1, 7, 8] [pl 0 (.slice A1 s1.length c1), pl 1 (.func (.func 168) #[] #[.pointer (some ⟨g1, 0, none⟩)]), pl 7 (.int .i64 (s1.length : Int)), pl 8 (.int .i64 (w64 (z1 + 1)))] hF hS Fol (by kernel_rfl) (by kernel_rfl) (by kernel_rfl) ?_ (fun a w hF hS => ?_)
        · exact obs_nil
        refine then_n ?_
        rw [← hφ1] at hm
        exact ⟨(w64 (z1 + 1)), ⟨hF.weak [0, 1, 7, 8] (by kernel_rfl), hS⟩, hm⟩
      · refine wp_block ?_
        refine reg [] [] [0, 1, 5, 7, 8] [pl 0 (.slice A1 s1.length c1), pl 1 (.func (.func 168) #[] #[.pointer (some ⟨g1, 0, none⟩)]), pl 5 (.int .i64 z1), pl 7 (.int .i64 (s1.length : Int)), pl 8 (.int .i64 z1)] hF hS Fol (by kernel_rfl) (by kernel_rfl) (by kernel_rfl) ?_ (fun a w hF hS => ?_)
        · exact obs_nil
        obtain ⟨hp1, hm⟩ := asrt_b hm
        obtain ⟨r1, hr1, hm⟩ := call_b hm
        refine reg [⟨true, [], vS (Instr.indexAt 22 (.slice A1 s1.length c1) (.int .i64 z1)), .pointer (some (sAddr A1 z1))⟩, ⟨false, [], vS (Instr.loadAt 3 (.pointer (some (sAddr A1 z1)))), .int .i64 (geti s1 z1)⟩, ⟨false, [], callFunc 168 #[.int .i64 (geti s1 z1), .pointer (some ⟨g1, 0, none⟩)], .bool r1⟩] [none, none, none, some (.pointer (some (sAddr A1 z1))), some (.int .i64 (geti s1 z1)), some (.bool r1)] [0, 1, 5, 7, 8, 16] [pl 0 (.slice A1 s1.length c1), pl 1 (.func (.func 168) #[] #[.pointer (some ⟨g1, 0, none⟩)]), pl 5 (.int .i64 z1), pl 7 (.int .i64 (s1.length : Int)), pl 8 (.int .i64 z1), pl 16 (.bool r1)] hF hS Fol (by kernel_rfl) (by kernel_rfl) (by kernel_rfl) ?_ (fun a w hF hS => ?_)
        · exact obs_cons (ob_ix1 (f := (Value.int .i64)) (m := s1) Und22 hi3 hs3 (hr_s1 _ (hS.dropN 1)) rfl (fun _ => hp1)) <| obs_cons (ob_get1 (n := s1.length) (m := s1) (Value.int .i64) (0 : Int) Agg3 (fun _ hS => ⟨_, (hr_s1 _ (hS.dropN 1))⟩) (fun _ hS => rfl) (fun _ => hp1)) <| obs_cons (ob_call Try.func168 (by kernel_rfl) rfl (fun _ _ hS => bridge_may_1_w hr1 hS )) <| obs_nil
        refine cond_ev (t := 16) (b := r1) hF (by kernel_rfl) (fun hb => ?_) (fun hb => ?_)
        · replace hm := if_t hm hb
          refine reg [] [] [4] [pl 4 (.int .i64 z1)] hF hS Fol (by kernel_rfl) (by kernel_rfl) (by kernel_rfl) ?_ (fun a w hF hS => ?_)
          · exact obs_nil
          refine wp_ret ?_
          refine block_r (then_r (then_r (block_r (then_r ?_))))
          rw [← hφ1] at hm
          replace hm := done_b hm
          unfold slices_IndexFunc_2_K1 at hm
          try dsimp only at hm
          have hm : some z1 = some r := hm
          obtain rfl := Option.some.inj hm
          exact retV (rs := [.tmp 4]) (vs := [.int .i64 z1]) hF rfl (rv_t (by kernel_rfl) <| rv_nil) rfl ⟨rfl, hS⟩
        · replace hm := if_f hm hb
          refine wp_skip ?_
          refine block_n ?_
          refine then_n ?_
          exact ⟨hF.weak [0, 1, 7, 8] (by kernel_rfl), hS, hm⟩
    · refine cond_ev (t := 9) (b := decide (z1 < (s1.length : Int))) hF (by kernel_rfl) (fun hb => ?_) (fun hb => ?_)
      · replace hm := if_t hm hb
        refine wp_skip ?_
        refine then_n ?_
        exact ⟨hF.weak [0, 1, 7, 8] (by kernel_rfl), hS, hm⟩
      · replace hm := if_f hm hb
        refine wp_exit ?_
        refine then_e (then_e (block_e (then_n ?_)))
        rw [← hφ1] at hm
        replace hm := done_b hm
        unfold slices_IndexFunc_2_K1 at hm
        try dsimp only at hm
        have hm : (slices_IndexFunc_2_J1).bind some = some r := hm
        exact ⟨hF.weak [] (by kernel_rfl), hS, hm⟩

noncomputable def slices_ContainsFunc_2_m (s1 : List Int) (v1 : Int) : Option Bool :=
  (slices_IndexFunc_2_m s1 v1).bind fun r1 => some (decide ((0 : Int) ≤ r1))

set_option maxRecDepth 100000 in
set_option maxHeartbeats 4000000 in
theorem slices_ContainsFunc_2_w {A1 : Option Addr} {c1 : Nat} {n1 : Nat} {s1 : List Int} {g1 : Nat} {v1 : Int} {r : Bool} {w0 w : World} {B : Nat} {fs : List HP} (hm : slices_ContainsFunc_2_m s1 v1 = some r) (hS : Sep w0 B w (blk g1 3 #[.int .i64 v1] :: fs)) (hr_s1 : RdF w0 B fs A1 (vI s1)) (_hc_s1 : s1.length ≤ c1) (_hn_s1 : n1 = s1.length) :
    Calls Try.prog 91 #[.slice A1 n1 c1, .func (.func 168) #[] #[.pointer (some ⟨g1, 0, none⟩)]] w fun e w' => e = .returned (.bool r) ∧ Sep w0 B w' (blk g1 3 #[.int .i64 v1] :: fs) := by
  obtain ⟨i3, hi3, hz3, hs3, hb3⟩ := info_parts Info3
  obtain rfl := _hn_s1
  unfold slices_ContainsFunc_2_m at hm
  replace hm := start_b hm
  refine enter (l := [.slice A1 s1.length c1, .func (.func 168) #[] #[.pointer (some ⟨g1, 0, none⟩)]]) (n := 9) Try.func91 rfl rfl (by simp) (fun a hF => ?_)
  refine reg [] [] [0, 1] [pl 0 (.slice A1 s1.length c1), pl 1 (.func (.func 168) #[] #[.pointer (some ⟨g1, 0, none⟩)])] hF hS Fol (by kernel_rfl) (by kernel_rfl) (by kernel_rfl) ?_ (fun a w hF hS => ?_)
  · exact obs_nil
  obtain ⟨r1, hr1, hm⟩ := call_b hm
  refine reg [⟨false, [], callFunc 167 #[.slice A1 s1.length c1, .func (.func 168) #[] #[.pointer (some ⟨g1, 0, none⟩)]], .int .i64 r1⟩] [none, none, some (.int .i64 r1), none, none] [4] [pl 4 (.bool (decide ((0 : Int) ≤ r1)))] hF hS Fol (by kernel_rfl) (by kernel_rfl) (by kernel_rfl) ?_ (fun a w hF hS => ?_)
  · exact obs_cons (ob_call Try.func167 (by kernel_rfl) rfl (fun _ _ hS => slices_IndexFunc_2_w hr1 hS (fun _ hS => (hr_s1 _ (hS.dropN 0))) _hc_s1 rfl)) <| obs_nil
  refine wp_ret ?_
  have hm : some (decide ((0 : Int) ≤ r1)) = some r := hm
  obtain rfl := Option.some.inj hm
  exact retV (rs := [.tmp 4]) (vs := [.bool (decide ((0 : Int) ≤ r1))]) hF rfl (rv_t (by kernel_rfl) <| rv_nil) rfl ⟨rfl, hS⟩

noncomputable def bridge_may_m (hand1 : List Int) (led1 : Int) (card1 : Int) : Option Bool :=
  ((if (!((decide (led1 < 0)) || ((Int.tmod card1 4) == (Int.tmod led1 4)))) then slices_ContainsFunc_2_m hand1 led1 else some false)).bind fun r1 => some (((decide (led1 < 0)) || ((Int.tmod card1 4) == (Int.tmod led1 4))) || (!r1))

set_option maxRecDepth 100000 in
set_option maxHeartbeats 4000000 in
theorem bridge_may_w {A1 : Option Addr} {c1 : Nat} {n1 : Nat} {hand1 : List Int} {led1 : Int} {card1 : Int} {r : Bool} {w0 w : World} {B : Nat} {fs : List HP} (hm : bridge_may_m hand1 led1 card1 = some r) (hS : Sep w0 B w (fs)) (hr_hand1 : RdF w0 B fs A1 (vI hand1)) (_hc_hand1 : hand1.length ≤ c1) (_hn_hand1 : n1 = hand1.length) :
    Calls Try.prog 94 #[.slice A1 n1 c1, .int .i64 led1, .int .i64 card1] w fun e w' => e = .returned (.bool r) ∧ Sep w0 B w' (fs) := by
  obtain ⟨i3, hi3, hz3, hs3, hb3⟩ := info_parts Info3
  obtain rfl := _hn_hand1
  unfold bridge_may_m at hm
  replace hm := start_b hm
  refine enter (l := [.slice A1 hand1.length c1, .int .i64 led1, .int .i64 card1]) (n := 22) Try.func94 rfl rfl (by simp) (fun a hF => ?_)
  refine seqR ?_
  refine at_do (d := 4) (s := vS (Instr.box 3 (.int .i64 led1))) (v := .pointer (some ⟨w.heap.size, 0, none⟩)) (w' := w.alloc (.cells #[.int .i64 led1] 3)) hF (by kernel_rfl) (by kernel_rfl) (by kernel_rfl) (fun a hF => ?_)
  have hS : Sep w0 B (w.alloc (.cells #[.int .i64 led1] 3)) (blk w.heap.size 3 #[.int .i64 led1] :: (fs)) := hS.box 3 #[.int .i64 led1]
  generalize w.heap.size = g1 at hF hS
  generalize w.alloc (.cells #[.int .i64 led1] 3) = w at hS ⊢
  refine at_run 1 [] [] [0, 2, 4] [pl 0 (.slice A1 hand1.length c1), pl 2 (.int .i64 card1), pl 4 (.pointer (some ⟨g1, 0, none⟩))] hF hS (by kernel_rfl) (by kernel_rfl) ?_ (fun a w hF hS => ?_)
  · exact obs_nil
  refine at_end [0, 2, 4] [pl 0 (.slice A1 hand1.length c1), pl 2 (.int .i64 card1), pl 4 (.pointer (some ⟨g1, 0, none⟩))] hF rfl (by kernel_rfl) (fun hF => ?_)
  refine then_n ?_
  obtain ⟨r1, hr1, hm⟩ := call_b hm
  refine reg [⟨false, [], vS (Instr.loadAt 3 (.pointer (some ⟨g1, 0, none⟩))), .int .i64 led1⟩, ⟨false, [(decide (led1 < 0), false)], vS (Instr.loadAt 3 (.pointer (some ⟨g1, 0, none⟩))), .int .i64 led1⟩, ⟨false, [((decide (led1 < 0)) || ((Int.tmod card1 4) == (Int.tmod led1 4)), false)], callFunc 91 #[.slice A1 hand1.length c1, .func (.func 168) #[] #[.pointer (some ⟨g1, 0, none⟩)]], .bool r1⟩] [some (.int .i64 led1), none, none, none, none, some (.int .i64 led1), none, none, none, none, none, none, some (.bool r1), none, none, none] [6] [pl 6 (.bool (((decide (led1 < 0)) || ((Int.tmod card1 4) == (Int.tmod led1 4))) || (!r1)))] hF hS Fol (by kernel_rfl) (by kernel_rfl) (by kernel_rfl) ?_ (fun a w hF hS => ?_)
  · exact obs_cons (ob_load Agg3 (fun _ _ hS => (hS.at_ 0 rfl).cell rfl)) <| obs_cons (ob_load Agg3 (fun _ _ hS => (hS.at_ 0 rfl).cell rfl)) <| obs_cons (ob_call Try.func91 (by kernel_rfl) rfl (fun hy _ hS => slices_ContainsFunc_2_w (ite_some hr1 (by rw [show ((decide (led1 < 0)) || ((Int.tmod card1 4) == (Int.tmod led1 4))) = false from hy ((decide (led1 < 0)) || ((Int.tmod card1 4) == (Int.tmod led1 4)), false) (by simp)]; try rfl)) hS (fun _ hS => (hr_hand1 _ (hS.dropN 0))) _hc_hand1 rfl)) <| obs_nil
  refine wp_ret ?_
  have hS := hS.pickN 1 [] (by decide)
  have hm : some (((decide (led1 < 0)) || ((Int.tmod card1 4) == (Int.tmod led1 4))) || (!r1)) = some r := hm
  obtain rfl := Option.some.inj hm
  exact retV (rs := [.tmp 6]) (vs := [.bool (((decide (led1 < 0)) || ((Int.tmod card1 4) == (Int.tmod led1 4))) || (!r1))]) hF rfl (rv_t (by kernel_rfl) <| rv_nil) rfl ⟨rfl, hS⟩

noncomputable def bridge_May_J3 (hand1 : List Int) (led1 : Int) (card1 : Int) : Option (Bool × Int) :=
  (bridge_may_m hand1 led1 card1).bind fun r6 => some (r6, 0)

noncomputable def bridge_May_J2 (hand1 : List Int) (led1 : Int) (card1 : Int) : Option (Bool × Int) :=
  (slices_Contains_m hand1 card1).bind fun r5 => if (!r5) then (some (false, 5)) else ((bridge_May_J3 hand1 led1 card1))

noncomputable def bridge_May_J1 (hand1 : List Int) (led1 : Int) (card1 : Int) : Option (Bool × Int) :=
  (bridge_check_m hand1).bind fun r4 => if (r4 != 0) then (some (false, r4)) else ((bridge_May_J2 hand1 led1 card1))

noncomputable def bridge_May_m (hand1 : List Int) (led1 : Int) (card1 : Int) : Option (Bool × Int) :=
  (slices_ContainsFunc_m hand1).bind fun r1 => ((if (!r1) then bridge_strange_m card1 else some false)).bind fun r2 => ((if (led1 != (-1)) && (!(r1 || r2)) then bridge_strange_m led1 else some false)).bind fun r3 => if ((r1 || r2) || ((led1 != (-1)) && r3)) then (some (false, 3)) else ((bridge_May_J1 hand1 led1 card1))

set_option maxRecDepth 100000 in
set_option maxHeartbeats 4000000 in
theorem bridge_May_w {A1 : Option Addr} {c1 : Nat} {n1 : Nat} {hand1 : List Int} {led1 : Int} {card1 : Int} {r : (Bool × Int)} {w0 w : World} {B : Nat} {fs : List HP} (hm : bridge_May_m hand1 led1 card1 = some r) (hS : Sep w0 B w (fs)) (hr_hand1 : RdF w0 B fs A1 (vI hand1)) (_hc_hand1 : hand1.length ≤ c1) (_hn_hand1 : n1 = hand1.length) :
    Calls Try.prog 25 #[.slice A1 n1 c1, .int .i64 led1, .int .i64 card1] w fun e w' => e = .returned (.tuple #[.bool r.1, .int .i64 r.2]) ∧ Sep w0 B w' (fs) := by
  obtain ⟨i3, hi3, hz3, hs3, hb3⟩ := info_parts Info3
  obtain rfl := _hn_hand1
  unfold bridge_May_m at hm
  replace hm := start_b hm
  refine enter (l := [.slice A1 hand1.length c1, .int .i64 led1, .int .i64 card1]) (n := 36) Try.func25 rfl rfl (by simp) (fun a hF => ?_)
  refine reg [] [] [0, 1, 2] [pl 0 (.slice A1 hand1.length c1), pl 1 (.int .i64 led1), pl 2 (.int .i64 card1)] hF hS Fol (by kernel_rfl) (by kernel_rfl) (by kernel_rfl) ?_ (fun a w hF hS => ?_)
  · exact obs_nil
  refine seq_cut (fun a w => Fr 36 [pl 0 (.slice A1 hand1.length c1), pl 1 (.int .i64 led1), pl 2 (.int .i64 card1)] a ∧ Sep w0 B w (fs) ∧ ((bridge_May_J1 hand1 led1 card1)).bind some = some r) ?_ ?_
  · rintro a w ⟨hF, hS, hm⟩
    unfold bridge_May_J1 at hm
    refine seq_cut (fun a w => Fr 36 [pl 0 (.slice A1 hand1.length c1), pl 1 (.int .i64 led1), pl 2 (.int .i64 card1)] a ∧ Sep w0 B w (fs) ∧ ((bridge_May_J2 hand1 led1 card1)).bind some = some r) ?_ ?_
    · rintro a w ⟨hF, hS, hm⟩
      unfold bridge_May_J2 at hm
      refine seq_cut (fun a w => Fr 36 [pl 0 (.slice A1 hand1.length c1), pl 1 (.int .i64 led1), pl 2 (.int .i64 card1)] a ∧ Sep w0 B w (fs) ∧ ((bridge_May_J3 hand1 led1 card1)).bind some = some r) ?_ ?_
      · rintro a w ⟨hF, hS, hm⟩
        unfold bridge_May_J3 at hm
        obtain ⟨r6, hr6, hm⟩ := call_b hm
        refine reg [⟨false, [], callFunc 94 #[.slice A1 hand1.length c1, .int .i64 led1, .int .i64 card1], .bool r6⟩] [none, none, none, some (.bool r6), none, none] [6, 7] [pl 6 (.bool r6), pl 7 (.int .i64 0)] hF hS Fol (by kernel_rfl) (by kernel_rfl) (by kernel_rfl) ?_ (fun a w hF hS => ?_)
        · exact obs_cons (ob_call Try.func94 (by kernel_rfl) rfl (fun _ _ hS => bridge_may_w hr6 hS (fun _ hS => (hr_hand1 _ (hS.dropN 0))) _hc_hand1 rfl)) <| obs_nil
        refine wp_ret ?_
        have hm : some (r6, 0) = some r := hm
        obtain rfl := Option.some.inj hm
        exact retV (rs := [.tmp 6, .tmp 7]) (vs := [.bool r6, .int .i64 0]) hF rfl (rv_t (by kernel_rfl) <| rv_t (by kernel_rfl) <| rv_nil) rfl ⟨rfl, hS⟩
      · obtain ⟨r5, hr5, hm⟩ := call_b hm
        refine reg [⟨false, [], callFunc 93 #[.slice A1 hand1.length c1, .int .i64 card1], .bool r5⟩] [none, none, some (.bool r5), none] [0, 1, 2, 31] [pl 0 (.slice A1 hand1.length c1), pl 1 (.int .i64 led1), pl 2 (.int .i64 card1), pl 31 (.bool (!r5))] hF hS Fol (by kernel_rfl) (by kernel_rfl) (by kernel_rfl) ?_ (fun a w hF hS => ?_)
        · exact obs_cons (ob_call Try.func93 (by kernel_rfl) rfl (fun _ _ hS => slices_Contains_w hr5 hS (fun _ hS => (hr_hand1 _ (hS.dropN 0))) _hc_hand1 rfl)) <| obs_nil
        refine cond_ev (t := 31) (b := !r5) hF (by kernel_rfl) (fun hb => ?_) (fun hb => ?_)
        · replace hm := if_t hm hb
          refine reg [] [] [6, 7] [pl 6 (.bool false), pl 7 (.int .i64 5)] hF hS Fol (by kernel_rfl) (by kernel_rfl) (by kernel_rfl) ?_ (fun a w hF hS => ?_)
          · exact obs_nil
          refine wp_ret ?_
          refine then_r ?_
          have hm : some (false, 5) = some r := hm
          obtain rfl := Option.some.inj hm
          exact retV (rs := [.tmp 6, .tmp 7]) (vs := [.bool false, .int .i64 5]) hF rfl (rv_t (by kernel_rfl) <| rv_t (by kernel_rfl) <| rv_nil) rfl ⟨rfl, hS⟩
        · replace hm := if_f hm hb
          refine wp_skip ?_
          refine then_n ?_
          exact ⟨hF.weak [0, 1, 2] (by kernel_rfl), hS, hm⟩
    · obtain ⟨r4, hr4, hm⟩ := call_b hm
      refine reg [⟨false, [], callFunc 89 #[.slice A1 hand1.length c1], .int .i64 r4⟩] [none, some (.int .i64 r4), none] [0, 1, 2, 8] [pl 0 (.slice A1 hand1.length c1), pl 1 (.int .i64 led1), pl 2 (.int .i64 card1), pl 8 (.int .i64 r4)] hF hS Fol (by kernel_rfl) (by kernel_rfl) (by kernel_rfl) ?_ (fun a w hF hS => ?_)
      · exact obs_cons (ob_call Try.func89 (by kernel_rfl) rfl (fun _ _ hS => bridge_check_w hr4 hS (fun _ hS => (hr_hand1 _ (hS.dropN 0))) _hc_hand1 rfl)) <| obs_nil
      refine reg [] [] [0, 1, 2, 8, 26] [pl 0 (.slice A1 hand1.length c1), pl 1 (.int .i64 led1), pl 2 (.int .i64 card1), pl 8 (.int .i64 r4), pl 26 (.bool (r4 != 0))] hF hS Fol (by kernel_rfl) (by kernel_rfl) (by kernel_rfl) ?_ (fun a w hF hS => ?_)
      · exact obs_nil
      refine cond_ev (t := 26) (b := (r4 != 0)) hF (by kernel_rfl) (fun hb => ?_) (fun hb => ?_)
      · replace hm := if_t hm hb
        refine reg [] [] [6, 7] [pl 6 (.bool false), pl 7 (.int .i64 r4)] hF hS Fol (by kernel_rfl) (by kernel_rfl) (by kernel_rfl) ?_ (fun a w hF hS => ?_)
        · exact obs_nil
        refine wp_ret ?_
        refine then_r ?_
        have hm : some (false, r4) = some r := hm
        obtain rfl := Option.some.inj hm
        exact retV (rs := [.tmp 6, .tmp 7]) (vs := [.bool false, .int .i64 r4]) hF rfl (rv_t (by kernel_rfl) <| rv_t (by kernel_rfl) <| rv_nil) rfl ⟨rfl, hS⟩
      · replace hm := if_f hm hb
        refine wp_skip ?_
        refine then_n ?_
        exact ⟨hF.weak [0, 1, 2] (by kernel_rfl), hS, hm⟩
  · obtain ⟨r1, hr1, hm⟩ := call_b hm
    obtain ⟨r2, hr2, hm⟩ := call_b hm
    obtain ⟨r3, hr3, hm⟩ := call_b hm
    refine reg [⟨false, [], callFunc 91 #[.slice A1 hand1.length c1, .func (.func 92) #[] #[]], .bool r1⟩, ⟨false, [(r1, false)], callFunc 92 #[.int .i64 card1], .bool r2⟩, ⟨false, [((led1 != (-1)), true), (r1 || r2, false)], callFunc 92 #[.int .i64 led1], .bool r3⟩] [none, some (.bool r1), none, none, some (.bool r2), none, none, none, none, none, none, some (.bool r3), none, none] [0, 1, 2, 22] [pl 0 (.slice A1 hand1.length c1), pl 1 (.int .i64 led1), pl 2 (.int .i64 card1), pl 22 (.bool ((r1 || r2) || ((led1 != (-1)) && r3)))] hF hS Fol (by kernel_rfl) (by kernel_rfl) (by kernel_rfl) ?_ (fun a w hF hS => ?_)
    · exact obs_cons (ob_call Try.func91 (by kernel_rfl) rfl (fun _ _ hS => slices_ContainsFunc_w hr1 hS (fun _ hS => (hr_hand1 _ (hS.dropN 0))) _hc_hand1 rfl)) <| obs_cons (ob_call Try.func92 (by kernel_rfl) rfl (fun hy _ hS => bridge_strange_w (ite_some hr2 (by rw [show r1 = false from hy (r1, false) (by simp)]; try rfl)) hS )) <| obs_cons (ob_call Try.func92 (by kernel_rfl) rfl (fun hy _ hS => bridge_strange_w (ite_some hr3 (by rw [show (led1 != (-1)) = true from hy ((led1 != (-1)), true) (by simp), show (r1 || r2) = false from hy (r1 || r2, false) (by simp)]; try rfl)) hS )) <| obs_nil
    refine cond_ev (t := 22) (b := (r1 || r2) || ((led1 != (-1)) && r3)) hF (by kernel_rfl) (fun hb => ?_) (fun hb => ?_)
    · replace hm := if_t hm hb
      refine reg [] [] [6, 7] [pl 6 (.bool false), pl 7 (.int .i64 3)] hF hS Fol (by kernel_rfl) (by kernel_rfl) (by kernel_rfl) ?_ (fun a w hF hS => ?_)
      · exact obs_nil
      refine wp_ret ?_
      refine then_r ?_
      have hm : some (false, 3) = some r := hm
      obtain rfl := Option.some.inj hm
      exact retV (rs := [.tmp 6, .tmp 7]) (vs := [.bool false, .int .i64 3]) hF rfl (rv_t (by kernel_rfl) <| rv_t (by kernel_rfl) <| rv_nil) rfl ⟨rfl, hS⟩
    · replace hm := if_f hm hb
      refine wp_skip ?_
      refine then_n ?_
      exact ⟨hF.weak [0, 1, 2] (by kernel_rfl), hS, hm⟩

noncomputable def gameroomref_within_m (n1 : Int) (low1 : Int) (high1 : Int) : Option Bool :=
  some ((decide (low1 ≤ n1)) && (decide (n1 ≤ high1)))

set_option maxRecDepth 100000 in
set_option maxHeartbeats 4000000 in
theorem gameroomref_within_w {n1 : Int} {low1 : Int} {high1 : Int} {r : Bool} {w0 w : World} {B : Nat} {fs : List HP} (hm : gameroomref_within_m n1 low1 high1 = some r) (hS : Sep w0 B w (fs)) :
    Calls Try.prog 95 #[.int .i64 n1, .int .i64 low1, .int .i64 high1] w fun e w' => e = .returned (.bool r) ∧ Sep w0 B w' (fs) := by
  unfold gameroomref_within_m at hm
  replace hm := start_b hm
  refine enter (l := [.int .i64 n1, .int .i64 low1, .int .i64 high1]) (n := 15) Try.func95 rfl rfl (by simp) (fun a hF => ?_)
  refine reg [] [] [0, 1, 2] [pl 0 (.int .i64 n1), pl 1 (.int .i64 low1), pl 2 (.int .i64 high1)] hF hS Fol (by kernel_rfl) (by kernel_rfl) (by kernel_rfl) ?_ (fun a w hF hS => ?_)
  · exact obs_nil
  refine reg [] [] [6] [pl 6 (.bool ((decide (low1 ≤ n1)) && (decide (n1 ≤ high1))))] hF hS Fol (by kernel_rfl) (by kernel_rfl) (by kernel_rfl) ?_ (fun a w hF hS => ?_)
  · exact obs_nil
  refine wp_ret ?_
  have hm : some ((decide (low1 ≤ n1)) && (decide (n1 ≤ high1))) = some r := hm
  obtain rfl := Option.some.inj hm
  exact retV (rs := [.tmp 6]) (vs := [.bool ((decide (low1 ≤ n1)) && (decide (n1 ≤ high1)))]) hF rfl (rv_t (by kernel_rfl) <| rv_nil) rfl ⟨rfl, hS⟩

noncomputable def gameroomref_at_J3 (i1 : Int) : Option (St Int (Fl Unit Int)) :=
  some (.next (w64 (i1 + 1)))

noncomputable def gameroomref_at_J2 (l1 : List Int) (n2 : Int) (i1 : Int) : Option (St Int (Fl Unit Int)) :=
  asrt (0 ≤ i1 ∧ i1 < (l1.length : Int)) <| if ((geti l1 i1) == n2) then (some (.done (.ret i1))) else ((gameroomref_at_J3 i1))

noncomputable def gameroomref_at_J1 : Option Int :=
  some (-1)

noncomputable def gameroomref_at_K1 : (Fl Unit Int) → Option Int :=
  fun (x : (Fl Unit Int)) => match x with | .go _ => gameroomref_at_J1 | .ret x => some x

noncomputable def gameroomref_at_L1 (l1 : List Int) (n2 : Int) : Int → Option (St Int (Fl Unit Int)) :=
  fun (x : Int) => match x with | i1 => if (decide (i1 < (l1.length : Int))) then ((gameroomref_at_J2 l1 n2 i1)) else (some (.done (.go ())))

noncomputable def gameroomref_at_m (l1 : List Int) (n2 : Int) : Option Int :=
  (loop (gameroomref_at_L1 l1 n2) 0).bind gameroomref_at_K1

set_option maxRecDepth 100000 in
set_option maxHeartbeats 4000000 in
theorem gameroomref_at_w {A1 : Option Addr} {c1 : Nat} {n1 : Nat} {l1 : List Int} {n2 : Int} {r : Int} {w0 w : World} {B : Nat} {fs : List HP} (hm : gameroomref_at_m l1 n2 = some r) (hS : Sep w0 B w (fs)) (hr_l1 : RdF w0 B fs A1 (vI l1)) (_hc_l1 : l1.length ≤ c1) (_hn_l1 : n1 = l1.length) :
    Calls Try.prog 87 #[.slice A1 n1 c1, .int .i64 n2] w fun e w' => e = .returned (.int .i64 r) ∧ Sep w0 B w' (fs) := by
  obtain ⟨i3, hi3, hz3, hs3, hb3⟩ := info_parts Info3
  obtain rfl := _hn_l1
  unfold gameroomref_at_m at hm
  replace hm := start_b hm
  refine enter (l := [.slice A1 l1.length c1, .int .i64 n2]) (n := 19) Try.func87 rfl rfl (by simp) (fun a hF => ?_)
  refine reg [] [] [0, 1] [pl 0 (.slice A1 l1.length c1), pl 1 (.int .i64 n2)] hF hS Fol (by kernel_rfl) (by kernel_rfl) (by kernel_rfl) ?_ (fun a w hF hS => ?_)
  · exact obs_nil
  refine seq_cut (fun a w => Fr 19 [] a ∧ Sep w0 B w (fs) ∧ (gameroomref_at_J1).bind some = some r) ?_ ?_
  · rintro a w ⟨hF, hS, hm⟩
    unfold gameroomref_at_J1 at hm
    refine reg [] [] [4] [pl 4 (.int .i64 (-1))] hF hS Fol (by kernel_rfl) (by kernel_rfl) (by kernel_rfl) ?_ (fun a w hF hS => ?_)
    · exact obs_nil
    refine wp_ret ?_
    have hm : some (-1) = some r := hm
    obtain rfl := Option.some.inj hm
    exact retV (rs := [.tmp 4]) (vs := [.int .i64 (-1)]) hF rfl (rv_t (by kernel_rfl) <| rv_nil) rfl ⟨rfl, hS⟩
  · refine reg [] [] [0, 1, 5] [pl 0 (.slice A1 l1.length c1), pl 1 (.int .i64 n2), pl 5 (.int .i64 0)] hF hS Fol (by kernel_rfl) (by kernel_rfl) (by kernel_rfl) ?_ (fun a w hF hS => ?_)
    · exact obs_nil
    refine wp_block ?_
    refine wp_loop_model (S := Int) (R := (Fl Unit Int)) (gameroomref_at_L1 l1 n2) (fun x => (gameroomref_at_K1 x).bind some) r (fun (x : Int) a w => Fr 19 [pl 0 (.slice A1 l1.length c1), pl 1 (.int .i64 n2), pl 5 (.int .i64 x)] a ∧ Sep w0 B w (fs)) (assoc_b hm) ⟨hF.weak [0, 1, 5] (by kernel_rfl), hS⟩ ?_
    clear hF hS hm
    rintro nn1 i1 a w ⟨hF, hS⟩ hm
    generalize hφ1 : stK (gameroomref_at_L1 l1 n2) nn1 (fun x => (gameroomref_at_K1 x).bind some) = φ1 at hm
    unfold gameroomref_at_L1 at hm
    dsimp only at hm
    refine seq_cut (fun a w => Fr 19 [pl 0 (.slice A1 l1.length c1), pl 1 (.int .i64 n2), pl 5 (.int .i64 i1)] a ∧ Sep w0 B w (fs) ∧ ((gameroomref_at_J2 l1 n2 i1)).bind φ1 = some r) ?_ ?_
    · rintro a w ⟨hF, hS, hm⟩
      unfold gameroomref_at_J2 at hm
      refine seq_cut (fun a w => Fr 19 [pl 0 (.slice A1 l1.length c1), pl 1 (.int .i64 n2), pl 5 (.int .i64 i1)] a ∧ Sep w0 B w (fs) ∧ ((gameroomref_at_J3 i1)).bind φ1 = some r) ?_ ?_
      · rintro a w ⟨hF, hS, hm⟩
        unfold gameroomref_at_J3 at hm
        refine reg1 [] [] [0, 1, 5] [pl 0 (.slice A1 l1.length c1), pl 1 (.int .i64 n2), pl 5 (.int .i64 (w64 (i1 + 1)))] hF hS Fol (by kernel_rfl) (by kernel_rfl) (by kernel_rfl) ?_ (fun a w hF hS => ?_)
        · exact obs_nil
        refine then_n ?_
        rw [← hφ1] at hm
        exact ⟨(w64 (i1 + 1)), ⟨hF.weak [0, 1, 5] (by kernel_rfl), hS⟩, hm⟩
      · refine wp_block ?_
        obtain ⟨hp1, hm⟩ := asrt_b hm
        refine reg [⟨true, [], vS (Instr.indexAt 22 (.slice A1 l1.length c1) (.int .i64 i1)), .pointer (some (sAddr A1 i1))⟩, ⟨false, [], vS (Instr.loadAt 3 (.pointer (some (sAddr A1 i1)))), .int .i64 (geti l1 i1)⟩] [none, none, some (.pointer (some (sAddr A1 i1))), some (.int .i64 (geti l1 i1)), none, none] [0, 1, 5, 17] [pl 0 (.slice A1 l1.length c1), pl 1 (.int .i64 n2), pl 5 (.int .i64 i1), pl 17 (.bool ((geti l1 i1) == n2))] hF hS Fol (by kernel_rfl) (by kernel_rfl) (by kernel_rfl) ?_ (fun a w hF hS => ?_)
        · exact obs_cons (ob_ix1 (f := (Value.int .i64)) (m := l1) Und22 hi3 hs3 (hr_l1 _ (hS.dropN 0)) rfl (fun _ => hp1)) <| obs_cons (ob_get1 (n := l1.length) (m := l1) (Value.int .i64) (0 : Int) Agg3 (fun _ hS => ⟨_, (hr_l1 _ (hS.dropN 0))⟩) (fun _ hS => rfl) (fun _ => hp1)) <| obs_nil
        refine cond_ev (t := 17) (b := ((geti l1 i1) == n2)) hF (by kernel_rfl) (fun hb => ?_) (fun hb => ?_)
        · replace hm := if_t hm hb
          refine reg [] [] [4] [pl 4 (.int .i64 i1)] hF hS Fol (by kernel_rfl) (by kernel_rfl) (by kernel_rfl) ?_ (fun a w hF hS => ?_)
          · exact obs_nil
          refine wp_ret ?_
          refine block_r (then_r (then_r (block_r (then_r ?_))))
          rw [← hφ1] at hm
          replace hm := done_b hm
          unfold gameroomref_at_K1 at hm
          try dsimp only at hm
          have hm : some i1 = some r := hm
          obtain rfl := Option.some.inj hm
          exact retV (rs := [.tmp 4]) (vs := [.int .i64 i1]) hF rfl (rv_t (by kernel_rfl) <| rv_nil) rfl ⟨rfl, hS⟩
        · replace hm := if_f hm hb
          refine wp_skip ?_
          refine block_n ?_
          refine then_n ?_
          exact ⟨hF.weak [0, 1, 5] (by kernel_rfl), hS, hm⟩
    · refine reg [] [] [0, 1, 5, 9] [pl 0 (.slice A1 l1.length c1), pl 1 (.int .i64 n2), pl 5 (.int .i64 i1), pl 9 (.bool (decide (i1 < (l1.length : Int))))] hF hS Fol (by kernel_rfl) (by kernel_rfl) (by kernel_rfl) ?_ (fun a w hF hS => ?_)
      · exact obs_nil
      refine cond_ev (t := 9) (b := decide (i1 < (l1.length : Int))) hF (by kernel_rfl) (fun hb => ?_) (fun hb => ?_)
      · replace hm := if_t hm hb
        refine wp_skip ?_
        refine then_n ?_
        exact ⟨hF.weak [0, 1, 5] (by kernel_rfl), hS, hm⟩
      · replace hm := if_f hm hb
        refine wp_exit ?_
        refine then_e (then_e (block_e (then_n ?_)))
        rw [← hφ1] at hm
        replace hm := done_b hm
        unfold gameroomref_at_K1 at hm
        try dsimp only at hm
        have hm : (gameroomref_at_J1).bind some = some r := hm
        exact ⟨hF.weak [] (by kernel_rfl), hS, hm⟩

noncomputable def gameroomref_CardsMay_J3 (i1 : Int) : Option (St Int (Fl Unit Int)) :=
  some (.next (w64 (i1 + 1)))

noncomputable def gameroomref_CardsMay_J2 (l1 : List Int) (i1 : Int) : Option (St Int (Fl Unit Int)) :=
  asrt (0 ≤ i1 ∧ i1 < (l1.length : Int)) <| (gameroomref_within_m (geti l1 i1) 0 51).bind fun r1 => if (!r1) then (some (.done (.ret 3))) else ((gameroomref_CardsMay_J3 i1))

noncomputable def gameroomref_CardsMay_J6 (i2 : Int) : Option (St Int (Fl Unit Int)) :=
  some (.next (w64 (i2 + 1)))

noncomputable def gameroomref_CardsMay_J5 (l1 : List Int) (i2 : Int) : Option (St Int (Fl Unit Int)) :=
  asrt (0 ≤ (0 : Int) ∧ (0 : Int) ≤ i2 ∧ i2 ≤ (l1.length : Int)) <| asrt (0 ≤ i2 ∧ i2 < (l1.length : Int)) <| (gameroomref_at_m (cut l1 (0 : Int) i2) (geti l1 i2)).bind fun r2 => if (decide ((0 : Int) ≤ r2)) then (some (.done (.ret 6))) else ((gameroomref_CardsMay_J6 i2))

noncomputable def gameroomref_CardsMay_L2 (l1 : List Int) : Int → Option (St Int (Fl Unit Int)) :=
  fun (x : Int) => match x with | i2 => if (decide (i2 < (l1.length : Int))) then ((gameroomref_CardsMay_J5 l1 i2)) else (some (.done (.go ())))

noncomputable def gameroomref_CardsMay_J4 : Option Int :=
  some 0

noncomputable def gameroomref_CardsMay_K2 : (Fl Unit Int) → Option Int :=
  fun (x : (Fl Unit Int)) => match x with | .go _ => gameroomref_CardsMay_J4 | .ret x => some x

noncomputable def gameroomref_CardsMay_J1 (l1 : List Int) : Option Int :=
  (loop (gameroomref_CardsMay_L2 l1) 0).bind gameroomref_CardsMay_K2

noncomputable def gameroomref_CardsMay_K1 (l1 : List Int) : (Fl Unit Int) → Option Int :=
  fun (x : (Fl Unit Int)) => match x with | .go _ => (gameroomref_CardsMay_J1 l1) | .ret x => some x

noncomputable def gameroomref_CardsMay_L1 (l1 : List Int) : Int → Option (St Int (Fl Unit Int)) :=
  fun (x : Int) => match x with | i1 => if (decide (i1 < (l1.length : Int))) then ((gameroomref_CardsMay_J2 l1 i1)) else (some (.done (.go ())))

noncomputable def gameroomref_CardsMay_m (l1 : List Int) : Option Int :=
  (loop (gameroomref_CardsMay_L1 l1) 0).bind (gameroomref_CardsMay_K1 l1)

set_option maxRecDepth 100000 in
set_option maxHeartbeats 4000000 in
theorem gameroomref_CardsMay_w {A1 : Option Addr} {c1 : Nat} {n1 : Nat} {l1 : List Int} {r : Int} {w0 w : World} {B : Nat} {fs : List HP} (hm : gameroomref_CardsMay_m l1 = some r) (hS : Sep w0 B w (fs)) (hr_l1 : RdF w0 B fs A1 (vI l1)) (_hc_l1 : l1.length ≤ c1) (_hn_l1 : n1 = l1.length) :
    Calls Try.prog 26 #[.slice A1 n1 c1] w fun e w' => e = .returned (.int .i64 r) ∧ Sep w0 B w' (fs) := by
  obtain ⟨i3, hi3, hz3, hs3, hb3⟩ := info_parts Info3
  obtain rfl := _hn_l1
  unfold gameroomref_CardsMay_m at hm
  replace hm := start_b hm
  refine enter (l := [.slice A1 l1.length c1]) (n := 32) Try.func26 rfl rfl (by simp) (fun a hF => ?_)
  refine reg [] [] [0] [pl 0 (.slice A1 l1.length c1)] hF hS Fol (by kernel_rfl) (by kernel_rfl) (by kernel_rfl) ?_ (fun a w hF hS => ?_)
  · exact obs_nil
  refine seq_cut (fun a w => Fr 32 [pl 0 (.slice A1 l1.length c1)] a ∧ Sep w0 B w (fs) ∧ ((gameroomref_CardsMay_J1 l1)).bind some = some r) ?_ ?_
  · rintro a w ⟨hF, hS, hm⟩
    unfold gameroomref_CardsMay_J1 at hm
    refine seq_cut (fun a w => Fr 32 [] a ∧ Sep w0 B w (fs) ∧ (gameroomref_CardsMay_J4).bind some = some r) ?_ ?_
    · rintro a w ⟨hF, hS, hm⟩
      unfold gameroomref_CardsMay_J4 at hm
      refine reg [] [] [2] [pl 2 (.int .i64 0)] hF hS Fol (by kernel_rfl) (by kernel_rfl) (by kernel_rfl) ?_ (fun a w hF hS => ?_)
      · exact obs_nil
      refine wp_ret ?_
      have hm : some 0 = some r := hm
      obtain rfl := Option.some.inj hm
      exact retV (rs := [.tmp 2]) (vs := [.int .i64 0]) hF rfl (rv_t (by kernel_rfl) <| rv_nil) rfl ⟨rfl, hS⟩
    · refine reg [] [] [0, 4] [pl 0 (.slice A1 l1.length c1), pl 4 (.int .i64 0)] hF hS Fol (by kernel_rfl) (by kernel_rfl) (by kernel_rfl) ?_ (fun a w hF hS => ?_)
      · exact obs_nil
      refine wp_block ?_
      refine wp_loop_model (S := Int) (R := (Fl Unit Int)) (gameroomref_CardsMay_L2 l1) (fun x => (gameroomref_CardsMay_K2 x).bind some) r (fun (x : Int) a w => Fr 32 [pl 0 (.slice A1 l1.length c1), pl 4 (.int .i64 x)] a ∧ Sep w0 B w (fs)) (assoc_b hm) ⟨hF.weak [0, 4] (by kernel_rfl), hS⟩ ?_
      clear hF hS hm
      rintro nn2 i2 a w ⟨hF, hS⟩ hm
      generalize hφ2 : stK (gameroomref_CardsMay_L2 l1) nn2 (fun x => (gameroomref_CardsMay_K2 x).bind some) = φ2 at hm
      unfold gameroomref_CardsMay_L2 at hm
      dsimp only at hm
      refine seq_cut (fun a w => Fr 32 [pl 0 (.slice A1 l1.length c1), pl 4 (.int .i64 i2)] a ∧ Sep w0 B w (fs) ∧ ((gameroomref_CardsMay_J5 l1 i2)).bind φ2 = some r) ?_ ?_
      · rintro a w ⟨hF, hS, hm⟩
        unfold gameroomref_CardsMay_J5 at hm
        refine seq_cut (fun a w => Fr 32 [pl 0 (.slice A1 l1.length c1), pl 4 (.int .i64 i2)] a ∧ Sep w0 B w (fs) ∧ ((gameroomref_CardsMay_J6 i2)).bind φ2 = some r) ?_ ?_
        · rintro a w ⟨hF, hS, hm⟩
          unfold gameroomref_CardsMay_J6 at hm
          refine reg1 [] [] [0, 4] [pl 0 (.slice A1 l1.length c1), pl 4 (.int .i64 (w64 (i2 + 1)))] hF hS Fol (by kernel_rfl) (by kernel_rfl) (by kernel_rfl) ?_ (fun a w hF hS => ?_)
          · exact obs_nil
          refine then_n ?_
          rw [← hφ2] at hm
          exact ⟨(w64 (i2 + 1)), ⟨hF.weak [0, 4] (by kernel_rfl), hS⟩, hm⟩
        · refine wp_block ?_
          obtain ⟨hp2, hm⟩ := asrt_b hm
          obtain ⟨hp3, hm⟩ := asrt_b hm
          obtain ⟨r2, hr2, hm⟩ := call_b hm
          refine reg [⟨true, [], vS (Instr.sliceAt 22 (.slice A1 l1.length c1) none (some (.int .i64 i2)) none), .slice (cutAddr A1 c1 (0 : Int)) ((cut l1 (0 : Int) i2).length) (c1 - Int.toNat (0 : Int))⟩, ⟨true, [], vS (Instr.indexAt 22 (.slice A1 l1.length c1) (.int .i64 i2)), .pointer (some (sAddr A1 i2))⟩, ⟨false, [], vS (Instr.loadAt 3 (.pointer (some (sAddr A1 i2)))), .int .i64 (geti l1 i2)⟩, ⟨false, [], callFunc 87 #[.slice (cutAddr A1 c1 (0 : Int)) ((cut l1 (0 : Int) i2).length) (c1 - Int.toNat (0 : Int)), .int .i64 (geti l1 i2)], .int .i64 r2⟩] [none, none, some (.slice (cutAddr A1 c1 (0 : Int)) ((cut l1 (0 : Int) i2).length) (c1 - Int.toNat (0 : Int))), none, none, some (.pointer (some (sAddr A1 i2))), some (.int .i64 (geti l1 i2)), some (.int .i64 r2), none] [0, 4, 31] [pl 0 (.slice A1 l1.length c1), pl 4 (.int .i64 i2), pl 31 (.bool (decide ((0 : Int) ≤ r2)))] hF hS Fol (by kernel_rfl) (by kernel_rfl) (by kernel_rfl) ?_ (fun a w hF hS => ?_)
          · exact obs_cons (ob_cutn (l := l1) (k := .i64) (k' := .i64) Und22 hi3 hs3 rfl (.inr ⟨rfl, rfl⟩) (.inl rfl) (fun _ => hp2) _hc_l1) <| obs_cons (ob_ix1 (f := (Value.int .i64)) (m := l1) Und22 hi3 hs3 (hr_l1 _ (hS.dropN 0)) rfl (fun _ => hp3)) <| obs_cons (ob_get1 (n := l1.length) (m := l1) (Value.int .i64) (0 : Int) Agg3 (fun _ hS => ⟨_, (hr_l1 _ (hS.dropN 0))⟩) (fun _ hS => rfl) (fun _ => hp3)) <| obs_cons (ob_call Try.func87 (by kernel_rfl) rfl (fun _ _ hS => gameroomref_at_w hr2 hS (fun _ hS => (Rd.cutF (hr_l1 _ (hS.dropN 0)) hp2 _hc_l1)) (cap_cut hp2 _hc_l1) rfl)) <| obs_nil
          refine cond_ev (t := 31) (b := decide ((0 : Int) ≤ r2)) hF (by kernel_rfl) (fun hb => ?_) (fun hb => ?_)
          · replace hm := if_t hm hb
            refine reg [] [] [2] [pl 2 (.int .i64 6)] hF hS Fol (by kernel_rfl) (by kernel_rfl) (by kernel_rfl) ?_ (fun a w hF hS => ?_)
            · exact obs_nil
            refine wp_ret ?_
            refine block_r (then_r (then_r (block_r (then_r ?_))))
            rw [← hφ2] at hm
            replace hm := done_b hm
            unfold gameroomref_CardsMay_K2 at hm
            try dsimp only at hm
            have hm : some 6 = some r := hm
            obtain rfl := Option.some.inj hm
            exact retV (rs := [.tmp 2]) (vs := [.int .i64 6]) hF rfl (rv_t (by kernel_rfl) <| rv_nil) rfl ⟨rfl, hS⟩
          · replace hm := if_f hm hb
            refine wp_skip ?_
            refine block_n ?_
            refine then_n ?_
            exact ⟨hF.weak [0, 4] (by kernel_rfl), hS, hm⟩
      · refine reg [] [] [0, 4, 20] [pl 0 (.slice A1 l1.length c1), pl 4 (.int .i64 i2), pl 20 (.bool (decide (i2 < (l1.length : Int))))] hF hS Fol (by kernel_rfl) (by kernel_rfl) (by kernel_rfl) ?_ (fun a w hF hS => ?_)
        · exact obs_nil
        refine cond_ev (t := 20) (b := decide (i2 < (l1.length : Int))) hF (by kernel_rfl) (fun hb => ?_) (fun hb => ?_)
        · replace hm := if_t hm hb
          refine wp_skip ?_
          refine then_n ?_
          exact ⟨hF.weak [0, 4] (by kernel_rfl), hS, hm⟩
        · replace hm := if_f hm hb
          refine wp_exit ?_
          refine then_e (then_e (block_e (then_n ?_)))
          rw [← hφ2] at hm
          replace hm := done_b hm
          unfold gameroomref_CardsMay_K2 at hm
          try dsimp only at hm
          have hm : (gameroomref_CardsMay_J4).bind some = some r := hm
          exact ⟨hF.weak [] (by kernel_rfl), hS, hm⟩
  · refine reg [] [] [0, 3] [pl 0 (.slice A1 l1.length c1), pl 3 (.int .i64 0)] hF hS Fol (by kernel_rfl) (by kernel_rfl) (by kernel_rfl) ?_ (fun a w hF hS => ?_)
    · exact obs_nil
    refine wp_block ?_
    refine wp_loop_model (S := Int) (R := (Fl Unit Int)) (gameroomref_CardsMay_L1 l1) (fun x => ((gameroomref_CardsMay_K1 l1) x).bind some) r (fun (x : Int) a w => Fr 32 [pl 0 (.slice A1 l1.length c1), pl 3 (.int .i64 x)] a ∧ Sep w0 B w (fs)) (assoc_b hm) ⟨hF.weak [0, 3] (by kernel_rfl), hS⟩ ?_
    clear hF hS hm
    rintro nn1 i1 a w ⟨hF, hS⟩ hm
    generalize hφ1 : stK (gameroomref_CardsMay_L1 l1) nn1 (fun x => ((gameroomref_CardsMay_K1 l1) x).bind some) = φ1 at hm
    unfold gameroomref_CardsMay_L1 at hm
    dsimp only at hm
    refine seq_cut (fun a w => Fr 32 [pl 0 (.slice A1 l1.length c1), pl 3 (.int .i64 i1)] a ∧ Sep w0 B w (fs) ∧ ((gameroomref_CardsMay_J2 l1 i1)).bind φ1 = some r) ?_ ?_
    · rintro a w ⟨hF, hS, hm⟩
      unfold gameroomref_CardsMay_J2 at hm
      refine seq_cut (fun a w => Fr 32 [pl 0 (.slice A1 l1.length c1), pl 3 (.int .i64 i1)] a ∧ Sep w0 B w (fs) ∧ ((gameroomref_CardsMay_J3 i1)).bind φ1 = some r) ?_ ?_
      · rintro a w ⟨hF, hS, hm⟩
        unfold gameroomref_CardsMay_J3 at hm
        refine reg1 [] [] [0, 3] [pl 0 (.slice A1 l1.length c1), pl 3 (.int .i64 (w64 (i1 + 1)))] hF hS Fol (by kernel_rfl) (by kernel_rfl) (by kernel_rfl) ?_ (fun a w hF hS => ?_)
        · exact obs_nil
        refine then_n ?_
        rw [← hφ1] at hm
        exact ⟨(w64 (i1 + 1)), ⟨hF.weak [0, 3] (by kernel_rfl), hS⟩, hm⟩
      · refine wp_block ?_
        obtain ⟨hp1, hm⟩ := asrt_b hm
        obtain ⟨r1, hr1, hm⟩ := call_b hm
        refine reg [⟨true, [], vS (Instr.indexAt 22 (.slice A1 l1.length c1) (.int .i64 i1)), .pointer (some (sAddr A1 i1))⟩, ⟨false, [], vS (Instr.loadAt 3 (.pointer (some (sAddr A1 i1)))), .int .i64 (geti l1 i1)⟩, ⟨false, [], callFunc 95 #[.int .i64 (geti l1 i1), .int .i64 0, .int .i64 51], .bool r1⟩] [none, none, some (.pointer (some (sAddr A1 i1))), some (.int .i64 (geti l1 i1)), some (.bool r1), none] [0, 3, 16] [pl 0 (.slice A1 l1.length c1), pl 3 (.int .i64 i1), pl 16 (.bool (!r1))] hF hS Fol (by kernel_rfl) (by kernel_rfl) (by kernel_rfl) ?_ (fun a w hF hS => ?_)
        · exact obs_cons (ob_ix1 (f := (Value.int .i64)) (m := l1) Und22 hi3 hs3 (hr_l1 _ (hS.dropN 0)) rfl (fun _ => hp1)) <| obs_cons (ob_get1 (n := l1.length) (m := l1) (Value.int .i64) (0 : Int) Agg3 (fun _ hS => ⟨_, (hr_l1 _ (hS.dropN 0))⟩) (fun _ hS => rfl) (fun _ => hp1)) <| obs_cons (ob_call Try.func95 (by kernel_rfl) rfl (fun _ _ hS => gameroomref_within_w hr1 hS )) <| obs_nil
        refine cond_ev (t := 16) (b := !r1) hF (by kernel_rfl) (fun hb => ?_) (fun hb => ?_)
        · replace hm := if_t hm hb
          refine reg [] [] [2] [pl 2 (.int .i64 3)] hF hS Fol (by kernel_rfl) (by kernel_rfl) (by kernel_rfl) ?_ (fun a w hF hS => ?_)
          · exact obs_nil
          refine wp_ret ?_
          refine block_r (then_r (then_r (block_r (then_r ?_))))
          rw [← hφ1] at hm
          replace hm := done_b hm
          unfold gameroomref_CardsMay_K1 at hm
          try dsimp only at hm
          have hm : some 3 = some r := hm
          obtain rfl := Option.some.inj hm
          exact retV (rs := [.tmp 2]) (vs := [.int .i64 3]) hF rfl (rv_t (by kernel_rfl) <| rv_nil) rfl ⟨rfl, hS⟩
        · replace hm := if_f hm hb
          refine wp_skip ?_
          refine block_n ?_
          refine then_n ?_
          exact ⟨hF.weak [0, 3] (by kernel_rfl), hS, hm⟩
    · refine reg [] [] [0, 3, 8] [pl 0 (.slice A1 l1.length c1), pl 3 (.int .i64 i1), pl 8 (.bool (decide (i1 < (l1.length : Int))))] hF hS Fol (by kernel_rfl) (by kernel_rfl) (by kernel_rfl) ?_ (fun a w hF hS => ?_)
      · exact obs_nil
      refine cond_ev (t := 8) (b := decide (i1 < (l1.length : Int))) hF (by kernel_rfl) (fun hb => ?_) (fun hb => ?_)
      · replace hm := if_t hm hb
        refine wp_skip ?_
        refine then_n ?_
        exact ⟨hF.weak [0, 3] (by kernel_rfl), hS, hm⟩
      · replace hm := if_f hm hb
        refine wp_exit ?_
        refine then_e (then_e (block_e (then_n ?_)))
        rw [← hφ1] at hm
        replace hm := done_b hm
        unfold gameroomref_CardsMay_K1 at hm
        try dsimp only at hm
        have hm : ((gameroomref_CardsMay_J1 l1)).bind some = some r := hm
        exact ⟨hF.weak [0] (by kernel_rfl), hS, hm⟩

noncomputable def gameroomref_TrickWinner_J3 (i1 : Int) (best3 : Int) : Option (St (Int × Int) Int) :=
  some (.next (best3, (w64 (i1 + 1))))

noncomputable def gameroomref_TrickWinner_J2 (l1 : List Int) (strain1 : Int) (best1 : Int) (i1 : Int) : Option (St (Int × Int) Int) :=
  asrt (0 ≤ i1 ∧ i1 < (l1.length : Int)) <| asrt (0 ≤ best1 ∧ best1 < (l1.length : Int)) <| if ((((Int.tmod (geti l1 i1) 4) == (Int.tmod (geti l1 best1) 4)) && (decide ((geti l1 best1) < (geti l1 i1)))) || (((Int.tmod (geti l1 i1) 4) != (Int.tmod (geti l1 best1) 4)) && ((Int.tmod (geti l1 i1) 4) == strain1))) then ((gameroomref_TrickWinner_J3 i1) i1) else ((gameroomref_TrickWinner_J3 i1) best1)

noncomputable def gameroomref_TrickWinner_J1 (best2 : Int) : Option Int :=
  some best2

noncomputable def gameroomref_TrickWinner_K1 : Int → Option Int :=
  fun (x : Int) => match x with | best2 => gameroomref_TrickWinner_J1 best2

noncomputable def gameroomref_TrickWinner_L1 (l1 : List Int) (strain1 : Int) : (Int × Int) → Option (St (Int × Int) Int) :=
  fun (x : (Int × Int)) => match x with | (best1, i1) => if (decide (i1 < 4)) then ((gameroomref_TrickWinner_J2 l1 strain1 best1 i1)) else (some (.done best1))

noncomputable def gameroomref_TrickWinner_m (l1 : List Int) (strain1 : Int) : Option Int :=
  (loop (gameroomref_TrickWinner_L1 l1 strain1) (0, 1)).bind gameroomref_TrickWinner_K1

set_option maxRecDepth 100000 in
set_option maxHeartbeats 4000000 in
theorem gameroomref_TrickWinner_w {A1 : Option Addr} {c1 : Nat} {n1 : Nat} {l1 : List Int} {strain1 : Int} {r : Int} {w0 w : World} {B : Nat} {fs : List HP} (hm : gameroomref_TrickWinner_m l1 strain1 = some r) (hS : Sep w0 B w (fs)) (hr_l1 : RdF w0 B fs A1 (vI l1)) (_hc_l1 : l1.length ≤ c1) (_hn_l1 : n1 = l1.length) :
    Calls Try.prog 27 #[.slice A1 n1 c1, .int .i64 strain1] w fun e w' => e = .returned (.int .i64 r) ∧ Sep w0 B w' (fs) := by
  obtain ⟨i3, hi3, hz3, hs3, hb3⟩ := info_parts Info3
  obtain rfl := _hn_l1
  unfold gameroomref_TrickWinner_m at hm
  replace hm := start_b hm
  refine enter (l := [.slice A1 l1.length c1, .int .i64 strain1]) (n := 46) Try.func27 rfl rfl (by simp) (fun a hF => ?_)
  refine reg [] [] [0, 1] [pl 0 (.slice A1 l1.length c1), pl 1 (.int .i64 strain1)] hF hS Fol (by kernel_rfl) (by kernel_rfl) (by kernel_rfl) ?_ (fun a w hF hS => ?_)
  · exact obs_nil
  refine reg [] [] [0, 1, 5] [pl 0 (.slice A1 l1.length c1), pl 1 (.int .i64 strain1), pl 5 (.int .i64 0)] hF hS Fol (by kernel_rfl) (by kernel_rfl) (by kernel_rfl) ?_ (fun a w hF hS => ?_)
  · exact obs_nil
  refine seq_cut (fun a w => ∃ (best2 : Int), Fr 46 [pl 5 (.int .i64 best2)] a ∧ Sep w0 B w (fs) ∧ (gameroomref_TrickWinner_J1 best2).bind some = some r) ?_ ?_
  · rintro a w ⟨best2, hF, hS, hm⟩
    unfold gameroomref_TrickWinner_J1 at hm
    refine reg [] [] [4] [pl 4 (.int .i64 best2)] hF hS Fol (by kernel_rfl) (by kernel_rfl) (by kernel_rfl) ?_ (fun a w hF hS => ?_)
    · exact obs_nil
    refine wp_ret ?_
    have hm : some best2 = some r := hm
    obtain rfl := Option.some.inj hm
    exact retV (rs := [.tmp 4]) (vs := [.int .i64 best2]) hF rfl (rv_t (by kernel_rfl) <| rv_nil) rfl ⟨rfl, hS⟩
  · refine reg [] [] [0, 1, 5, 6] [pl 0 (.slice A1 l1.length c1), pl 1 (.int .i64 strain1), pl 5 (.int .i64 0), pl 6 (.int .i64 1)] hF hS Fol (by kernel_rfl) (by kernel_rfl) (by kernel_rfl) ?_ (fun a w hF hS => ?_)
    · exact obs_nil
    refine wp_block ?_
    refine wp_loop_model (S := (Int × Int)) (R := Int) (gameroomref_TrickWinner_L1 l1 strain1) (fun x => (gameroomref_TrickWinner_K1 x).bind some) r (fun (x : (Int × Int)) a w => Fr 46 [pl 0 (.slice A1 l1.length c1), pl 1 (.int .i64 strain1), pl 5 (.int .i64 x.1), pl 6 (.int .i64 x.2)] a ∧ Sep w0 B w (fs)) (assoc_b hm) ⟨hF.weak [0, 1, 5, 6] (by kernel_rfl), hS⟩ ?_
    clear hF hS hm
    rintro nn1 ⟨best1, i1⟩ a w ⟨hF, hS⟩ hm
    generalize hφ1 : stK (gameroomref_TrickWinner_L1 l1 strain1) nn1 (fun x => (gameroomref_TrickWinner_K1 x).bind some) = φ1 at hm
    unfold gameroomref_TrickWinner_L1 at hm
    dsimp only at hF hS hm
    refine seq_cut (fun a w => Fr 46 [pl 0 (.slice A1 l1.length c1), pl 1 (.int .i64 strain1), pl 5 (.int .i64 best1), pl 6 (.int .i64 i1)] a ∧ Sep w0 B w (fs) ∧ ((gameroomref_TrickWinner_J2 l1 strain1 best1 i1)).bind φ1 = some r) ?_ ?_
    · rintro a w ⟨hF, hS, hm⟩
      unfold gameroomref_TrickWinner_J2 at hm
      refine seq_cut (fun a w => ∃ (best3 : Int), Fr 46 [pl 0 (.slice A1 l1.length c1), pl 1 (.int .i64 strain1), pl 5 (.int .i64 best3), pl 6 (.int .i64 i1)] a ∧ Sep w0 B w (fs) ∧ ((gameroomref_TrickWinner_J3 i1) best3).bind φ1 = some r) ?_ ?_
      · rintro a w ⟨best3, hF, hS, hm⟩
        unfold gameroomref_TrickWinner_J3 at hm
        refine reg1 [] [] [0, 1, 5, 6] [pl 0 (.slice A1 l1.length c1), pl 1 (.int .i64 strain1), pl 5 (.int .i64 best3), pl 6 (.int .i64 (w64 (i1 + 1)))] hF hS Fol (by kernel_rfl) (by kernel_rfl) (by kernel_rfl) ?_ (fun a w hF hS => ?_)
        · exact obs_nil
        refine then_n ?_
        rw [← hφ1] at hm
        exact ⟨(best3, (w64 (i1 + 1))), ⟨hF.weak [0, 1, 5, 6] (by kernel_rfl), hS⟩, hm⟩
      · refine wp_block ?_
        obtain ⟨hp1, hm⟩ := asrt_b hm
        obtain ⟨hp2, hm⟩ := asrt_b hm
        refine reg [⟨true, [], vS (Instr.indexAt 22 (.slice A1 l1.length c1) (.int .i64 i1)), .pointer (some (sAddr A1 i1))⟩, ⟨false, [], vS (Instr.loadAt 3 (.pointer (some (sAddr A1 i1)))), .int .i64 (geti l1 i1)⟩, ⟨true, [], vS (Instr.indexAt 22 (.slice A1 l1.length c1) (.int .i64 best1)), .pointer (some (sAddr A1 best1))⟩, ⟨false, [], vS (Instr.loadAt 3 (.pointer (some (sAddr A1 best1)))), .int .i64 (geti l1 best1)⟩] [none, none, some (.pointer (some (sAddr A1 i1))), some (.int .i64 (geti l1 i1)), none, none, some (.pointer (some (sAddr A1 best1))), some (.int .i64 (geti l1 best1)), none, none] [0, 1, 5, 6, 7, 8] [pl 0 (.slice A1 l1.length c1), pl 1 (.int .i64 strain1), pl 5 (.int .i64 best1), pl 6 (.int .i64 i1), pl 7 (.int .i64 (geti l1 i1)), pl 8 (.int .i64 (geti l1 best1))] hF hS Fol (by kernel_rfl) (by kernel_rfl) (by kernel_rfl) ?_ (fun a w hF hS => ?_)
        · exact obs_cons (ob_ix1 (f := (Value.int .i64)) (m := l1) Und22 hi3 hs3 (hr_l1 _ (hS.dropN 0)) rfl (fun _ => hp1)) <| obs_cons (ob_get1 (n := l1.length) (m := l1) (Value.int .i64) (0 : Int) Agg3 (fun _ hS => ⟨_, (hr_l1 _ (hS.dropN 0))⟩) (fun _ hS => rfl) (fun _ => hp1)) <| obs_cons (ob_ix1 (f := (Value.int .i64)) (m := l1) Und22 hi3 hs3 (hr_l1 _ (hS.dropN 0)) rfl (fun _ => hp2)) <| obs_cons (ob_get1 (n := l1.length) (m := l1) (Value.int .i64) (0 : Int) Agg3 (fun _ hS => ⟨_, (hr_l1 _ (hS.dropN 0))⟩) (fun _ hS => rfl) (fun _ => hp2)) <| obs_nil
        refine reg [] [] [0, 1, 5, 6, 43] [pl 0 (.slice A1 l1.length c1), pl 1 (.int .i64 strain1), pl 5 (.int .i64 best1), pl 6 (.int .i64 i1), pl 43 (.bool ((((Int.tmod (geti l1 i1) 4) == (Int.tmod (geti l1 best1) 4)) && (decide ((geti l1 best1) < (geti l1 i1)))) || (((Int.tmod (geti l1 i1) 4) != (Int.tmod (geti l1 best1) 4)) && ((Int.tmod (geti l1 i1) 4) == strain1))))] hF hS Fol (by kernel_rfl) (by kernel_rfl) (by kernel_rfl) ?_ (fun a w hF hS => ?_)
        · exact obs_nil
        refine cond_ev (t := 43) (b := (((Int.tmod (geti l1 i1) 4) == (Int.tmod (geti l1 best1) 4)) && (decide ((geti l1 best1) < (geti l1 i1)))) || (((Int.tmod (geti l1 i1) 4) != (Int.tmod (geti l1 best1) 4)) && ((Int.tmod (geti l1 i1) 4) == strain1))) hF (by kernel_rfl) (fun hb => ?_) (fun hb => ?_)
        · replace hm := if_t hm hb
          refine reg1 [] [] [0, 1, 5, 6] [pl 0 (.slice A1 l1.length c1), pl 1 (.int .i64 strain1), pl 5 (.int .i64 i1), pl 6 (.int .i64 i1)] hF hS Fol (by kernel_rfl) (by kernel_rfl) (by kernel_rfl) ?_ (fun a w hF hS => ?_)
          · exact obs_nil
          refine block_n ?_
          refine then_n ?_
          exact ⟨i1, hF.weak [0, 1, 5, 6] (by kernel_rfl), hS, hm⟩
        · replace hm := if_f hm hb
          refine wp_skip ?_
          refine block_n ?_
          refine then_n ?_
          exact ⟨best1, hF.weak [0, 1, 5, 6] (by kernel_rfl), hS, hm⟩
    · refine reg [] [] [0, 1, 5, 6, 10] [pl 0 (.slice A1 l1.length c1), pl 1 (.int .i64 strain1), pl 5 (.int .i64 best1), pl 6 (.int .i64 i1), pl 10 (.bool (decide (i1 < 4)))] hF hS Fol (by kernel_rfl) (by kernel_rfl) (by kernel_rfl) ?_ (fun a w hF hS => ?_)
      · exact obs_nil
      refine cond_ev (t := 10) (b := decide (i1 < 4)) hF (by kernel_rfl) (fun hb => ?_) (fun hb => ?_)
      · replace hm := if_t hm hb
        refine wp_skip ?_
        refine then_n ?_
        exact ⟨hF.weak [0, 1, 5, 6] (by kernel_rfl), hS, hm⟩
      · replace hm := if_f hm hb
        refine wp_exit ?_
        refine then_e (then_e (block_e (then_n ?_)))
        rw [← hφ1] at hm
        replace hm := done_b hm
        unfold gameroomref_TrickWinner_K1 at hm
        try dsimp only at hm
        have hm : (gameroomref_TrickWinner_J1 best1).bind some = some r := hm
        exact ⟨best1, hF.weak [5] (by kernel_rfl), hS, hm⟩

noncomputable def gameroomref_PlayMay_J4 (hand1 : List Int) (led1 : Int) (has1 : Bool) (i1 : Int) : Option (St (Bool × Int) Bool) :=
  some (.next ((has1 || ((Int.tmod (geti hand1 i1) 4) == (Int.tmod led1 4))), (w64 (i1 + 1))))

noncomputable def gameroomref_PlayMay_J3 (hand1 : List Int) (led1 : Int) (has1 : Bool) (i1 : Int) : Option (St (Bool × Int) Bool) :=
  asrt (has1 = false → 0 ≤ i1 ∧ i1 < (hand1.length : Int)) <| (gameroomref_PlayMay_J4 hand1 led1 has1 i1)

noncomputable def gameroomref_PlayMay_J2 (led1 : Int) (card1 : Int) (has2 : Bool) : Option Bool :=
  some ((!has2) || ((Int.tmod card1 4) == (Int.tmod led1 4)))

noncomputable def gameroomref_PlayMay_K1 (led1 : Int) (card1 : Int) : Bool → Option Bool :=
  fun (x : Bool) => match x with | has2 => (gameroomref_PlayMay_J2 led1 card1) has2

noncomputable def gameroomref_PlayMay_L1 (hand1 : List Int) (led1 : Int) : (Bool × Int) → Option (St (Bool × Int) Bool) :=
  fun (x : (Bool × Int)) => match x with | (has1, i1) => if (decide (i1 < (hand1.length : Int))) then ((gameroomref_PlayMay_J3 hand1 led1 has1 i1)) else (some (.done has1))

noncomputable def gameroomref_PlayMay_J1 (hand1 : List Int) (led1 : Int) (card1 : Int) : Option Bool :=
  (loop (gameroomref_PlayMay_L1 hand1 led1) (false, 0)).bind (gameroomref_PlayMay_K1 led1 card1)

noncomputable def gameroomref_PlayMay_m (hand1 : List Int) (led1 : Int) (card1 : Int) : Option Bool :=
  if (decide (led1 < 0)) then (some true) else ((gameroomref_PlayMay_J1 hand1 led1 card1))

set_option maxRecDepth 100000 in
set_option maxHeartbeats 4000000 in
theorem gameroomref_PlayMay_w {A1 : Option Addr} {c1 : Nat} {n1 : Nat} {hand1 : List Int} {led1 : Int} {card1 : Int} {r : Bool} {w0 w : World} {B : Nat} {fs : List HP} (hm : gameroomref_PlayMay_m hand1 led1 card1 = some r) (hS : Sep w0 B w (fs)) (hr_hand1 : RdF w0 B fs A1 (vI hand1)) (_hc_hand1 : hand1.length ≤ c1) (_hn_hand1 : n1 = hand1.length) :
    Calls Try.prog 28 #[.slice A1 n1 c1, .int .i64 led1, .int .i64 card1] w fun e w' => e = .returned (.bool r) ∧ Sep w0 B w' (fs) := by
  obtain ⟨i3, hi3, hz3, hs3, hb3⟩ := info_parts Info3
  obtain rfl := _hn_hand1
  unfold gameroomref_PlayMay_m at hm
  replace hm := start_b hm
  refine enter (l := [.slice A1 hand1.length c1, .int .i64 led1, .int .i64 card1]) (n := 37) Try.func28 rfl rfl (by simp) (fun a hF => ?_)
  refine reg [] [] [0, 1, 2] [pl 0 (.slice A1 hand1.length c1), pl 1 (.int .i64 led1), pl 2 (.int .i64 card1)] hF hS Fol (by kernel_rfl) (by kernel_rfl) (by kernel_rfl) ?_ (fun a w hF hS => ?_)
  · exact obs_nil
  refine seq_cut (fun a w => Fr 37 [pl 0 (.slice A1 hand1.length c1), pl 1 (.int .i64 led1), pl 2 (.int .i64 card1)] a ∧ Sep w0 B w (fs) ∧ ((gameroomref_PlayMay_J1 hand1 led1 card1)).bind some = some r) ?_ ?_
  · rintro a w ⟨hF, hS, hm⟩
    unfold gameroomref_PlayMay_J1 at hm
    refine reg [] [] [0, 1, 2, 7] [pl 0 (.slice A1 hand1.length c1), pl 1 (.int .i64 led1), pl 2 (.int .i64 card1), pl 7 (.bool false)] hF hS Fol (by kernel_rfl) (by kernel_rfl) (by kernel_rfl) ?_ (fun a w hF hS => ?_)
    · exact obs_nil
    refine seq_cut (fun a w => ∃ (has2 : Bool), Fr 37 [pl 1 (.int .i64 led1), pl 2 (.int .i64 card1), pl 7 (.bool has2)] a ∧ Sep w0 B w (fs) ∧ ((gameroomref_PlayMay_J2 led1 card1) has2).bind some = some r) ?_ ?_
    · rintro a w ⟨has2, hF, hS, hm⟩
      unfold gameroomref_PlayMay_J2 at hm
      refine reg [] [] [6] [pl 6 (.bool ((!has2) || ((Int.tmod card1 4) == (Int.tmod led1 4))))] hF hS Fol (by kernel_rfl) (by kernel_rfl) (by kernel_rfl) ?_ (fun a w hF hS => ?_)
      · exact obs_nil
      refine wp_ret ?_
      have hm : some ((!has2) || ((Int.tmod card1 4) == (Int.tmod led1 4))) = some r := hm
      obtain rfl := Option.some.inj hm
      exact retV (rs := [.tmp 6]) (vs := [.bool ((!has2) || ((Int.tmod card1 4) == (Int.tmod led1 4)))]) hF rfl (rv_t (by kernel_rfl) <| rv_nil) rfl ⟨rfl, hS⟩
    · refine reg [] [] [0, 1, 2, 7, 8] [pl 0 (.slice A1 hand1.length c1), pl 1 (.int .i64 led1), pl 2 (.int .i64 card1), pl 7 (.bool false), pl 8 (.int .i64 0)] hF hS Fol (by kernel_rfl) (by kernel_rfl) (by kernel_rfl) ?_ (fun a w hF hS => ?_)
      · exact obs_nil
      refine wp_block ?_
      refine wp_loop_model (S := (Bool × Int)) (R := Bool) (gameroomref_PlayMay_L1 hand1 led1) (fun x => ((gameroomref_PlayMay_K1 led1 card1) x).bind some) r (fun (x : (Bool × Int)) a w => Fr 37 [pl 0 (.slice A1 hand1.length c1), pl 1 (.int .i64 led1), pl 2 (.int .i64 card1), pl 7 (.bool x.1), pl 8 (.int .i64 x.2)] a ∧ Sep w0 B w (fs)) (assoc_b hm) ⟨hF.weak [0, 1, 2, 7, 8] (by kernel_rfl), hS⟩ ?_
      clear hF hS hm
      rintro nn1 ⟨has1, i1⟩ a w ⟨hF, hS⟩ hm
      generalize hφ1 : stK (gameroomref_PlayMay_L1 hand1 led1) nn1 (fun x => ((gameroomref_PlayMay_K1 led1 card1) x).bind some) = φ1 at hm
      unfold gameroomref_PlayMay_L1 at hm
      dsimp only at hF hS hm
      refine seq_cut (fun a w => Fr 37 [pl 0 (.slice A1 hand1.length c1), pl 1 (.int .i64 led1), pl 2 (.int .i64 card1), pl 7 (.bool has1), pl 8 (.int .i64 i1)] a ∧ Sep w0 B w (fs) ∧ ((gameroomref_PlayMay_J3 hand1 led1 has1 i1)).bind φ1 = some r) ?_ ?_
      · rintro a w ⟨hF, hS, hm⟩
        unfold gameroomref_PlayMay_J3 at hm
        refine seq_cut (fun a w => Fr 37 [pl 0 (.slice A1 hand1.length c1), pl 1 (.int .i64 led1), pl 2 (.int .i64 card1), pl 7 (.bool (has1 || ((Int.tmod (geti hand1 i1) 4) == (Int.tmod led1 4)))), pl 8 (.int .i64 i1)] a ∧ Sep w0 B w (fs) ∧ ((gameroomref_PlayMay_J4 hand1 led1 has1 i1)).bind φ1 = some r) ?_ ?_
        · rintro a w ⟨hF, hS, hm⟩
          unfold gameroomref_PlayMay_J4 at hm
          refine reg1 [] [] [0, 1, 2, 7, 8] [pl 0 (.slice A1 hand1.length c1), pl 1 (.int .i64 led1), pl 2 (.int .i64 card1), pl 7 (.bool (has1 || ((Int.tmod (geti hand1 i1) 4) == (Int.tmod led1 4)))), pl 8 (.int .i64 (w64 (i1 + 1)))] hF hS Fol (by kernel_rfl) (by kernel_rfl) (by kernel_rfl) ?_ (fun a w hF hS => ?_)
          · exact obs_nil
          refine then_n ?_
          rw [← hφ1] at hm
          exact ⟨((has1 || ((Int.tmod (geti hand1 i1) 4) == (Int.tmod led1 4))), (w64 (i1 + 1))), ⟨hF.weak [0, 1, 2, 7, 8] (by kernel_rfl), hS⟩, hm⟩
        · refine wp_block ?_
          obtain ⟨hp1, hm⟩ := asrt_b hm
          refine reg1 [⟨true, [(has1, false)], vS (Instr.indexAt 22 (.slice A1 hand1.length c1) (.int .i64 i1)), .pointer (some (sAddr A1 i1))⟩, ⟨false, [(has1, false)], vS (Instr.loadAt 3 (.pointer (some (sAddr A1 i1)))), .int .i64 (geti hand1 i1)⟩] [none, none, none, none, some (.pointer (some (sAddr A1 i1))), some (.int .i64 (geti hand1 i1)), none, none, none, none, none, none] [0, 1, 2, 7, 8] [pl 0 (.slice A1 hand1.length c1), pl 1 (.int .i64 led1), pl 2 (.int .i64 card1), pl 7 (.bool (has1 || ((Int.tmod (geti hand1 i1) 4) == (Int.tmod led1 4)))), pl 8 (.int .i64 i1)] hF hS Fol (by kernel_rfl) (by kernel_rfl) (by kernel_rfl) ?_ (fun a w hF hS => ?_)
          · exact obs_cons (ob_ix1 (f := (Value.int .i64)) (m := hand1) Und22 hi3 hs3 (hr_hand1 _ (hS.dropN 0)) rfl (fun hy => hp1 (hy (has1, false) (by simp)))) <| obs_cons (ob_get1 (n := hand1.length) (m := hand1) (Value.int .i64) (0 : Int) Agg3 (fun _ hS => ⟨_, (hr_hand1 _ (hS.dropN 0))⟩) (fun _ hS => rfl) (fun hy => hp1 (hy (has1, false) (by simp)))) <| obs_nil
          refine block_n ?_
          refine then_n ?_
          exact ⟨hF.weak [0, 1, 2, 7, 8] (by kernel_rfl), hS, hm⟩
      · refine reg [] [] [0, 1, 2, 7, 8, 14] [pl 0 (.slice A1 hand1.length c1), pl 1 (.int .i64 led1), pl 2 (.int .i64 card1), pl 7 (.bool has1), pl 8 (.int .i64 i1), pl 14 (.bool (decide (i1 < (hand1.length : Int))))] hF hS Fol (by kernel_rfl) (by kernel_rfl) (by kernel_rfl) ?_ (fun a w hF hS => ?_)
        · exact obs_nil
        refine cond_ev (t := 14) (b := decide (i1 < (hand1.length : Int))) hF (by kernel_rfl) (fun hb => ?_) (fun hb => ?_)
        · replace hm := if_t hm hb
          refine wp_skip ?_
          refine then_n ?_
          exact ⟨hF.weak [0, 1, 2, 7, 8] (by kernel_rfl), hS, hm⟩
        · replace hm := if_f hm hb
          refine wp_exit ?_
          refine then_e (then_e (block_e (then_n ?_)))
          rw [← hφ1] at hm
          replace hm := done_b hm
          unfold gameroomref_PlayMay_K1 at hm
          try dsimp only at hm
          have hm : ((gameroomref_PlayMay_J2 led1 card1) has1).bind some = some r := hm
          exact ⟨has1, hF.weak [1, 2, 7] (by kernel_rfl), hS, hm⟩
  · refine reg [] [] [0, 1, 2, 10] [pl 0 (.slice A1 hand1.length c1), pl 1 (.int .i64 led1), pl 2 (.int .i64 card1), pl 10 (.bool (decide (led1 < 0)))] hF hS Fol (by kernel_rfl) (by kernel_rfl) (by kernel_rfl) ?_ (fun a w hF hS => ?_)
    · exact obs_nil
    refine cond_ev (t := 10) (b := decide (led1 < 0)) hF (by kernel_rfl) (fun hb => ?_) (fun hb => ?_)
    · replace hm := if_t hm hb
      refine reg [] [] [6] [pl 6 (.bool true)] hF hS Fol (by kernel_rfl) (by kernel_rfl) (by kernel_rfl) ?_ (fun a w hF hS => ?_)
      · exact obs_nil
      refine wp_ret ?_
      refine then_r ?_
      have hm : some true = some r := hm
      obtain rfl := Option.some.inj hm
      exact retV (rs := [.tmp 6]) (vs := [.bool true]) hF rfl (rv_t (by kernel_rfl) <| rv_nil) rfl ⟨rfl, hS⟩
    · replace hm := if_f hm hb
      refine wp_skip ?_
      refine then_n ?_
      exact ⟨hF.weak [0, 1, 2] (by kernel_rfl), hS, hm⟩

noncomputable def gameroomlaw_BridgeTricks_J6 (hand1 : List Int) (card1 : Int) (has1 : Bool) (i1 : Int) : Option (St (Bool × Int) Bool) :=
  some (.next ((has1 || ((geti hand1 i1) == card1)), (w64 (i1 + 1))))

noncomputable def gameroomlaw_BridgeTricks_J5 (hand1 : List Int) (card1 : Int) (has1 : Bool) (i1 : Int) : Option (St (Bool × Int) Bool) :=
  asrt (has1 = false → 0 ≤ i1 ∧ i1 < (hand1.length : Int)) <| (gameroomlaw_BridgeTricks_J6 hand1 card1 has1 i1)

noncomputable def gameroomlaw_BridgeTricks_J8 (hand1 : List Int) (led1 : Int) (card1 : Int) (r4 : (Bool × Int)) : Option Bool :=
  ((if (r4.2 == 0) then gameroomref_PlayMay_m hand1 led1 card1 else some false)).bind fun r8 => some ((r4.2 == 0) && (r4.1 == r8))

noncomputable def gameroomlaw_BridgeTricks_J7 (hand1 : List Int) (led1 : Int) (card1 : Int) (r4 : (Bool × Int)) (no3 : Int) : Option Bool :=
  if (no3 != 0) then (some ((r4.2 == no3) && (!r4.1))) else ((gameroomlaw_BridgeTricks_J8 hand1 led1 card1 r4))

noncomputable def gameroomlaw_BridgeTricks_J4 (hand1 : List Int) (led1 : Int) (card1 : Int) (r4 : (Bool × Int)) (no2 : Int) (has2 : Bool) : Option Bool :=
  if ((no2 == 0) && (!has2)) then ((gameroomlaw_BridgeTricks_J7 hand1 led1 card1 r4) 5) else ((gameroomlaw_BridgeTricks_J7 hand1 led1 card1 r4) no2)

noncomputable def gameroomlaw_BridgeTricks_K1 (hand1 : List Int) (led1 : Int) (card1 : Int) (r4 : (Bool × Int)) (no2 : Int) : Bool → Option Bool :=
  fun (x : Bool) => match x with | has2 => (gameroomlaw_BridgeTricks_J4 hand1 led1 card1 r4 no2) has2

noncomputable def gameroomlaw_BridgeTricks_L1 (hand1 : List Int) (card1 : Int) : (Bool × Int) → Option (St (Bool × Int) Bool) :=
  fun (x : (Bool × Int)) => match x with | (has1, i1) => if (decide (i1 < (hand1.length : Int))) then ((gameroomlaw_BridgeTricks_J5 hand1 card1 has1 i1)) else (some (.done has1))

noncomputable def gameroomlaw_BridgeTricks_J3 (hand1 : List Int) (led1 : Int) (card1 : Int) (r4 : (Bool × Int)) (no2 : Int) : Option Bool :=
  (loop (gameroomlaw_BridgeTricks_L1 hand1 card1) (false, 0)).bind (gameroomlaw_BridgeTricks_K1 hand1 led1 card1 r4 no2)

noncomputable def gameroomlaw_BridgeTricks_J2 (hand1 : List Int) (led1 : Int) (card1 : Int) (r4 : (Bool × Int)) : Option Bool :=
  (gameroomref_CardsMay_m hand1).bind fun r7 => if ((((decide (card1 < 0)) || (decide ((51 : Int) < card1))) || (decide (led1 < (-1)))) || (decide ((51 : Int) < led1))) then ((gameroomlaw_BridgeTricks_J3 hand1 led1 card1 r4) 3) else ((gameroomlaw_BridgeTricks_J3 hand1 led1 card1 r4) r7)

noncomputable def gameroomlaw_BridgeTricks_J1 (l1 : List Int) (strain1 : Int) (hand1 : List Int) (led1 : Int) (card1 : Int) (r2 : (Int × Int)) (r4 : (Bool × Int)) (no1 : Int) : Option Bool :=
  if (no1 != 0) then (if ((r2.2 != no1) || (r2.1 != 0)) then (some false) else ((gameroomlaw_BridgeTricks_J2 hand1 led1 card1 r4))) else (((if (!(r2.2 != 0)) then gameroomref_TrickWinner_m l1 strain1 else some 0)).bind fun r6 => if ((r2.2 != 0) || (r2.1 != r6)) then (some false) else ((gameroomlaw_BridgeTricks_J2 hand1 led1 card1 r4)))

noncomputable def gameroomlaw_BridgeTricks_m (l1 : List Int) (strain1 : Int) (hand1 : List Int) (led1 : Int) (card1 : Int) : Option Bool :=
  (gameroomlaw_ints_m l1).bind fun r1 => (bridge_Trick_m r1 strain1).bind fun r2 => (gameroomlaw_ints_m hand1).bind fun r3 => (bridge_May_m r3 led1 card1).bind fun r4 => if ((l1.length : Int) == 4) then ((gameroomref_CardsMay_m l1).bind fun r5 => if ((r5 == 0) && ((decide (strain1 < 0)) || (decide ((4 : Int) < strain1)))) then ((gameroomlaw_BridgeTricks_J1 l1 strain1 hand1 led1 card1 r2 r4) 4) else ((gameroomlaw_BridgeTricks_J1 l1 strain1 hand1 led1 card1 r2 r4) r5)) else ((gameroomlaw_BridgeTricks_J1 l1 strain1 hand1 led1 card1 r2 r4) 11)

set_option maxRecDepth 100000 in
set_option maxHeartbeats 4000000 in
theorem gameroomlaw_BridgeTricks_w {A1 : Option Addr} {c1 : Nat} {n1 : Nat} {l1 : List Int} {strain1 : Int} {A2 : Option Addr} {c2 : Nat} {n2 : Nat} {hand1 : List Int} {led1 : Int} {card1 : Int} {r : Bool} {w0 w : World} {B : Nat} {fs : List HP} (hm : gameroomlaw_BridgeTricks_m l1 strain1 hand1 led1 card1 = some r) (hS : Sep w0 B w (fs)) (hr_l1 : RdF w0 B fs A1 (vI l1)) (_hc_l1 : l1.length ≤ c1) (_hn_l1 : n1 = l1.length) (hr_hand1 : RdF w0 B fs A2 (vI hand1)) (_hc_hand1 : hand1.length ≤ c2) (_hn_hand1 : n2 = hand1.length) :
    Calls Try.prog 4 #[.slice A1 n1 c1, .int .i64 strain1, .slice A2 n2 c2, .int .i64 led1, .int .i64 card1] w fun e w' => e = .returned (.bool r) ∧ Sep w0 B w' (fs) := by
  obtain ⟨i3, hi3, hz3, hs3, hb3⟩ := info_parts Info3
  obtain rfl := _hn_l1
  obtain rfl := _hn_hand1
  unfold gameroomlaw_BridgeTricks_m at hm
  replace hm := start_b hm
  refine enter (l := [.slice A1 l1.length c1, .int .i64 strain1, .slice A2 hand1.length c2, .int .i64 led1, .int .i64 card1]) (n := 122) Try.func4 rfl rfl (by simp) (fun a hF => ?_)
  refine reg [] [] [0, 1, 2, 3, 4] [pl 0 (.slice A1 l1.length c1), pl 1 (.int .i64 strain1), pl 2 (.slice A2 hand1.length c2), pl 3 (.int .i64 led1), pl 4 (.int .i64 card1)] hF hS Fol (by kernel_rfl) (by kernel_rfl) (by kernel_rfl) ?_ (fun a w hF hS => ?_)
  · exact obs_nil
  refine seqR ?_
  obtain ⟨r1, hr1, hm⟩ := call_b hm
  obtain ⟨r2, hr2, hm⟩ := call_b hm
  refine at_run 1 [] [] [0, 1, 2, 3, 4, 19] [pl 0 (.slice A1 l1.length c1), pl 1 (.int .i64 strain1), pl 2 (.slice A2 hand1.length c2), pl 3 (.int .i64 led1), pl 4 (.int .i64 card1), pl 19 (.slice A1 l1.length c1)] hF hS (by kernel_rfl) (by kernel_rfl) ?_ (fun a w hF hS => ?_)
  · exact obs_nil
  refine at_call (f := 16) (args := #[.slice A1 l1.length c1]) (d := 20) hF (by kernel_rfl) (by kernel_rfl) Try.func16 (by kernel_rfl) rfl (gameroomlaw_ints_w hr1 hS (fun _ hS => (hr_l1 _ (hS.dropN 0))) _hc_l1 rfl) (fun v a w hR hF => ?_)
  clear hS
  obtain ⟨A3, c3, rfl, hS⟩ := hR
  have hS : Sep w0 B w (own 3 (.slice A3 r1.length c3) (vI r1) :: fs) := hS
  refine at_run 7 [⟨false, [], callFunc 24 #[.slice A3 r1.length c3, .int .i64 strain1], .tuple #[.int .i64 r2.1, .int .i64 r2.2]⟩] [none, some (.tuple #[.int .i64 r2.1, .int .i64 r2.2]), none, none, none, none, none] [0, 1, 2, 3, 4, 11, 12] [pl 0 (.slice A1 l1.length c1), pl 1 (.int .i64 strain1), pl 2 (.slice A2 hand1.length c2), pl 3 (.int .i64 led1), pl 4 (.int .i64 card1), pl 11 (.int .i64 r2.1), pl 12 (.int .i64 r2.2)] hF hS (by kernel_rfl) (by kernel_rfl) ?_ (fun a w hF hS => ?_)
  · exact obs_cons (ob_call Try.func24 (by kernel_rfl) rfl (fun _ _ hS => bridge_Trick_w hr2 hS (fun _ hS => (hS.at_ 0 rfl).rd) ((hS.at_ 0 rfl).cap1) rfl)) <| obs_nil
  refine at_end [0, 1, 2, 3, 4, 11, 12] [pl 0 (.slice A1 l1.length c1), pl 1 (.int .i64 strain1), pl 2 (.slice A2 hand1.length c2), pl 3 (.int .i64 led1), pl 4 (.int .i64 card1), pl 11 (.int .i64 r2.1), pl 12 (.int .i64 r2.2)] hF rfl (by kernel_rfl) (fun hF => ?_)
  refine then_n ?_
  refine seqR ?_
  obtain ⟨r3, hr3, hm⟩ := call_b hm
  obtain ⟨r4, hr4, hm⟩ := call_b hm
  refine at_run 1 [] [] [0, 1, 2, 3, 4, 11, 12, 26] [pl 0 (.slice A1 l1.length c1), pl 1 (.int .i64 strain1), pl 2 (.slice A2 hand1.length c2), pl 3 (.int .i64 led1), pl 4 (.int .i64 card1), pl 11 (.int .i64 r2.1), pl 12 (.int .i64 r2.2), pl 26 (.slice A2 hand1.length c2)] hF hS (by kernel_rfl) (by kernel_rfl) ?_ (fun a w hF hS => ?_)
  · exact obs_nil
  refine at_call (f := 16) (args := #[.slice A2 hand1.length c2]) (d := 27) hF (by kernel_rfl) (by kernel_rfl) Try.func16 (by kernel_rfl) rfl (gameroomlaw_ints_w hr3 hS (fun _ hS => (hr_hand1 _ (hS.dropN 1))) _hc_hand1 rfl) (fun v a w hR hF => ?_)
  clear hS
  obtain ⟨A4, c4, rfl, hS⟩ := hR
  have hS : Sep w0 B w (own 3 (.slice A4 r3.length c4) (vI r3) :: own 3 (.slice A3 r1.length c3) (vI r1) :: fs) := hS
  refine at_run 8 [⟨false, [], callFunc 25 #[.slice A4 r3.length c4, .int .i64 led1, .int .i64 card1], .tuple #[.bool r4.1, .int .i64 r4.2]⟩] [none, none, some (.tuple #[.bool r4.1, .int .i64 r4.2]), none, none, none, none, none] [0, 1, 2, 3, 4, 11, 12, 13, 14] [pl 0 (.slice A1 l1.length c1), pl 1 (.int .i64 strain1), pl 2 (.slice A2 hand1.length c2), pl 3 (.int .i64 led1), pl 4 (.int .i64 card1), pl 11 (.int .i64 r2.1), pl 12 (.int .i64 r2.2), pl 13 (.bool r4.1), pl 14 (.int .i64 r4.2)] hF hS (by kernel_rfl) (by kernel_rfl) ?_ (fun a w hF hS => ?_)
  · exact obs_cons (ob_call Try.func25 (by kernel_rfl) rfl (fun _ _ hS => bridge_May_w hr4 hS (fun _ hS => (hS.at_ 0 rfl).rd) ((hS.at_ 0 rfl).cap1) rfl)) <| obs_nil
  refine at_end [0, 1, 2, 3, 4, 11, 12, 13, 14] [pl 0 (.slice A1 l1.length c1), pl 1 (.int .i64 strain1), pl 2 (.slice A2 hand1.length c2), pl 3 (.int .i64 led1), pl 4 (.int .i64 card1), pl 11 (.int .i64 r2.1), pl 12 (.int .i64 r2.2), pl 13 (.bool r4.1), pl 14 (.int .i64 r4.2)] hF rfl (by kernel_rfl) (fun hF => ?_)
  refine then_n ?_
  refine reg [] [] [0, 1, 2, 3, 4, 11, 12, 13, 14, 15] [pl 0 (.slice A1 l1.length c1), pl 1 (.int .i64 strain1), pl 2 (.slice A2 hand1.length c2), pl 3 (.int .i64 led1), pl 4 (.int .i64 card1), pl 11 (.int .i64 r2.1), pl 12 (.int .i64 r2.2), pl 13 (.bool r4.1), pl 14 (.int .i64 r4.2), pl 15 (.int .i64 11)] hF hS Fol (by kernel_rfl) (by kernel_rfl) (by kernel_rfl) ?_ (fun a w hF hS => ?_)
  · exact obs_nil
  refine seq_cut (fun a w => ∃ (no1 : Int), Fr 122 [pl 0 (.slice A1 l1.length c1), pl 1 (.int .i64 strain1), pl 2 (.slice A2 hand1.length c2), pl 3 (.int .i64 led1), pl 4 (.int .i64 card1), pl 11 (.int .i64 r2.1), pl 12 (.int .i64 r2.2), pl 13 (.bool r4.1), pl 14 (.int .i64 r4.2), pl 15 (.int .i64 no1)] a ∧ Sep w0 B w (fs) ∧ ((gameroomlaw_BridgeTricks_J1 l1 strain1 hand1 led1 card1 r2 r4) no1).bind some = some r) ?_ ?_
  · rintro a w ⟨no1, hF, hS, hm⟩
    unfold gameroomlaw_BridgeTricks_J1 at hm
    refine seq_cut (fun a w => Fr 122 [pl 2 (.slice A2 hand1.length c2), pl 3 (.int .i64 led1), pl 4 (.int .i64 card1), pl 13 (.bool r4.1), pl 14 (.int .i64 r4.2)] a ∧ Sep w0 B w (fs) ∧ ((gameroomlaw_BridgeTricks_J2 hand1 led1 card1 r4)).bind some = some r) ?_ ?_
    · rintro a w ⟨hF, hS, hm⟩
      unfold gameroomlaw_BridgeTricks_J2 at hm
      obtain ⟨r7, hr7, hm⟩ := call_b hm
      refine reg [⟨false, [], callFunc 26 #[.slice A2 hand1.length c2], .int .i64 r7⟩] [none, some (.int .i64 r7), none] [2, 3, 4, 13, 14, 15] [pl 2 (.slice A2 hand1.length c2), pl 3 (.int .i64 led1), pl 4 (.int .i64 card1), pl 13 (.bool r4.1), pl 14 (.int .i64 r4.2), pl 15 (.int .i64 r7)] hF hS Fol (by kernel_rfl) (by kernel_rfl) (by kernel_rfl) ?_ (fun a w hF hS => ?_)
      · exact obs_cons (ob_call Try.func26 (by kernel_rfl) rfl (fun _ _ hS => gameroomref_CardsMay_w hr7 hS (fun _ hS => (hr_hand1 _ (hS.dropN 0))) _hc_hand1 rfl)) <| obs_nil
      refine seq_cut (fun a w => ∃ (no2 : Int), Fr 122 [pl 2 (.slice A2 hand1.length c2), pl 3 (.int .i64 led1), pl 4 (.int .i64 card1), pl 13 (.bool r4.1), pl 14 (.int .i64 r4.2), pl 15 (.int .i64 no2)] a ∧ Sep w0 B w (fs) ∧ ((gameroomlaw_BridgeTricks_J3 hand1 led1 card1 r4) no2).bind some = some r) ?_ ?_
      · rintro a w ⟨no2, hF, hS, hm⟩
        unfold gameroomlaw_BridgeTricks_J3 at hm
        refine reg [] [] [2, 3, 4, 13, 14, 15, 16] [pl 2 (.slice A2 hand1.length c2), pl 3 (.int .i64 led1), pl 4 (.int .i64 card1), pl 13 (.bool r4.1), pl 14 (.int .i64 r4.2), pl 15 (.int .i64 no2), pl 16 (.bool false)] hF hS Fol (by kernel_rfl) (by kernel_rfl) (by kernel_rfl) ?_ (fun a w hF hS => ?_)
        · exact obs_nil
        refine seq_cut (fun a w => ∃ (has2 : Bool), Fr 122 [pl 2 (.slice A2 hand1.length c2), pl 3 (.int .i64 led1), pl 4 (.int .i64 card1), pl 13 (.bool r4.1), pl 14 (.int .i64 r4.2), pl 15 (.int .i64 no2), pl 16 (.bool has2)] a ∧ Sep w0 B w (fs) ∧ ((gameroomlaw_BridgeTricks_J4 hand1 led1 card1 r4 no2) has2).bind some = some r) ?_ ?_
        · rintro a w ⟨has2, hF, hS, hm⟩
          unfold gameroomlaw_BridgeTricks_J4 at hm
          refine seq_cut (fun a w => ∃ (no3 : Int), Fr 122 [pl 2 (.slice A2 hand1.length c2), pl 3 (.int .i64 led1), pl 4 (.int .i64 card1), pl 13 (.bool r4.1), pl 14 (.int .i64 r4.2), pl 15 (.int .i64 no3)] a ∧ Sep w0 B w (fs) ∧ ((gameroomlaw_BridgeTricks_J7 hand1 led1 card1 r4) no3).bind some = some r) ?_ ?_
          · rintro a w ⟨no3, hF, hS, hm⟩
            unfold gameroomlaw_BridgeTricks_J7 at hm
            refine seq_cut (fun a w => Fr 122 [pl 2 (.slice A2 hand1.length c2), pl 3 (.int .i64 led1), pl 4 (.int .i64 card1), pl 13 (.bool r4.1), pl 14 (.int .i64 r4.2)] a ∧ Sep w0 B w (fs) ∧ ((gameroomlaw_BridgeTricks_J8 hand1 led1 card1 r4)).bind some = some r) ?_ ?_
            · rintro a w ⟨hF, hS, hm⟩
              unfold gameroomlaw_BridgeTricks_J8 at hm
              obtain ⟨r8, hr8, hm⟩ := call_b hm
              refine reg [⟨false, [((r4.2 == 0), true)], callFunc 28 #[.slice A2 hand1.length c2, .int .i64 led1, .int .i64 card1], .bool r8⟩] [none, none, none, none, none, none, none, some (.bool r8), none, none, none] [10] [pl 10 (.bool ((r4.2 == 0) && (r4.1 == r8)))] hF hS Fol (by kernel_rfl) (by kernel_rfl) (by kernel_rfl) ?_ (fun a w hF hS => ?_)
              · exact obs_cons (ob_call Try.func28 (by kernel_rfl) rfl (fun hy _ hS => gameroomref_PlayMay_w (ite_some hr8 (by rw [show (r4.2 == 0) = true from hy ((r4.2 == 0), true) (by simp)]; try rfl)) hS (fun _ hS => (hr_hand1 _ (hS.dropN 0))) _hc_hand1 rfl)) <| obs_nil
              refine wp_ret ?_
              have hm : some ((r4.2 == 0) && (r4.1 == r8)) = some r := hm
              obtain rfl := Option.some.inj hm
              exact retV (rs := [.tmp 10]) (vs := [.bool ((r4.2 == 0) && (r4.1 == r8))]) hF rfl (rv_t (by kernel_rfl) <| rv_nil) rfl ⟨rfl, hS⟩
            · refine reg [] [] [2, 3, 4, 13, 14, 15, 104] [pl 2 (.slice A2 hand1.length c2), pl 3 (.int .i64 led1), pl 4 (.int .i64 card1), pl 13 (.bool r4.1), pl 14 (.int .i64 r4.2), pl 15 (.int .i64 no3), pl 104 (.bool (no3 != 0))] hF hS Fol (by kernel_rfl) (by kernel_rfl) (by kernel_rfl) ?_ (fun a w hF hS => ?_)
              · exact obs_nil
              refine cond_ev (t := 104) (b := (no3 != 0)) hF (by kernel_rfl) (fun hb => ?_) (fun hb => ?_)
              · replace hm := if_t hm hb
                refine reg [] [] [10] [pl 10 (.bool ((r4.2 == no3) && (!r4.1)))] hF hS Fol (by kernel_rfl) (by kernel_rfl) (by kernel_rfl) ?_ (fun a w hF hS => ?_)
                · exact obs_nil
                refine wp_ret ?_
                refine then_r ?_
                have hm : some ((r4.2 == no3) && (!r4.1)) = some r := hm
                obtain rfl := Option.some.inj hm
                exact retV (rs := [.tmp 10]) (vs := [.bool ((r4.2 == no3) && (!r4.1))]) hF rfl (rv_t (by kernel_rfl) <| rv_nil) rfl ⟨rfl, hS⟩
              · replace hm := if_f hm hb
                refine wp_skip ?_
                refine then_n ?_
                exact ⟨hF.weak [2, 3, 4, 13, 14] (by kernel_rfl), hS, hm⟩
          · refine reg [] [] [2, 3, 4, 13, 14, 15, 102] [pl 2 (.slice A2 hand1.length c2), pl 3 (.int .i64 led1), pl 4 (.int .i64 card1), pl 13 (.bool r4.1), pl 14 (.int .i64 r4.2), pl 15 (.int .i64 no2), pl 102 (.bool ((no2 == 0) && (!has2)))] hF hS Fol (by kernel_rfl) (by kernel_rfl) (by kernel_rfl) ?_ (fun a w hF hS => ?_)
            · exact obs_nil
            refine cond_ev (t := 102) (b := (no2 == 0) && (!has2)) hF (by kernel_rfl) (fun hb => ?_) (fun hb => ?_)
            · replace hm := if_t hm hb
              refine reg1 [] [] [2, 3, 4, 13, 14, 15] [pl 2 (.slice A2 hand1.length c2), pl 3 (.int .i64 led1), pl 4 (.int .i64 card1), pl 13 (.bool r4.1), pl 14 (.int .i64 r4.2), pl 15 (.int .i64 5)] hF hS Fol (by kernel_rfl) (by kernel_rfl) (by kernel_rfl) ?_ (fun a w hF hS => ?_)
              · exact obs_nil
              refine then_n ?_
              exact ⟨5, hF.weak [2, 3, 4, 13, 14, 15] (by kernel_rfl), hS, hm⟩
            · replace hm := if_f hm hb
              refine wp_skip ?_
              refine then_n ?_
              exact ⟨no2, hF.weak [2, 3, 4, 13, 14, 15] (by kernel_rfl), hS, hm⟩
        · refine reg [] [] [2, 3, 4, 13, 14, 15, 16, 17] [pl 2 (.slice A2 hand1.length c2), pl 3 (.int .i64 led1), pl 4 (.int .i64 card1), pl 13 (.bool r4.1), pl 14 (.int .i64 r4.2), pl 15 (.int .i64 no2), pl 16 (.bool false), pl 17 (.int .i64 0)] hF hS Fol (by kernel_rfl) (by kernel_rfl) (by kernel_rfl) ?_ (fun a w hF hS => ?_)
          · exact obs_nil
          refine wp_block ?_
          refine wp_loop_model (S := (Bool × Int)) (R := Bool) (gameroomlaw_BridgeTricks_L1 hand1 card1) (fun x => ((gameroomlaw_BridgeTricks_K1 hand1 led1 card1 r4 no2) x).bind some) r (fun (x : (Bool × Int)) a w => Fr 122 [pl 2 (.slice A2 hand1.length c2), pl 3 (.int .i64 led1), pl 4 (.int .i64 card1), pl 13 (.bool r4.1), pl 14 (.int .i64 r4.2), pl 15 (.int .i64 no2), pl 16 (.bool x.1), pl 17 (.int .i64 x.2)] a ∧ Sep w0 B w (fs)) (assoc_b hm) ⟨hF.weak [2, 3, 4, 13, 14, 15, 16, 17] (by kernel_rfl), hS⟩ ?_
          clear hF hS hm
          rintro nn1 ⟨has1, i1⟩ a w ⟨hF, hS⟩ hm
          generalize hφ1 : stK (gameroomlaw_BridgeTricks_L1 hand1 card1) nn1 (fun x => ((gameroomlaw_BridgeTricks_K1 hand1 led1 card1 r4 no2) x).bind some) = φ1 at hm
          unfold gameroomlaw_BridgeTricks_L1 at hm
          dsimp only at hF hS hm
          refine seq_cut (fun a w => Fr 122 [pl 2 (.slice A2 hand1.length c2), pl 3 (.int .i64 led1), pl 4 (.int .i64 card1), pl 13 (.bool r4.1), pl 14 (.int .i64 r4.2), pl 15 (.int .i64 no2), pl 16 (.bool has1), pl 17 (.int .i64 i1)] a ∧ Sep w0 B w (fs) ∧ ((gameroomlaw_BridgeTricks_J5 hand1 card1 has1 i1)).bind φ1 = some r) ?_ ?_
          · rintro a w ⟨hF, hS, hm⟩
            unfold gameroomlaw_BridgeTricks_J5 at hm
            refine seq_cut (fun a w => Fr 122 [pl 2 (.slice A2 hand1.length c2), pl 3 (.int .i64 led1), pl 4 (.int .i64 card1), pl 13 (.bool r4.1), pl 14 (.int .i64 r4.2), pl 15 (.int .i64 no2), pl 16 (.bool (has1 || ((geti hand1 i1) == card1))), pl 17 (.int .i64 i1)] a ∧ Sep w0 B w (fs) ∧ ((gameroomlaw_BridgeTricks_J6 hand1 card1 has1 i1)).bind φ1 = some r) ?_ ?_
            · rintro a w ⟨hF, hS, hm⟩
              unfold gameroomlaw_BridgeTricks_J6 at hm
              refine reg1 [] [] [2, 3, 4, 13, 14, 15, 16, 17] [pl 2 (.slice A2 hand1.length c2), pl 3 (.int .i64 led1), pl 4 (.int .i64 card1), pl 13 (.bool r4.1), pl 14 (.int .i64 r4.2), pl 15 (.int .i64 no2), pl 16 (.bool (has1 || ((geti hand1 i1) == card1))), pl 17 (.int .i64 (w64 (i1 + 1)))] hF hS Fol (by kernel_rfl) (by kernel_rfl) (by kernel_rfl) ?_ (fun a w hF hS => ?_)
              · exact obs_nil
              refine then_n ?_
              rw [← hφ1] at hm
              exact ⟨((has1 || ((geti hand1 i1) == card1)), (w64 (i1 + 1))), ⟨hF.weak [2, 3, 4, 13, 14, 15, 16, 17] (by kernel_rfl), hS⟩, hm⟩
            · refine wp_block ?_
              obtain ⟨hp1, hm⟩ := asrt_b hm
              refine reg1 [⟨true, [(has1, false)], vS (Instr.indexAt 22 (.slice A2 hand1.length c2) (.int .i64 i1)), .pointer (some (sAddr A2 i1))⟩, ⟨false, [(has1, false)], vS (Instr.loadAt 3 (.pointer (some (sAddr A2 i1)))), .int .i64 (geti hand1 i1)⟩] [none, none, none, none, some (.pointer (some (sAddr A2 i1))), some (.int .i64 (geti hand1 i1)), none, none, none, none] [2, 3, 4, 13, 14, 15, 16, 17] [pl 2 (.slice A2 hand1.length c2), pl 3 (.int .i64 led1), pl 4 (.int .i64 card1), pl 13 (.bool r4.1), pl 14 (.int .i64 r4.2), pl 15 (.int .i64 no2), pl 16 (.bool (has1 || ((geti hand1 i1) == card1))), pl 17 (.int .i64 i1)] hF hS Fol (by kernel_rfl) (by kernel_rfl) (by kernel_rfl) ?_ (fun a w hF hS => ?_)
              · exact obs_cons (ob_ix1 (f := (Value.int .i64)) (m := hand1) Und22 hi3 hs3 (hr_hand1 _ (hS.dropN 0)) rfl (fun hy => hp1 (hy (has1, false) (by simp)))) <| obs_cons (ob_get1 (n := hand1.length) (m := hand1) (Value.int .i64) (0 : Int) Agg3 (fun _ hS => ⟨_, (hr_hand1 _ (hS.dropN 0))⟩) (fun _ hS => rfl) (fun hy => hp1 (hy (has1, false) (by simp)))) <| obs_nil
              refine block_n ?_
              refine then_n ?_
              exact ⟨hF.weak [2, 3, 4, 13, 14, 15, 16, 17] (by kernel_rfl), hS, hm⟩
          · refine reg [] [] [2, 3, 4, 13, 14, 15, 16, 17, 85] [pl 2 (.slice A2 hand1.length c2), pl 3 (.int .i64 led1), pl 4 (.int .i64 card1), pl 13 (.bool r4.1), pl 14 (.int .i64 r4.2), pl 15 (.int .i64 no2), pl 16 (.bool has1), pl 17 (.int .i64 i1), pl 85 (.bool (decide (i1 < (hand1.length : Int))))] hF hS Fol (by kernel_rfl) (by kernel_rfl) (by kernel_rfl) ?_ (fun a w hF hS => ?_)
            · exact obs_nil
            refine cond_ev (t := 85) (b := decide (i1 < (hand1.length : Int))) hF (by kernel_rfl) (fun hb => ?_) (fun hb => ?_)
            · replace hm := if_t hm hb
              refine wp_skip ?_
              refine then_n ?_
              exact ⟨hF.weak [2, 3, 4, 13, 14, 15, 16, 17] (by kernel_rfl), hS, hm⟩
            · replace hm := if_f hm hb
              refine wp_exit ?_
              refine then_e (then_e (block_e (then_n ?_)))
              rw [← hφ1] at hm
              replace hm := done_b hm
              unfold gameroomlaw_BridgeTricks_K1 at hm
              try dsimp only at hm
              have hm : ((gameroomlaw_BridgeTricks_J4 hand1 led1 card1 r4 no2) has1).bind some = some r := hm
              exact ⟨has1, hF.weak [2, 3, 4, 13, 14, 15, 16] (by kernel_rfl), hS, hm⟩
      · refine reg [] [] [2, 3, 4, 13, 14, 15, 81] [pl 2 (.slice A2 hand1.length c2), pl 3 (.int .i64 led1), pl 4 (.int .i64 card1), pl 13 (.bool r4.1), pl 14 (.int .i64 r4.2), pl 15 (.int .i64 r7), pl 81 (.bool ((((decide (card1 < 0)) || (decide ((51 : Int) < card1))) || (decide (led1 < (-1)))) || (decide ((51 : Int) < led1))))] hF hS Fol (by kernel_rfl) (by kernel_rfl) (by kernel_rfl) ?_ (fun a w hF hS => ?_)
        · exact obs_nil
        refine cond_ev (t := 81) (b := (((decide (card1 < 0)) || (decide ((51 : Int) < card1))) || (decide (led1 < (-1)))) || (decide ((51 : Int) < led1))) hF (by kernel_rfl) (fun hb => ?_) (fun hb => ?_)
        · replace hm := if_t hm hb
          refine reg1 [] [] [2, 3, 4, 13, 14, 15] [pl 2 (.slice A2 hand1.length c2), pl 3 (.int .i64 led1), pl 4 (.int .i64 card1), pl 13 (.bool r4.1), pl 14 (.int .i64 r4.2), pl 15 (.int .i64 3)] hF hS Fol (by kernel_rfl) (by kernel_rfl) (by kernel_rfl) ?_ (fun a w hF hS => ?_)
          · exact obs_nil
          refine then_n ?_
          exact ⟨3, hF.weak [2, 3, 4, 13, 14, 15] (by kernel_rfl), hS, hm⟩
        · replace hm := if_f hm hb
          refine wp_skip ?_
          refine then_n ?_
          exact ⟨r7, hF.weak [2, 3, 4, 13, 14, 15] (by kernel_rfl), hS, hm⟩
    · refine reg [] [] [0, 1, 2, 3, 4, 11, 12, 13, 14, 15, 49] [pl 0 (.slice A1 l1.length c1), pl 1 (.int .i64 strain1), pl 2 (.slice A2 hand1.length c2), pl 3 (.int .i64 led1), pl 4 (.int .i64 card1), pl 11 (.int .i64 r2.1), pl 12 (.int .i64 r2.2), pl 13 (.bool r4.1), pl 14 (.int .i64 r4.2), pl 15 (.int .i64 no1), pl 49 (.bool (no1 != 0))] hF hS Fol (by kernel_rfl) (by kernel_rfl) (by kernel_rfl) ?_ (fun a w hF hS => ?_)
      · exact obs_nil
      refine cond_ev (t := 49) (b := (no1 != 0)) hF (by kernel_rfl) (fun hb => ?_) (fun hb => ?_)
      · replace hm := if_t hm hb
        refine reg [] [] [2, 3, 4, 13, 14, 56] [pl 2 (.slice A2 hand1.length c2), pl 3 (.int .i64 led1), pl 4 (.int .i64 card1), pl 13 (.bool r4.1), pl 14 (.int .i64 r4.2), pl 56 (.bool ((r2.2 != no1) || (r2.1 != 0)))] hF hS Fol (by kernel_rfl) (by kernel_rfl) (by kernel_rfl) ?_ (fun a w hF hS => ?_)
        · exact obs_nil
        refine cond_ev (t := 56) (b := (r2.2 != no1) || (r2.1 != 0)) hF (by kernel_rfl) (fun hb => ?_) (fun hb => ?_)
        · replace hm := if_t hm hb
          refine reg [] [] [10] [pl 10 (.bool false)] hF hS Fol (by kernel_rfl) (by kernel_rfl) (by kernel_rfl) ?_ (fun a w hF hS => ?_)
          · exact obs_nil
          refine wp_ret ?_
          refine then_r ?_
          have hm : some false = some r := hm
          obtain rfl := Option.some.inj hm
          exact retV (rs := [.tmp 10]) (vs := [.bool false]) hF rfl (rv_t (by kernel_rfl) <| rv_nil) rfl ⟨rfl, hS⟩
        · replace hm := if_f hm hb
          refine wp_skip ?_
          refine then_n ?_
          exact ⟨hF.weak [2, 3, 4, 13, 14] (by kernel_rfl), hS, hm⟩
      · replace hm := if_f hm hb
        obtain ⟨r6, hr6, hm⟩ := call_b hm
        refine reg [⟨false, [((r2.2 != 0), false)], callFunc 27 #[.slice A1 l1.length c1, .int .i64 strain1], .int .i64 r6⟩] [none, none, none, none, none, none, some (.int .i64 r6), none, none] [2, 3, 4, 13, 14, 65] [pl 2 (.slice A2 hand1.length c2), pl 3 (.int .i64 led1), pl 4 (.int .i64 card1), pl 13 (.bool r4.1), pl 14 (.int .i64 r4.2), pl 65 (.bool ((r2.2 != 0) || (r2.1 != r6)))] hF hS Fol (by kernel_rfl) (by kernel_rfl) (by kernel_rfl) ?_ (fun a w hF hS => ?_)
        · exact obs_cons (ob_call Try.func27 (by kernel_rfl) rfl (fun hy _ hS => gameroomref_TrickWinner_w (ite_some hr6 (by rw [show (r2.2 != 0) = false from hy ((r2.2 != 0), false) (by simp)]; try rfl)) hS (fun _ hS => (hr_l1 _ (hS.dropN 0))) _hc_l1 rfl)) <| obs_nil
        refine cond_ev (t := 65) (b := (r2.2 != 0) || (r2.1 != r6)) hF (by kernel_rfl) (fun hb => ?_) (fun hb => ?_)
        · replace hm := if_t hm hb
          refine reg [] [] [10] [pl 10 (.bool false)] hF hS Fol (by kernel_rfl) (by kernel_rfl) (by kernel_rfl) ?_ (fun a w hF hS => ?_)
          · exact obs_nil
          refine wp_ret ?_
          refine then_r ?_
          have hm : some false = some r := hm
          obtain rfl := Option.some.inj hm
          exact retV (rs := [.tmp 10]) (vs := [.bool false]) hF rfl (rv_t (by kernel_rfl) <| rv_nil) rfl ⟨rfl, hS⟩
        · replace hm := if_f hm hb
          refine wp_skip ?_
          refine then_n ?_
          exact ⟨hF.weak [2, 3, 4, 13, 14] (by kernel_rfl), hS, hm⟩
  · refine reg [] [] [0, 1, 2, 3, 4, 11, 12, 13, 14, 15, 35] [pl 0 (.slice A1 l1.length c1), pl 1 (.int .i64 strain1), pl 2 (.slice A2 hand1.length c2), pl 3 (.int .i64 led1), pl 4 (.int .i64 card1), pl 11 (.int .i64 r2.1), pl 12 (.int .i64 r2.2), pl 13 (.bool r4.1), pl 14 (.int .i64 r4.2), pl 15 (.int .i64 11), pl 35 (.bool ((l1.length : Int) == 4))] hF hS Fol (by kernel_rfl) (by kernel_rfl) (by kernel_rfl) ?_ (fun a w hF hS => ?_)
    · exact obs_nil
    refine cond_ev (t := 35) (b := ((l1.length : Int) == 4)) hF (by kernel_rfl) (fun hb => ?_) (fun hb => ?_)
    · replace hm := if_t hm hb
      obtain ⟨r5, hr5, hm⟩ := call_b hm
      refine reg [⟨false, [], callFunc 26 #[.slice A1 l1.length c1], .int .i64 r5⟩] [none, some (.int .i64 r5), none] [0, 1, 2, 3, 4, 11, 12, 13, 14, 15] [pl 0 (.slice A1 l1.length c1), pl 1 (.int .i64 strain1), pl 2 (.slice A2 hand1.length c2), pl 3 (.int .i64 led1), pl 4 (.int .i64 card1), pl 11 (.int .i64 r2.1), pl 12 (.int .i64 r2.2), pl 13 (.bool r4.1), pl 14 (.int .i64 r4.2), pl 15 (.int .i64 r5)] hF hS Fol (by kernel_rfl) (by kernel_rfl) (by kernel_rfl) ?_ (fun a w hF hS => ?_)
      · exact obs_cons (ob_call Try.func26 (by kernel_rfl) rfl (fun _ _ hS => gameroomref_CardsMay_w hr5 hS (fun _ hS => (hr_l1 _ (hS.dropN 2))) _hc_l1 rfl)) <| obs_nil
      refine reg [] [] [0, 1, 2, 3, 4, 11, 12, 13, 14, 15, 47] [pl 0 (.slice A1 l1.length c1), pl 1 (.int .i64 strain1), pl 2 (.slice A2 hand1.length c2), pl 3 (.int .i64 led1), pl 4 (.int .i64 card1), pl 11 (.int .i64 r2.1), pl 12 (.int .i64 r2.2), pl 13 (.bool r4.1), pl 14 (.int .i64 r4.2), pl 15 (.int .i64 r5), pl 47 (.bool ((r5 == 0) && ((decide (strain1 < 0)) || (decide ((4 : Int) < strain1)))))] hF hS Fol (by kernel_rfl) (by kernel_rfl) (by kernel_rfl) ?_ (fun a w hF hS => ?_)
      · exact obs_nil
      refine cond_ev (t := 47) (b := (r5 == 0) && ((decide (strain1 < 0)) || (decide ((4 : Int) < strain1)))) hF (by kernel_rfl) (fun hb => ?_) (fun hb => ?_)
      · replace hm := if_t hm hb
        refine reg1 [] [] [0, 1, 2, 3, 4, 11, 12, 13, 14, 15] [pl 0 (.slice A1 l1.length c1), pl 1 (.int .i64 strain1), pl 2 (.slice A2 hand1.length c2), pl 3 (.int .i64 led1), pl 4 (.int .i64 card1), pl 11 (.int .i64 r2.1), pl 12 (.int .i64 r2.2), pl 13 (.bool r4.1), pl 14 (.int .i64 r4.2), pl 15 (.int .i64 4)] hF hS Fol (by kernel_rfl) (by kernel_rfl) (by kernel_rfl) ?_ (fun a w hF hS => ?_)
        · exact obs_nil
        refine then_n ?_
        have hS := hS.pickN 2 [] (by decide)
        exact ⟨4, hF.weak [0, 1, 2, 3, 4, 11, 12, 13, 14, 15] (by kernel_rfl), hS, hm⟩
      · replace hm := if_f hm hb
        refine wp_skip ?_
        refine then_n ?_
        have hS := hS.pickN 2 [] (by decide)
        exact ⟨r5, hF.weak [0, 1, 2, 3, 4, 11, 12, 13, 14, 15] (by kernel_rfl), hS, hm⟩
    · replace hm := if_f hm hb
      refine wp_skip ?_
      refine then_n ?_
      have hS := hS.pickN 2 [] (by decide)
      exact ⟨11, hF.weak [0, 1, 2, 3, 4, 11, 12, 13, 14, 15] (by kernel_rfl), hS, hm⟩

end Go.Proofs.Ytlkdblflibgfpaa
