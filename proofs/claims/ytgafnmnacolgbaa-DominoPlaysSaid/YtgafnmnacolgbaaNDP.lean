/-
  Models and walks, printed by our own program (wip/gen).
-/
import Derived.Test.YtgafnmnacolgbaaFB
import Derived.Test.YtgafnmnacolgbaaInB
import Derived.Test.YtgafnmnacolgbaaLibAP
namespace Go.Proofs.Ytgafnmnacolgbaa
open Go Go.GL Go.RowKit


noncomputable def gameroomlaw_pieces_m  (l1 : List (Int × Int)) : Option (List (Int × Int)) :=
  asrt ((0 : Int) + (l1.length : Int) ≤ bigP) <| some (([] : List (Int × Int)) ++ l1)

set_option maxRecDepth 100000 in
set_option maxHeartbeats 4000000 in
theorem gameroomlaw_pieces_w {A1 : Option Addr} {c1 : Nat} {n1 : Nat} {l1 : List (Int × Int)} {r : (List (Int × Int))} {w0 w : World} {B : Nat} {fs : List HP} (hm : gameroomlaw_pieces_m l1 = some r) (hS : Sep w0 B w (fs)) (hr_l1 : RdF w0 B fs A1 ((List.flatMap enc23 l1))) (_hc_l1 : l1.length ≤ c1) (_hn_l1 : n1 = l1.length) :
    Calls Try.prog 14 #[.slice A1 n1 c1] w fun e w' => ∃ v, e = .returned v ∧ ∃ (A3 : Option Addr) (c3 : Nat), v = .slice A3 r.length c3 ∧ Sep w0 B w' (ownK 23 2 A3 r.length c3 (List.flatMap enc23 r) :: fs) := by
  obtain ⟨i23, hi23, hz23, hs23, hb23⟩ := info_parts Info23
  obtain rfl := _hn_l1
  unfold gameroomlaw_pieces_m at hm
  replace hm := start_b hm
  refine enter (l := [.slice A1 l1.length c1]) (n := 5) Try.func14 rfl rfl (by simp) (fun a hF => ?_)
  refine reg [] [] [0] [pl 0 (.slice A1 l1.length c1)] hF hS Fol (by kernel_rfl) (by kernel_rfl) (by kernel_rfl) ?_ (fun a w hF hS => ?_)
  · exact obs_nil
  refine seqR ?_
  obtain ⟨hp1, hm⟩ := asrt_b hm
  refine at_run 1 [] [] [3] [pl 3 (.slice A1 l1.length c1)] hF hS (by kernel_rfl) (by kernel_rfl) ?_ (fun a w hF hS => ?_)
  · exact obs_nil
  have hS : Sep w0 B w (ownK 23 2 none 0 0 (List.flatMap enc23 ([] : List (Int × Int))) :: fs) := hS.nilK 23 2 enc23
  obtain ⟨A2, c2, w, hrun, hS⟩ := run_appK2 (P := Try.prog) (t := 22) (m := ([] : List (Int × Int))) (ys := l1) (A2 := A1) (m2 := l1.length) (c2 := c1) encK23 (hS.at_ 0 rfl) (hr_l1 _ (hS.dropN 1)) rfl 22 Und22 hi23 hz23 hs23 rfl (by omega) hp1
  have hS : Sep w0 B w (ownK 23 2 A2 ((([] : List (Int × Int)) ++ l1).length) c2 (List.flatMap enc23 (([] : List (Int × Int)) ++ l1)) :: fs) := hS
  refine at_do (d := 4) hF (by kernel_rfl) (by kernel_rfl) hrun (fun a hF => ?_)
  refine at_run 1 [] [] [2] [pl 2 (.slice A2 ((([] : List (Int × Int)) ++ l1).length) c2)] hF hS (by kernel_rfl) (by kernel_rfl) ?_ (fun a w hF hS => ?_)
  · exact obs_nil
  refine at_end [2] [pl 2 (.slice A2 ((([] : List (Int × Int)) ++ l1).length) c2)] hF rfl (by kernel_rfl) (fun hF => ?_)
  refine then_n ?_
  refine wpIn_ret ?_
  have hm : some (([] : List (Int × Int)) ++ l1) = some r := hm
  obtain rfl := Option.some.inj hm
  exact retV (rs := [.tmp 2]) (vs := [.slice A2 ((([] : List (Int × Int)) ++ l1).length) c2]) hF rfl (rv_t (by kernel_rfl) <| rv_nil) rfl ⟨_, rfl, A2, c2, rfl, hS⟩

noncomputable def domino_strange_m  (p1 : Int) (p2 : Int) : Option Bool :=
  some ((((decide (p1 < 0)) || (decide ((9 : Int) < p1))) || (decide (p2 < 0))) || (decide ((9 : Int) < p2)))

set_option maxRecDepth 100000 in
set_option maxHeartbeats 4000000 in
theorem domino_strange_w {p1 : Int} {p2 : Int} {r : Bool} {w0 w : World} {B : Nat} {fs : List HP} (hm : domino_strange_m p1 p2 = some r) (hS : Sep w0 B w (fs)) :
    Calls Try.prog 70 #[.agg #[.int .i64 p1, .int .i64 p2]] w fun e w' => e = .returned (.bool r) ∧ Sep w0 B w' (fs) := by
  unfold domino_strange_m at hm
  replace hm := start_b hm
  refine enter (l := [.agg #[.int .i64 p1, .int .i64 p2]]) (n := 21) Try.func70 rfl rfl (by simp) (fun a hF => ?_)
  refine seqR ?_
  refine at_do (d := 1) (s := vS (Instr.box 23 (.agg #[.int .i64 p1, .int .i64 p2]))) (v := .pointer (some ⟨w.heap.size, 0, none⟩)) (w' := w.alloc (.cells #[.int .i64 p1, .int .i64 p2] 23)) hF (by kernel_rfl) (by kernel_rfl) (by kernel_rfl) (fun a hF => ?_)
  have hS : Sep w0 B (w.alloc (.cells #[.int .i64 p1, .int .i64 p2] 23)) (blk w.heap.size 23 #[.int .i64 p1, .int .i64 p2] :: (fs)) := hS.box 23 #[.int .i64 p1, .int .i64 p2]
  generalize w.heap.size = g1 at hF hS
  generalize w.alloc (.cells #[.int .i64 p1, .int .i64 p2] 23) = w at hS ⊢
  refine at_run 1 [] [] [1] [pl 1 (.pointer (some ⟨g1, 0, none⟩))] hF hS (by kernel_rfl) (by kernel_rfl) ?_ (fun a w hF hS => ?_)
  · exact obs_nil
  refine at_end [1] [pl 1 (.pointer (some ⟨g1, 0, none⟩))] hF rfl (by kernel_rfl) (fun hF => ?_)
  refine then_n ?_
  refine reg [⟨false, [], vS (Instr.loadAt 3 (.pointer (some ⟨g1, 0, none⟩))), .int .i64 p1⟩, ⟨false, [(decide (p1 < 0), false)], vS (Instr.loadAt 3 (.pointer (some ⟨g1, 0, none⟩))), .int .i64 p1⟩, ⟨false, [((decide (p1 < 0)) || (decide ((9 : Int) < p1)), false)], vS (Instr.loadAt 3 (.pointer (some ⟨g1, 1, none⟩))), .int .i64 p2⟩, ⟨false, [(((decide (p1 < 0)) || (decide ((9 : Int) < p1))) || (decide (p2 < 0)), false)], vS (Instr.loadAt 3 (.pointer (some ⟨g1, 1, none⟩))), .int .i64 p2⟩] [none, some (.int .i64 p1), none, none, none, some (.int .i64 p1), none, none, none, none, some (.int .i64 p2), none, none, none, none, some (.int .i64 p2), none, none, none] [2] [pl 2 (.bool ((((decide (p1 < 0)) || (decide ((9 : Int) < p1))) || (decide (p2 < 0))) || (decide ((9 : Int) < p2))))] hF hS Fol (by kernel_rfl) (by kernel_rfl) (by kernel_rfl) ?_ (fun a w hF hS => ?_)
  · exact obs_cons (ob_load Agg3 (fun _ _ hS => (hS.at_ 0 rfl).cell rfl)) <| obs_cons (ob_load Agg3 (fun _ _ hS => (hS.at_ 0 rfl).cell rfl)) <| obs_cons (ob_load Agg3 (fun _ _ hS => (hS.at_ 0 rfl).cell rfl)) <| obs_cons (ob_load Agg3 (fun _ _ hS => (hS.at_ 0 rfl).cell rfl)) <| obs_nil
  refine wpIn_ret ?_
  have hS := hS.pickN 1 [] (by decide)
  have hm : some ((((decide (p1 < 0)) || (decide ((9 : Int) < p1))) || (decide (p2 < 0))) || (decide ((9 : Int) < p2))) = some r := hm
  obtain rfl := Option.some.inj hm
  exact retV (rs := [.tmp 2]) (vs := [.bool ((((decide (p1 < 0)) || (decide ((9 : Int) < p1))) || (decide (p2 < 0))) || (decide ((9 : Int) < p2)))]) hF rfl (rv_t (by kernel_rfl) <| rv_nil) rfl ⟨rfl, hS⟩

noncomputable def slices_IndexFunc_J3  (z1 : Int) : Option (St Int (Fl Unit Int)) :=
  some (.next (w64 (z1 + 1)))

noncomputable def slices_IndexFunc_J2  (s1 : List (Int × Int)) (z1 : Int) : Option (St Int (Fl Unit Int)) :=
  asrt (0 ≤ z1 ∧ z1 < (s1.length : Int)) <| (domino_strange_m ((getd ((0, 0) : (Int × Int)) s1 z1).1) ((getd ((0, 0) : (Int × Int)) s1 z1).2)).bind fun r1 => if r1 then (some (.done (.ret z1))) else ((slices_IndexFunc_J3 z1))

noncomputable def slices_IndexFunc_J1  : Option Int :=
  some (-1)

noncomputable def slices_IndexFunc_K1  : (Fl Unit Int) → Option Int :=
  fun (x : (Fl Unit Int)) => match x with | .go _ => slices_IndexFunc_J1 | .ret x => some x

noncomputable def slices_IndexFunc_L1  (s1 : List (Int × Int)) : Int → Option (St Int (Fl Unit Int)) :=
  fun (x : Int) => match x with | z1 => if (decide (z1 < (s1.length : Int))) then ((slices_IndexFunc_J2 s1 z1)) else (some (.done (.go ())))

noncomputable def slices_IndexFunc_m  (s1 : List (Int × Int)) : Option Int :=
  (loop (slices_IndexFunc_L1 s1) 0).bind slices_IndexFunc_K1

set_option maxRecDepth 100000 in
set_option maxHeartbeats 4000000 in
theorem slices_IndexFunc_w {A1 : Option Addr} {c1 : Nat} {n1 : Nat} {s1 : List (Int × Int)} {r : Int} {w0 w : World} {B : Nat} {fs : List HP} (hm : slices_IndexFunc_m s1 = some r) (hS : Sep w0 B w (fs)) (hr_s1 : RdF w0 B fs A1 ((List.flatMap enc23 s1))) (_hc_s1 : s1.length ≤ c1) (_hn_s1 : n1 = s1.length) :
    Calls Try.prog 137 #[.slice A1 n1 c1, .func (.func 70) #[] #[]] w fun e w' => e = .returned (.int .i64 r) ∧ Sep w0 B w' (fs) := by
  obtain ⟨i23, hi23, hz23, hs23, hb23⟩ := info_parts Info23
  obtain rfl := _hn_s1
  unfold slices_IndexFunc_m at hm
  replace hm := start_b hm
  refine enter (l := [.slice A1 s1.length c1, .func (.func 70) #[] #[]]) (n := 19) Try.func137 rfl rfl (by simp) (fun a hF => ?_)
  refine reg [] [] [0, 1] [pl 0 (.slice A1 s1.length c1), pl 1 (.func (.func 70) #[] #[])] hF hS Fol (by kernel_rfl) (by kernel_rfl) (by kernel_rfl) ?_ (fun a w hF hS => ?_)
  · exact obs_nil
  refine seq_cut (fun a w => Fr 19 [] a ∧ Sep w0 B w (fs) ∧ (slices_IndexFunc_J1).bind some = some r) ?_ ?_
  · rintro a w ⟨hF, hS, hm⟩
    unfold slices_IndexFunc_J1 at hm
    refine reg [] [] [4] [pl 4 (.int .i64 (-1))] hF hS Fol (by kernel_rfl) (by kernel_rfl) (by kernel_rfl) ?_ (fun a w hF hS => ?_)
    · exact obs_nil
    refine wpIn_ret ?_
    have hm : some (-1) = some r := hm
    obtain rfl := Option.some.inj hm
    exact retV (rs := [.tmp 4]) (vs := [.int .i64 (-1)]) hF rfl (rv_t (by kernel_rfl) <| rv_nil) rfl ⟨rfl, hS⟩
  · refine reg [] [] [0, 1, 7, 8] [pl 0 (.slice A1 s1.length c1), pl 1 (.func (.func 70) #[] #[]), pl 7 (.int .i64 (s1.length : Int)), pl 8 (.int .i64 0)] hF hS Fol (by kernel_rfl) (by kernel_rfl) (by kernel_rfl) ?_ (fun a w hF hS => ?_)
    · exact obs_nil
    refine wpIn_block ?_
    refine wp_loop_model (S := Int) (R := (Fl Unit Int)) (slices_IndexFunc_L1 s1) (fun x => (slices_IndexFunc_K1 x).bind some) r (fun (x : Int) a w => Fr 19 [pl 0 (.slice A1 s1.length c1), pl 1 (.func (.func 70) #[] #[]), pl 7 (.int .i64 (s1.length : Int)), pl 8 (.int .i64 x)] a ∧ Sep w0 B w (fs)) (assoc_b hm) ⟨hF.weak [0, 1, 7, 8] (by kernel_rfl), hS⟩ ?_
    clear hF hS hm
    rintro nn1 z1 a w ⟨hF, hS⟩ hm
    generalize hφ1 : stK (slices_IndexFunc_L1 s1) nn1 (fun x => (slices_IndexFunc_K1 x).bind some) = φ1 at hm
    unfold slices_IndexFunc_L1 at hm
    dsimp only at hm
    refine reg [] [] [0, 1, 7, 8, 9] [pl 0 (.slice A1 s1.length c1), pl 1 (.func (.func 70) #[] #[]), pl 7 (.int .i64 (s1.length : Int)), pl 8 (.int .i64 z1), pl 9 (.bool (decide (z1 < (s1.length : Int))))] hF hS Fol (by kernel_rfl) (by kernel_rfl) (by kernel_rfl) ?_ (fun a w hF hS => ?_)
    · exact obs_nil
    refine seq_cut (fun a w => Fr 19 [pl 0 (.slice A1 s1.length c1), pl 1 (.func (.func 70) #[] #[]), pl 7 (.int .i64 (s1.length : Int)), pl 8 (.int .i64 z1)] a ∧ Sep w0 B w (fs) ∧ ((slices_IndexFunc_J2 s1 z1)).bind φ1 = some r) ?_ ?_
    · rintro a w ⟨hF, hS, hm⟩
      unfold slices_IndexFunc_J2 at hm
      refine seq_cut (fun a w => Fr 19 [pl 0 (.slice A1 s1.length c1), pl 1 (.func (.func 70) #[] #[]), pl 7 (.int .i64 (s1.length : Int)), pl 8 (.int .i64 z1)] a ∧ Sep w0 B w (fs) ∧ ((slices_IndexFunc_J3 z1)).bind φ1 = some r) ?_ ?_
      · rintro a w ⟨hF, hS, hm⟩
        unfold slices_IndexFunc_J3 at hm
        refine reg1 [] [] [0, 1, 7, 8] [pl 0 (.slice A1 s1.length c1), pl 1 (.func (.func 70) #[] #[]), pl 7 (.int .i64 (s1.length : Int)), pl 8 (.int .i64 (w64 (z1 + 1)))] hF hS Fol (by kernel_rfl) (by kernel_rfl) (by kernel_rfl) ?_ (fun a w hF hS => ?_)
        · exact obs_nil
        refine then_n ?_
        rw [← hφ1] at hm
        exact ⟨(w64 (z1 + 1)), ⟨hF.weak [0, 1, 7, 8] (by kernel_rfl), hS⟩, hm⟩
      · refine wpIn_block ?_
        refine reg [] [] [0, 1, 5, 7, 8] [pl 0 (.slice A1 s1.length c1), pl 1 (.func (.func 70) #[] #[]), pl 5 (.int .i64 z1), pl 7 (.int .i64 (s1.length : Int)), pl 8 (.int .i64 z1)] hF hS Fol (by kernel_rfl) (by kernel_rfl) (by kernel_rfl) ?_ (fun a w hF hS => ?_)
        · exact obs_nil
        obtain ⟨hp1, hm⟩ := asrt_b hm
        obtain ⟨r1, hr1, hm⟩ := call_b hm
        refine reg [⟨true, [], vS (Instr.indexAt 22 (.slice A1 s1.length c1) (.int .i64 z1)), .pointer (some (sAddrK A1 2 z1))⟩, ⟨false, [], vS (Instr.loadAt 23 (.pointer (some (sAddrK A1 2 z1)))), .agg #[.int .i64 ((getd ((0, 0) : (Int × Int)) s1 z1).1), .int .i64 ((getd ((0, 0) : (Int × Int)) s1 z1).2)]⟩, ⟨false, [], callFunc 70 #[.agg #[.int .i64 ((getd ((0, 0) : (Int × Int)) s1 z1).1), .int .i64 ((getd ((0, 0) : (Int × Int)) s1 z1).2)]], .bool r1⟩] [none, none, none, some (.pointer (some (sAddrK A1 2 z1))), some (.agg #[.int .i64 ((getd ((0, 0) : (Int × Int)) s1 z1).1), .int .i64 ((getd ((0, 0) : (Int × Int)) s1 z1).2)]), some (.bool r1)] [0, 1, 5, 7, 8, 16] [pl 0 (.slice A1 s1.length c1), pl 1 (.func (.func 70) #[] #[]), pl 5 (.int .i64 z1), pl 7 (.int .i64 (s1.length : Int)), pl 8 (.int .i64 z1), pl 16 (.bool r1)] hF hS Fol (by kernel_rfl) (by kernel_rfl) (by kernel_rfl) ?_ (fun a w hF hS => ?_)
        · exact obs_cons (ob_ixK (m := s1) encK23 Und22 hi23 hs23 (hr_s1 _ (hS.dropN 0)) rfl (fun _ => hp1)) <| obs_cons (ob_getK (n := s1.length) (m := s1) encK23 ((0, 0) : (Int × Int)) (by kernel_rfl) (by kernel_rfl) (fun _ hS => ⟨_, (hr_s1 _ (hS.dropN 0))⟩) (fun _ hS => rfl) (fun _ => hp1)) <| obs_cons (ob_call Try.func70 (by kernel_rfl) rfl (fun _ _ hS => domino_strange_w hr1 hS )) <| obs_nil
        refine cond_ev (t := 16) (b := r1) hF (by kernel_rfl) (fun hb => ?_) (fun hb => ?_)
        · replace hm := if_t hm hb
          refine reg [] [] [4] [pl 4 (.int .i64 z1)] hF hS Fol (by kernel_rfl) (by kernel_rfl) (by kernel_rfl) ?_ (fun a w hF hS => ?_)
          · exact obs_nil
          refine wpIn_ret ?_
          refine block_r (then_r (then_r (block_r (then_r ?_))))
          rw [← hφ1] at hm
          replace hm := done_b hm
          unfold slices_IndexFunc_K1 at hm
          try dsimp only at hm
          have hm : some z1 = some r := hm
          obtain rfl := Option.some.inj hm
          exact retV (rs := [.tmp 4]) (vs := [.int .i64 z1]) hF rfl (rv_t (by kernel_rfl) <| rv_nil) rfl ⟨rfl, hS⟩
        · replace hm := if_f hm hb
          refine wpIn_skip ?_
          refine block_n ?_
          refine then_n ?_
          exact ⟨hF.weak [0, 1, 7, 8] (by kernel_rfl), hS, hm⟩
    · refine cond_ev (t := 9) (b := decide (z1 < (s1.length : Int))) hF (by kernel_rfl) (fun hb => ?_) (fun hb => ?_)
      · replace hm := if_t hm hb
        refine wpIn_skip ?_
        refine then_n ?_
        exact ⟨hF.weak [0, 1, 7, 8] (by kernel_rfl), hS, hm⟩
      · replace hm := if_f hm hb
        refine wpIn_exit ?_
        refine then_e (then_e (block_e (then_n ?_)))
        rw [← hφ1] at hm
        replace hm := done_b hm
        unfold slices_IndexFunc_K1 at hm
        try dsimp only at hm
        have hm : (slices_IndexFunc_J1).bind some = some r := hm
        exact ⟨hF.weak [] (by kernel_rfl), hS, hm⟩

noncomputable def slices_ContainsFunc_m  (s1 : List (Int × Int)) : Option Bool :=
  (slices_IndexFunc_m s1).bind fun r1 => some (decide ((0 : Int) ≤ r1))

set_option maxRecDepth 100000 in
set_option maxHeartbeats 4000000 in
theorem slices_ContainsFunc_w {A1 : Option Addr} {c1 : Nat} {n1 : Nat} {s1 : List (Int × Int)} {r : Bool} {w0 w : World} {B : Nat} {fs : List HP} (hm : slices_ContainsFunc_m s1 = some r) (hS : Sep w0 B w (fs)) (hr_s1 : RdF w0 B fs A1 ((List.flatMap enc23 s1))) (_hc_s1 : s1.length ≤ c1) (_hn_s1 : n1 = s1.length) :
    Calls Try.prog 69 #[.slice A1 n1 c1, .func (.func 70) #[] #[]] w fun e w' => e = .returned (.bool r) ∧ Sep w0 B w' (fs) := by
  obtain ⟨i23, hi23, hz23, hs23, hb23⟩ := info_parts Info23
  obtain rfl := _hn_s1
  unfold slices_ContainsFunc_m at hm
  replace hm := start_b hm
  refine enter (l := [.slice A1 s1.length c1, .func (.func 70) #[] #[]]) (n := 9) Try.func69 rfl rfl (by simp) (fun a hF => ?_)
  refine reg [] [] [0, 1] [pl 0 (.slice A1 s1.length c1), pl 1 (.func (.func 70) #[] #[])] hF hS Fol (by kernel_rfl) (by kernel_rfl) (by kernel_rfl) ?_ (fun a w hF hS => ?_)
  · exact obs_nil
  obtain ⟨r1, hr1, hm⟩ := call_b hm
  refine reg [⟨false, [], callFunc 137 #[.slice A1 s1.length c1, .func (.func 70) #[] #[]], .int .i64 r1⟩] [none, none, some (.int .i64 r1), none, none] [4] [pl 4 (.bool (decide ((0 : Int) ≤ r1)))] hF hS Fol (by kernel_rfl) (by kernel_rfl) (by kernel_rfl) ?_ (fun a w hF hS => ?_)
  · exact obs_cons (ob_call Try.func137 (by kernel_rfl) rfl (fun _ _ hS => slices_IndexFunc_w hr1 hS (fun _ hS => (hr_s1 _ (hS.dropN 0))) _hc_s1 rfl)) <| obs_nil
  refine wpIn_ret ?_
  have hm : some (decide ((0 : Int) ≤ r1)) = some r := hm
  obtain rfl := Option.some.inj hm
  exact retV (rs := [.tmp 4]) (vs := [.bool (decide ((0 : Int) ≤ r1))]) hF rfl (rv_t (by kernel_rfl) <| rv_nil) rfl ⟨rfl, hS⟩

noncomputable def domino_turned_m  (p1 : Int) (p2 : Int) : Option (Int × Int) :=
  some (p2, p1)

set_option maxRecDepth 100000 in
set_option maxHeartbeats 4000000 in
theorem domino_turned_w {p1 : Int} {p2 : Int} {r : (Int × Int)} {w0 w : World} {B : Nat} {fs : List HP} (hm : domino_turned_m p1 p2 = some r) (hS : Sep w0 B w (fs)) :
    Calls Try.prog 71 #[.agg #[.int .i64 p1, .int .i64 p2]] w fun e w' => e = .returned (.agg #[.int .i64 r.1, .int .i64 r.2]) ∧ Sep w0 B w' (fs) := by
  unfold domino_turned_m at hm
  replace hm := start_b hm
  refine enter (l := [.agg #[.int .i64 p1, .int .i64 p2]]) (n := 8) Try.func71 rfl rfl (by simp) (fun a hF => ?_)
  refine seqR ?_
  refine at_do (d := 1) (s := vS (Instr.box 23 (.agg #[.int .i64 p1, .int .i64 p2]))) (v := .pointer (some ⟨w.heap.size, 0, none⟩)) (w' := w.alloc (.cells #[.int .i64 p1, .int .i64 p2] 23)) hF (by kernel_rfl) (by kernel_rfl) (by kernel_rfl) (fun a hF => ?_)
  have hS : Sep w0 B (w.alloc (.cells #[.int .i64 p1, .int .i64 p2] 23)) (blk w.heap.size 23 #[.int .i64 p1, .int .i64 p2] :: (fs)) := hS.box 23 #[.int .i64 p1, .int .i64 p2]
  generalize w.heap.size = g1 at hF hS
  generalize w.alloc (.cells #[.int .i64 p1, .int .i64 p2] 23) = w at hS ⊢
  refine at_do (d := 2) (s := vS (Instr.alloc 23 true (.tuple #[]))) (v := .pointer (some ⟨w.heap.size, 0, none⟩)) (w' := w.alloc (.cells #[.int .i64 0, .int .i64 0] 23)) hF (by kernel_rfl) (by kernel_rfl) (by kernel_rfl) (fun a hF => ?_)
  have hS : Sep w0 B (w.alloc (.cells #[.int .i64 0, .int .i64 0] 23)) (blk w.heap.size 23 #[.int .i64 0, .int .i64 0] :: (blk g1 23 #[.int .i64 p1, .int .i64 p2] :: fs)) := hS.box 23 #[.int .i64 0, .int .i64 0]
  generalize w.heap.size = g2 at hF hS
  generalize w.alloc (.cells #[.int .i64 0, .int .i64 0] 23) = w at hS ⊢
  refine at_end [1, 2] [pl 1 (.pointer (some ⟨g1, 0, none⟩)), pl 2 (.pointer (some ⟨g2, 0, none⟩))] hF rfl (by kernel_rfl) (fun hF => ?_)
  refine then_n ?_
  refine seqR ?_
  refine at_run 5 [⟨false, [], vS (Instr.loadAt 3 (.pointer (some ⟨g1, 1, none⟩))), .int .i64 p2⟩, ⟨false, [], vS (Instr.loadAt 3 (.pointer (some ⟨g1, 0, none⟩))), .int .i64 p1⟩] [none, some (.int .i64 p2), none, some (.int .i64 p1), none] [2, 7] [pl 2 (.pointer (some ⟨g2, 0, none⟩)), pl 7 (.agg #[.int .i64 p2, .int .i64 p1])] hF hS (by kernel_rfl) (by kernel_rfl) ?_ (fun a w hF hS => ?_)
  · exact obs_cons (ob_load Agg3 (fun _ _ hS => (hS.at_ 1 rfl).cell rfl)) <| obs_cons (ob_load Agg3 (fun _ _ hS => (hS.at_ 1 rfl).cell rfl)) <| obs_nil
  obtain ⟨w, hrun, hS⟩ := run_putA (P := Try.prog) (t := 23) (us := #[.int .i64 p2, .int .i64 p1]) (o := 0) (hS.at_ 0 rfl) (by kernel_rfl) (all_one (by kernel_rfl)) (Nat.le_of_ble_eq_true (by kernel_rfl))
  refine at_skip hF (by kernel_rfl) hrun ?_
  have hS : Sep w0 B w (blk g2 23 #[.int .i64 p2, .int .i64 p1] :: blk g1 23 #[.int .i64 p1, .int .i64 p2] :: fs) := hS
  refine at_end [2] [pl 2 (.pointer (some ⟨g2, 0, none⟩))] hF rfl (by kernel_rfl) (fun hF => ?_)
  refine then_n ?_
  refine wpIn_ret ?_
  have hld0 := run_loadVarA (P := Try.prog) (t := 23) (cs := #[.int .i64 p2, .int .i64 p1]) (by kernel_rfl) (by kernel_rfl) ((hS.at_ 0 rfl).cellsAt 0 (by rfl))
  have hS := hS.pickN 2 [] (by decide)
  have hm : some (p2, p1) = some r := hm
  obtain rfl := Option.some.inj hm
  exact retV (rs := [.cell 2 23]) (vs := [.agg #[.int .i64 p2, .int .i64 p1]]) hF rfl (rv_c (by kernel_rfl) hld0 <| rv_nil) rfl ⟨rfl, hS⟩

noncomputable def slices_Clone_J1  (s1 : List (Int × Int)) : Option (List (Int × Int)) :=
  asrt ((0 : Int) + (s1.length : Int) ≤ bigP) <| some (([] : List (Int × Int)) ++ s1)

noncomputable def slices_Clone_m  (s1 : List (Int × Int)) : Option (List (Int × Int)) :=
  (slices_Clone_J1 s1)

set_option maxRecDepth 100000 in
set_option maxHeartbeats 4000000 in
theorem slices_Clone_w {A1 : Option Addr} {c1 : Nat} {n1 : Nat} {s1 : List (Int × Int)} {r : (List (Int × Int))} {w0 w : World} {B : Nat} {fs : List HP} (hm : slices_Clone_m s1 = some r) (hS : Sep w0 B w (fs)) (hr_s1 : RdF w0 B fs A1 ((List.flatMap enc23 s1))) (_hc_s1 : s1.length ≤ c1) (_hn_s1 : n1 = s1.length) :
    Calls Try.prog 72 #[.slice A1 n1 c1] w fun e w' => ∃ v, e = .returned v ∧ ∃ (A3 : Option Addr) (c3 : Nat), v = .slice A3 r.length c3 ∧ Sep w0 B w' (ownK 23 2 A3 r.length c3 (List.flatMap enc23 r) :: fs) := by
  obtain ⟨i23, hi23, hz23, hs23, hb23⟩ := info_parts Info23
  obtain rfl := _hn_s1
  unfold slices_Clone_m at hm
  replace hm := start_b hm
  refine enter (l := [.slice A1 s1.length c1]) (n := 8) Try.func72 rfl rfl (by simp) (fun a hF => ?_)
  refine reg [] [] [0] [pl 0 (.slice A1 s1.length c1)] hF hS Fol (by kernel_rfl) (by kernel_rfl) (by kernel_rfl) ?_ (fun a w hF hS => ?_)
  · exact obs_nil
  refine seq_cut (fun a w => Fr 8 [pl 0 (.slice A1 s1.length c1)] a ∧ Sep w0 B w (fs) ∧ ((slices_Clone_J1 s1)).bind some = some r) ?_ ?_
  · rintro a w ⟨hF, hS, hm⟩
    unfold slices_Clone_J1 at hm
    refine seqR ?_
    obtain ⟨hp1, hm⟩ := asrt_b hm
    refine at_do (d := 5) (s := vS (Instr.buildSlice 22 0 #[])) (v := .slice (some ⟨w.heap.size, 0, none⟩) 0 0) (w' := w.alloc (.cells #[] 23)) hF (by kernel_rfl) (by kernel_rfl) (by kernel_rfl) (fun a hF => ?_)
    have hS : Sep w0 B (w.alloc (.cells #[] 23)) (ownK 23 2 (some (⟨w.heap.size, 0, none⟩ : Addr)) 0 0 (List.flatMap enc23 ([] : List (Int × Int))) :: (fs)) := hS.litK 23 2 #[] 0 rfl (by omega)
    generalize (some (⟨w.heap.size, 0, none⟩ : Addr)) = g1 at hF hS
    generalize w.alloc (.cells #[] 23) = w at hS ⊢
    refine at_run 1 [] [] [5, 6] [pl 5 (.slice g1 0 0), pl 6 (.slice A1 s1.length c1)] hF hS (by kernel_rfl) (by kernel_rfl) ?_ (fun a w hF hS => ?_)
    · exact obs_nil
    obtain ⟨A2, c2, w, hrun, hS⟩ := run_appK2 (P := Try.prog) (t := 22) (m := ([] : List (Int × Int))) (ys := s1) (A2 := A1) (m2 := s1.length) (c2 := c1) encK23 (hS.at_ 0 rfl) (hr_s1 _ (hS.dropN 1)) rfl 22 Und22 hi23 hz23 hs23 rfl (by omega) hp1
    have hS : Sep w0 B w (ownK 23 2 A2 ((([] : List (Int × Int)) ++ s1).length) c2 (List.flatMap enc23 (([] : List (Int × Int)) ++ s1)) :: fs) := hS
    refine at_do (d := 7) hF (by kernel_rfl) (by kernel_rfl) hrun (fun a hF => ?_)
    refine at_run 1 [] [] [2] [pl 2 (.slice A2 ((([] : List (Int × Int)) ++ s1).length) c2)] hF hS (by kernel_rfl) (by kernel_rfl) ?_ (fun a w hF hS => ?_)
    · exact obs_nil
    refine at_end [2] [pl 2 (.slice A2 ((([] : List (Int × Int)) ++ s1).length) c2)] hF rfl (by kernel_rfl) (fun hF => ?_)
    refine then_n ?_
    refine wpIn_ret ?_
    have hm : some (([] : List (Int × Int)) ++ s1) = some r := hm
    obtain rfl := Option.some.inj hm
    exact retV (rs := [.tmp 2]) (vs := [.slice A2 ((([] : List (Int × Int)) ++ s1).length) c2]) hF rfl (rv_t (by kernel_rfl) <| rv_nil) rfl ⟨_, rfl, A2, c2, rfl, hS⟩
  · refine reg [⟨true, [], vS (binOp .eql 22 (.slice A1 s1.length c1) (.slice none 0 0)), .bool A1.isNone⟩] [none, some (.bool A1.isNone)] [0, 4] [pl 0 (.slice A1 s1.length c1), pl 4 (.bool A1.isNone)] hF hS Fol (by kernel_rfl) (by kernel_rfl) (by kernel_rfl) ?_ (fun a w hF hS => ?_)
    · exact obs_cons (ob_isnil Und22 rfl) <| obs_nil
    refine cond_ev (t := 4) (b := A1.isNone) hF (by kernel_rfl) (fun hb => ?_) (fun hb => ?_)
    · have hA9 := Option.isNone_iff_eq_none.1 hb
      have hnil9 : s1 = [] := by have h9 := (hr_s1 _ (hS.dropN 0)); rw [hA9] at h9; exact none_nilK encK23 h9
      have hm : (some ([] : List (Int × Int))).bind some = some r := by rw [hnil9] at hm; simpa [asrt, bigN, bigP, slices_Clone_J1] using hm
      refine reg [] [] [2] [pl 2 (.slice none 0 0)] hF hS Fol (by kernel_rfl) (by kernel_rfl) (by kernel_rfl) ?_ (fun a w hF hS => ?_)
      · exact obs_nil
      refine wpIn_ret ?_
      refine then_r ?_
      have hS : Sep w0 B w (ownK 23 2 none 0 0 (List.flatMap enc23 ([] : List (Int × Int))) :: fs) := hS.nilK 23 2 enc23
      have hl1 := (hS.at_ 0 rfl).lenK encK23
      have hS := (hS.at_ 0 rfl).reNK hl1
      have hS : Sep w0 B w (ownK 23 2 none (([] : List (Int × Int)).length) 0 (List.flatMap enc23 ([] : List (Int × Int))) :: fs) := hS
      have hm : some ([] : List (Int × Int)) = some r := hm
      obtain rfl := Option.some.inj hm
      exact retV (rs := [.tmp 2]) (vs := [.slice none (([] : List (Int × Int)).length) 0]) hF rfl (rv_t (by kernel_rfl) <| rv_nil) rfl ⟨_, rfl, none, 0, rfl, hS⟩
    · refine wpIn_skip ?_
      refine then_n ?_
      exact ⟨hF.weak [0] (by kernel_rfl), hS, hm⟩

noncomputable def slices_Insert_3_m (s1 : List (Int × Int)) (i1 : Int) (v1 : List (Int × Int)) : Option (List (Int × Int)) :=
  asrt (i1 = 0) <| asrt (v1.length = 1) <| asrt (0 < s1.length ∧ (s1.length : Int) ≤ bigK) <| some (v1 ++ s1)

theorem slices_Insert_3_w {A1 : Option Addr} {c1 : Nat} {n1 : Nat} {s1 : List (Int × Int)} {i1 : Int} {A2 : Option Addr} {c2 : Nat} {n2 : Nat} {v1 : List (Int × Int)} {r : (List (Int × Int))} {w0 w : World} {B : Nat} {fs : List HP} (hm : slices_Insert_3_m s1 i1 v1 = some r) (hS : Sep w0 B w (ownK 23 2 A1 n1 c1 (List.flatMap enc23 s1) :: ownK 23 2 A2 n2 c2 (List.flatMap enc23 v1) :: fs)) :
    Calls Try.prog 73 #[.slice A1 n1 c1, .int .i64 i1, .slice A2 n2 c2] w fun e w' => ∃ v, e = .returned v ∧ ∃ (A3 : Option Addr) (c3 : Nat), v = .slice A3 r.length c3 ∧ Sep w0 B w' (ownK 23 2 A3 r.length c3 (List.flatMap enc23 r) :: ownK 23 2 A2 n2 c2 (List.flatMap enc23 v1) :: fs) := by
  unfold slices_Insert_3_m at hm
  obtain ⟨hi, hm⟩ := asrt_b (start_b hm)
  obtain ⟨hv, hm⟩ := asrt_b hm
  obtain ⟨hb, hm⟩ := asrt_b hm
  obtain rfl := Option.some.inj hm
  exact insP_own encK23 hS hi hv hb

noncomputable def domino_Play_J4  (i1 : Int) : Option (St Int (Fl Unit (List (Int × Int) × Int))) :=
  some (.next (w64 (i1 + 1)))

noncomputable def domino_Play_J3  (row1 : List (Int × Int)) (i1 : Int) : Option (St Int (Fl Unit (List (Int × Int) × Int))) :=
  asrt (0 ≤ (w64 (i1 - 1)) ∧ (w64 (i1 - 1)) < (row1.length : Int)) <| asrt (0 ≤ i1 ∧ i1 < (row1.length : Int)) <| if (((getd ((0, 0) : (Int × Int)) row1 (w64 (i1 - 1))).2) != ((getd ((0, 0) : (Int × Int)) row1 i1).1)) then (some (.done (.ret (([] : List (Int × Int)), 1)))) else ((domino_Play_J4 i1))

noncomputable def domino_Play_J10  (z3 : List (Int × Int)) : Option (St Int (Fl Unit (List (Int × Int) × Int))) :=
  some (.done (.ret (z3, 0)))

noncomputable def domino_Play_J11  (z4 : List (Int × Int)) : Option (St Int (Fl Unit (List (Int × Int) × Int))) :=
  some (.done (.ret (z4, 0)))

noncomputable def domino_Play_J9  (z2 : Int) : Option (St Int (Fl Unit (List (Int × Int) × Int))) :=
  some (.next (w64 (z2 + 1)))

noncomputable def domino_Play_J8  (row1 : List (Int × Int)) (right1 : Bool) (z1 : List (Int × Int)) (z2 : Int) : Option (St Int (Fl Unit (List (Int × Int) × Int))) :=
  asrt (0 ≤ z2 ∧ z2 < (z1.length : Int)) <| asrt (right1 = true → 0 ≤ (w64 ((row1.length : Int) - 1)) ∧ (w64 ((row1.length : Int) - 1)) < (row1.length : Int)) <| if (right1 && (((getd ((0, 0) : (Int × Int)) row1 (w64 ((row1.length : Int) - 1))).2) == ((getd ((0, 0) : (Int × Int)) z1 z2).1))) then ((slices_Clone_m row1).bind fun r4 => asrt ((r4.length : Int) + 1 ≤ bigP) <| domino_Play_J10 (r4 ++ ([(getd ((0, 0) : (Int × Int)) z1 z2)] : List (Int × Int)))) else (asrt ((!right1) = true → 0 ≤ (0 : Int) ∧ (0 : Int) < (row1.length : Int)) <| if ((!right1) && (((getd ((0, 0) : (Int × Int)) z1 z2).2) == ((getd ((0, 0) : (Int × Int)) row1 0).1))) then ((slices_Clone_m row1).bind fun r5 => (slices_Insert_3_m r5 0 ([(getd ((0, 0) : (Int × Int)) z1 z2)] : List (Int × Int))).bind fun r6 => domino_Play_J11 r6) else ((domino_Play_J9 z2)))

noncomputable def domino_Play_L2  (row1 : List (Int × Int)) (right1 : Bool) (z1 : List (Int × Int)) : Int → Option (St Int (Fl Unit (List (Int × Int) × Int))) :=
  fun (x : Int) => match x with | z2 => if (decide (z2 < 2)) then ((domino_Play_J8 row1 right1 z1 z2)) else (some (.done (.go ())))

noncomputable def domino_Play_J6  : Option (List (Int × Int) × Int) :=
  some (([] : List (Int × Int)), 10)

noncomputable def domino_Play_K2  : (Fl Unit (List (Int × Int) × Int)) → Option (List (Int × Int) × Int) :=
  fun (x : (Fl Unit (List (Int × Int) × Int))) => match x with | .go _ => domino_Play_J6 | .ret x => some x

noncomputable def domino_Play_J7  (row1 : List (Int × Int)) (right1 : Bool) (z1 : List (Int × Int)) : Option (List (Int × Int) × Int) :=
  (loop (domino_Play_L2 row1 right1 z1) 0).bind domino_Play_K2

noncomputable def domino_Play_J5  (row1 : List (Int × Int)) (p1 : Int) (p2 : Int) (right1 : Bool) : Option (List (Int × Int) × Int) :=
  (domino_turned_m p1 p2).bind fun r3 => (domino_Play_J7 row1 right1) ([(p1, p2), r3] : List (Int × Int))

noncomputable def domino_Play_J2  (row1 : List (Int × Int)) (p1 : Int) (p2 : Int) (right1 : Bool) : Option (List (Int × Int) × Int) :=
  if ((row1.length : Int) == 0) then (some (([(p1, p2)] : List (Int × Int)), 0)) else ((domino_Play_J5 row1 p1 p2 right1))

noncomputable def domino_Play_K1  (row1 : List (Int × Int)) (p1 : Int) (p2 : Int) (right1 : Bool) : (Fl Unit (List (Int × Int) × Int)) → Option (List (Int × Int) × Int) :=
  fun (x : (Fl Unit (List (Int × Int) × Int))) => match x with | .go _ => (domino_Play_J2 row1 p1 p2 right1) | .ret x => some x

noncomputable def domino_Play_L1  (row1 : List (Int × Int)) : Int → Option (St Int (Fl Unit (List (Int × Int) × Int))) :=
  fun (x : Int) => match x with | i1 => if (decide (i1 < (row1.length : Int))) then ((domino_Play_J3 row1 i1)) else (some (.done (.go ())))

noncomputable def domino_Play_J1  (row1 : List (Int × Int)) (p1 : Int) (p2 : Int) (right1 : Bool) : Option (List (Int × Int) × Int) :=
  (loop (domino_Play_L1 row1) 1).bind (domino_Play_K1 row1 p1 p2 right1)

noncomputable def domino_Play_m  (row1 : List (Int × Int)) (p1 : Int) (p2 : Int) (right1 : Bool) : Option (List (Int × Int) × Int) :=
  if (decide ((60 : Int) ≤ (row1.length : Int))) then (some (([] : List (Int × Int)), 2)) else ((slices_ContainsFunc_m row1).bind fun r1 => ((if (!r1) then domino_strange_m p1 p2 else some false)).bind fun r2 => if (r1 || r2) then (some (([] : List (Int × Int)), 3)) else ((domino_Play_J1 row1 p1 p2 right1)))

set_option maxRecDepth 100000 in
set_option maxHeartbeats 4000000 in
theorem domino_Play_w {A1 : Option Addr} {c1 : Nat} {n1 : Nat} {row1 : List (Int × Int)} {p1 : Int} {p2 : Int} {right1 : Bool} {r : (List (Int × Int) × Int)} {w0 w : World} {B : Nat} {fs : List HP} (hm : domino_Play_m row1 p1 p2 right1 = some r) (hS : Sep w0 B w (fs)) (hr_row1 : RdF w0 B fs A1 ((List.flatMap enc23 row1))) (_hc_row1 : row1.length ≤ c1) (_hn_row1 : n1 = row1.length) :
    Calls Try.prog 13 #[.slice A1 n1 c1, .agg #[.int .i64 p1, .int .i64 p2], .bool right1] w fun e w' => ∃ v, e = .returned v ∧ ∃ (A13 : Option Addr) (c13 : Nat), v = .tuple #[.slice A13 r.1.length c13, .int .i64 r.2] ∧ Sep w0 B w' (ownK 23 2 A13 r.1.length c13 (List.flatMap enc23 r.1) :: fs) := by
  obtain ⟨i23, hi23, hz23, hs23, hb23⟩ := info_parts Info23
  obtain rfl := _hn_row1
  unfold domino_Play_m at hm
  replace hm := start_b hm
  refine enter (l := [.slice A1 row1.length c1, .agg #[.int .i64 p1, .int .i64 p2], .bool right1]) (n := 91) Try.func13 rfl rfl (by simp) (fun a hF => ?_)
  refine seqR ?_
  refine at_do (d := 4) (s := vS (Instr.box 23 (.agg #[.int .i64 p1, .int .i64 p2]))) (v := .pointer (some ⟨w.heap.size, 0, none⟩)) (w' := w.alloc (.cells #[.int .i64 p1, .int .i64 p2] 23)) hF (by kernel_rfl) (by kernel_rfl) (by kernel_rfl) (fun a hF => ?_)
  have hS : Sep w0 B (w.alloc (.cells #[.int .i64 p1, .int .i64 p2] 23)) (blk w.heap.size 23 #[.int .i64 p1, .int .i64 p2] :: (fs)) := hS.box 23 #[.int .i64 p1, .int .i64 p2]
  generalize w.heap.size = g1 at hF hS
  generalize w.alloc (.cells #[.int .i64 p1, .int .i64 p2] 23) = w at hS ⊢
  refine at_run 2 [] [] [0, 2, 4] [pl 0 (.slice A1 row1.length c1), pl 2 (.bool right1), pl 4 (.pointer (some ⟨g1, 0, none⟩))] hF hS (by kernel_rfl) (by kernel_rfl) ?_ (fun a w hF hS => ?_)
  · exact obs_nil
  refine at_end [0, 2, 4] [pl 0 (.slice A1 row1.length c1), pl 2 (.bool right1), pl 4 (.pointer (some ⟨g1, 0, none⟩))] hF rfl (by kernel_rfl) (fun hF => ?_)
  refine then_n ?_
  refine seq_cut (fun a w => Fr 91 [pl 0 (.slice A1 row1.length c1), pl 2 (.bool right1), pl 4 (.pointer (some ⟨g1, 0, none⟩))] a ∧ Sep w0 B w (blk g1 23 #[.int .i64 p1, .int .i64 p2] :: fs) ∧ ((domino_Play_J1 row1 p1 p2 right1)).bind some = some r) ?_ ?_
  · rintro a w ⟨hF, hS, hm⟩
    unfold domino_Play_J1 at hm
    refine seq_cut (fun a w => Fr 91 [pl 0 (.slice A1 row1.length c1), pl 2 (.bool right1), pl 4 (.pointer (some ⟨g1, 0, none⟩))] a ∧ Sep w0 B w (blk g1 23 #[.int .i64 p1, .int .i64 p2] :: fs) ∧ ((domino_Play_J2 row1 p1 p2 right1)).bind some = some r) ?_ ?_
    · rintro a w ⟨hF, hS, hm⟩
      unfold domino_Play_J2 at hm
      refine seq_cut (fun a w => Fr 91 [pl 0 (.slice A1 row1.length c1), pl 2 (.bool right1), pl 4 (.pointer (some ⟨g1, 0, none⟩))] a ∧ Sep w0 B w (blk g1 23 #[.int .i64 p1, .int .i64 p2] :: fs) ∧ ((domino_Play_J5 row1 p1 p2 right1)).bind some = some r) ?_ ?_
      · rintro a w ⟨hF, hS, hm⟩
        unfold domino_Play_J5 at hm
        refine seq_cut (fun a w => Fr 91 [] a ∧ Sep w0 B w (fs) ∧ (domino_Play_J6).bind some = some r) ?_ ?_
        · rintro a w ⟨hF, hS, hm⟩
          unfold domino_Play_J6 at hm
          refine reg [] [] [6, 7] [pl 6 (.slice none 0 0), pl 7 (.int .i64 10)] hF hS Fol (by kernel_rfl) (by kernel_rfl) (by kernel_rfl) ?_ (fun a w hF hS => ?_)
          · exact obs_nil
          refine wpIn_ret ?_
          have hS : Sep w0 B w (ownK 23 2 none 0 0 (List.flatMap enc23 ([] : List (Int × Int))) :: fs) := hS.nilK 23 2 enc23
          have hl6 := (hS.at_ 0 rfl).lenK encK23
          have hS := (hS.at_ 0 rfl).reNK hl6
          have hS : Sep w0 B w (ownK 23 2 none (([] : List (Int × Int)).length) 0 (List.flatMap enc23 ([] : List (Int × Int))) :: fs) := hS
          have hm : some (([] : List (Int × Int)), 10) = some r := hm
          obtain rfl := Option.some.inj hm
          exact retV (rs := [.tmp 6, .tmp 7]) (vs := [.slice none (([] : List (Int × Int)).length) 0, .int .i64 10]) hF rfl (rv_t (by kernel_rfl) <| rv_t (by kernel_rfl) <| rv_nil) rfl ⟨_, rfl, none, 0, rfl, hS⟩
        · refine seq_cut (fun a w => ∃ (z1 : List (Int × Int)) (A2 : Option Addr) (c2 : Nat), Fr 91 [pl 0 (.slice A1 row1.length c1), pl 2 (.bool right1), pl 48 (.slice A2 z1.length c2), pl 49 (.int .i64 2), pl 50 (.int .i64 0)] a ∧ Sep w0 B w (ownK 23 2 A2 z1.length c2 (List.flatMap enc23 z1) :: fs) ∧ ((domino_Play_J7 row1 right1) z1).bind some = some r) ?_ ?_
          · rintro a w ⟨z1, A2, c2, hF, hS, hm⟩
            unfold domino_Play_J7 at hm
            refine wpIn_block ?_
            refine wp_loop_model (S := Int) (R := (Fl Unit (List (Int × Int) × Int))) (domino_Play_L2 row1 right1 z1) (fun x => (domino_Play_K2 x).bind some) r (fun (x : Int) a w => Fr 91 [pl 0 (.slice A1 row1.length c1), pl 2 (.bool right1), pl 48 (.slice A2 z1.length c2), pl 49 (.int .i64 2), pl 50 (.int .i64 x)] a ∧ Sep w0 B w (ownK 23 2 A2 z1.length c2 (List.flatMap enc23 z1) :: fs)) (assoc_b hm) ⟨hF.weak [0, 2, 48, 49, 50] (by kernel_rfl), hS⟩ ?_
            clear hF hS hm
            rintro nn2 z2 a w ⟨hF, hS⟩ hm
            generalize hφ2 : stK (domino_Play_L2 row1 right1 z1) nn2 (fun x => (domino_Play_K2 x).bind some) = φ2 at hm
            unfold domino_Play_L2 at hm
            dsimp only at hm
            refine reg [] [] [0, 2, 48, 49, 50, 51] [pl 0 (.slice A1 row1.length c1), pl 2 (.bool right1), pl 48 (.slice A2 z1.length c2), pl 49 (.int .i64 2), pl 50 (.int .i64 z2), pl 51 (.bool (decide (z2 < 2)))] hF hS Fol (by kernel_rfl) (by kernel_rfl) (by kernel_rfl) ?_ (fun a w hF hS => ?_)
            · exact obs_nil
            refine seq_cut (fun a w => Fr 91 [pl 0 (.slice A1 row1.length c1), pl 2 (.bool right1), pl 48 (.slice A2 z1.length c2), pl 49 (.int .i64 2), pl 50 (.int .i64 z2)] a ∧ Sep w0 B w (ownK 23 2 A2 z1.length c2 (List.flatMap enc23 z1) :: fs) ∧ ((domino_Play_J8 row1 right1 z1 z2)).bind φ2 = some r) ?_ ?_
            · rintro a w ⟨hF, hS, hm⟩
              unfold domino_Play_J8 at hm
              refine seq_cut (fun a w => Fr 91 [pl 0 (.slice A1 row1.length c1), pl 2 (.bool right1), pl 48 (.slice A2 z1.length c2), pl 49 (.int .i64 2), pl 50 (.int .i64 z2)] a ∧ Sep w0 B w (ownK 23 2 A2 z1.length c2 (List.flatMap enc23 z1) :: fs) ∧ ((domino_Play_J9 z2)).bind φ2 = some r) ?_ ?_
              · rintro a w ⟨hF, hS, hm⟩
                unfold domino_Play_J9 at hm
                refine reg1 [] [] [0, 2, 48, 49, 50] [pl 0 (.slice A1 row1.length c1), pl 2 (.bool right1), pl 48 (.slice A2 z1.length c2), pl 49 (.int .i64 2), pl 50 (.int .i64 (w64 (z2 + 1)))] hF hS Fol (by kernel_rfl) (by kernel_rfl) (by kernel_rfl) ?_ (fun a w hF hS => ?_)
                · exact obs_nil
                refine then_n ?_
                rw [← hφ2] at hm
                exact ⟨(w64 (z2 + 1)), ⟨hF.weak [0, 2, 48, 49, 50] (by kernel_rfl), hS⟩, hm⟩
              · refine wpIn_block ?_
                refine seqR ?_
                obtain ⟨hp3, hm⟩ := asrt_b hm
                refine at_run 2 [⟨true, [], vS (Instr.indexAt 22 (.slice A2 z1.length c2) (.int .i64 z2)), .pointer (some (sAddrK A2 2 z2))⟩, ⟨false, [], vS (Instr.loadAt 23 (.pointer (some (sAddrK A2 2 z2)))), .agg #[.int .i64 ((getd ((0, 0) : (Int × Int)) z1 z2).1), .int .i64 ((getd ((0, 0) : (Int × Int)) z1 z2).2)]⟩] [some (.pointer (some (sAddrK A2 2 z2))), some (.agg #[.int .i64 ((getd ((0, 0) : (Int × Int)) z1 z2).1), .int .i64 ((getd ((0, 0) : (Int × Int)) z1 z2).2)])] [0, 2, 48, 49, 50, 53] [pl 0 (.slice A1 row1.length c1), pl 2 (.bool right1), pl 48 (.slice A2 z1.length c2), pl 49 (.int .i64 2), pl 50 (.int .i64 z2), pl 53 (.agg #[.int .i64 ((getd ((0, 0) : (Int × Int)) z1 z2).1), .int .i64 ((getd ((0, 0) : (Int × Int)) z1 z2).2)])] hF hS (by kernel_rfl) (by kernel_rfl) ?_ (fun a w hF hS => ?_)
                · exact obs_cons (ob_ixK (m := z1) encK23 Und22 hi23 hs23 (hS.at_ 0 rfl).rdK rfl (fun _ => hp3)) <| obs_cons (ob_getK (n := z1.length) (m := z1) encK23 ((0, 0) : (Int × Int)) (by kernel_rfl) (by kernel_rfl) (fun _ hS => ⟨_, (hS.at_ 0 rfl).rdK⟩) (fun _ hS => rfl) (fun _ => hp3)) <| obs_nil
                refine at_do (d := 10) (s := vS (Instr.alloc 23 true (.tuple #[]))) (v := .pointer (some ⟨w.heap.size, 0, none⟩)) (w' := w.alloc (.cells #[.int .i64 0, .int .i64 0] 23)) hF (by kernel_rfl) (by kernel_rfl) (by kernel_rfl) (fun a hF => ?_)
                have hS : Sep w0 B (w.alloc (.cells #[.int .i64 0, .int .i64 0] 23)) (blk w.heap.size 23 #[.int .i64 0, .int .i64 0] :: (ownK 23 2 A2 z1.length c2 (List.flatMap enc23 z1) :: fs)) := hS.box 23 #[.int .i64 0, .int .i64 0]
                generalize w.heap.size = g4 at hF hS
                generalize w.alloc (.cells #[.int .i64 0, .int .i64 0] 23) = w at hS ⊢
                obtain ⟨w, hrun, hS⟩ := run_putA (P := Try.prog) (t := 23) (us := #[.int .i64 ((getd ((0, 0) : (Int × Int)) z1 z2).1), .int .i64 ((getd ((0, 0) : (Int × Int)) z1 z2).2)]) (o := 0) (hS.at_ 0 rfl) (by kernel_rfl) (all_one (by kernel_rfl)) (Nat.le_of_ble_eq_true (by kernel_rfl))
                refine at_skip hF (by kernel_rfl) hrun ?_
                have hS : Sep w0 B w (blk g4 23 #[.int .i64 ((getd ((0, 0) : (Int × Int)) z1 z2).1), .int .i64 ((getd ((0, 0) : (Int × Int)) z1 z2).2)] :: ownK 23 2 A2 z1.length c2 (List.flatMap enc23 z1) :: fs) := hS
                refine at_end [0, 2, 10, 48, 49, 50] [pl 0 (.slice A1 row1.length c1), pl 2 (.bool right1), pl 10 (.pointer (some ⟨g4, 0, none⟩)), pl 48 (.slice A2 z1.length c2), pl 49 (.int .i64 2), pl 50 (.int .i64 z2)] hF rfl (by kernel_rfl) (fun hF => ?_)
                refine then_n ?_
                refine wpIn_block ?_
                obtain ⟨hp4, hm⟩ := asrt_b hm
                refine reg [⟨true, [(right1, true)], vS (Instr.indexAt 22 (.slice A1 row1.length c1) (.int .i64 (w64 ((row1.length : Int) - 1)))), .pointer (some (sAddrK A1 2 (w64 ((row1.length : Int) - 1))))⟩, ⟨false, [(right1, true)], vS (Instr.loadAt 3 (.pointer (some (Addr.add (sAddrK A1 2 (w64 ((row1.length : Int) - 1))) 1)))), .int .i64 ((getd ((0, 0) : (Int × Int)) row1 (w64 ((row1.length : Int) - 1))).2)⟩, ⟨false, [(right1, true)], vS (Instr.loadAt 3 (.pointer (some ⟨g4, 0, none⟩))), .int .i64 ((getd ((0, 0) : (Int × Int)) z1 z2).1)⟩] [none, none, none, none, none, none, some (.pointer (some (sAddrK A1 2 (w64 ((row1.length : Int) - 1))))), none, some (.int .i64 ((getd ((0, 0) : (Int × Int)) row1 (w64 ((row1.length : Int) - 1))).2)), none, some (.int .i64 ((getd ((0, 0) : (Int × Int)) z1 z2).1)), none, none, none] [0, 2, 10, 48, 49, 50, 54] [pl 0 (.slice A1 row1.length c1), pl 2 (.bool right1), pl 10 (.pointer (some ⟨g4, 0, none⟩)), pl 48 (.slice A2 z1.length c2), pl 49 (.int .i64 2), pl 50 (.int .i64 z2), pl 54 (.bool (right1 && (((getd ((0, 0) : (Int × Int)) row1 (w64 ((row1.length : Int) - 1))).2) == ((getd ((0, 0) : (Int × Int)) z1 z2).1))))] hF hS Fol (by kernel_rfl) (by kernel_rfl) (by kernel_rfl) ?_ (fun a w hF hS => ?_)
                · exact obs_cons (ob_ixK (m := row1) encK23 Und22 hi23 hs23 (hr_row1 _ (hS.dropN 2)) rfl (fun hy => hp4 (hy (right1, true) (by simp)))) <| obs_cons (ob_getF (n := row1.length) (m := row1) (j := 1) encK23 ((0, 0) : (Int × Int)) Agg3 (fun _ hS => ⟨_, (hr_row1 _ (hS.dropN 2))⟩) (fun _ hS => rfl) (fun hy => hp4 (hy (right1, true) (by simp))) (by decide) rfl) <| obs_cons (ob_load Agg3 (fun _ _ hS => (hS.at_ 0 rfl).cell rfl)) <| obs_nil
                refine cond_ev (t := 54) (b := right1 && (((getd ((0, 0) : (Int × Int)) row1 (w64 ((row1.length : Int) - 1))).2) == ((getd ((0, 0) : (Int × Int)) z1 z2).1))) hF (by kernel_rfl) (fun hb => ?_) (fun hb => ?_)
                · replace hm := if_t hm hb
                  refine seq_cut (fun a w => ∃ (z3 : List (Int × Int)) (A6 : Option Addr) (c6 : Nat), Fr 91 [pl 6 (.slice A6 z3.length c6), pl 7 (.int .i64 0)] a ∧ Sep w0 B w (ownK 23 2 A6 z3.length c6 (List.flatMap enc23 z3) :: fs) ∧ (domino_Play_J10 z3).bind φ2 = some r) ?_ ?_
                  · rintro a w ⟨z3, A6, c6, hF, hS, hm⟩
                    unfold domino_Play_J10 at hm
                    refine wpIn_ret ?_
                    refine block_r (block_r (then_r (then_r (block_r (then_r ?_)))))
                    rw [← hφ2] at hm
                    replace hm := done_b hm
                    unfold domino_Play_K2 at hm
                    try dsimp only at hm
                    have hm : some (z3, 0) = some r := hm
                    obtain rfl := Option.some.inj hm
                    exact retV (rs := [.tmp 6, .tmp 7]) (vs := [.slice A6 z3.length c6, .int .i64 0]) hF rfl (rv_t (by kernel_rfl) <| rv_t (by kernel_rfl) <| rv_nil) rfl ⟨_, rfl, A6, c6, rfl, hS⟩
                  · obtain ⟨r4, hr4, hm⟩ := call_b hm
                    obtain ⟨hp5, hm⟩ := asrt_b hm
                    refine regMix5 [0, 2] [] 5 #[true, false, true, false, false, false, false] [⟨false, [], vS (Instr.loadAt 23 (.pointer (some ⟨g4, 0, none⟩))), .agg #[.int .i64 ((getd ((0, 0) : (Int × Int)) z1 z2).1), .int .i64 ((getd ((0, 0) : (Int × Int)) z1 z2).2)]⟩] [none, some (.agg #[.int .i64 ((getd ((0, 0) : (Int × Int)) z1 z2).1), .int .i64 ((getd ((0, 0) : (Int × Int)) z1 z2).2)])] [68, 70] [pl 68 (.slice A1 row1.length c1), pl 70 (.agg #[.int .i64 ((getd ((0, 0) : (Int × Int)) z1 z2).1), .int .i64 ((getd ((0, 0) : (Int × Int)) z1 z2).2)])] hF hS Fol (by kernel_rfl) (by kernel_rfl) (by kernel_rfl) (by kernel_rfl) ?_ (fun a w hF hS => ?_)
                    · exact obs_cons (ob_loadA (cs := #[.int .i64 ((getd ((0, 0) : (Int × Int)) z1 z2).1), .int .i64 ((getd ((0, 0) : (Int × Int)) z1 z2).2)]) (by kernel_rfl) (by kernel_rfl) (fun _ _ hS => (hS.at_ 0 rfl).cellsAt 0 (by rfl))) <| obs_nil
                    refine any_step [1, 3] (by kernel_rfl) rfl ?_
                    refine (all_cons ?_ (all_cons ?_ all_nil))
                    · refine any_op (listed' := #[true, true, true, false, false, false, false]) (by kernel_rfl) (by kernel_rfl) ?_
                      refine at_call (f := 72) (args := #[.slice A1 row1.length c1]) (d := 69) hF (by kernel_rfl) (by kernel_rfl) Try.func72 (by kernel_rfl) rfl (slices_Clone_w hr4 hS (fun _ hS => (hr_row1 _ (hS.dropN 2))) _hc_row1 rfl) (fun v a w hR hF => ?_)
                      clear hS
                      obtain ⟨A5, c5, rfl, hS⟩ := hR
                      have hS : Sep w0 B w (ownK 23 2 A5 r4.length c5 (List.flatMap enc23 r4) :: blk g4 23 #[.int .i64 ((getd ((0, 0) : (Int × Int)) z1 z2).1), .int .i64 ((getd ((0, 0) : (Int × Int)) z1 z2).2)] :: ownK 23 2 A2 z1.length c2 (List.flatMap enc23 z1) :: fs) := hS
                      refine any_fin rfl (hS.pickN 3 [1, 2] (by decide)) ?_
                      refine any_step [3] (by kernel_rfl) rfl ?_
                      refine (all_cons ?_ all_nil)
                      · refine any_op (listed' := #[true, true, true, true, false, false, false]) (by kernel_rfl) (by kernel_rfl) ?_
                        refine at_do (d := 71) (s := vS (Instr.buildSlice 22 1 #[(0, .agg #[.int .i64 ((getd ((0, 0) : (Int × Int)) z1 z2).1), .int .i64 ((getd ((0, 0) : (Int × Int)) z1 z2).2)])])) (v := .slice (some ⟨w.heap.size, 0, none⟩) 1 1) (w' := w.alloc (.cells #[.int .i64 ((getd ((0, 0) : (Int × Int)) z1 z2).1), .int .i64 ((getd ((0, 0) : (Int × Int)) z1 z2).2)] 23)) hF (by kernel_rfl) (by kernel_rfl) (by kernel_rfl) (fun a hF => ?_)
                        have hS : Sep w0 B (w.alloc (.cells #[.int .i64 ((getd ((0, 0) : (Int × Int)) z1 z2).1), .int .i64 ((getd ((0, 0) : (Int × Int)) z1 z2).2)] 23)) (ownK 23 2 (some (⟨w.heap.size, 0, none⟩ : Addr)) 1 1 (List.flatMap enc23 ([(getd ((0, 0) : (Int × Int)) z1 z2)] : List (Int × Int))) :: (ownK 23 2 A5 r4.length c5 (List.flatMap enc23 r4) :: blk g4 23 #[.int .i64 ((getd ((0, 0) : (Int × Int)) z1 z2).1), .int .i64 ((getd ((0, 0) : (Int × Int)) z1 z2).2)] :: ownK 23 2 A2 z1.length c2 (List.flatMap enc23 z1) :: fs)) := hS.litK 23 2 #[.int .i64 ((getd ((0, 0) : (Int × Int)) z1 z2).1), .int .i64 ((getd ((0, 0) : (Int × Int)) z1 z2).2)] 1 rfl (by omega)
                        generalize (some (⟨w.heap.size, 0, none⟩ : Addr)) = g5 at hF hS
                        generalize w.alloc (.cells #[.int .i64 ((getd ((0, 0) : (Int × Int)) z1 z2).1), .int .i64 ((getd ((0, 0) : (Int × Int)) z1 z2).2)] 23) = w at hS ⊢
                        refine any_fin rfl (hS.pickN 4 [2, 3] (by decide)) ?_
                        refine any_step [4] (by kernel_rfl) rfl ?_
                        refine (all_cons ?_ all_nil)
                        · refine any_op (listed' := #[true, true, true, true, true, false, false]) (by kernel_rfl) (by kernel_rfl) ?_
                          obtain ⟨A4, c4, w, hrun, hS⟩ := run_appK2 (P := Try.prog) (t := 22) (m := r4) (ys := ([(getd ((0, 0) : (Int × Int)) z1 z2)] : List (Int × Int))) (A2 := g5) (m2 := 1) (c2 := 1) encK23 (hS.at_ 1 rfl) (hS.at_ 0 rfl).rdK ((hS.at_ 0 rfl).lenK encK23) 22 Und22 hi23 hz23 hs23 rfl (by omega) hp5
                          have hS : Sep w0 B w (ownK 23 2 g5 1 1 (List.flatMap enc23 ([(getd ((0, 0) : (Int × Int)) z1 z2)] : List (Int × Int))) :: ownK 23 2 A4 ((r4 ++ ([(getd ((0, 0) : (Int × Int)) z1 z2)] : List (Int × Int))).length) c4 (List.flatMap enc23 (r4 ++ ([(getd ((0, 0) : (Int × Int)) z1 z2)] : List (Int × Int)))) :: blk g4 23 #[.int .i64 ((getd ((0, 0) : (Int × Int)) z1 z2).1), .int .i64 ((getd ((0, 0) : (Int × Int)) z1 z2).2)] :: ownK 23 2 A2 z1.length c2 (List.flatMap enc23 z1) :: fs) := hS
                          refine at_do (d := 72) hF (by kernel_rfl) (by kernel_rfl) hrun (fun a hF => ?_)
                          refine any_fin rfl (hS.pickN 4 [2, 3] (by decide)) ?_
                          refine any_step [5] (by kernel_rfl) rfl ?_
                          refine (all_cons ?_ all_nil)
                          · refine any_op (listed' := #[true, true, true, true, true, true, false]) (by kernel_rfl) (by kernel_rfl) ?_
                            refine at_runW 1 [] [] [6] [pl 6 (.slice A4 ((r4 ++ ([(getd ((0, 0) : (Int × Int)) z1 z2)] : List (Int × Int))).length) c4)] hF hS (by kernel_rfl) (by kernel_rfl) ?_ (fun a hF => ?_)
                            · exact obs_nil
                            refine any_finI rfl (fun h => h) ?_
                            refine any_step [6] (by kernel_rfl) rfl ?_
                            refine (all_cons ?_ all_nil)
                            · refine any_op (listed' := #[true, true, true, true, true, true, true]) (by kernel_rfl) (by kernel_rfl) ?_
                              refine at_runW 1 [] [] [6, 7] [pl 6 (.slice A4 ((r4 ++ ([(getd ((0, 0) : (Int × Int)) z1 z2)] : List (Int × Int))).length) c4), pl 7 (.int .i64 0)] hF hS (by kernel_rfl) (by kernel_rfl) ?_ (fun a hF => ?_)
                              · exact obs_nil
                              refine any_finI rfl (fun h => h) ?_
                              refine any_end (by kernel_rfl) ?_
                              refine np_n ?_
                              refine then_n ?_
                              have hS := hS.pickN 4 [1] (by decide)
                              exact ⟨(r4 ++ ([(getd ((0, 0) : (Int × Int)) z1 z2)] : List (Int × Int))), A4, c4, hF.weak [6, 7] (by kernel_rfl), hS, hm⟩
                    · refine any_op (listed' := #[true, false, true, true, false, false, false]) (by kernel_rfl) (by kernel_rfl) ?_
                      refine at_do (d := 71) (s := vS (Instr.buildSlice 22 1 #[(0, .agg #[.int .i64 ((getd ((0, 0) : (Int × Int)) z1 z2).1), .int .i64 ((getd ((0, 0) : (Int × Int)) z1 z2).2)])])) (v := .slice (some ⟨w.heap.size, 0, none⟩) 1 1) (w' := w.alloc (.cells #[.int .i64 ((getd ((0, 0) : (Int × Int)) z1 z2).1), .int .i64 ((getd ((0, 0) : (Int × Int)) z1 z2).2)] 23)) hF (by kernel_rfl) (by kernel_rfl) (by kernel_rfl) (fun a hF => ?_)
                      have hS : Sep w0 B (w.alloc (.cells #[.int .i64 ((getd ((0, 0) : (Int × Int)) z1 z2).1), .int .i64 ((getd ((0, 0) : (Int × Int)) z1 z2).2)] 23)) (ownK 23 2 (some (⟨w.heap.size, 0, none⟩ : Addr)) 1 1 (List.flatMap enc23 ([(getd ((0, 0) : (Int × Int)) z1 z2)] : List (Int × Int))) :: (blk g4 23 #[.int .i64 ((getd ((0, 0) : (Int × Int)) z1 z2).1), .int .i64 ((getd ((0, 0) : (Int × Int)) z1 z2).2)] :: ownK 23 2 A2 z1.length c2 (List.flatMap enc23 z1) :: fs)) := hS.litK 23 2 #[.int .i64 ((getd ((0, 0) : (Int × Int)) z1 z2).1), .int .i64 ((getd ((0, 0) : (Int × Int)) z1 z2).2)] 1 rfl (by omega)
                      generalize (some (⟨w.heap.size, 0, none⟩ : Addr)) = g5 at hF hS
                      generalize w.alloc (.cells #[.int .i64 ((getd ((0, 0) : (Int × Int)) z1 z2).1), .int .i64 ((getd ((0, 0) : (Int × Int)) z1 z2).2)] 23) = w at hS ⊢
                      refine any_fin rfl (hS.pickN 3 [1, 2] (by decide)) ?_
                      refine any_step [1] (by kernel_rfl) rfl ?_
                      refine (all_cons ?_ all_nil)
                      · refine any_op (listed' := #[true, true, true, true, false, false, false]) (by kernel_rfl) (by kernel_rfl) ?_
                        refine at_call (f := 72) (args := #[.slice A1 row1.length c1]) (d := 69) hF (by kernel_rfl) (by kernel_rfl) Try.func72 (by kernel_rfl) rfl (slices_Clone_w hr4 hS (fun _ hS => (hr_row1 _ (hS.dropN 3))) _hc_row1 rfl) (fun v a w hR hF => ?_)
                        clear hS
                        obtain ⟨A7, c7, rfl, hS⟩ := hR
                        have hS : Sep w0 B w (ownK 23 2 A7 r4.length c7 (List.flatMap enc23 r4) :: ownK 23 2 g5 1 1 (List.flatMap enc23 ([(getd ((0, 0) : (Int × Int)) z1 z2)] : List (Int × Int))) :: blk g4 23 #[.int .i64 ((getd ((0, 0) : (Int × Int)) z1 z2).1), .int .i64 ((getd ((0, 0) : (Int × Int)) z1 z2).2)] :: ownK 23 2 A2 z1.length c2 (List.flatMap enc23 z1) :: fs) := hS
                        refine any_fin rfl (hS.pickN 4 [2, 3] (by decide)) ?_
                        refine any_step [4] (by kernel_rfl) rfl ?_
                        refine (all_cons ?_ all_nil)
                        · refine any_op (listed' := #[true, true, true, true, true, false, false]) (by kernel_rfl) (by kernel_rfl) ?_
                          obtain ⟨A4, c4, w, hrun, hS⟩ := run_appK2 (P := Try.prog) (t := 22) (m := r4) (ys := ([(getd ((0, 0) : (Int × Int)) z1 z2)] : List (Int × Int))) (A2 := g5) (m2 := 1) (c2 := 1) encK23 (hS.at_ 0 rfl) (hS.at_ 1 rfl).rdK ((hS.at_ 1 rfl).lenK encK23) 22 Und22 hi23 hz23 hs23 rfl (by omega) hp5
                          have hS : Sep w0 B w (ownK 23 2 A4 ((r4 ++ ([(getd ((0, 0) : (Int × Int)) z1 z2)] : List (Int × Int))).length) c4 (List.flatMap enc23 (r4 ++ ([(getd ((0, 0) : (Int × Int)) z1 z2)] : List (Int × Int)))) :: ownK 23 2 g5 1 1 (List.flatMap enc23 ([(getd ((0, 0) : (Int × Int)) z1 z2)] : List (Int × Int))) :: blk g4 23 #[.int .i64 ((getd ((0, 0) : (Int × Int)) z1 z2).1), .int .i64 ((getd ((0, 0) : (Int × Int)) z1 z2).2)] :: ownK 23 2 A2 z1.length c2 (List.flatMap enc23 z1) :: fs) := hS
                          refine at_do (d := 72) hF (by kernel_rfl) (by kernel_rfl) hrun (fun a hF => ?_)
                          refine any_fin rfl (hS.pickN 4 [2, 3] (by decide)) ?_
                          refine any_step [5] (by kernel_rfl) rfl ?_
                          refine (all_cons ?_ all_nil)
                          · refine any_op (listed' := #[true, true, true, true, true, true, false]) (by kernel_rfl) (by kernel_rfl) ?_
                            refine at_runW 1 [] [] [6] [pl 6 (.slice A4 ((r4 ++ ([(getd ((0, 0) : (Int × Int)) z1 z2)] : List (Int × Int))).length) c4)] hF hS (by kernel_rfl) (by kernel_rfl) ?_ (fun a hF => ?_)
                            · exact obs_nil
                            refine any_finI rfl (fun h => h) ?_
                            refine any_step [6] (by kernel_rfl) rfl ?_
                            refine (all_cons ?_ all_nil)
                            · refine any_op (listed' := #[true, true, true, true, true, true, true]) (by kernel_rfl) (by kernel_rfl) ?_
                              refine at_runW 1 [] [] [6, 7] [pl 6 (.slice A4 ((r4 ++ ([(getd ((0, 0) : (Int × Int)) z1 z2)] : List (Int × Int))).length) c4), pl 7 (.int .i64 0)] hF hS (by kernel_rfl) (by kernel_rfl) ?_ (fun a hF => ?_)
                              · exact obs_nil
                              refine any_finI rfl (fun h => h) ?_
                              refine any_end (by kernel_rfl) ?_
                              refine np_n ?_
                              refine then_n ?_
                              have hS := hS.pickN 4 [0] (by decide)
                              exact ⟨(r4 ++ ([(getd ((0, 0) : (Int × Int)) z1 z2)] : List (Int × Int))), A4, c4, hF.weak [6, 7] (by kernel_rfl), hS, hm⟩
                · replace hm := if_f hm hb
                  obtain ⟨hp6, hm⟩ := asrt_b hm
                  refine reg [⟨false, [(!right1, true)], vS (Instr.loadAt 3 (.pointer (some ⟨g4, 1, none⟩))), .int .i64 ((getd ((0, 0) : (Int × Int)) z1 z2).2)⟩, ⟨true, [(!right1, true)], vS (Instr.indexAt 22 (.slice A1 row1.length c1) (.int .i64 0)), .pointer (some (sAddrK A1 2 0))⟩, ⟨false, [(!right1, true)], vS (Instr.loadAt 3 (.pointer (some (Addr.add (sAddrK A1 2 0) 0)))), .int .i64 ((getd ((0, 0) : (Int × Int)) row1 0).1)⟩] [none, none, none, none, some (.int .i64 ((getd ((0, 0) : (Int × Int)) z1 z2).2)), none, some (.pointer (some (sAddrK A1 2 0))), none, some (.int .i64 ((getd ((0, 0) : (Int × Int)) row1 0).1)), none, none, none] [0, 2, 10, 48, 49, 50, 73] [pl 0 (.slice A1 row1.length c1), pl 2 (.bool right1), pl 10 (.pointer (some ⟨g4, 0, none⟩)), pl 48 (.slice A2 z1.length c2), pl 49 (.int .i64 2), pl 50 (.int .i64 z2), pl 73 (.bool ((!right1) && (((getd ((0, 0) : (Int × Int)) z1 z2).2) == ((getd ((0, 0) : (Int × Int)) row1 0).1))))] hF hS Fol (by kernel_rfl) (by kernel_rfl) (by kernel_rfl) ?_ (fun a w hF hS => ?_)
                  · exact obs_cons (ob_load Agg3 (fun _ _ hS => (hS.at_ 0 rfl).cell rfl)) <| obs_cons (ob_ixK (m := row1) encK23 Und22 hi23 hs23 (hr_row1 _ (hS.dropN 2)) rfl (fun hy => hp6 (hy (!right1, true) (by simp)))) <| obs_cons (ob_getF (n := row1.length) (m := row1) (j := 0) encK23 ((0, 0) : (Int × Int)) Agg3 (fun _ hS => ⟨_, (hr_row1 _ (hS.dropN 2))⟩) (fun _ hS => rfl) (fun hy => hp6 (hy (!right1, true) (by simp))) (by decide) rfl) <| obs_nil
                  refine cond_ev (t := 73) (b := (!right1) && (((getd ((0, 0) : (Int × Int)) z1 z2).2) == ((getd ((0, 0) : (Int × Int)) row1 0).1))) hF (by kernel_rfl) (fun hb => ?_) (fun hb => ?_)
                  · replace hm := if_t hm hb
                    refine seq_cut (fun a w => ∃ (z4 : List (Int × Int)) (A11 : Option Addr) (c11 : Nat), Fr 91 [pl 6 (.slice A11 z4.length c11), pl 7 (.int .i64 0)] a ∧ Sep w0 B w (ownK 23 2 A11 z4.length c11 (List.flatMap enc23 z4) :: fs) ∧ (domino_Play_J11 z4).bind φ2 = some r) ?_ ?_
                    · rintro a w ⟨z4, A11, c11, hF, hS, hm⟩
                      unfold domino_Play_J11 at hm
                      refine wpIn_ret ?_
                      refine block_r (block_r (then_r (then_r (block_r (then_r ?_)))))
                      rw [← hφ2] at hm
                      replace hm := done_b hm
                      unfold domino_Play_K2 at hm
                      try dsimp only at hm
                      have hm : some (z4, 0) = some r := hm
                      obtain rfl := Option.some.inj hm
                      exact retV (rs := [.tmp 6, .tmp 7]) (vs := [.slice A11 z4.length c11, .int .i64 0]) hF rfl (rv_t (by kernel_rfl) <| rv_t (by kernel_rfl) <| rv_nil) rfl ⟨_, rfl, A11, c11, rfl, hS⟩
                    · obtain ⟨r5, hr5, hm⟩ := call_b hm
                      obtain ⟨r6, hr6, hm⟩ := call_b hm
                      refine regMix5 [0, 2] [] 5 #[true, false, true, false, false, false, false] [⟨false, [], vS (Instr.loadAt 23 (.pointer (some ⟨g4, 0, none⟩))), .agg #[.int .i64 ((getd ((0, 0) : (Int × Int)) z1 z2).1), .int .i64 ((getd ((0, 0) : (Int × Int)) z1 z2).2)]⟩] [none, some (.agg #[.int .i64 ((getd ((0, 0) : (Int × Int)) z1 z2).1), .int .i64 ((getd ((0, 0) : (Int × Int)) z1 z2).2)])] [85, 87] [pl 85 (.slice A1 row1.length c1), pl 87 (.agg #[.int .i64 ((getd ((0, 0) : (Int × Int)) z1 z2).1), .int .i64 ((getd ((0, 0) : (Int × Int)) z1 z2).2)])] hF hS Fol (by kernel_rfl) (by kernel_rfl) (by kernel_rfl) (by kernel_rfl) ?_ (fun a w hF hS => ?_)
                      · exact obs_cons (ob_loadA (cs := #[.int .i64 ((getd ((0, 0) : (Int × Int)) z1 z2).1), .int .i64 ((getd ((0, 0) : (Int × Int)) z1 z2).2)]) (by kernel_rfl) (by kernel_rfl) (fun _ _ hS => (hS.at_ 0 rfl).cellsAt 0 (by rfl))) <| obs_nil
                      refine any_step [1, 3] (by kernel_rfl) rfl ?_
                      refine (all_cons ?_ (all_cons ?_ all_nil))
                      · refine any_op (listed' := #[true, true, true, false, false, false, false]) (by kernel_rfl) (by kernel_rfl) ?_
                        refine at_call (f := 72) (args := #[.slice A1 row1.length c1]) (d := 86) hF (by kernel_rfl) (by kernel_rfl) Try.func72 (by kernel_rfl) rfl (slices_Clone_w hr5 hS (fun _ hS => (hr_row1 _ (hS.dropN 2))) _hc_row1 rfl) (fun v a w hR hF => ?_)
                        clear hS
                        obtain ⟨A10, c10, rfl, hS⟩ := hR
                        have hS : Sep w0 B w (ownK 23 2 A10 r5.length c10 (List.flatMap enc23 r5) :: blk g4 23 #[.int .i64 ((getd ((0, 0) : (Int × Int)) z1 z2).1), .int .i64 ((getd ((0, 0) : (Int × Int)) z1 z2).2)] :: ownK 23 2 A2 z1.length c2 (List.flatMap enc23 z1) :: fs) := hS
                        refine any_fin rfl (hS.pickN 3 [1, 2] (by decide)) ?_
                        refine any_step [3] (by kernel_rfl) rfl ?_
                        refine (all_cons ?_ all_nil)
                        · refine any_op (listed' := #[true, true, true, true, false, false, false]) (by kernel_rfl) (by kernel_rfl) ?_
                          refine at_do (d := 88) (s := vS (Instr.buildSlice 22 1 #[(0, .agg #[.int .i64 ((getd ((0, 0) : (Int × Int)) z1 z2).1), .int .i64 ((getd ((0, 0) : (Int × Int)) z1 z2).2)])])) (v := .slice (some ⟨w.heap.size, 0, none⟩) 1 1) (w' := w.alloc (.cells #[.int .i64 ((getd ((0, 0) : (Int × Int)) z1 z2).1), .int .i64 ((getd ((0, 0) : (Int × Int)) z1 z2).2)] 23)) hF (by kernel_rfl) (by kernel_rfl) (by kernel_rfl) (fun a hF => ?_)
                          have hS : Sep w0 B (w.alloc (.cells #[.int .i64 ((getd ((0, 0) : (Int × Int)) z1 z2).1), .int .i64 ((getd ((0, 0) : (Int × Int)) z1 z2).2)] 23)) (ownK 23 2 (some (⟨w.heap.size, 0, none⟩ : Addr)) 1 1 (List.flatMap enc23 ([(getd ((0, 0) : (Int × Int)) z1 z2)] : List (Int × Int))) :: (ownK 23 2 A10 r5.length c10 (List.flatMap enc23 r5) :: blk g4 23 #[.int .i64 ((getd ((0, 0) : (Int × Int)) z1 z2).1), .int .i64 ((getd ((0, 0) : (Int × Int)) z1 z2).2)] :: ownK 23 2 A2 z1.length c2 (List.flatMap enc23 z1) :: fs)) := hS.litK 23 2 #[.int .i64 ((getd ((0, 0) : (Int × Int)) z1 z2).1), .int .i64 ((getd ((0, 0) : (Int × Int)) z1 z2).2)] 1 rfl (by omega)
                          generalize (some (⟨w.heap.size, 0, none⟩ : Addr)) = g6 at hF hS
                          generalize w.alloc (.cells #[.int .i64 ((getd ((0, 0) : (Int × Int)) z1 z2).1), .int .i64 ((getd ((0, 0) : (Int × Int)) z1 z2).2)] 23) = w at hS ⊢
                          refine any_fin rfl (hS.pickN 4 [2, 3] (by decide)) ?_
                          refine any_step [4] (by kernel_rfl) rfl ?_
                          refine (all_cons ?_ all_nil)
                          · refine any_op (listed' := #[true, true, true, true, true, false, false]) (by kernel_rfl) (by kernel_rfl) ?_
                            have hS : Sep w0 B w (ownK 23 2 A10 r5.length c10 (List.flatMap enc23 r5) :: ownK 23 2 g6 1 1 (List.flatMap enc23 ([(getd ((0, 0) : (Int × Int)) z1 z2)] : List (Int × Int))) :: blk g4 23 #[.int .i64 ((getd ((0, 0) : (Int × Int)) z1 z2).1), .int .i64 ((getd ((0, 0) : (Int × Int)) z1 z2).2)] :: ownK 23 2 A2 z1.length c2 (List.flatMap enc23 z1) :: fs) := hS.pickN 4 [1, 0, 2, 3] (by decide)
                            refine at_call (f := 73) (args := #[.slice A10 r5.length c10, .int .i64 0, .slice g6 1 1]) (d := 89) hF (by kernel_rfl) (by kernel_rfl) Try.func73 (by kernel_rfl) rfl (slices_Insert_3_w hr6 hS ) (fun v a w hR hF => ?_)
                            clear hS
                            obtain ⟨A9, c9, rfl, hS⟩ := hR
                            have hS : Sep w0 B w (ownK 23 2 A9 r6.length c9 (List.flatMap enc23 r6) :: ownK 23 2 g6 1 1 (List.flatMap enc23 ([(getd ((0, 0) : (Int × Int)) z1 z2)] : List (Int × Int))) :: blk g4 23 #[.int .i64 ((getd ((0, 0) : (Int × Int)) z1 z2).1), .int .i64 ((getd ((0, 0) : (Int × Int)) z1 z2).2)] :: ownK 23 2 A2 z1.length c2 (List.flatMap enc23 z1) :: fs) := hS
                            refine any_fin rfl (hS.pickN 4 [2, 3] (by decide)) ?_
                            refine any_step [5] (by kernel_rfl) rfl ?_
                            refine (all_cons ?_ all_nil)
                            · refine any_op (listed' := #[true, true, true, true, true, true, false]) (by kernel_rfl) (by kernel_rfl) ?_
                              refine at_runW 1 [] [] [6] [pl 6 (.slice A9 r6.length c9)] hF hS (by kernel_rfl) (by kernel_rfl) ?_ (fun a hF => ?_)
                              · exact obs_nil
                              refine any_finI rfl (fun h => h) ?_
                              refine any_step [6] (by kernel_rfl) rfl ?_
                              refine (all_cons ?_ all_nil)
                              · refine any_op (listed' := #[true, true, true, true, true, true, true]) (by kernel_rfl) (by kernel_rfl) ?_
                                refine at_runW 1 [] [] [6, 7] [pl 6 (.slice A9 r6.length c9), pl 7 (.int .i64 0)] hF hS (by kernel_rfl) (by kernel_rfl) ?_ (fun a hF => ?_)
                                · exact obs_nil
                                refine any_finI rfl (fun h => h) ?_
                                refine any_end (by kernel_rfl) ?_
                                refine np_n ?_
                                refine then_n ?_
                                have hS := hS.pickN 4 [0] (by decide)
                                exact ⟨r6, A9, c9, hF.weak [6, 7] (by kernel_rfl), hS, hm⟩
                      · refine any_op (listed' := #[true, false, true, true, false, false, false]) (by kernel_rfl) (by kernel_rfl) ?_
                        refine at_do (d := 88) (s := vS (Instr.buildSlice 22 1 #[(0, .agg #[.int .i64 ((getd ((0, 0) : (Int × Int)) z1 z2).1), .int .i64 ((getd ((0, 0) : (Int × Int)) z1 z2).2)])])) (v := .slice (some ⟨w.heap.size, 0, none⟩) 1 1) (w' := w.alloc (.cells #[.int .i64 ((getd ((0, 0) : (Int × Int)) z1 z2).1), .int .i64 ((getd ((0, 0) : (Int × Int)) z1 z2).2)] 23)) hF (by kernel_rfl) (by kernel_rfl) (by kernel_rfl) (fun a hF => ?_)
                        have hS : Sep w0 B (w.alloc (.cells #[.int .i64 ((getd ((0, 0) : (Int × Int)) z1 z2).1), .int .i64 ((getd ((0, 0) : (Int × Int)) z1 z2).2)] 23)) (ownK 23 2 (some (⟨w.heap.size, 0, none⟩ : Addr)) 1 1 (List.flatMap enc23 ([(getd ((0, 0) : (Int × Int)) z1 z2)] : List (Int × Int))) :: (blk g4 23 #[.int .i64 ((getd ((0, 0) : (Int × Int)) z1 z2).1), .int .i64 ((getd ((0, 0) : (Int × Int)) z1 z2).2)] :: ownK 23 2 A2 z1.length c2 (List.flatMap enc23 z1) :: fs)) := hS.litK 23 2 #[.int .i64 ((getd ((0, 0) : (Int × Int)) z1 z2).1), .int .i64 ((getd ((0, 0) : (Int × Int)) z1 z2).2)] 1 rfl (by omega)
                        generalize (some (⟨w.heap.size, 0, none⟩ : Addr)) = g6 at hF hS
                        generalize w.alloc (.cells #[.int .i64 ((getd ((0, 0) : (Int × Int)) z1 z2).1), .int .i64 ((getd ((0, 0) : (Int × Int)) z1 z2).2)] 23) = w at hS ⊢
                        refine any_fin rfl (hS.pickN 3 [1, 2] (by decide)) ?_
                        refine any_step [1] (by kernel_rfl) rfl ?_
                        refine (all_cons ?_ all_nil)
                        · refine any_op (listed' := #[true, true, true, true, false, false, false]) (by kernel_rfl) (by kernel_rfl) ?_
                          refine at_call (f := 72) (args := #[.slice A1 row1.length c1]) (d := 86) hF (by kernel_rfl) (by kernel_rfl) Try.func72 (by kernel_rfl) rfl (slices_Clone_w hr5 hS (fun _ hS => (hr_row1 _ (hS.dropN 3))) _hc_row1 rfl) (fun v a w hR hF => ?_)
                          clear hS
                          obtain ⟨A12, c12, rfl, hS⟩ := hR
                          have hS : Sep w0 B w (ownK 23 2 A12 r5.length c12 (List.flatMap enc23 r5) :: ownK 23 2 g6 1 1 (List.flatMap enc23 ([(getd ((0, 0) : (Int × Int)) z1 z2)] : List (Int × Int))) :: blk g4 23 #[.int .i64 ((getd ((0, 0) : (Int × Int)) z1 z2).1), .int .i64 ((getd ((0, 0) : (Int × Int)) z1 z2).2)] :: ownK 23 2 A2 z1.length c2 (List.flatMap enc23 z1) :: fs) := hS
                          refine any_fin rfl (hS.pickN 4 [2, 3] (by decide)) ?_
                          refine any_step [4] (by kernel_rfl) rfl ?_
                          refine (all_cons ?_ all_nil)
                          · refine any_op (listed' := #[true, true, true, true, true, false, false]) (by kernel_rfl) (by kernel_rfl) ?_
                            refine at_call (f := 73) (args := #[.slice A12 r5.length c12, .int .i64 0, .slice g6 1 1]) (d := 89) hF (by kernel_rfl) (by kernel_rfl) Try.func73 (by kernel_rfl) rfl (slices_Insert_3_w hr6 hS ) (fun v a w hR hF => ?_)
                            clear hS
                            obtain ⟨A9, c9, rfl, hS⟩ := hR
                            have hS : Sep w0 B w (ownK 23 2 A9 r6.length c9 (List.flatMap enc23 r6) :: ownK 23 2 g6 1 1 (List.flatMap enc23 ([(getd ((0, 0) : (Int × Int)) z1 z2)] : List (Int × Int))) :: blk g4 23 #[.int .i64 ((getd ((0, 0) : (Int × Int)) z1 z2).1), .int .i64 ((getd ((0, 0) : (Int × Int)) z1 z2).2)] :: ownK 23 2 A2 z1.length c2 (List.flatMap enc23 z1) :: fs) := hS
                            refine any_fin rfl (hS.pickN 4 [2, 3] (by decide)) ?_
                            refine any_step [5] (by kernel_rfl) rfl ?_
                            refine (all_cons ?_ all_nil)
                            · refine any_op (listed' := #[true, true, true, true, true, true, false]) (by kernel_rfl) (by kernel_rfl) ?_
                              refine at_runW 1 [] [] [6] [pl 6 (.slice A9 r6.length c9)] hF hS (by kernel_rfl) (by kernel_rfl) ?_ (fun a hF => ?_)
                              · exact obs_nil
                              refine any_finI rfl (fun h => h) ?_
                              refine any_step [6] (by kernel_rfl) rfl ?_
                              refine (all_cons ?_ all_nil)
                              · refine any_op (listed' := #[true, true, true, true, true, true, true]) (by kernel_rfl) (by kernel_rfl) ?_
                                refine at_runW 1 [] [] [6, 7] [pl 6 (.slice A9 r6.length c9), pl 7 (.int .i64 0)] hF hS (by kernel_rfl) (by kernel_rfl) ?_ (fun a hF => ?_)
                                · exact obs_nil
                                refine any_finI rfl (fun h => h) ?_
                                refine any_end (by kernel_rfl) ?_
                                refine np_n ?_
                                refine then_n ?_
                                have hS := hS.pickN 4 [0] (by decide)
                                exact ⟨r6, A9, c9, hF.weak [6, 7] (by kernel_rfl), hS, hm⟩
                  · replace hm := if_f hm hb
                    refine wpIn_skip ?_
                    refine block_n ?_
                    refine block_n ?_
                    refine then_n ?_
                    have hS := hS.pickN 2 [1] (by decide)
                    exact ⟨hF.weak [0, 2, 48, 49, 50] (by kernel_rfl), hS, hm⟩
            · refine cond_ev (t := 51) (b := decide (z2 < 2)) hF (by kernel_rfl) (fun hb => ?_) (fun hb => ?_)
              · replace hm := if_t hm hb
                refine wpIn_skip ?_
                refine then_n ?_
                exact ⟨hF.weak [0, 2, 48, 49, 50] (by kernel_rfl), hS, hm⟩
              · replace hm := if_f hm hb
                refine wpIn_exit ?_
                refine then_e (then_e (block_e (then_n ?_)))
                have hS := hS.pickN 1 [] (by decide)
                rw [← hφ2] at hm
                replace hm := done_b hm
                unfold domino_Play_K2 at hm
                try dsimp only at hm
                have hm : (domino_Play_J6).bind some = some r := hm
                exact ⟨hF.weak [] (by kernel_rfl), hS, hm⟩
          · obtain ⟨r3, hr3, hm⟩ := call_b hm
            refine regMix5 [0, 1, 5] [] 3 #[true, true, false, false, false, true] [⟨false, [], vS (Instr.loadAt 23 (.pointer (some ⟨g1, 0, none⟩))), .agg #[.int .i64 p1, .int .i64 p2]⟩, ⟨false, [], vS (Instr.loadAt 23 (.pointer (some ⟨g1, 0, none⟩))), .agg #[.int .i64 p1, .int .i64 p2]⟩] [some (.agg #[.int .i64 p1, .int .i64 p2]), some (.agg #[.int .i64 p1, .int .i64 p2]), none] [0, 2, 45, 46, 50] [pl 0 (.slice A1 row1.length c1), pl 2 (.bool right1), pl 45 (.agg #[.int .i64 p1, .int .i64 p2]), pl 46 (.agg #[.int .i64 p1, .int .i64 p2]), pl 50 (.int .i64 0)] hF hS Fol (by kernel_rfl) (by kernel_rfl) (by kernel_rfl) (by kernel_rfl) ?_ (fun a w hF hS => ?_)
            · exact obs_cons (ob_loadA (cs := #[.int .i64 p1, .int .i64 p2]) (by kernel_rfl) (by kernel_rfl) (fun _ _ hS => (hS.at_ 0 rfl).cellsAt 0 (by rfl))) <| obs_cons (ob_loadA (cs := #[.int .i64 p1, .int .i64 p2]) (by kernel_rfl) (by kernel_rfl) (fun _ _ hS => (hS.at_ 0 rfl).cellsAt 0 (by rfl))) <| obs_nil
            refine any_step [2] (by kernel_rfl) rfl ?_
            refine (all_cons ?_ all_nil)
            · refine any_op (listed' := #[true, true, true, false, false, true]) (by kernel_rfl) (by kernel_rfl) ?_
              refine at_run 1 [⟨false, [], callFunc 71 #[.agg #[.int .i64 p1, .int .i64 p2]], .agg #[.int .i64 r3.1, .int .i64 r3.2]⟩] [some (.agg #[.int .i64 r3.1, .int .i64 r3.2])] [0, 2, 45, 47, 50] [pl 0 (.slice A1 row1.length c1), pl 2 (.bool right1), pl 45 (.agg #[.int .i64 p1, .int .i64 p2]), pl 47 (.agg #[.int .i64 r3.1, .int .i64 r3.2]), pl 50 (.int .i64 0)] hF hS (by kernel_rfl) (by kernel_rfl) ?_ (fun a w hF hS => ?_)
              · exact obs_cons (ob_call Try.func71 (by kernel_rfl) rfl (fun _ _ hS => domino_turned_w hr3 hS )) <| obs_nil
              refine any_fin rfl hS ?_
              refine any_step [3] (by kernel_rfl) rfl ?_
              refine (all_cons ?_ all_nil)
              · refine any_op (listed' := #[true, true, true, true, false, true]) (by kernel_rfl) (by kernel_rfl) ?_
                refine at_do (d := 48) (s := vS (Instr.buildSlice 22 2 #[(0, .agg #[.int .i64 p1, .int .i64 p2]), (1, .agg #[.int .i64 r3.1, .int .i64 r3.2])])) (v := .slice (some ⟨w.heap.size, 0, none⟩) 2 2) (w' := w.alloc (.cells #[.int .i64 p1, .int .i64 p2, .int .i64 r3.1, .int .i64 r3.2] 23)) hF (by kernel_rfl) (by kernel_rfl) (by kernel_rfl) (fun a hF => ?_)
                have hS : Sep w0 B (w.alloc (.cells #[.int .i64 p1, .int .i64 p2, .int .i64 r3.1, .int .i64 r3.2] 23)) (ownK 23 2 (some (⟨w.heap.size, 0, none⟩ : Addr)) 2 2 (List.flatMap enc23 ([(p1, p2), r3] : List (Int × Int))) :: (blk g1 23 #[.int .i64 p1, .int .i64 p2] :: fs)) := hS.litK 23 2 #[.int .i64 p1, .int .i64 p2, .int .i64 r3.1, .int .i64 r3.2] 2 rfl (by omega)
                generalize (some (⟨w.heap.size, 0, none⟩ : Addr)) = g3 at hF hS
                generalize w.alloc (.cells #[.int .i64 p1, .int .i64 p2, .int .i64 r3.1, .int .i64 r3.2] 23) = w at hS ⊢
                refine any_fin rfl (hS.pickN 2 [1] (by decide)) ?_
                refine any_step [4] (by kernel_rfl) rfl ?_
                refine (all_cons ?_ all_nil)
                · refine any_op (listed' := #[true, true, true, true, true, true]) (by kernel_rfl) (by kernel_rfl) ?_
                  refine at_runW 1 [] [] [0, 2, 48, 49, 50] [pl 0 (.slice A1 row1.length c1), pl 2 (.bool right1), pl 48 (.slice g3 2 2), pl 49 (.int .i64 2), pl 50 (.int .i64 0)] hF hS (by kernel_rfl) (by kernel_rfl) ?_ (fun a hF => ?_)
                  · exact obs_nil
                  refine any_finI rfl (fun h => h) ?_
                  refine any_end (by kernel_rfl) ?_
                  refine np_n ?_
                  refine then_n ?_
                  have hl5 := (hS.at_ 0 rfl).lenK encK23
                  have hS := (hS.at_ 0 rfl).reNK hl5
                  have hS : Sep w0 B w (ownK 23 2 g3 (([(p1, p2), r3] : List (Int × Int)).length) 2 (List.flatMap enc23 ([(p1, p2), r3] : List (Int × Int))) :: blk g1 23 #[.int .i64 p1, .int .i64 p2] :: fs) := hS
                  have hF := hF.cast (t := 48) (v := .slice g3 2 2) (v' := .slice g3 (([(p1, p2), r3] : List (Int × Int)).length) 2) rfl rfl (congrArg (fun k => Value.slice g3 k 2) hl5)
                  have hS := hS.pickN 2 [0] (by decide)
                  exact ⟨([(p1, p2), r3] : List (Int × Int)), g3, 2, hF.weak [0, 2, 48, 49, 50] (by kernel_rfl), hS, hm⟩
      · refine reg [] [] [0, 2, 4, 42] [pl 0 (.slice A1 row1.length c1), pl 2 (.bool right1), pl 4 (.pointer (some ⟨g1, 0, none⟩)), pl 42 (.bool ((row1.length : Int) == 0))] hF hS Fol (by kernel_rfl) (by kernel_rfl) (by kernel_rfl) ?_ (fun a w hF hS => ?_)
        · exact obs_nil
        refine cond_ev (t := 42) (b := ((row1.length : Int) == 0)) hF (by kernel_rfl) (fun hb => ?_) (fun hb => ?_)
        · replace hm := if_t hm hb
          refine seqR ?_
          refine at_run 1 [⟨false, [], vS (Instr.loadAt 23 (.pointer (some ⟨g1, 0, none⟩))), .agg #[.int .i64 p1, .int .i64 p2]⟩] [some (.agg #[.int .i64 p1, .int .i64 p2])] [43] [pl 43 (.agg #[.int .i64 p1, .int .i64 p2])] hF hS (by kernel_rfl) (by kernel_rfl) ?_ (fun a w hF hS => ?_)
          · exact obs_cons (ob_loadA (cs := #[.int .i64 p1, .int .i64 p2]) (by kernel_rfl) (by kernel_rfl) (fun _ _ hS => (hS.at_ 0 rfl).cellsAt 0 (by rfl))) <| obs_nil
          refine at_do (d := 44) (s := vS (Instr.buildSlice 22 1 #[(0, .agg #[.int .i64 p1, .int .i64 p2])])) (v := .slice (some ⟨w.heap.size, 0, none⟩) 1 1) (w' := w.alloc (.cells #[.int .i64 p1, .int .i64 p2] 23)) hF (by kernel_rfl) (by kernel_rfl) (by kernel_rfl) (fun a hF => ?_)
          have hS : Sep w0 B (w.alloc (.cells #[.int .i64 p1, .int .i64 p2] 23)) (ownK 23 2 (some (⟨w.heap.size, 0, none⟩ : Addr)) 1 1 (List.flatMap enc23 ([(p1, p2)] : List (Int × Int))) :: (blk g1 23 #[.int .i64 p1, .int .i64 p2] :: fs)) := hS.litK 23 2 #[.int .i64 p1, .int .i64 p2] 1 rfl (by omega)
          generalize (some (⟨w.heap.size, 0, none⟩ : Addr)) = g2 at hF hS
          generalize w.alloc (.cells #[.int .i64 p1, .int .i64 p2] 23) = w at hS ⊢
          refine at_run 2 [] [] [6, 7] [pl 6 (.slice g2 1 1), pl 7 (.int .i64 0)] hF hS (by kernel_rfl) (by kernel_rfl) ?_ (fun a w hF hS => ?_)
          · exact obs_nil
          refine at_end [6, 7] [pl 6 (.slice g2 1 1), pl 7 (.int .i64 0)] hF rfl (by kernel_rfl) (fun hF => ?_)
          refine then_n ?_
          refine wpIn_ret ?_
          refine then_r ?_
          have hl4 := (hS.at_ 0 rfl).lenK encK23
          have hS := (hS.at_ 0 rfl).reNK hl4
          have hS : Sep w0 B w (ownK 23 2 g2 (([(p1, p2)] : List (Int × Int)).length) 1 (List.flatMap enc23 ([(p1, p2)] : List (Int × Int))) :: blk g1 23 #[.int .i64 p1, .int .i64 p2] :: fs) := hS
          have hF := hF.cast (t := 6) (v := .slice g2 1 1) (v' := .slice g2 (([(p1, p2)] : List (Int × Int)).length) 1) rfl rfl (congrArg (fun k => Value.slice g2 k 1) hl4)
          have hS := hS.pickN 2 [0] (by decide)
          have hm : some (([(p1, p2)] : List (Int × Int)), 0) = some r := hm
          obtain rfl := Option.some.inj hm
          exact retV (rs := [.tmp 6, .tmp 7]) (vs := [.slice g2 (([(p1, p2)] : List (Int × Int)).length) 1, .int .i64 0]) hF rfl (rv_t (by kernel_rfl) <| rv_t (by kernel_rfl) <| rv_nil) rfl ⟨_, rfl, g2, 1, rfl, hS⟩
        · replace hm := if_f hm hb
          refine wpIn_skip ?_
          refine then_n ?_
          exact ⟨hF.weak [0, 2, 4] (by kernel_rfl), hS, hm⟩
    · refine reg [] [] [0, 2, 4, 8] [pl 0 (.slice A1 row1.length c1), pl 2 (.bool right1), pl 4 (.pointer (some ⟨g1, 0, none⟩)), pl 8 (.int .i64 1)] hF hS Fol (by kernel_rfl) (by kernel_rfl) (by kernel_rfl) ?_ (fun a w hF hS => ?_)
      · exact obs_nil
      refine wpIn_block ?_
      refine wp_loop_model (S := Int) (R := (Fl Unit (List (Int × Int) × Int))) (domino_Play_L1 row1) (fun x => ((domino_Play_K1 row1 p1 p2 right1) x).bind some) r (fun (x : Int) a w => Fr 91 [pl 0 (.slice A1 row1.length c1), pl 2 (.bool right1), pl 4 (.pointer (some ⟨g1, 0, none⟩)), pl 8 (.int .i64 x)] a ∧ Sep w0 B w (blk g1 23 #[.int .i64 p1, .int .i64 p2] :: fs)) (assoc_b hm) ⟨hF.weak [0, 2, 4, 8] (by kernel_rfl), hS⟩ ?_
      clear hF hS hm
      rintro nn1 i1 a w ⟨hF, hS⟩ hm
      generalize hφ1 : stK (domino_Play_L1 row1) nn1 (fun x => ((domino_Play_K1 row1 p1 p2 right1) x).bind some) = φ1 at hm
      unfold domino_Play_L1 at hm
      dsimp only at hm
      refine seq_cut (fun a w => Fr 91 [pl 0 (.slice A1 row1.length c1), pl 2 (.bool right1), pl 4 (.pointer (some ⟨g1, 0, none⟩)), pl 8 (.int .i64 i1)] a ∧ Sep w0 B w (blk g1 23 #[.int .i64 p1, .int .i64 p2] :: fs) ∧ ((domino_Play_J3 row1 i1)).bind φ1 = some r) ?_ ?_
      · rintro a w ⟨hF, hS, hm⟩
        unfold domino_Play_J3 at hm
        refine seq_cut (fun a w => Fr 91 [pl 0 (.slice A1 row1.length c1), pl 2 (.bool right1), pl 4 (.pointer (some ⟨g1, 0, none⟩)), pl 8 (.int .i64 i1)] a ∧ Sep w0 B w (blk g1 23 #[.int .i64 p1, .int .i64 p2] :: fs) ∧ ((domino_Play_J4 i1)).bind φ1 = some r) ?_ ?_
        · rintro a w ⟨hF, hS, hm⟩
          unfold domino_Play_J4 at hm
          refine reg1 [] [] [0, 2, 4, 8] [pl 0 (.slice A1 row1.length c1), pl 2 (.bool right1), pl 4 (.pointer (some ⟨g1, 0, none⟩)), pl 8 (.int .i64 (w64 (i1 + 1)))] hF hS Fol (by kernel_rfl) (by kernel_rfl) (by kernel_rfl) ?_ (fun a w hF hS => ?_)
          · exact obs_nil
          refine then_n ?_
          rw [← hφ1] at hm
          exact ⟨(w64 (i1 + 1)), ⟨hF.weak [0, 2, 4, 8] (by kernel_rfl), hS⟩, hm⟩
        · refine wpIn_block ?_
          obtain ⟨hp1, hm⟩ := asrt_b hm
          obtain ⟨hp2, hm⟩ := asrt_b hm
          refine reg [⟨true, [], vS (Instr.indexAt 22 (.slice A1 row1.length c1) (.int .i64 (w64 (i1 - 1)))), .pointer (some (sAddrK A1 2 (w64 (i1 - 1))))⟩, ⟨false, [], vS (Instr.loadAt 3 (.pointer (some (Addr.add (sAddrK A1 2 (w64 (i1 - 1))) 1)))), .int .i64 ((getd ((0, 0) : (Int × Int)) row1 (w64 (i1 - 1))).2)⟩, ⟨true, [], vS (Instr.indexAt 22 (.slice A1 row1.length c1) (.int .i64 i1)), .pointer (some (sAddrK A1 2 i1))⟩, ⟨false, [], vS (Instr.loadAt 3 (.pointer (some (Addr.add (sAddrK A1 2 i1) 0)))), .int .i64 ((getd ((0, 0) : (Int × Int)) row1 i1).1)⟩] [none, none, none, some (.pointer (some (sAddrK A1 2 (w64 (i1 - 1))))), none, some (.int .i64 ((getd ((0, 0) : (Int × Int)) row1 (w64 (i1 - 1))).2)), none, none, some (.pointer (some (sAddrK A1 2 i1))), none, some (.int .i64 ((getd ((0, 0) : (Int × Int)) row1 i1).1)), none] [0, 2, 4, 8, 39] [pl 0 (.slice A1 row1.length c1), pl 2 (.bool right1), pl 4 (.pointer (some ⟨g1, 0, none⟩)), pl 8 (.int .i64 i1), pl 39 (.bool (((getd ((0, 0) : (Int × Int)) row1 (w64 (i1 - 1))).2) != ((getd ((0, 0) : (Int × Int)) row1 i1).1)))] hF hS Fol (by kernel_rfl) (by kernel_rfl) (by kernel_rfl) ?_ (fun a w hF hS => ?_)
          · exact obs_cons (ob_ixK (m := row1) encK23 Und22 hi23 hs23 (hr_row1 _ (hS.dropN 1)) rfl (fun _ => hp1)) <| obs_cons (ob_getF (n := row1.length) (m := row1) (j := 1) encK23 ((0, 0) : (Int × Int)) Agg3 (fun _ hS => ⟨_, (hr_row1 _ (hS.dropN 1))⟩) (fun _ hS => rfl) (fun _ => hp1) (by decide) rfl) <| obs_cons (ob_ixK (m := row1) encK23 Und22 hi23 hs23 (hr_row1 _ (hS.dropN 1)) rfl (fun _ => hp2)) <| obs_cons (ob_getF (n := row1.length) (m := row1) (j := 0) encK23 ((0, 0) : (Int × Int)) Agg3 (fun _ hS => ⟨_, (hr_row1 _ (hS.dropN 1))⟩) (fun _ hS => rfl) (fun _ => hp2) (by decide) rfl) <| obs_nil
          refine cond_ev (t := 39) (b := (((getd ((0, 0) : (Int × Int)) row1 (w64 (i1 - 1))).2) != ((getd ((0, 0) : (Int × Int)) row1 i1).1))) hF (by kernel_rfl) (fun hb => ?_) (fun hb => ?_)
          · replace hm := if_t hm hb
            refine reg [] [] [6, 7] [pl 6 (.slice none 0 0), pl 7 (.int .i64 1)] hF hS Fol (by kernel_rfl) (by kernel_rfl) (by kernel_rfl) ?_ (fun a w hF hS => ?_)
            · exact obs_nil
            refine wpIn_ret ?_
            refine block_r (then_r (then_r (block_r (then_r ?_))))
            rw [← hφ1] at hm
            replace hm := done_b hm
            unfold domino_Play_K1 at hm
            try dsimp only at hm
            have hS : Sep w0 B w (ownK 23 2 none 0 0 (List.flatMap enc23 ([] : List (Int × Int))) :: blk g1 23 #[.int .i64 p1, .int .i64 p2] :: fs) := hS.nilK 23 2 enc23
            have hl3 := (hS.at_ 0 rfl).lenK encK23
            have hS := (hS.at_ 0 rfl).reNK hl3
            have hS : Sep w0 B w (ownK 23 2 none (([] : List (Int × Int)).length) 0 (List.flatMap enc23 ([] : List (Int × Int))) :: blk g1 23 #[.int .i64 p1, .int .i64 p2] :: fs) := hS
            have hS := hS.pickN 2 [0] (by decide)
            have hm : some (([] : List (Int × Int)), 1) = some r := hm
            obtain rfl := Option.some.inj hm
            exact retV (rs := [.tmp 6, .tmp 7]) (vs := [.slice none (([] : List (Int × Int)).length) 0, .int .i64 1]) hF rfl (rv_t (by kernel_rfl) <| rv_t (by kernel_rfl) <| rv_nil) rfl ⟨_, rfl, none, 0, rfl, hS⟩
          · replace hm := if_f hm hb
            refine wpIn_skip ?_
            refine block_n ?_
            refine then_n ?_
            exact ⟨hF.weak [0, 2, 4, 8] (by kernel_rfl), hS, hm⟩
      · refine reg [] [] [0, 2, 4, 8, 25] [pl 0 (.slice A1 row1.length c1), pl 2 (.bool right1), pl 4 (.pointer (some ⟨g1, 0, none⟩)), pl 8 (.int .i64 i1), pl 25 (.bool (decide (i1 < (row1.length : Int))))] hF hS Fol (by kernel_rfl) (by kernel_rfl) (by kernel_rfl) ?_ (fun a w hF hS => ?_)
        · exact obs_nil
        refine cond_ev (t := 25) (b := decide (i1 < (row1.length : Int))) hF (by kernel_rfl) (fun hb => ?_) (fun hb => ?_)
        · replace hm := if_t hm hb
          refine wpIn_skip ?_
          refine then_n ?_
          exact ⟨hF.weak [0, 2, 4, 8] (by kernel_rfl), hS, hm⟩
        · replace hm := if_f hm hb
          refine wpIn_exit ?_
          refine then_e (then_e (block_e (then_n ?_)))
          rw [← hφ1] at hm
          replace hm := done_b hm
          unfold domino_Play_K1 at hm
          try dsimp only at hm
          have hm : ((domino_Play_J2 row1 p1 p2 right1)).bind some = some r := hm
          exact ⟨hF.weak [0, 2, 4] (by kernel_rfl), hS, hm⟩
  · refine wpIn_block ?_
    refine reg [] [] [0, 2, 4, 11] [pl 0 (.slice A1 row1.length c1), pl 2 (.bool right1), pl 4 (.pointer (some ⟨g1, 0, none⟩)), pl 11 (.bool (decide ((60 : Int) ≤ (row1.length : Int))))] hF hS Fol (by kernel_rfl) (by kernel_rfl) (by kernel_rfl) ?_ (fun a w hF hS => ?_)
    · exact obs_nil
    refine cond_ev (t := 11) (b := decide ((60 : Int) ≤ (row1.length : Int))) hF (by kernel_rfl) (fun hb => ?_) (fun hb => ?_)
    · replace hm := if_t hm hb
      refine reg [] [] [6, 7] [pl 6 (.slice none 0 0), pl 7 (.int .i64 2)] hF hS Fol (by kernel_rfl) (by kernel_rfl) (by kernel_rfl) ?_ (fun a w hF hS => ?_)
      · exact obs_nil
      refine wpIn_ret ?_
      refine block_r (then_r ?_)
      have hS : Sep w0 B w (ownK 23 2 none 0 0 (List.flatMap enc23 ([] : List (Int × Int))) :: blk g1 23 #[.int .i64 p1, .int .i64 p2] :: fs) := hS.nilK 23 2 enc23
      have hl1 := (hS.at_ 0 rfl).lenK encK23
      have hS := (hS.at_ 0 rfl).reNK hl1
      have hS : Sep w0 B w (ownK 23 2 none (([] : List (Int × Int)).length) 0 (List.flatMap enc23 ([] : List (Int × Int))) :: blk g1 23 #[.int .i64 p1, .int .i64 p2] :: fs) := hS
      have hS := hS.pickN 2 [0] (by decide)
      have hm : some (([] : List (Int × Int)), 2) = some r := hm
      obtain rfl := Option.some.inj hm
      exact retV (rs := [.tmp 6, .tmp 7]) (vs := [.slice none (([] : List (Int × Int)).length) 0, .int .i64 2]) hF rfl (rv_t (by kernel_rfl) <| rv_t (by kernel_rfl) <| rv_nil) rfl ⟨_, rfl, none, 0, rfl, hS⟩
    · replace hm := if_f hm hb
      obtain ⟨r1, hr1, hm⟩ := call_b hm
      obtain ⟨r2, hr2, hm⟩ := call_b hm
      refine reg [⟨false, [], callFunc 69 #[.slice A1 row1.length c1, .func (.func 70) #[] #[]], .bool r1⟩, ⟨false, [(r1, false)], vS (Instr.loadAt 23 (.pointer (some ⟨g1, 0, none⟩))), .agg #[.int .i64 p1, .int .i64 p2]⟩, ⟨false, [(r1, false)], callFunc 70 #[.agg #[.int .i64 p1, .int .i64 p2]], .bool r2⟩] [none, some (.bool r1), none, some (.agg #[.int .i64 p1, .int .i64 p2]), some (.bool r2), none, none] [0, 2, 4, 15] [pl 0 (.slice A1 row1.length c1), pl 2 (.bool right1), pl 4 (.pointer (some ⟨g1, 0, none⟩)), pl 15 (.bool (r1 || r2))] hF hS Fol (by kernel_rfl) (by kernel_rfl) (by kernel_rfl) ?_ (fun a w hF hS => ?_)
      · exact obs_cons (ob_call Try.func69 (by kernel_rfl) rfl (fun _ _ hS => slices_ContainsFunc_w hr1 hS (fun _ hS => (hr_row1 _ (hS.dropN 1))) _hc_row1 rfl)) <| obs_cons (ob_loadA (cs := #[.int .i64 p1, .int .i64 p2]) (by kernel_rfl) (by kernel_rfl) (fun _ _ hS => (hS.at_ 0 rfl).cellsAt 0 (by rfl))) <| obs_cons (ob_call Try.func70 (by kernel_rfl) rfl (fun hy _ hS => domino_strange_w (ite_some hr2 (by rw [show r1 = false from hy (r1, false) (by simp)]; try rfl)) hS )) <| obs_nil
      refine cond_ev (t := 15) (b := r1 || r2) hF (by kernel_rfl) (fun hb => ?_) (fun hb => ?_)
      · replace hm := if_t hm hb
        refine reg [] [] [6, 7] [pl 6 (.slice none 0 0), pl 7 (.int .i64 3)] hF hS Fol (by kernel_rfl) (by kernel_rfl) (by kernel_rfl) ?_ (fun a w hF hS => ?_)
        · exact obs_nil
        refine wpIn_ret ?_
        refine block_r (then_r ?_)
        have hS : Sep w0 B w (ownK 23 2 none 0 0 (List.flatMap enc23 ([] : List (Int × Int))) :: blk g1 23 #[.int .i64 p1, .int .i64 p2] :: fs) := hS.nilK 23 2 enc23
        have hl2 := (hS.at_ 0 rfl).lenK encK23
        have hS := (hS.at_ 0 rfl).reNK hl2
        have hS : Sep w0 B w (ownK 23 2 none (([] : List (Int × Int)).length) 0 (List.flatMap enc23 ([] : List (Int × Int))) :: blk g1 23 #[.int .i64 p1, .int .i64 p2] :: fs) := hS
        have hS := hS.pickN 2 [0] (by decide)
        have hm : some (([] : List (Int × Int)), 3) = some r := hm
        obtain rfl := Option.some.inj hm
        exact retV (rs := [.tmp 6, .tmp 7]) (vs := [.slice none (([] : List (Int × Int)).length) 0, .int .i64 3]) hF rfl (rv_t (by kernel_rfl) <| rv_t (by kernel_rfl) <| rv_nil) rfl ⟨_, rfl, none, 0, rfl, hS⟩
      · replace hm := if_f hm hb
        refine wpIn_skip ?_
        refine block_n ?_
        refine then_n ?_
        exact ⟨hF.weak [0, 2, 4] (by kernel_rfl), hS, hm⟩

noncomputable def gameroomref_within_m  (n1 : Int) (low1 : Int) (high1 : Int) : Option Bool :=
  some ((decide (low1 ≤ n1)) && (decide (n1 ≤ high1)))

set_option maxRecDepth 100000 in
set_option maxHeartbeats 4000000 in
theorem gameroomref_within_w {n1 : Int} {low1 : Int} {high1 : Int} {r : Bool} {w0 w : World} {B : Nat} {fs : List HP} (hm : gameroomref_within_m n1 low1 high1 = some r) (hS : Sep w0 B w (fs)) :
    Calls Try.prog 74 #[.int .i64 n1, .int .i64 low1, .int .i64 high1] w fun e w' => e = .returned (.bool r) ∧ Sep w0 B w' (fs) := by
  unfold gameroomref_within_m at hm
  replace hm := start_b hm
  refine enter (l := [.int .i64 n1, .int .i64 low1, .int .i64 high1]) (n := 15) Try.func74 rfl rfl (by simp) (fun a hF => ?_)
  refine reg [] [] [0, 1, 2] [pl 0 (.int .i64 n1), pl 1 (.int .i64 low1), pl 2 (.int .i64 high1)] hF hS Fol (by kernel_rfl) (by kernel_rfl) (by kernel_rfl) ?_ (fun a w hF hS => ?_)
  · exact obs_nil
  refine reg [] [] [6] [pl 6 (.bool ((decide (low1 ≤ n1)) && (decide (n1 ≤ high1))))] hF hS Fol (by kernel_rfl) (by kernel_rfl) (by kernel_rfl) ?_ (fun a w hF hS => ?_)
  · exact obs_nil
  refine wpIn_ret ?_
  have hm : some ((decide (low1 ≤ n1)) && (decide (n1 ≤ high1))) = some r := hm
  obtain rfl := Option.some.inj hm
  exact retV (rs := [.tmp 6]) (vs := [.bool ((decide (low1 ≤ n1)) && (decide (n1 ≤ high1)))]) hF rfl (rv_t (by kernel_rfl) <| rv_nil) rfl ⟨rfl, hS⟩

noncomputable def gameroomref_PieceMay_m  (p1 : Int) (p2 : Int) : Option Bool :=
  (gameroomref_within_m p1 0 9).bind fun r1 => ((if r1 then gameroomref_within_m p2 0 9 else some false)).bind fun r2 => some (r1 && r2)

set_option maxRecDepth 100000 in
set_option maxHeartbeats 4000000 in
theorem gameroomref_PieceMay_w {p1 : Int} {p2 : Int} {r : Bool} {w0 w : World} {B : Nat} {fs : List HP} (hm : gameroomref_PieceMay_m p1 p2 = some r) (hS : Sep w0 B w (fs)) :
    Calls Try.prog 16 #[.agg #[.int .i64 p1, .int .i64 p2]] w fun e w' => e = .returned (.bool r) ∧ Sep w0 B w' (fs) := by
  unfold gameroomref_PieceMay_m at hm
  replace hm := start_b hm
  refine enter (l := [.agg #[.int .i64 p1, .int .i64 p2]]) (n := 11) Try.func16 rfl rfl (by simp) (fun a hF => ?_)
  refine seqR ?_
  refine at_do (d := 1) (s := vS (Instr.box 23 (.agg #[.int .i64 p1, .int .i64 p2]))) (v := .pointer (some ⟨w.heap.size, 0, none⟩)) (w' := w.alloc (.cells #[.int .i64 p1, .int .i64 p2] 23)) hF (by kernel_rfl) (by kernel_rfl) (by kernel_rfl) (fun a hF => ?_)
  have hS : Sep w0 B (w.alloc (.cells #[.int .i64 p1, .int .i64 p2] 23)) (blk w.heap.size 23 #[.int .i64 p1, .int .i64 p2] :: (fs)) := hS.box 23 #[.int .i64 p1, .int .i64 p2]
  generalize w.heap.size = g1 at hF hS
  generalize w.alloc (.cells #[.int .i64 p1, .int .i64 p2] 23) = w at hS ⊢
  refine at_run 1 [] [] [1] [pl 1 (.pointer (some ⟨g1, 0, none⟩))] hF hS (by kernel_rfl) (by kernel_rfl) ?_ (fun a w hF hS => ?_)
  · exact obs_nil
  refine at_end [1] [pl 1 (.pointer (some ⟨g1, 0, none⟩))] hF rfl (by kernel_rfl) (fun hF => ?_)
  refine then_n ?_
  obtain ⟨r1, hr1, hm⟩ := call_b hm
  obtain ⟨r2, hr2, hm⟩ := call_b hm
  refine reg [⟨false, [], vS (Instr.loadAt 3 (.pointer (some ⟨g1, 0, none⟩))), .int .i64 p1⟩, ⟨false, [], callFunc 74 #[.int .i64 p1, .int .i64 0, .int .i64 9], .bool r1⟩, ⟨false, [(r1, true)], vS (Instr.loadAt 3 (.pointer (some ⟨g1, 1, none⟩))), .int .i64 p2⟩, ⟨false, [(r1, true)], callFunc 74 #[.int .i64 p2, .int .i64 0, .int .i64 9], .bool r2⟩] [none, some (.int .i64 p1), some (.bool r1), none, none, some (.int .i64 p2), some (.bool r2), none, none] [2] [pl 2 (.bool (r1 && r2))] hF hS Fol (by kernel_rfl) (by kernel_rfl) (by kernel_rfl) ?_ (fun a w hF hS => ?_)
  · exact obs_cons (ob_load Agg3 (fun _ _ hS => (hS.at_ 0 rfl).cell rfl)) <| obs_cons (ob_call Try.func74 (by kernel_rfl) rfl (fun _ _ hS => gameroomref_within_w hr1 hS )) <| obs_cons (ob_load Agg3 (fun _ _ hS => (hS.at_ 0 rfl).cell rfl)) <| obs_cons (ob_call Try.func74 (by kernel_rfl) rfl (fun hy _ hS => gameroomref_within_w (ite_some hr2 (by rw [show r1 = true from hy (r1, true) (by simp)]; try rfl)) hS )) <| obs_nil
  refine wpIn_ret ?_
  have hS := hS.pickN 1 [] (by decide)
  have hm : some (r1 && r2) = some r := hm
  obtain rfl := Option.some.inj hm
  exact retV (rs := [.tmp 2]) (vs := [.bool (r1 && r2)]) hF rfl (rv_t (by kernel_rfl) <| rv_nil) rfl ⟨rfl, hS⟩

noncomputable def gameroomref_PiecesMay_J3  (i1 : Int) : Option (St Int (Fl Unit Bool)) :=
  some (.next (w64 (i1 + 1)))

noncomputable def gameroomref_PiecesMay_J2  (l1 : List (Int × Int)) (i1 : Int) : Option (St Int (Fl Unit Bool)) :=
  asrt (0 ≤ i1 ∧ i1 < (l1.length : Int)) <| (gameroomref_PieceMay_m ((getd ((0, 0) : (Int × Int)) l1 i1).1) ((getd ((0, 0) : (Int × Int)) l1 i1).2)).bind fun r1 => if (!r1) then (some (.done (.ret false))) else ((gameroomref_PiecesMay_J3 i1))

noncomputable def gameroomref_PiecesMay_J1  : Option Bool :=
  some true

noncomputable def gameroomref_PiecesMay_K1  : (Fl Unit Bool) → Option Bool :=
  fun (x : (Fl Unit Bool)) => match x with | .go _ => gameroomref_PiecesMay_J1 | .ret x => some x

noncomputable def gameroomref_PiecesMay_L1  (l1 : List (Int × Int)) : Int → Option (St Int (Fl Unit Bool)) :=
  fun (x : Int) => match x with | i1 => if (decide (i1 < (l1.length : Int))) then ((gameroomref_PiecesMay_J2 l1 i1)) else (some (.done (.go ())))

noncomputable def gameroomref_PiecesMay_m  (l1 : List (Int × Int)) : Option Bool :=
  (loop (gameroomref_PiecesMay_L1 l1) 0).bind gameroomref_PiecesMay_K1

set_option maxRecDepth 100000 in
set_option maxHeartbeats 4000000 in
theorem gameroomref_PiecesMay_w {A1 : Option Addr} {c1 : Nat} {n1 : Nat} {l1 : List (Int × Int)} {r : Bool} {w0 w : World} {B : Nat} {fs : List HP} (hm : gameroomref_PiecesMay_m l1 = some r) (hS : Sep w0 B w (fs)) (hr_l1 : RdF w0 B fs A1 ((List.flatMap enc23 l1))) (_hc_l1 : l1.length ≤ c1) (_hn_l1 : n1 = l1.length) :
    Calls Try.prog 15 #[.slice A1 n1 c1] w fun e w' => e = .returned (.bool r) ∧ Sep w0 B w' (fs) := by
  obtain ⟨i23, hi23, hz23, hs23, hb23⟩ := info_parts Info23
  obtain rfl := _hn_l1
  unfold gameroomref_PiecesMay_m at hm
  replace hm := start_b hm
  refine enter (l := [.slice A1 l1.length c1]) (n := 16) Try.func15 rfl rfl (by simp) (fun a hF => ?_)
  refine reg [] [] [0] [pl 0 (.slice A1 l1.length c1)] hF hS Fol (by kernel_rfl) (by kernel_rfl) (by kernel_rfl) ?_ (fun a w hF hS => ?_)
  · exact obs_nil
  refine seq_cut (fun a w => Fr 16 [] a ∧ Sep w0 B w (fs) ∧ (gameroomref_PiecesMay_J1).bind some = some r) ?_ ?_
  · rintro a w ⟨hF, hS, hm⟩
    unfold gameroomref_PiecesMay_J1 at hm
    refine reg [] [] [2] [pl 2 (.bool true)] hF hS Fol (by kernel_rfl) (by kernel_rfl) (by kernel_rfl) ?_ (fun a w hF hS => ?_)
    · exact obs_nil
    refine wpIn_ret ?_
    have hm : some true = some r := hm
    obtain rfl := Option.some.inj hm
    exact retV (rs := [.tmp 2]) (vs := [.bool true]) hF rfl (rv_t (by kernel_rfl) <| rv_nil) rfl ⟨rfl, hS⟩
  · refine reg [] [] [0, 3] [pl 0 (.slice A1 l1.length c1), pl 3 (.int .i64 0)] hF hS Fol (by kernel_rfl) (by kernel_rfl) (by kernel_rfl) ?_ (fun a w hF hS => ?_)
    · exact obs_nil
    refine wpIn_block ?_
    refine wp_loop_model (S := Int) (R := (Fl Unit Bool)) (gameroomref_PiecesMay_L1 l1) (fun x => (gameroomref_PiecesMay_K1 x).bind some) r (fun (x : Int) a w => Fr 16 [pl 0 (.slice A1 l1.length c1), pl 3 (.int .i64 x)] a ∧ Sep w0 B w (fs)) (assoc_b hm) ⟨hF.weak [0, 3] (by kernel_rfl), hS⟩ ?_
    clear hF hS hm
    rintro nn1 i1 a w ⟨hF, hS⟩ hm
    generalize hφ1 : stK (gameroomref_PiecesMay_L1 l1) nn1 (fun x => (gameroomref_PiecesMay_K1 x).bind some) = φ1 at hm
    unfold gameroomref_PiecesMay_L1 at hm
    dsimp only at hm
    refine seq_cut (fun a w => Fr 16 [pl 0 (.slice A1 l1.length c1), pl 3 (.int .i64 i1)] a ∧ Sep w0 B w (fs) ∧ ((gameroomref_PiecesMay_J2 l1 i1)).bind φ1 = some r) ?_ ?_
    · rintro a w ⟨hF, hS, hm⟩
      unfold gameroomref_PiecesMay_J2 at hm
      refine seq_cut (fun a w => Fr 16 [pl 0 (.slice A1 l1.length c1), pl 3 (.int .i64 i1)] a ∧ Sep w0 B w (fs) ∧ ((gameroomref_PiecesMay_J3 i1)).bind φ1 = some r) ?_ ?_
      · rintro a w ⟨hF, hS, hm⟩
        unfold gameroomref_PiecesMay_J3 at hm
        refine reg1 [] [] [0, 3] [pl 0 (.slice A1 l1.length c1), pl 3 (.int .i64 (w64 (i1 + 1)))] hF hS Fol (by kernel_rfl) (by kernel_rfl) (by kernel_rfl) ?_ (fun a w hF hS => ?_)
        · exact obs_nil
        refine then_n ?_
        rw [← hφ1] at hm
        exact ⟨(w64 (i1 + 1)), ⟨hF.weak [0, 3] (by kernel_rfl), hS⟩, hm⟩
      · refine wpIn_block ?_
        obtain ⟨hp1, hm⟩ := asrt_b hm
        obtain ⟨r1, hr1, hm⟩ := call_b hm
        refine reg [⟨true, [], vS (Instr.indexAt 22 (.slice A1 l1.length c1) (.int .i64 i1)), .pointer (some (sAddrK A1 2 i1))⟩, ⟨false, [], vS (Instr.loadAt 23 (.pointer (some (sAddrK A1 2 i1)))), .agg #[.int .i64 ((getd ((0, 0) : (Int × Int)) l1 i1).1), .int .i64 ((getd ((0, 0) : (Int × Int)) l1 i1).2)]⟩, ⟨false, [], callFunc 16 #[.agg #[.int .i64 ((getd ((0, 0) : (Int × Int)) l1 i1).1), .int .i64 ((getd ((0, 0) : (Int × Int)) l1 i1).2)]], .bool r1⟩] [none, none, some (.pointer (some (sAddrK A1 2 i1))), some (.agg #[.int .i64 ((getd ((0, 0) : (Int × Int)) l1 i1).1), .int .i64 ((getd ((0, 0) : (Int × Int)) l1 i1).2)]), some (.bool r1), none] [0, 3, 15] [pl 0 (.slice A1 l1.length c1), pl 3 (.int .i64 i1), pl 15 (.bool (!r1))] hF hS Fol (by kernel_rfl) (by kernel_rfl) (by kernel_rfl) ?_ (fun a w hF hS => ?_)
        · exact obs_cons (ob_ixK (m := l1) encK23 Und22 hi23 hs23 (hr_l1 _ (hS.dropN 0)) rfl (fun _ => hp1)) <| obs_cons (ob_getK (n := l1.length) (m := l1) encK23 ((0, 0) : (Int × Int)) (by kernel_rfl) (by kernel_rfl) (fun _ hS => ⟨_, (hr_l1 _ (hS.dropN 0))⟩) (fun _ hS => rfl) (fun _ => hp1)) <| obs_cons (ob_call Try.func16 (by kernel_rfl) rfl (fun _ _ hS => gameroomref_PieceMay_w hr1 hS )) <| obs_nil
        refine cond_ev (t := 15) (b := !r1) hF (by kernel_rfl) (fun hb => ?_) (fun hb => ?_)
        · replace hm := if_t hm hb
          refine reg [] [] [2] [pl 2 (.bool false)] hF hS Fol (by kernel_rfl) (by kernel_rfl) (by kernel_rfl) ?_ (fun a w hF hS => ?_)
          · exact obs_nil
          refine wpIn_ret ?_
          refine block_r (then_r (then_r (block_r (then_r ?_))))
          rw [← hφ1] at hm
          replace hm := done_b hm
          unfold gameroomref_PiecesMay_K1 at hm
          try dsimp only at hm
          have hm : some false = some r := hm
          obtain rfl := Option.some.inj hm
          exact retV (rs := [.tmp 2]) (vs := [.bool false]) hF rfl (rv_t (by kernel_rfl) <| rv_nil) rfl ⟨rfl, hS⟩
        · replace hm := if_f hm hb
          refine wpIn_skip ?_
          refine block_n ?_
          refine then_n ?_
          exact ⟨hF.weak [0, 3] (by kernel_rfl), hS, hm⟩
    · refine reg [] [] [0, 3, 7] [pl 0 (.slice A1 l1.length c1), pl 3 (.int .i64 i1), pl 7 (.bool (decide (i1 < (l1.length : Int))))] hF hS Fol (by kernel_rfl) (by kernel_rfl) (by kernel_rfl) ?_ (fun a w hF hS => ?_)
      · exact obs_nil
      refine cond_ev (t := 7) (b := decide (i1 < (l1.length : Int))) hF (by kernel_rfl) (fun hb => ?_) (fun hb => ?_)
      · replace hm := if_t hm hb
        refine wpIn_skip ?_
        refine then_n ?_
        exact ⟨hF.weak [0, 3] (by kernel_rfl), hS, hm⟩
      · replace hm := if_f hm hb
        refine wpIn_exit ?_
        refine then_e (then_e (block_e (then_n ?_)))
        rw [← hφ1] at hm
        replace hm := done_b hm
        unfold gameroomref_PiecesMay_K1 at hm
        try dsimp only at hm
        have hm : (gameroomref_PiecesMay_J1).bind some = some r := hm
        exact ⟨hF.weak [] (by kernel_rfl), hS, hm⟩

noncomputable def gameroomref_RowIs_J3  (i1 : Int) : Option (St Int (Fl Unit Bool)) :=
  some (.next (w64 (i1 + 1)))

noncomputable def gameroomref_RowIs_J2  (l1 : List (Int × Int)) (i1 : Int) : Option (St Int (Fl Unit Bool)) :=
  asrt (0 ≤ (w64 (i1 - 1)) ∧ (w64 (i1 - 1)) < (l1.length : Int)) <| asrt (0 ≤ i1 ∧ i1 < (l1.length : Int)) <| if (((getd ((0, 0) : (Int × Int)) l1 (w64 (i1 - 1))).2) != ((getd ((0, 0) : (Int × Int)) l1 i1).1)) then (some (.done (.ret false))) else ((gameroomref_RowIs_J3 i1))

noncomputable def gameroomref_RowIs_J1  : Option Bool :=
  some true

noncomputable def gameroomref_RowIs_K1  : (Fl Unit Bool) → Option Bool :=
  fun (x : (Fl Unit Bool)) => match x with | .go _ => gameroomref_RowIs_J1 | .ret x => some x

noncomputable def gameroomref_RowIs_L1  (l1 : List (Int × Int)) : Int → Option (St Int (Fl Unit Bool)) :=
  fun (x : Int) => match x with | i1 => if (decide (i1 < (l1.length : Int))) then ((gameroomref_RowIs_J2 l1 i1)) else (some (.done (.go ())))

noncomputable def gameroomref_RowIs_m  (l1 : List (Int × Int)) : Option Bool :=
  (loop (gameroomref_RowIs_L1 l1) 1).bind gameroomref_RowIs_K1

set_option maxRecDepth 100000 in
set_option maxHeartbeats 4000000 in
theorem gameroomref_RowIs_w {A1 : Option Addr} {c1 : Nat} {n1 : Nat} {l1 : List (Int × Int)} {r : Bool} {w0 w : World} {B : Nat} {fs : List HP} (hm : gameroomref_RowIs_m l1 = some r) (hS : Sep w0 B w (fs)) (hr_l1 : RdF w0 B fs A1 ((List.flatMap enc23 l1))) (_hc_l1 : l1.length ≤ c1) (_hn_l1 : n1 = l1.length) :
    Calls Try.prog 17 #[.slice A1 n1 c1] w fun e w' => e = .returned (.bool r) ∧ Sep w0 B w' (fs) := by
  obtain ⟨i23, hi23, hz23, hs23, hb23⟩ := info_parts Info23
  obtain rfl := _hn_l1
  unfold gameroomref_RowIs_m at hm
  replace hm := start_b hm
  refine enter (l := [.slice A1 l1.length c1]) (n := 22) Try.func17 rfl rfl (by simp) (fun a hF => ?_)
  refine reg [] [] [0] [pl 0 (.slice A1 l1.length c1)] hF hS Fol (by kernel_rfl) (by kernel_rfl) (by kernel_rfl) ?_ (fun a w hF hS => ?_)
  · exact obs_nil
  refine seq_cut (fun a w => Fr 22 [] a ∧ Sep w0 B w (fs) ∧ (gameroomref_RowIs_J1).bind some = some r) ?_ ?_
  · rintro a w ⟨hF, hS, hm⟩
    unfold gameroomref_RowIs_J1 at hm
    refine reg [] [] [2] [pl 2 (.bool true)] hF hS Fol (by kernel_rfl) (by kernel_rfl) (by kernel_rfl) ?_ (fun a w hF hS => ?_)
    · exact obs_nil
    refine wpIn_ret ?_
    have hm : some true = some r := hm
    obtain rfl := Option.some.inj hm
    exact retV (rs := [.tmp 2]) (vs := [.bool true]) hF rfl (rv_t (by kernel_rfl) <| rv_nil) rfl ⟨rfl, hS⟩
  · refine reg [] [] [0, 3] [pl 0 (.slice A1 l1.length c1), pl 3 (.int .i64 1)] hF hS Fol (by kernel_rfl) (by kernel_rfl) (by kernel_rfl) ?_ (fun a w hF hS => ?_)
    · exact obs_nil
    refine wpIn_block ?_
    refine wp_loop_model (S := Int) (R := (Fl Unit Bool)) (gameroomref_RowIs_L1 l1) (fun x => (gameroomref_RowIs_K1 x).bind some) r (fun (x : Int) a w => Fr 22 [pl 0 (.slice A1 l1.length c1), pl 3 (.int .i64 x)] a ∧ Sep w0 B w (fs)) (assoc_b hm) ⟨hF.weak [0, 3] (by kernel_rfl), hS⟩ ?_
    clear hF hS hm
    rintro nn1 i1 a w ⟨hF, hS⟩ hm
    generalize hφ1 : stK (gameroomref_RowIs_L1 l1) nn1 (fun x => (gameroomref_RowIs_K1 x).bind some) = φ1 at hm
    unfold gameroomref_RowIs_L1 at hm
    dsimp only at hm
    refine seq_cut (fun a w => Fr 22 [pl 0 (.slice A1 l1.length c1), pl 3 (.int .i64 i1)] a ∧ Sep w0 B w (fs) ∧ ((gameroomref_RowIs_J2 l1 i1)).bind φ1 = some r) ?_ ?_
    · rintro a w ⟨hF, hS, hm⟩
      unfold gameroomref_RowIs_J2 at hm
      refine seq_cut (fun a w => Fr 22 [pl 0 (.slice A1 l1.length c1), pl 3 (.int .i64 i1)] a ∧ Sep w0 B w (fs) ∧ ((gameroomref_RowIs_J3 i1)).bind φ1 = some r) ?_ ?_
      · rintro a w ⟨hF, hS, hm⟩
        unfold gameroomref_RowIs_J3 at hm
        refine reg1 [] [] [0, 3] [pl 0 (.slice A1 l1.length c1), pl 3 (.int .i64 (w64 (i1 + 1)))] hF hS Fol (by kernel_rfl) (by kernel_rfl) (by kernel_rfl) ?_ (fun a w hF hS => ?_)
        · exact obs_nil
        refine then_n ?_
        rw [← hφ1] at hm
        exact ⟨(w64 (i1 + 1)), ⟨hF.weak [0, 3] (by kernel_rfl), hS⟩, hm⟩
      · refine wpIn_block ?_
        obtain ⟨hp1, hm⟩ := asrt_b hm
        obtain ⟨hp2, hm⟩ := asrt_b hm
        refine reg [⟨true, [], vS (Instr.indexAt 22 (.slice A1 l1.length c1) (.int .i64 (w64 (i1 - 1)))), .pointer (some (sAddrK A1 2 (w64 (i1 - 1))))⟩, ⟨false, [], vS (Instr.loadAt 3 (.pointer (some (Addr.add (sAddrK A1 2 (w64 (i1 - 1))) 1)))), .int .i64 ((getd ((0, 0) : (Int × Int)) l1 (w64 (i1 - 1))).2)⟩, ⟨true, [], vS (Instr.indexAt 22 (.slice A1 l1.length c1) (.int .i64 i1)), .pointer (some (sAddrK A1 2 i1))⟩, ⟨false, [], vS (Instr.loadAt 3 (.pointer (some (Addr.add (sAddrK A1 2 i1) 0)))), .int .i64 ((getd ((0, 0) : (Int × Int)) l1 i1).1)⟩] [none, none, none, some (.pointer (some (sAddrK A1 2 (w64 (i1 - 1))))), none, some (.int .i64 ((getd ((0, 0) : (Int × Int)) l1 (w64 (i1 - 1))).2)), none, none, some (.pointer (some (sAddrK A1 2 i1))), none, some (.int .i64 ((getd ((0, 0) : (Int × Int)) l1 i1).1)), none] [0, 3, 21] [pl 0 (.slice A1 l1.length c1), pl 3 (.int .i64 i1), pl 21 (.bool (((getd ((0, 0) : (Int × Int)) l1 (w64 (i1 - 1))).2) != ((getd ((0, 0) : (Int × Int)) l1 i1).1)))] hF hS Fol (by kernel_rfl) (by kernel_rfl) (by kernel_rfl) ?_ (fun a w hF hS => ?_)
        · exact obs_cons (ob_ixK (m := l1) encK23 Und22 hi23 hs23 (hr_l1 _ (hS.dropN 0)) rfl (fun _ => hp1)) <| obs_cons (ob_getF (n := l1.length) (m := l1) (j := 1) encK23 ((0, 0) : (Int × Int)) Agg3 (fun _ hS => ⟨_, (hr_l1 _ (hS.dropN 0))⟩) (fun _ hS => rfl) (fun _ => hp1) (by decide) rfl) <| obs_cons (ob_ixK (m := l1) encK23 Und22 hi23 hs23 (hr_l1 _ (hS.dropN 0)) rfl (fun _ => hp2)) <| obs_cons (ob_getF (n := l1.length) (m := l1) (j := 0) encK23 ((0, 0) : (Int × Int)) Agg3 (fun _ hS => ⟨_, (hr_l1 _ (hS.dropN 0))⟩) (fun _ hS => rfl) (fun _ => hp2) (by decide) rfl) <| obs_nil
        refine cond_ev (t := 21) (b := (((getd ((0, 0) : (Int × Int)) l1 (w64 (i1 - 1))).2) != ((getd ((0, 0) : (Int × Int)) l1 i1).1))) hF (by kernel_rfl) (fun hb => ?_) (fun hb => ?_)
        · replace hm := if_t hm hb
          refine reg [] [] [2] [pl 2 (.bool false)] hF hS Fol (by kernel_rfl) (by kernel_rfl) (by kernel_rfl) ?_ (fun a w hF hS => ?_)
          · exact obs_nil
          refine wpIn_ret ?_
          refine block_r (then_r (then_r (block_r (then_r ?_))))
          rw [← hφ1] at hm
          replace hm := done_b hm
          unfold gameroomref_RowIs_K1 at hm
          try dsimp only at hm
          have hm : some false = some r := hm
          obtain rfl := Option.some.inj hm
          exact retV (rs := [.tmp 2]) (vs := [.bool false]) hF rfl (rv_t (by kernel_rfl) <| rv_nil) rfl ⟨rfl, hS⟩
        · replace hm := if_f hm hb
          refine wpIn_skip ?_
          refine block_n ?_
          refine then_n ?_
          exact ⟨hF.weak [0, 3] (by kernel_rfl), hS, hm⟩
    · refine reg [] [] [0, 3, 7] [pl 0 (.slice A1 l1.length c1), pl 3 (.int .i64 i1), pl 7 (.bool (decide (i1 < (l1.length : Int))))] hF hS Fol (by kernel_rfl) (by kernel_rfl) (by kernel_rfl) ?_ (fun a w hF hS => ?_)
      · exact obs_nil
      refine cond_ev (t := 7) (b := decide (i1 < (l1.length : Int))) hF (by kernel_rfl) (fun hb => ?_) (fun hb => ?_)
      · replace hm := if_t hm hb
        refine wpIn_skip ?_
        refine then_n ?_
        exact ⟨hF.weak [0, 3] (by kernel_rfl), hS, hm⟩
      · replace hm := if_f hm hb
        refine wpIn_exit ?_
        refine then_e (then_e (block_e (then_n ?_)))
        rw [← hφ1] at hm
        replace hm := done_b hm
        unfold gameroomref_RowIs_K1 at hm
        try dsimp only at hm
        have hm : (gameroomref_RowIs_J1).bind some = some r := hm
        exact ⟨hF.weak [] (by kernel_rfl), hS, hm⟩

noncomputable def gameroomref_PlayOf_J4  (row1 : List (Int × Int)) (p3 : Int) (p4 : Int) : Option (List (Int × Int) × Bool) :=
  asrt ((0 : Int) + (row1.length : Int) ≤ bigP) <| asrt ((((([] : List (Int × Int)) ++ row1).length : Nat) : Int) + 1 ≤ bigP) <| some (((([] : List (Int × Int)) ++ row1) ++ ([(p3, p4)] : List (Int × Int))), true)

noncomputable def gameroomref_PlayOf_J6  (row1 : List (Int × Int)) (p5 : Int) (p6 : Int) : Option (List (Int × Int) × Bool) :=
  asrt ((1 : Int) + (row1.length : Int) ≤ bigP) <| some ((([(p5, p6)] : List (Int × Int)) ++ row1), true)

noncomputable def gameroomref_PlayOf_J5  (row1 : List (Int × Int)) (p1 : Int) (p2 : Int) : Option (List (Int × Int) × Bool) :=
  if (p2 != ((getd ((0, 0) : (Int × Int)) row1 0).1)) then ((gameroomref_PlayOf_J6 row1) p2 p1) else ((gameroomref_PlayOf_J6 row1) p1 p2)

noncomputable def gameroomref_PlayOf_J3  (row1 : List (Int × Int)) (p1 : Int) (p2 : Int) : Option (List (Int × Int) × Bool) :=
  asrt (0 ≤ (0 : Int) ∧ (0 : Int) < (row1.length : Int)) <| if ((p2 != ((getd ((0, 0) : (Int × Int)) row1 0).1)) && (p1 != ((getd ((0, 0) : (Int × Int)) row1 0).1))) then (some (([] : List (Int × Int)), false)) else ((gameroomref_PlayOf_J5 row1 p1 p2))

noncomputable def gameroomref_PlayOf_J2  (row1 : List (Int × Int)) (p1 : Int) (p2 : Int) (right1 : Bool) : Option (List (Int × Int) × Bool) :=
  if right1 then (if (p1 != ((getd ((0, 0) : (Int × Int)) row1 (w64 ((row1.length : Int) - 1))).2)) then ((gameroomref_PlayOf_J4 row1) p2 p1) else ((gameroomref_PlayOf_J4 row1) p1 p2)) else ((gameroomref_PlayOf_J3 row1 p1 p2))

noncomputable def gameroomref_PlayOf_J1  (row1 : List (Int × Int)) (p1 : Int) (p2 : Int) (right1 : Bool) : Option (List (Int × Int) × Bool) :=
  asrt (0 ≤ (w64 ((row1.length : Int) - 1)) ∧ (w64 ((row1.length : Int) - 1)) < (row1.length : Int)) <| if ((right1 && (p1 != ((getd ((0, 0) : (Int × Int)) row1 (w64 ((row1.length : Int) - 1))).2))) && (p2 != ((getd ((0, 0) : (Int × Int)) row1 (w64 ((row1.length : Int) - 1))).2))) then (some (([] : List (Int × Int)), false)) else ((gameroomref_PlayOf_J2 row1 p1 p2 right1))

noncomputable def gameroomref_PlayOf_m  (row1 : List (Int × Int)) (p1 : Int) (p2 : Int) (right1 : Bool) : Option (List (Int × Int) × Bool) :=
  if ((row1.length : Int) == 0) then (some (([(p1, p2)] : List (Int × Int)), true)) else ((gameroomref_PlayOf_J1 row1 p1 p2 right1))

set_option maxRecDepth 100000 in
set_option maxHeartbeats 4000000 in
theorem gameroomref_PlayOf_w {A1 : Option Addr} {c1 : Nat} {n1 : Nat} {row1 : List (Int × Int)} {p1 : Int} {p2 : Int} {right1 : Bool} {r : (List (Int × Int) × Bool)} {w0 w : World} {B : Nat} {fs : List HP} (hm : gameroomref_PlayOf_m row1 p1 p2 right1 = some r) (hS : Sep w0 B w (fs)) (hr_row1 : RdF w0 B fs A1 ((List.flatMap enc23 row1))) (_hc_row1 : row1.length ≤ c1) (_hn_row1 : n1 = row1.length) :
    Calls Try.prog 18 #[.slice A1 n1 c1, .agg #[.int .i64 p1, .int .i64 p2], .bool right1] w fun e w' => ∃ v, e = .returned v ∧ ∃ (A5 : Option Addr) (c5 : Nat), v = .tuple #[.slice A5 r.1.length c5, .bool r.2] ∧ Sep w0 B w' (ownK 23 2 A5 r.1.length c5 (List.flatMap enc23 r.1) :: fs) := by
  obtain ⟨i23, hi23, hz23, hs23, hb23⟩ := info_parts Info23
  obtain rfl := _hn_row1
  unfold gameroomref_PlayOf_m at hm
  replace hm := start_b hm
  refine enter (l := [.slice A1 row1.length c1, .agg #[.int .i64 p1, .int .i64 p2], .bool right1]) (n := 78) Try.func18 rfl rfl (by simp) (fun a hF => ?_)
  refine seqR ?_
  refine at_do (d := 4) (s := vS (Instr.box 23 (.agg #[.int .i64 p1, .int .i64 p2]))) (v := .pointer (some ⟨w.heap.size, 0, none⟩)) (w' := w.alloc (.cells #[.int .i64 p1, .int .i64 p2] 23)) hF (by kernel_rfl) (by kernel_rfl) (by kernel_rfl) (fun a hF => ?_)
  have hS : Sep w0 B (w.alloc (.cells #[.int .i64 p1, .int .i64 p2] 23)) (blk w.heap.size 23 #[.int .i64 p1, .int .i64 p2] :: (fs)) := hS.box 23 #[.int .i64 p1, .int .i64 p2]
  generalize w.heap.size = g1 at hF hS
  generalize w.alloc (.cells #[.int .i64 p1, .int .i64 p2] 23) = w at hS ⊢
  refine at_run 2 [] [] [0, 2, 4] [pl 0 (.slice A1 row1.length c1), pl 2 (.bool right1), pl 4 (.pointer (some ⟨g1, 0, none⟩))] hF hS (by kernel_rfl) (by kernel_rfl) ?_ (fun a w hF hS => ?_)
  · exact obs_nil
  refine at_end [0, 2, 4] [pl 0 (.slice A1 row1.length c1), pl 2 (.bool right1), pl 4 (.pointer (some ⟨g1, 0, none⟩))] hF rfl (by kernel_rfl) (fun hF => ?_)
  refine then_n ?_
  refine seq_cut (fun a w => Fr 78 [pl 0 (.slice A1 row1.length c1), pl 2 (.bool right1), pl 4 (.pointer (some ⟨g1, 0, none⟩))] a ∧ Sep w0 B w (blk g1 23 #[.int .i64 p1, .int .i64 p2] :: fs) ∧ ((gameroomref_PlayOf_J1 row1 p1 p2 right1)).bind some = some r) ?_ ?_
  · rintro a w ⟨hF, hS, hm⟩
    unfold gameroomref_PlayOf_J1 at hm
    refine seqR ?_
    refine at_run 5 [⟨false, [], vS (Instr.loadAt 3 (.pointer (some ⟨g1, 1, none⟩))), .int .i64 p2⟩, ⟨false, [], vS (Instr.loadAt 3 (.pointer (some ⟨g1, 0, none⟩))), .int .i64 p1⟩] [none, some (.int .i64 p2), none, some (.int .i64 p1), none] [0, 2, 4, 21] [pl 0 (.slice A1 row1.length c1), pl 2 (.bool right1), pl 4 (.pointer (some ⟨g1, 0, none⟩)), pl 21 (.agg #[.int .i64 p2, .int .i64 p1])] hF hS (by kernel_rfl) (by kernel_rfl) ?_ (fun a w hF hS => ?_)
    · exact obs_cons (ob_load Agg3 (fun _ _ hS => (hS.at_ 0 rfl).cell rfl)) <| obs_cons (ob_load Agg3 (fun _ _ hS => (hS.at_ 0 rfl).cell rfl)) <| obs_nil
    refine at_do (d := 8) (s := vS (Instr.alloc 23 true (.tuple #[]))) (v := .pointer (some ⟨w.heap.size, 0, none⟩)) (w' := w.alloc (.cells #[.int .i64 0, .int .i64 0] 23)) hF (by kernel_rfl) (by kernel_rfl) (by kernel_rfl) (fun a hF => ?_)
    have hS : Sep w0 B (w.alloc (.cells #[.int .i64 0, .int .i64 0] 23)) (blk w.heap.size 23 #[.int .i64 0, .int .i64 0] :: (blk g1 23 #[.int .i64 p1, .int .i64 p2] :: fs)) := hS.box 23 #[.int .i64 0, .int .i64 0]
    generalize w.heap.size = g3 at hF hS
    generalize w.alloc (.cells #[.int .i64 0, .int .i64 0] 23) = w at hS ⊢
    obtain ⟨w, hrun, hS⟩ := run_putA (P := Try.prog) (t := 23) (us := #[.int .i64 p2, .int .i64 p1]) (o := 0) (hS.at_ 0 rfl) (by kernel_rfl) (all_one (by kernel_rfl)) (Nat.le_of_ble_eq_true (by kernel_rfl))
    refine at_skip hF (by kernel_rfl) hrun ?_
    have hS : Sep w0 B w (blk g3 23 #[.int .i64 p2, .int .i64 p1] :: blk g1 23 #[.int .i64 p1, .int .i64 p2] :: fs) := hS
    refine at_end [0, 2, 4, 8] [pl 0 (.slice A1 row1.length c1), pl 2 (.bool right1), pl 4 (.pointer (some ⟨g1, 0, none⟩)), pl 8 (.pointer (some ⟨g3, 0, none⟩))] hF rfl (by kernel_rfl) (fun hF => ?_)
    refine then_n ?_
    obtain ⟨hp1, hm⟩ := asrt_b hm
    refine reg [⟨true, [], vS (Instr.indexAt 22 (.slice A1 row1.length c1) (.int .i64 (w64 ((row1.length : Int) - 1)))), .pointer (some (sAddrK A1 2 (w64 ((row1.length : Int) - 1))))⟩, ⟨false, [], vS (Instr.loadAt 3 (.pointer (some (Addr.add (sAddrK A1 2 (w64 ((row1.length : Int) - 1))) 1)))), .int .i64 ((getd ((0, 0) : (Int × Int)) row1 (w64 ((row1.length : Int) - 1))).2)⟩] [none, none, none, none, some (.pointer (some (sAddrK A1 2 (w64 ((row1.length : Int) - 1))))), none, some (.int .i64 ((getd ((0, 0) : (Int × Int)) row1 (w64 ((row1.length : Int) - 1))).2)), none] [0, 2, 4, 8, 9] [pl 0 (.slice A1 row1.length c1), pl 2 (.bool right1), pl 4 (.pointer (some ⟨g1, 0, none⟩)), pl 8 (.pointer (some ⟨g3, 0, none⟩)), pl 9 (.int .i64 ((getd ((0, 0) : (Int × Int)) row1 (w64 ((row1.length : Int) - 1))).2))] hF hS Fol (by kernel_rfl) (by kernel_rfl) (by kernel_rfl) ?_ (fun a w hF hS => ?_)
    · exact obs_cons (ob_ixK (m := row1) encK23 Und22 hi23 hs23 (hr_row1 _ (hS.dropN 2)) rfl (fun _ => hp1)) <| obs_cons (ob_getF (n := row1.length) (m := row1) (j := 1) encK23 ((0, 0) : (Int × Int)) Agg3 (fun _ hS => ⟨_, (hr_row1 _ (hS.dropN 2))⟩) (fun _ hS => rfl) (fun _ => hp1) (by decide) rfl) <| obs_nil
    refine seq_cut (fun a w => Fr 78 [pl 0 (.slice A1 row1.length c1), pl 2 (.bool right1), pl 4 (.pointer (some ⟨g1, 0, none⟩)), pl 8 (.pointer (some ⟨g3, 0, none⟩)), pl 9 (.int .i64 ((getd ((0, 0) : (Int × Int)) row1 (w64 ((row1.length : Int) - 1))).2))] a ∧ Sep w0 B w (blk g1 23 #[.int .i64 p1, .int .i64 p2] :: blk g3 23 #[.int .i64 p2, .int .i64 p1] :: fs) ∧ ((gameroomref_PlayOf_J2 row1 p1 p2 right1)).bind some = some r) ?_ ?_
    · rintro a w ⟨hF, hS, hm⟩
      unfold gameroomref_PlayOf_J2 at hm
      refine seq_cut (fun a w => Fr 78 [pl 0 (.slice A1 row1.length c1), pl 4 (.pointer (some ⟨g1, 0, none⟩)), pl 8 (.pointer (some ⟨g3, 0, none⟩))] a ∧ Sep w0 B w (blk g1 23 #[.int .i64 p1, .int .i64 p2] :: blk g3 23 #[.int .i64 p2, .int .i64 p1] :: fs) ∧ ((gameroomref_PlayOf_J3 row1 p1 p2)).bind some = some r) ?_ ?_
      · rintro a w ⟨hF, hS, hm⟩
        unfold gameroomref_PlayOf_J3 at hm
        obtain ⟨hp4, hm⟩ := asrt_b hm
        refine reg [⟨true, [], vS (Instr.indexAt 22 (.slice A1 row1.length c1) (.int .i64 0)), .pointer (some (sAddrK A1 2 0))⟩, ⟨false, [], vS (Instr.loadAt 3 (.pointer (some (Addr.add (sAddrK A1 2 0) 0)))), .int .i64 ((getd ((0, 0) : (Int × Int)) row1 0).1)⟩] [none, some (.pointer (some (sAddrK A1 2 0))), none, some (.int .i64 ((getd ((0, 0) : (Int × Int)) row1 0).1)), none] [0, 4, 8, 11] [pl 0 (.slice A1 row1.length c1), pl 4 (.pointer (some ⟨g1, 0, none⟩)), pl 8 (.pointer (some ⟨g3, 0, none⟩)), pl 11 (.int .i64 ((getd ((0, 0) : (Int × Int)) row1 0).1))] hF hS Fol (by kernel_rfl) (by kernel_rfl) (by kernel_rfl) ?_ (fun a w hF hS => ?_)
        · exact obs_cons (ob_ixK (m := row1) encK23 Und22 hi23 hs23 (hr_row1 _ (hS.dropN 2)) rfl (fun _ => hp4)) <| obs_cons (ob_getF (n := row1.length) (m := row1) (j := 0) encK23 ((0, 0) : (Int × Int)) Agg3 (fun _ hS => ⟨_, (hr_row1 _ (hS.dropN 2))⟩) (fun _ hS => rfl) (fun _ => hp4) (by decide) rfl) <| obs_nil
        refine seq_cut (fun a w => Fr 78 [pl 0 (.slice A1 row1.length c1), pl 4 (.pointer (some ⟨g1, 0, none⟩)), pl 8 (.pointer (some ⟨g3, 0, none⟩)), pl 11 (.int .i64 ((getd ((0, 0) : (Int × Int)) row1 0).1))] a ∧ Sep w0 B w (blk g1 23 #[.int .i64 p1, .int .i64 p2] :: blk g3 23 #[.int .i64 p2, .int .i64 p1] :: fs) ∧ ((gameroomref_PlayOf_J5 row1 p1 p2)).bind some = some r) ?_ ?_
        · rintro a w ⟨hF, hS, hm⟩
          unfold gameroomref_PlayOf_J5 at hm
          refine seq_cut (fun a w => ∃ (p5 : Int) (p6 : Int), Fr 78 [pl 0 (.slice A1 row1.length c1), pl 4 (.pointer (some ⟨g1, 0, none⟩))] a ∧ Sep w0 B w (blk g1 23 #[.int .i64 p5, .int .i64 p6] :: fs) ∧ ((gameroomref_PlayOf_J6 row1) p5 p6).bind some = some r) ?_ ?_
          · rintro a w ⟨p5, p6, hF, hS, hm⟩
            unfold gameroomref_PlayOf_J6 at hm
            refine seqR ?_
            obtain ⟨hp5, hm⟩ := asrt_b hm
            refine at_run 1 [⟨false, [], vS (Instr.loadAt 23 (.pointer (some ⟨g1, 0, none⟩))), .agg #[.int .i64 p5, .int .i64 p6]⟩] [some (.agg #[.int .i64 p5, .int .i64 p6])] [0, 74] [pl 0 (.slice A1 row1.length c1), pl 74 (.agg #[.int .i64 p5, .int .i64 p6])] hF hS (by kernel_rfl) (by kernel_rfl) ?_ (fun a w hF hS => ?_)
            · exact obs_cons (ob_loadA (cs := #[.int .i64 p5, .int .i64 p6]) (by kernel_rfl) (by kernel_rfl) (fun _ _ hS => (hS.at_ 0 rfl).cellsAt 0 (by rfl))) <| obs_nil
            refine at_do (d := 75) (s := vS (Instr.buildSlice 22 1 #[(0, .agg #[.int .i64 p5, .int .i64 p6])])) (v := .slice (some ⟨w.heap.size, 0, none⟩) 1 1) (w' := w.alloc (.cells #[.int .i64 p5, .int .i64 p6] 23)) hF (by kernel_rfl) (by kernel_rfl) (by kernel_rfl) (fun a hF => ?_)
            have hS : Sep w0 B (w.alloc (.cells #[.int .i64 p5, .int .i64 p6] 23)) (ownK 23 2 (some (⟨w.heap.size, 0, none⟩ : Addr)) 1 1 (List.flatMap enc23 ([(p5, p6)] : List (Int × Int))) :: (blk g1 23 #[.int .i64 p5, .int .i64 p6] :: fs)) := hS.litK 23 2 #[.int .i64 p5, .int .i64 p6] 1 rfl (by omega)
            generalize (some (⟨w.heap.size, 0, none⟩ : Addr)) = g5 at hF hS
            generalize w.alloc (.cells #[.int .i64 p5, .int .i64 p6] 23) = w at hS ⊢
            refine at_run 1 [] [] [75, 76] [pl 75 (.slice g5 1 1), pl 76 (.slice A1 row1.length c1)] hF hS (by kernel_rfl) (by kernel_rfl) ?_ (fun a w hF hS => ?_)
            · exact obs_nil
            obtain ⟨A4, c4, w, hrun, hS⟩ := run_appK2 (P := Try.prog) (t := 22) (m := ([(p5, p6)] : List (Int × Int))) (ys := row1) (A2 := A1) (m2 := row1.length) (c2 := c1) encK23 (hS.at_ 0 rfl) (hr_row1 _ (hS.dropN 2)) rfl 22 Und22 hi23 hz23 hs23 rfl (by omega) hp5
            have hS : Sep w0 B w (ownK 23 2 A4 ((([(p5, p6)] : List (Int × Int)) ++ row1).length) c4 (List.flatMap enc23 (([(p5, p6)] : List (Int × Int)) ++ row1)) :: blk g1 23 #[.int .i64 p5, .int .i64 p6] :: fs) := hS
            refine at_do (d := 77) hF (by kernel_rfl) (by kernel_rfl) hrun (fun a hF => ?_)
            refine at_run 2 [] [] [6, 7] [pl 6 (.slice A4 ((([(p5, p6)] : List (Int × Int)) ++ row1).length) c4), pl 7 (.bool true)] hF hS (by kernel_rfl) (by kernel_rfl) ?_ (fun a w hF hS => ?_)
            · exact obs_nil
            refine at_end [6, 7] [pl 6 (.slice A4 ((([(p5, p6)] : List (Int × Int)) ++ row1).length) c4), pl 7 (.bool true)] hF rfl (by kernel_rfl) (fun hF => ?_)
            refine then_n ?_
            refine wpIn_ret ?_
            have hS := hS.pickN 2 [0] (by decide)
            have hm : some ((([(p5, p6)] : List (Int × Int)) ++ row1), true) = some r := hm
            obtain rfl := Option.some.inj hm
            exact retV (rs := [.tmp 6, .tmp 7]) (vs := [.slice A4 ((([(p5, p6)] : List (Int × Int)) ++ row1).length) c4, .bool true]) hF rfl (rv_t (by kernel_rfl) <| rv_t (by kernel_rfl) <| rv_nil) rfl ⟨_, rfl, A4, c4, rfl, hS⟩
          · refine reg [⟨false, [], vS (Instr.loadAt 3 (.pointer (some ⟨g1, 1, none⟩))), .int .i64 p2⟩] [none, some (.int .i64 p2), none, none] [0, 4, 8, 72] [pl 0 (.slice A1 row1.length c1), pl 4 (.pointer (some ⟨g1, 0, none⟩)), pl 8 (.pointer (some ⟨g3, 0, none⟩)), pl 72 (.bool (p2 != ((getd ((0, 0) : (Int × Int)) row1 0).1)))] hF hS Fol (by kernel_rfl) (by kernel_rfl) (by kernel_rfl) ?_ (fun a w hF hS => ?_)
            · exact obs_cons (ob_load Agg3 (fun _ _ hS => (hS.at_ 0 rfl).cell rfl)) <| obs_nil
            refine cond_ev (t := 72) (b := (p2 != ((getd ((0, 0) : (Int × Int)) row1 0).1))) hF (by kernel_rfl) (fun hb => ?_) (fun hb => ?_)
            · replace hm := if_t hm hb
              refine oneR ?_
              refine at_run 1 [⟨false, [], vS (Instr.loadAt 23 (.pointer (some ⟨g3, 0, none⟩))), .agg #[.int .i64 p2, .int .i64 p1]⟩] [some (.agg #[.int .i64 p2, .int .i64 p1])] [0, 4, 73] [pl 0 (.slice A1 row1.length c1), pl 4 (.pointer (some ⟨g1, 0, none⟩)), pl 73 (.agg #[.int .i64 p2, .int .i64 p1])] hF hS (by kernel_rfl) (by kernel_rfl) ?_ (fun a w hF hS => ?_)
              · exact obs_cons (ob_loadA (cs := #[.int .i64 p2, .int .i64 p1]) (by kernel_rfl) (by kernel_rfl) (fun _ _ hS => (hS.at_ 1 rfl).cellsAt 0 (by rfl))) <| obs_nil
              obtain ⟨w, hrun, hS⟩ := run_putA (P := Try.prog) (t := 23) (us := #[.int .i64 p2, .int .i64 p1]) (o := 0) (hS.at_ 0 rfl) (by kernel_rfl) (all_one (by kernel_rfl)) (Nat.le_of_ble_eq_true (by kernel_rfl))
              refine at_skip hF (by kernel_rfl) hrun ?_
              have hS : Sep w0 B w (blk g1 23 #[.int .i64 p2, .int .i64 p1] :: blk g3 23 #[.int .i64 p2, .int .i64 p1] :: fs) := hS
              refine at_end [0, 4] [pl 0 (.slice A1 row1.length c1), pl 4 (.pointer (some ⟨g1, 0, none⟩))] hF rfl (by kernel_rfl) (fun hF => ?_)
              refine then_n ?_
              have hS := hS.pickN 2 [0] (by decide)
              exact ⟨p2, p1, hF.weak [0, 4] (by kernel_rfl), hS, hm⟩
            · replace hm := if_f hm hb
              refine wpIn_skip ?_
              refine then_n ?_
              have hS := hS.pickN 2 [0] (by decide)
              exact ⟨p1, p2, hF.weak [0, 4] (by kernel_rfl), hS, hm⟩
        · refine reg [⟨false, [], vS (Instr.loadAt 3 (.pointer (some ⟨g1, 1, none⟩))), .int .i64 p2⟩, ⟨false, [((p2 != ((getd ((0, 0) : (Int × Int)) row1 0).1)), true)], vS (Instr.loadAt 3 (.pointer (some ⟨g3, 1, none⟩))), .int .i64 p1⟩] [none, some (.int .i64 p2), none, none, none, none, some (.int .i64 p1), none, none, none] [0, 4, 8, 11, 68] [pl 0 (.slice A1 row1.length c1), pl 4 (.pointer (some ⟨g1, 0, none⟩)), pl 8 (.pointer (some ⟨g3, 0, none⟩)), pl 11 (.int .i64 ((getd ((0, 0) : (Int × Int)) row1 0).1)), pl 68 (.bool ((p2 != ((getd ((0, 0) : (Int × Int)) row1 0).1)) && (p1 != ((getd ((0, 0) : (Int × Int)) row1 0).1))))] hF hS Fol (by kernel_rfl) (by kernel_rfl) (by kernel_rfl) ?_ (fun a w hF hS => ?_)
          · exact obs_cons (ob_load Agg3 (fun _ _ hS => (hS.at_ 0 rfl).cell rfl)) <| obs_cons (ob_load Agg3 (fun _ _ hS => (hS.at_ 1 rfl).cell rfl)) <| obs_nil
          refine cond_ev (t := 68) (b := (p2 != ((getd ((0, 0) : (Int × Int)) row1 0).1)) && (p1 != ((getd ((0, 0) : (Int × Int)) row1 0).1))) hF (by kernel_rfl) (fun hb => ?_) (fun hb => ?_)
          · replace hm := if_t hm hb
            refine reg [] [] [6, 7] [pl 6 (.slice none 0 0), pl 7 (.bool false)] hF hS Fol (by kernel_rfl) (by kernel_rfl) (by kernel_rfl) ?_ (fun a w hF hS => ?_)
            · exact obs_nil
            refine wpIn_ret ?_
            refine then_r ?_
            have hS : Sep w0 B w (ownK 23 2 none 0 0 (List.flatMap enc23 ([] : List (Int × Int))) :: blk g1 23 #[.int .i64 p1, .int .i64 p2] :: blk g3 23 #[.int .i64 p2, .int .i64 p1] :: fs) := hS.nilK 23 2 enc23
            have hl3 := (hS.at_ 0 rfl).lenK encK23
            have hS := (hS.at_ 0 rfl).reNK hl3
            have hS : Sep w0 B w (ownK 23 2 none (([] : List (Int × Int)).length) 0 (List.flatMap enc23 ([] : List (Int × Int))) :: blk g1 23 #[.int .i64 p1, .int .i64 p2] :: blk g3 23 #[.int .i64 p2, .int .i64 p1] :: fs) := hS
            have hS := hS.pickN 3 [0] (by decide)
            have hm : some (([] : List (Int × Int)), false) = some r := hm
            obtain rfl := Option.some.inj hm
            exact retV (rs := [.tmp 6, .tmp 7]) (vs := [.slice none (([] : List (Int × Int)).length) 0, .bool false]) hF rfl (rv_t (by kernel_rfl) <| rv_t (by kernel_rfl) <| rv_nil) rfl ⟨_, rfl, none, 0, rfl, hS⟩
          · replace hm := if_f hm hb
            refine wpIn_skip ?_
            refine then_n ?_
            exact ⟨hF.weak [0, 4, 8, 11] (by kernel_rfl), hS, hm⟩
      · refine reg [] [] [0, 4, 8, 9, 42] [pl 0 (.slice A1 row1.length c1), pl 4 (.pointer (some ⟨g1, 0, none⟩)), pl 8 (.pointer (some ⟨g3, 0, none⟩)), pl 9 (.int .i64 ((getd ((0, 0) : (Int × Int)) row1 (w64 ((row1.length : Int) - 1))).2)), pl 42 (.bool right1)] hF hS Fol (by kernel_rfl) (by kernel_rfl) (by kernel_rfl) ?_ (fun a w hF hS => ?_)
        · exact obs_nil
        refine cond_ev (t := 42) (b := right1) hF (by kernel_rfl) (fun hb => ?_) (fun hb => ?_)
        · replace hm := if_t hm hb
          refine seq_cut (fun a w => ∃ (p3 : Int) (p4 : Int), Fr 78 [pl 0 (.slice A1 row1.length c1), pl 4 (.pointer (some ⟨g1, 0, none⟩))] a ∧ Sep w0 B w (blk g1 23 #[.int .i64 p3, .int .i64 p4] :: fs) ∧ ((gameroomref_PlayOf_J4 row1) p3 p4).bind some = some r) ?_ ?_
          · rintro a w ⟨p3, p4, hF, hS, hm⟩
            unfold gameroomref_PlayOf_J4 at hm
            refine reg [] [] [0, 4, 10] [pl 0 (.slice A1 row1.length c1), pl 4 (.pointer (some ⟨g1, 0, none⟩)), pl 10 (.slice none 0 0)] hF hS Fol (by kernel_rfl) (by kernel_rfl) (by kernel_rfl) ?_ (fun a w hF hS => ?_)
            · exact obs_nil
            refine seqR ?_
            obtain ⟨hp2, hm⟩ := asrt_b hm
            refine at_run 2 [] [] [4, 48, 49] [pl 4 (.pointer (some ⟨g1, 0, none⟩)), pl 48 (.slice none 0 0), pl 49 (.slice A1 row1.length c1)] hF hS (by kernel_rfl) (by kernel_rfl) ?_ (fun a w hF hS => ?_)
            · exact obs_nil
            have hS : Sep w0 B w (ownK 23 2 none 0 0 (List.flatMap enc23 ([] : List (Int × Int))) :: blk g1 23 #[.int .i64 p3, .int .i64 p4] :: fs) := hS.nilK 23 2 enc23
            obtain ⟨A2, c2, w, hrun, hS⟩ := run_appK2 (P := Try.prog) (t := 22) (m := ([] : List (Int × Int))) (ys := row1) (A2 := A1) (m2 := row1.length) (c2 := c1) encK23 (hS.at_ 0 rfl) (hr_row1 _ (hS.dropN 2)) rfl 22 Und22 hi23 hz23 hs23 rfl (by omega) hp2
            have hS : Sep w0 B w (ownK 23 2 A2 ((([] : List (Int × Int)) ++ row1).length) c2 (List.flatMap enc23 (([] : List (Int × Int)) ++ row1)) :: blk g1 23 #[.int .i64 p3, .int .i64 p4] :: fs) := hS
            refine at_do (d := 50) hF (by kernel_rfl) (by kernel_rfl) hrun (fun a hF => ?_)
            refine at_run 1 [] [] [4, 10] [pl 4 (.pointer (some ⟨g1, 0, none⟩)), pl 10 (.slice A2 ((([] : List (Int × Int)) ++ row1).length) c2)] hF hS (by kernel_rfl) (by kernel_rfl) ?_ (fun a w hF hS => ?_)
            · exact obs_nil
            refine at_end [4, 10] [pl 4 (.pointer (some ⟨g1, 0, none⟩)), pl 10 (.slice A2 ((([] : List (Int × Int)) ++ row1).length) c2)] hF rfl (by kernel_rfl) (fun hF => ?_)
            refine then_n ?_
            refine seqR ?_
            obtain ⟨hp3, hm⟩ := asrt_b hm
            refine at_run 2 [⟨false, [], vS (Instr.loadAt 23 (.pointer (some ⟨g1, 0, none⟩))), .agg #[.int .i64 p3, .int .i64 p4]⟩] [none, some (.agg #[.int .i64 p3, .int .i64 p4])] [51, 52] [pl 51 (.slice A2 ((([] : List (Int × Int)) ++ row1).length) c2), pl 52 (.agg #[.int .i64 p3, .int .i64 p4])] hF hS (by kernel_rfl) (by kernel_rfl) ?_ (fun a w hF hS => ?_)
            · exact obs_cons (ob_loadA (cs := #[.int .i64 p3, .int .i64 p4]) (by kernel_rfl) (by kernel_rfl) (fun _ _ hS => (hS.at_ 1 rfl).cellsAt 0 (by rfl))) <| obs_nil
            refine at_do (d := 53) (s := vS (Instr.buildSlice 22 1 #[(0, .agg #[.int .i64 p3, .int .i64 p4])])) (v := .slice (some ⟨w.heap.size, 0, none⟩) 1 1) (w' := w.alloc (.cells #[.int .i64 p3, .int .i64 p4] 23)) hF (by kernel_rfl) (by kernel_rfl) (by kernel_rfl) (fun a hF => ?_)
            have hS : Sep w0 B (w.alloc (.cells #[.int .i64 p3, .int .i64 p4] 23)) (ownK 23 2 (some (⟨w.heap.size, 0, none⟩ : Addr)) 1 1 (List.flatMap enc23 ([(p3, p4)] : List (Int × Int))) :: (ownK 23 2 A2 ((([] : List (Int × Int)) ++ row1).length) c2 (List.flatMap enc23 (([] : List (Int × Int)) ++ row1)) :: blk g1 23 #[.int .i64 p3, .int .i64 p4] :: fs)) := hS.litK 23 2 #[.int .i64 p3, .int .i64 p4] 1 rfl (by omega)
            generalize (some (⟨w.heap.size, 0, none⟩ : Addr)) = g4 at hF hS
            generalize w.alloc (.cells #[.int .i64 p3, .int .i64 p4] 23) = w at hS ⊢
            obtain ⟨A3, c3, w, hrun, hS⟩ := run_appK2 (P := Try.prog) (t := 22) (m := (([] : List (Int × Int)) ++ row1)) (ys := ([(p3, p4)] : List (Int × Int))) (A2 := g4) (m2 := 1) (c2 := 1) encK23 (hS.at_ 1 rfl) (hS.at_ 0 rfl).rdK ((hS.at_ 0 rfl).lenK encK23) 22 Und22 hi23 hz23 hs23 rfl (by omega) hp3
            have hS : Sep w0 B w (ownK 23 2 g4 1 1 (List.flatMap enc23 ([(p3, p4)] : List (Int × Int))) :: ownK 23 2 A3 (((([] : List (Int × Int)) ++ row1) ++ ([(p3, p4)] : List (Int × Int))).length) c3 (List.flatMap enc23 ((([] : List (Int × Int)) ++ row1) ++ ([(p3, p4)] : List (Int × Int)))) :: blk g1 23 #[.int .i64 p3, .int .i64 p4] :: fs) := hS
            refine at_do (d := 54) hF (by kernel_rfl) (by kernel_rfl) hrun (fun a hF => ?_)
            refine at_run 2 [] [] [6, 7] [pl 6 (.slice A3 (((([] : List (Int × Int)) ++ row1) ++ ([(p3, p4)] : List (Int × Int))).length) c3), pl 7 (.bool true)] hF hS (by kernel_rfl) (by kernel_rfl) ?_ (fun a w hF hS => ?_)
            · exact obs_nil
            refine at_end [6, 7] [pl 6 (.slice A3 (((([] : List (Int × Int)) ++ row1) ++ ([(p3, p4)] : List (Int × Int))).length) c3), pl 7 (.bool true)] hF rfl (by kernel_rfl) (fun hF => ?_)
            refine then_n ?_
            refine wpIn_ret ?_
            refine then_r ?_
            have hS := hS.pickN 3 [1] (by decide)
            have hm : some (((([] : List (Int × Int)) ++ row1) ++ ([(p3, p4)] : List (Int × Int))), true) = some r := hm
            obtain rfl := Option.some.inj hm
            exact retV (rs := [.tmp 6, .tmp 7]) (vs := [.slice A3 (((([] : List (Int × Int)) ++ row1) ++ ([(p3, p4)] : List (Int × Int))).length) c3, .bool true]) hF rfl (rv_t (by kernel_rfl) <| rv_t (by kernel_rfl) <| rv_nil) rfl ⟨_, rfl, A3, c3, rfl, hS⟩
          · refine reg [⟨false, [], vS (Instr.loadAt 3 (.pointer (some ⟨g1, 0, none⟩))), .int .i64 p1⟩] [none, some (.int .i64 p1), none, none] [0, 4, 8, 46] [pl 0 (.slice A1 row1.length c1), pl 4 (.pointer (some ⟨g1, 0, none⟩)), pl 8 (.pointer (some ⟨g3, 0, none⟩)), pl 46 (.bool (p1 != ((getd ((0, 0) : (Int × Int)) row1 (w64 ((row1.length : Int) - 1))).2)))] hF hS Fol (by kernel_rfl) (by kernel_rfl) (by kernel_rfl) ?_ (fun a w hF hS => ?_)
            · exact obs_cons (ob_load Agg3 (fun _ _ hS => (hS.at_ 0 rfl).cell rfl)) <| obs_nil
            refine cond_ev (t := 46) (b := (p1 != ((getd ((0, 0) : (Int × Int)) row1 (w64 ((row1.length : Int) - 1))).2))) hF (by kernel_rfl) (fun hb => ?_) (fun hb => ?_)
            · replace hm := if_t hm hb
              refine oneR ?_
              refine at_run 1 [⟨false, [], vS (Instr.loadAt 23 (.pointer (some ⟨g3, 0, none⟩))), .agg #[.int .i64 p2, .int .i64 p1]⟩] [some (.agg #[.int .i64 p2, .int .i64 p1])] [0, 4, 47] [pl 0 (.slice A1 row1.length c1), pl 4 (.pointer (some ⟨g1, 0, none⟩)), pl 47 (.agg #[.int .i64 p2, .int .i64 p1])] hF hS (by kernel_rfl) (by kernel_rfl) ?_ (fun a w hF hS => ?_)
              · exact obs_cons (ob_loadA (cs := #[.int .i64 p2, .int .i64 p1]) (by kernel_rfl) (by kernel_rfl) (fun _ _ hS => (hS.at_ 1 rfl).cellsAt 0 (by rfl))) <| obs_nil
              obtain ⟨w, hrun, hS⟩ := run_putA (P := Try.prog) (t := 23) (us := #[.int .i64 p2, .int .i64 p1]) (o := 0) (hS.at_ 0 rfl) (by kernel_rfl) (all_one (by kernel_rfl)) (Nat.le_of_ble_eq_true (by kernel_rfl))
              refine at_skip hF (by kernel_rfl) hrun ?_
              have hS : Sep w0 B w (blk g1 23 #[.int .i64 p2, .int .i64 p1] :: blk g3 23 #[.int .i64 p2, .int .i64 p1] :: fs) := hS
              refine at_end [0, 4] [pl 0 (.slice A1 row1.length c1), pl 4 (.pointer (some ⟨g1, 0, none⟩))] hF rfl (by kernel_rfl) (fun hF => ?_)
              refine then_n ?_
              have hS := hS.pickN 2 [0] (by decide)
              exact ⟨p2, p1, hF.weak [0, 4] (by kernel_rfl), hS, hm⟩
            · replace hm := if_f hm hb
              refine wpIn_skip ?_
              refine then_n ?_
              have hS := hS.pickN 2 [0] (by decide)
              exact ⟨p1, p2, hF.weak [0, 4] (by kernel_rfl), hS, hm⟩
        · replace hm := if_f hm hb
          refine wpIn_skip ?_
          refine then_n ?_
          exact ⟨hF.weak [0, 4, 8] (by kernel_rfl), hS, hm⟩
    · refine reg [⟨false, [(right1, true)], vS (Instr.loadAt 3 (.pointer (some ⟨g1, 0, none⟩))), .int .i64 p1⟩, ⟨false, [(right1 && (p1 != ((getd ((0, 0) : (Int × Int)) row1 (w64 ((row1.length : Int) - 1))).2)), true)], vS (Instr.loadAt 3 (.pointer (some ⟨g3, 0, none⟩))), .int .i64 p2⟩] [none, none, none, some (.int .i64 p1), none, none, none, none, none, some (.int .i64 p2), none, none, none] [0, 2, 4, 8, 9, 41] [pl 0 (.slice A1 row1.length c1), pl 2 (.bool right1), pl 4 (.pointer (some ⟨g1, 0, none⟩)), pl 8 (.pointer (some ⟨g3, 0, none⟩)), pl 9 (.int .i64 ((getd ((0, 0) : (Int × Int)) row1 (w64 ((row1.length : Int) - 1))).2)), pl 41 (.bool ((right1 && (p1 != ((getd ((0, 0) : (Int × Int)) row1 (w64 ((row1.length : Int) - 1))).2))) && (p2 != ((getd ((0, 0) : (Int × Int)) row1 (w64 ((row1.length : Int) - 1))).2))))] hF hS Fol (by kernel_rfl) (by kernel_rfl) (by kernel_rfl) ?_ (fun a w hF hS => ?_)
      · exact obs_cons (ob_load Agg3 (fun _ _ hS => (hS.at_ 1 rfl).cell rfl)) <| obs_cons (ob_load Agg3 (fun _ _ hS => (hS.at_ 0 rfl).cell rfl)) <| obs_nil
      refine cond_ev (t := 41) (b := (right1 && (p1 != ((getd ((0, 0) : (Int × Int)) row1 (w64 ((row1.length : Int) - 1))).2))) && (p2 != ((getd ((0, 0) : (Int × Int)) row1 (w64 ((row1.length : Int) - 1))).2))) hF (by kernel_rfl) (fun hb => ?_) (fun hb => ?_)
      · replace hm := if_t hm hb
        refine reg [] [] [6, 7] [pl 6 (.slice none 0 0), pl 7 (.bool false)] hF hS Fol (by kernel_rfl) (by kernel_rfl) (by kernel_rfl) ?_ (fun a w hF hS => ?_)
        · exact obs_nil
        refine wpIn_ret ?_
        refine then_r ?_
        have hS : Sep w0 B w (ownK 23 2 none 0 0 (List.flatMap enc23 ([] : List (Int × Int))) :: blk g3 23 #[.int .i64 p2, .int .i64 p1] :: blk g1 23 #[.int .i64 p1, .int .i64 p2] :: fs) := hS.nilK 23 2 enc23
        have hl2 := (hS.at_ 0 rfl).lenK encK23
        have hS := (hS.at_ 0 rfl).reNK hl2
        have hS : Sep w0 B w (ownK 23 2 none (([] : List (Int × Int)).length) 0 (List.flatMap enc23 ([] : List (Int × Int))) :: blk g3 23 #[.int .i64 p2, .int .i64 p1] :: blk g1 23 #[.int .i64 p1, .int .i64 p2] :: fs) := hS
        have hS := hS.pickN 3 [0] (by decide)
        have hm : some (([] : List (Int × Int)), false) = some r := hm
        obtain rfl := Option.some.inj hm
        exact retV (rs := [.tmp 6, .tmp 7]) (vs := [.slice none (([] : List (Int × Int)).length) 0, .bool false]) hF rfl (rv_t (by kernel_rfl) <| rv_t (by kernel_rfl) <| rv_nil) rfl ⟨_, rfl, none, 0, rfl, hS⟩
      · replace hm := if_f hm hb
        refine wpIn_skip ?_
        refine then_n ?_
        have hS := hS.pickN 2 [1, 0] (by decide)
        exact ⟨hF.weak [0, 2, 4, 8, 9] (by kernel_rfl), hS, hm⟩
  · refine reg [] [] [0, 2, 4, 14] [pl 0 (.slice A1 row1.length c1), pl 2 (.bool right1), pl 4 (.pointer (some ⟨g1, 0, none⟩)), pl 14 (.bool ((row1.length : Int) == 0))] hF hS Fol (by kernel_rfl) (by kernel_rfl) (by kernel_rfl) ?_ (fun a w hF hS => ?_)
    · exact obs_nil
    refine cond_ev (t := 14) (b := ((row1.length : Int) == 0)) hF (by kernel_rfl) (fun hb => ?_) (fun hb => ?_)
    · replace hm := if_t hm hb
      refine seqR ?_
      refine at_run 1 [⟨false, [], vS (Instr.loadAt 23 (.pointer (some ⟨g1, 0, none⟩))), .agg #[.int .i64 p1, .int .i64 p2]⟩] [some (.agg #[.int .i64 p1, .int .i64 p2])] [15] [pl 15 (.agg #[.int .i64 p1, .int .i64 p2])] hF hS (by kernel_rfl) (by kernel_rfl) ?_ (fun a w hF hS => ?_)
      · exact obs_cons (ob_loadA (cs := #[.int .i64 p1, .int .i64 p2]) (by kernel_rfl) (by kernel_rfl) (fun _ _ hS => (hS.at_ 0 rfl).cellsAt 0 (by rfl))) <| obs_nil
      refine at_do (d := 16) (s := vS (Instr.buildSlice 22 1 #[(0, .agg #[.int .i64 p1, .int .i64 p2])])) (v := .slice (some ⟨w.heap.size, 0, none⟩) 1 1) (w' := w.alloc (.cells #[.int .i64 p1, .int .i64 p2] 23)) hF (by kernel_rfl) (by kernel_rfl) (by kernel_rfl) (fun a hF => ?_)
      have hS : Sep w0 B (w.alloc (.cells #[.int .i64 p1, .int .i64 p2] 23)) (ownK 23 2 (some (⟨w.heap.size, 0, none⟩ : Addr)) 1 1 (List.flatMap enc23 ([(p1, p2)] : List (Int × Int))) :: (blk g1 23 #[.int .i64 p1, .int .i64 p2] :: fs)) := hS.litK 23 2 #[.int .i64 p1, .int .i64 p2] 1 rfl (by omega)
      generalize (some (⟨w.heap.size, 0, none⟩ : Addr)) = g2 at hF hS
      generalize w.alloc (.cells #[.int .i64 p1, .int .i64 p2] 23) = w at hS ⊢
      refine at_run 2 [] [] [6, 7] [pl 6 (.slice g2 1 1), pl 7 (.bool true)] hF hS (by kernel_rfl) (by kernel_rfl) ?_ (fun a w hF hS => ?_)
      · exact obs_nil
      refine at_end [6, 7] [pl 6 (.slice g2 1 1), pl 7 (.bool true)] hF rfl (by kernel_rfl) (fun hF => ?_)
      refine then_n ?_
      refine wpIn_ret ?_
      refine then_r ?_
      have hl1 := (hS.at_ 0 rfl).lenK encK23
      have hS := (hS.at_ 0 rfl).reNK hl1
      have hS : Sep w0 B w (ownK 23 2 g2 (([(p1, p2)] : List (Int × Int)).length) 1 (List.flatMap enc23 ([(p1, p2)] : List (Int × Int))) :: blk g1 23 #[.int .i64 p1, .int .i64 p2] :: fs) := hS
      have hF := hF.cast (t := 6) (v := .slice g2 1 1) (v' := .slice g2 (([(p1, p2)] : List (Int × Int)).length) 1) rfl rfl (congrArg (fun k => Value.slice g2 k 1) hl1)
      have hS := hS.pickN 2 [0] (by decide)
      have hm : some (([(p1, p2)] : List (Int × Int)), true) = some r := hm
      obtain rfl := Option.some.inj hm
      exact retV (rs := [.tmp 6, .tmp 7]) (vs := [.slice g2 (([(p1, p2)] : List (Int × Int)).length) 1, .bool true]) hF rfl (rv_t (by kernel_rfl) <| rv_t (by kernel_rfl) <| rv_nil) rfl ⟨_, rfl, g2, 1, rfl, hS⟩
    · replace hm := if_f hm hb
      refine wpIn_skip ?_
      refine then_n ?_
      exact ⟨hF.weak [0, 2, 4] (by kernel_rfl), hS, hm⟩

noncomputable def gameroomlaw_samePieces_J4  (i1 : Int) : Option (St Int (Fl Unit Bool)) :=
  some (.next (w64 (i1 + 1)))

noncomputable def gameroomlaw_samePieces_J3  (a1 : List (Int × Int)) (b1 : List (Int × Int)) (i1 : Int) : Option (St Int (Fl Unit Bool)) :=
  asrt (0 ≤ i1 ∧ i1 < (a1.length : Int)) <| asrt (0 ≤ i1 ∧ i1 < (b1.length : Int)) <| if (!((((getd ((0, 0) : (Int × Int)) a1 i1).1) == ((getd ((0, 0) : (Int × Int)) b1 i1).1)) && (((getd ((0, 0) : (Int × Int)) a1 i1).2) == ((getd ((0, 0) : (Int × Int)) b1 i1).2)))) then (some (.done (.ret false))) else ((gameroomlaw_samePieces_J4 i1))

noncomputable def gameroomlaw_samePieces_J2  : Option Bool :=
  some true

noncomputable def gameroomlaw_samePieces_K1  : (Fl Unit Bool) → Option Bool :=
  fun (x : (Fl Unit Bool)) => match x with | .go _ => gameroomlaw_samePieces_J2 | .ret x => some x

noncomputable def gameroomlaw_samePieces_L1  (a1 : List (Int × Int)) (b1 : List (Int × Int)) : Int → Option (St Int (Fl Unit Bool)) :=
  fun (x : Int) => match x with | i1 => if (decide (i1 < (a1.length : Int))) then ((gameroomlaw_samePieces_J3 a1 b1 i1)) else (some (.done (.go ())))

noncomputable def gameroomlaw_samePieces_J1  (a1 : List (Int × Int)) (b1 : List (Int × Int)) : Option Bool :=
  (loop (gameroomlaw_samePieces_L1 a1 b1) 0).bind gameroomlaw_samePieces_K1

noncomputable def gameroomlaw_samePieces_m  (a1 : List (Int × Int)) (b1 : List (Int × Int)) : Option Bool :=
  if ((a1.length : Int) != (b1.length : Int)) then (some false) else ((gameroomlaw_samePieces_J1 a1 b1))

set_option maxRecDepth 100000 in
set_option maxHeartbeats 4000000 in
theorem gameroomlaw_samePieces_w {A1 : Option Addr} {c1 : Nat} {n1 : Nat} {a1 : List (Int × Int)} {A2 : Option Addr} {c2 : Nat} {n2 : Nat} {b1 : List (Int × Int)} {r : Bool} {w0 w : World} {B : Nat} {fs : List HP} (hm : gameroomlaw_samePieces_m a1 b1 = some r) (hS : Sep w0 B w (fs)) (hr_a1 : RdF w0 B fs A1 ((List.flatMap enc23 a1))) (_hc_a1 : a1.length ≤ c1) (_hn_a1 : n1 = a1.length) (hr_b1 : RdF w0 B fs A2 ((List.flatMap enc23 b1))) (_hc_b1 : b1.length ≤ c2) (_hn_b1 : n2 = b1.length) :
    Calls Try.prog 19 #[.slice A1 n1 c1, .slice A2 n2 c2] w fun e w' => e = .returned (.bool r) ∧ Sep w0 B w' (fs) := by
  obtain ⟨i23, hi23, hz23, hs23, hb23⟩ := info_parts Info23
  obtain rfl := _hn_a1
  obtain rfl := _hn_b1
  unfold gameroomlaw_samePieces_m at hm
  replace hm := start_b hm
  refine enter (l := [.slice A1 a1.length c1, .slice A2 b1.length c2]) (n := 26) Try.func19 rfl rfl (by simp) (fun a hF => ?_)
  refine reg [] [] [0, 1] [pl 0 (.slice A1 a1.length c1), pl 1 (.slice A2 b1.length c2)] hF hS Fol (by kernel_rfl) (by kernel_rfl) (by kernel_rfl) ?_ (fun a w hF hS => ?_)
  · exact obs_nil
  refine seq_cut (fun a w => Fr 26 [pl 0 (.slice A1 a1.length c1), pl 1 (.slice A2 b1.length c2)] a ∧ Sep w0 B w (fs) ∧ ((gameroomlaw_samePieces_J1 a1 b1)).bind some = some r) ?_ ?_
  · rintro a w ⟨hF, hS, hm⟩
    unfold gameroomlaw_samePieces_J1 at hm
    refine seq_cut (fun a w => Fr 26 [] a ∧ Sep w0 B w (fs) ∧ (gameroomlaw_samePieces_J2).bind some = some r) ?_ ?_
    · rintro a w ⟨hF, hS, hm⟩
      unfold gameroomlaw_samePieces_J2 at hm
      refine reg [] [] [4] [pl 4 (.bool true)] hF hS Fol (by kernel_rfl) (by kernel_rfl) (by kernel_rfl) ?_ (fun a w hF hS => ?_)
      · exact obs_nil
      refine wpIn_ret ?_
      have hm : some true = some r := hm
      obtain rfl := Option.some.inj hm
      exact retV (rs := [.tmp 4]) (vs := [.bool true]) hF rfl (rv_t (by kernel_rfl) <| rv_nil) rfl ⟨rfl, hS⟩
    · refine reg [] [] [0, 1, 5] [pl 0 (.slice A1 a1.length c1), pl 1 (.slice A2 b1.length c2), pl 5 (.int .i64 0)] hF hS Fol (by kernel_rfl) (by kernel_rfl) (by kernel_rfl) ?_ (fun a w hF hS => ?_)
      · exact obs_nil
      refine wpIn_block ?_
      refine wp_loop_model (S := Int) (R := (Fl Unit Bool)) (gameroomlaw_samePieces_L1 a1 b1) (fun x => (gameroomlaw_samePieces_K1 x).bind some) r (fun (x : Int) a w => Fr 26 [pl 0 (.slice A1 a1.length c1), pl 1 (.slice A2 b1.length c2), pl 5 (.int .i64 x)] a ∧ Sep w0 B w (fs)) (assoc_b hm) ⟨hF.weak [0, 1, 5] (by kernel_rfl), hS⟩ ?_
      clear hF hS hm
      rintro nn1 i1 a w ⟨hF, hS⟩ hm
      generalize hφ1 : stK (gameroomlaw_samePieces_L1 a1 b1) nn1 (fun x => (gameroomlaw_samePieces_K1 x).bind some) = φ1 at hm
      unfold gameroomlaw_samePieces_L1 at hm
      dsimp only at hm
      refine seq_cut (fun a w => Fr 26 [pl 0 (.slice A1 a1.length c1), pl 1 (.slice A2 b1.length c2), pl 5 (.int .i64 i1)] a ∧ Sep w0 B w (fs) ∧ ((gameroomlaw_samePieces_J3 a1 b1 i1)).bind φ1 = some r) ?_ ?_
      · rintro a w ⟨hF, hS, hm⟩
        unfold gameroomlaw_samePieces_J3 at hm
        refine seq_cut (fun a w => Fr 26 [pl 0 (.slice A1 a1.length c1), pl 1 (.slice A2 b1.length c2), pl 5 (.int .i64 i1)] a ∧ Sep w0 B w (fs) ∧ ((gameroomlaw_samePieces_J4 i1)).bind φ1 = some r) ?_ ?_
        · rintro a w ⟨hF, hS, hm⟩
          unfold gameroomlaw_samePieces_J4 at hm
          refine reg1 [] [] [0, 1, 5] [pl 0 (.slice A1 a1.length c1), pl 1 (.slice A2 b1.length c2), pl 5 (.int .i64 (w64 (i1 + 1)))] hF hS Fol (by kernel_rfl) (by kernel_rfl) (by kernel_rfl) ?_ (fun a w hF hS => ?_)
          · exact obs_nil
          refine then_n ?_
          rw [← hφ1] at hm
          exact ⟨(w64 (i1 + 1)), ⟨hF.weak [0, 1, 5] (by kernel_rfl), hS⟩, hm⟩
        · refine wpIn_block ?_
          obtain ⟨hp1, hm⟩ := asrt_b hm
          obtain ⟨hp2, hm⟩ := asrt_b hm
          refine reg [⟨true, [], vS (Instr.indexAt 22 (.slice A1 a1.length c1) (.int .i64 i1)), .pointer (some (sAddrK A1 2 i1))⟩, ⟨false, [], vS (Instr.loadAt 23 (.pointer (some (sAddrK A1 2 i1)))), .agg #[.int .i64 ((getd ((0, 0) : (Int × Int)) a1 i1).1), .int .i64 ((getd ((0, 0) : (Int × Int)) a1 i1).2)]⟩, ⟨true, [], vS (Instr.indexAt 22 (.slice A2 b1.length c2) (.int .i64 i1)), .pointer (some (sAddrK A2 2 i1))⟩, ⟨false, [], vS (Instr.loadAt 23 (.pointer (some (sAddrK A2 2 i1)))), .agg #[.int .i64 ((getd ((0, 0) : (Int × Int)) b1 i1).1), .int .i64 ((getd ((0, 0) : (Int × Int)) b1 i1).2)]⟩, ⟨true, [], vS (do eqGuard .neq 23 (.tmp 20) (.tmp 24) (.agg #[.int .i64 ((getd ((0, 0) : (Int × Int)) a1 i1).1), .int .i64 ((getd ((0, 0) : (Int × Int)) a1 i1).2)]) (.agg #[.int .i64 ((getd ((0, 0) : (Int × Int)) b1 i1).1), .int .i64 ((getd ((0, 0) : (Int × Int)) b1 i1).2)]); binOp .neq 23 (.agg #[.int .i64 ((getd ((0, 0) : (Int × Int)) a1 i1).1), .int .i64 ((getd ((0, 0) : (Int × Int)) a1 i1).2)]) (.agg #[.int .i64 ((getd ((0, 0) : (Int × Int)) b1 i1).1), .int .i64 ((getd ((0, 0) : (Int × Int)) b1 i1).2)])), .bool (!((((getd ((0, 0) : (Int × Int)) a1 i1).1) == ((getd ((0, 0) : (Int × Int)) b1 i1).1)) && (((getd ((0, 0) : (Int × Int)) a1 i1).2) == ((getd ((0, 0) : (Int × Int)) b1 i1).2))))⟩] [none, none, some (.pointer (some (sAddrK A1 2 i1))), some (.agg #[.int .i64 ((getd ((0, 0) : (Int × Int)) a1 i1).1), .int .i64 ((getd ((0, 0) : (Int × Int)) a1 i1).2)]), none, none, some (.pointer (some (sAddrK A2 2 i1))), some (.agg #[.int .i64 ((getd ((0, 0) : (Int × Int)) b1 i1).1), .int .i64 ((getd ((0, 0) : (Int × Int)) b1 i1).2)]), some (.bool (!((((getd ((0, 0) : (Int × Int)) a1 i1).1) == ((getd ((0, 0) : (Int × Int)) b1 i1).1)) && (((getd ((0, 0) : (Int × Int)) a1 i1).2) == ((getd ((0, 0) : (Int × Int)) b1 i1).2)))))] [0, 1, 5, 25] [pl 0 (.slice A1 a1.length c1), pl 1 (.slice A2 b1.length c2), pl 5 (.int .i64 i1), pl 25 (.bool (!((((getd ((0, 0) : (Int × Int)) a1 i1).1) == ((getd ((0, 0) : (Int × Int)) b1 i1).1)) && (((getd ((0, 0) : (Int × Int)) a1 i1).2) == ((getd ((0, 0) : (Int × Int)) b1 i1).2)))))] hF hS Fol (by kernel_rfl) (by kernel_rfl) (by kernel_rfl) ?_ (fun a w hF hS => ?_)
          · exact obs_cons (ob_ixK (m := a1) encK23 Und22 hi23 hs23 (hr_a1 _ (hS.dropN 0)) rfl (fun _ => hp1)) <| obs_cons (ob_getK (n := a1.length) (m := a1) encK23 ((0, 0) : (Int × Int)) (by kernel_rfl) (by kernel_rfl) (fun _ hS => ⟨_, (hr_a1 _ (hS.dropN 0))⟩) (fun _ hS => rfl) (fun _ => hp1)) <| obs_cons (ob_ixK (m := b1) encK23 Und22 hi23 hs23 (hr_b1 _ (hS.dropN 0)) rfl (fun _ => hp2)) <| obs_cons (ob_getK (n := b1.length) (m := b1) encK23 ((0, 0) : (Int × Int)) (by kernel_rfl) (by kernel_rfl) (fun _ hS => ⟨_, (hr_b1 _ (hS.dropN 0))⟩) (fun _ hS => rfl) (fun _ => hp2)) <| obs_cons (ob_neq rfl (by kernel_rfl) (fun w => Eql23 w)) <| obs_nil
          refine cond_ev (t := 25) (b := !((((getd ((0, 0) : (Int × Int)) a1 i1).1) == ((getd ((0, 0) : (Int × Int)) b1 i1).1)) && (((getd ((0, 0) : (Int × Int)) a1 i1).2) == ((getd ((0, 0) : (Int × Int)) b1 i1).2)))) hF (by kernel_rfl) (fun hb => ?_) (fun hb => ?_)
          · replace hm := if_t hm hb
            refine reg [] [] [4] [pl 4 (.bool false)] hF hS Fol (by kernel_rfl) (by kernel_rfl) (by kernel_rfl) ?_ (fun a w hF hS => ?_)
            · exact obs_nil
            refine wpIn_ret ?_
            refine block_r (then_r (then_r (block_r (then_r ?_))))
            rw [← hφ1] at hm
            replace hm := done_b hm
            unfold gameroomlaw_samePieces_K1 at hm
            try dsimp only at hm
            have hm : some false = some r := hm
            obtain rfl := Option.some.inj hm
            exact retV (rs := [.tmp 4]) (vs := [.bool false]) hF rfl (rv_t (by kernel_rfl) <| rv_nil) rfl ⟨rfl, hS⟩
          · replace hm := if_f hm hb
            refine wpIn_skip ?_
            refine block_n ?_
            refine then_n ?_
            exact ⟨hF.weak [0, 1, 5] (by kernel_rfl), hS, hm⟩
      · refine reg [] [] [0, 1, 5, 14] [pl 0 (.slice A1 a1.length c1), pl 1 (.slice A2 b1.length c2), pl 5 (.int .i64 i1), pl 14 (.bool (decide (i1 < (a1.length : Int))))] hF hS Fol (by kernel_rfl) (by kernel_rfl) (by kernel_rfl) ?_ (fun a w hF hS => ?_)
        · exact obs_nil
        refine cond_ev (t := 14) (b := decide (i1 < (a1.length : Int))) hF (by kernel_rfl) (fun hb => ?_) (fun hb => ?_)
        · replace hm := if_t hm hb
          refine wpIn_skip ?_
          refine then_n ?_
          exact ⟨hF.weak [0, 1, 5] (by kernel_rfl), hS, hm⟩
        · replace hm := if_f hm hb
          refine wpIn_exit ?_
          refine then_e (then_e (block_e (then_n ?_)))
          rw [← hφ1] at hm
          replace hm := done_b hm
          unfold gameroomlaw_samePieces_K1 at hm
          try dsimp only at hm
          have hm : (gameroomlaw_samePieces_J2).bind some = some r := hm
          exact ⟨hF.weak [] (by kernel_rfl), hS, hm⟩
  · refine reg [] [] [0, 1, 10] [pl 0 (.slice A1 a1.length c1), pl 1 (.slice A2 b1.length c2), pl 10 (.bool ((a1.length : Int) != (b1.length : Int)))] hF hS Fol (by kernel_rfl) (by kernel_rfl) (by kernel_rfl) ?_ (fun a w hF hS => ?_)
    · exact obs_nil
    refine cond_ev (t := 10) (b := ((a1.length : Int) != (b1.length : Int))) hF (by kernel_rfl) (fun hb => ?_) (fun hb => ?_)
    · replace hm := if_t hm hb
      refine reg [] [] [4] [pl 4 (.bool false)] hF hS Fol (by kernel_rfl) (by kernel_rfl) (by kernel_rfl) ?_ (fun a w hF hS => ?_)
      · exact obs_nil
      refine wpIn_ret ?_
      refine then_r ?_
      have hm : some false = some r := hm
      obtain rfl := Option.some.inj hm
      exact retV (rs := [.tmp 4]) (vs := [.bool false]) hF rfl (rv_t (by kernel_rfl) <| rv_nil) rfl ⟨rfl, hS⟩
    · replace hm := if_f hm hb
      refine wpIn_skip ?_
      refine then_n ?_
      exact ⟨hF.weak [0, 1] (by kernel_rfl), hS, hm⟩

noncomputable def gameroomlaw_DominoPlays_J4  (r3 : List (Int × Int)) (e1 : Int) (r7 : (List (Int × Int) × Bool)) : Option Bool :=
  ((if (e1 == 0) then gameroomlaw_samePieces_m r3 r7.1 else some false)).bind fun r8 => some ((e1 == 0) && r8)

noncomputable def gameroomlaw_DominoPlays_J3  (row1 : List (Int × Int)) (piece1 : Int) (piece2 : Int) (right1 : Bool) (r3 : List (Int × Int)) (e1 : Int) : Option Bool :=
  (gameroomref_PlayOf_m row1 piece1 piece2 right1).bind fun r7 => if (!r7.2) then (some ((e1 == 10) && ((r3.length : Int) == 0))) else ((gameroomlaw_DominoPlays_J4 r3 e1 r7))

noncomputable def gameroomlaw_DominoPlays_J2  (row1 : List (Int × Int)) (piece1 : Int) (piece2 : Int) (right1 : Bool) (r3 : List (Int × Int)) (e1 : Int) (no1 : Int) : Option Bool :=
  if (no1 != 0) then (some ((e1 == no1) && ((r3.length : Int) == 0))) else ((gameroomlaw_DominoPlays_J3 row1 piece1 piece2 right1 r3 e1))

noncomputable def gameroomlaw_DominoPlays_J1  (row1 : List (Int × Int)) (piece1 : Int) (piece2 : Int) (right1 : Bool) (r3 : List (Int × Int)) (e1 : Int) : Option Bool :=
  if (decide ((60 : Int) ≤ (row1.length : Int))) then ((gameroomlaw_DominoPlays_J2 row1 piece1 piece2 right1 r3 e1) 2) else ((gameroomref_PiecesMay_m row1).bind fun r4 => ((if (!(!r4)) then gameroomref_PieceMay_m piece1 piece2 else some false)).bind fun r5 => if ((!r4) || (!r5)) then ((gameroomlaw_DominoPlays_J2 row1 piece1 piece2 right1 r3 e1) 3) else ((gameroomref_RowIs_m row1).bind fun r6 => if (!r6) then ((gameroomlaw_DominoPlays_J2 row1 piece1 piece2 right1 r3 e1) 1) else ((gameroomlaw_DominoPlays_J2 row1 piece1 piece2 right1 r3 e1) 0)))

noncomputable def gameroomlaw_DominoPlays_m  (row1 : List (Int × Int)) (piece1 : Int) (piece2 : Int) (right1 : Bool) : Option Bool :=
  (gameroomlaw_pieces_m row1).bind fun r1 => (domino_Play_m r1 piece1 piece2 right1).bind fun r2 => (gameroomlaw_DominoPlays_J1 row1 piece1 piece2 right1) r2.1 r2.2

set_option maxRecDepth 100000 in
set_option maxHeartbeats 4000000 in
theorem gameroomlaw_DominoPlays_w {A1 : Option Addr} {c1 : Nat} {n1 : Nat} {row1 : List (Int × Int)} {piece1 : Int} {piece2 : Int} {right1 : Bool} {r : Bool} {w0 w : World} {B : Nat} {fs : List HP} (hm : gameroomlaw_DominoPlays_m row1 piece1 piece2 right1 = some r) (hS : Sep w0 B w (fs)) (hr_row1 : RdF w0 B fs A1 ((List.flatMap enc23 row1))) (_hc_row1 : row1.length ≤ c1) (_hn_row1 : n1 = row1.length) :
    Calls Try.prog 3 #[.slice A1 n1 c1, .agg #[.int .i64 piece1, .int .i64 piece2], .bool right1] w fun e w' => e = .returned (.bool r) ∧ Sep w0 B w' (fs) := by
  obtain ⟨i23, hi23, hz23, hs23, hb23⟩ := info_parts Info23
  obtain rfl := _hn_row1
  unfold gameroomlaw_DominoPlays_m at hm
  replace hm := start_b hm
  refine enter (l := [.slice A1 row1.length c1, .agg #[.int .i64 piece1, .int .i64 piece2], .bool right1]) (n := 67) Try.func3 rfl rfl (by simp) (fun a hF => ?_)
  refine seqR ?_
  refine at_do (d := 4) (s := vS (Instr.box 23 (.agg #[.int .i64 piece1, .int .i64 piece2]))) (v := .pointer (some ⟨w.heap.size, 0, none⟩)) (w' := w.alloc (.cells #[.int .i64 piece1, .int .i64 piece2] 23)) hF (by kernel_rfl) (by kernel_rfl) (by kernel_rfl) (fun a hF => ?_)
  have hS : Sep w0 B (w.alloc (.cells #[.int .i64 piece1, .int .i64 piece2] 23)) (blk w.heap.size 23 #[.int .i64 piece1, .int .i64 piece2] :: (fs)) := hS.box 23 #[.int .i64 piece1, .int .i64 piece2]
  generalize w.heap.size = g1 at hF hS
  generalize w.alloc (.cells #[.int .i64 piece1, .int .i64 piece2] 23) = w at hS ⊢
  refine at_run 1 [] [] [0, 2, 4] [pl 0 (.slice A1 row1.length c1), pl 2 (.bool right1), pl 4 (.pointer (some ⟨g1, 0, none⟩))] hF hS (by kernel_rfl) (by kernel_rfl) ?_ (fun a w hF hS => ?_)
  · exact obs_nil
  refine at_end [0, 2, 4] [pl 0 (.slice A1 row1.length c1), pl 2 (.bool right1), pl 4 (.pointer (some ⟨g1, 0, none⟩))] hF rfl (by kernel_rfl) (fun hF => ?_)
  refine then_n ?_
  refine seq_cut (fun a w => ∃ (r3 : List (Int × Int)) (e1 : Int) (A6 : Option Addr) (c6 : Nat), Fr 67 [pl 0 (.slice A1 row1.length c1), pl 2 (.bool right1), pl 4 (.pointer (some ⟨g1, 0, none⟩)), pl 7 (.slice A6 r3.length c6), pl 8 (.int .i64 e1)] a ∧ Sep w0 B w (blk g1 23 #[.int .i64 piece1, .int .i64 piece2] :: ownK 23 2 A6 r3.length c6 (List.flatMap enc23 r3) :: fs) ∧ ((gameroomlaw_DominoPlays_J1 row1 piece1 piece2 right1) r3 e1).bind some = some r) ?_ ?_
  · rintro a w ⟨r3, e1, A6, c6, hF, hS, hm⟩
    unfold gameroomlaw_DominoPlays_J1 at hm
    refine reg [] [] [0, 2, 4, 7, 8, 9] [pl 0 (.slice A1 row1.length c1), pl 2 (.bool right1), pl 4 (.pointer (some ⟨g1, 0, none⟩)), pl 7 (.slice A6 r3.length c6), pl 8 (.int .i64 e1), pl 9 (.int .i64 0)] hF hS Fol (by kernel_rfl) (by kernel_rfl) (by kernel_rfl) ?_ (fun a w hF hS => ?_)
    · exact obs_nil
    refine seq_cut (fun a w => ∃ (no1 : Int), Fr 67 [pl 0 (.slice A1 row1.length c1), pl 2 (.bool right1), pl 4 (.pointer (some ⟨g1, 0, none⟩)), pl 7 (.slice A6 r3.length c6), pl 8 (.int .i64 e1), pl 9 (.int .i64 no1)] a ∧ Sep w0 B w (blk g1 23 #[.int .i64 piece1, .int .i64 piece2] :: ownK 23 2 A6 r3.length c6 (List.flatMap enc23 r3) :: fs) ∧ ((gameroomlaw_DominoPlays_J2 row1 piece1 piece2 right1 r3 e1) no1).bind some = some r) ?_ ?_
    · rintro a w ⟨no1, hF, hS, hm⟩
      unfold gameroomlaw_DominoPlays_J2 at hm
      refine seq_cut (fun a w => Fr 67 [pl 0 (.slice A1 row1.length c1), pl 2 (.bool right1), pl 4 (.pointer (some ⟨g1, 0, none⟩)), pl 7 (.slice A6 r3.length c6), pl 8 (.int .i64 e1)] a ∧ Sep w0 B w (blk g1 23 #[.int .i64 piece1, .int .i64 piece2] :: ownK 23 2 A6 r3.length c6 (List.flatMap enc23 r3) :: fs) ∧ ((gameroomlaw_DominoPlays_J3 row1 piece1 piece2 right1 r3 e1)).bind some = some r) ?_ ?_
      · rintro a w ⟨hF, hS, hm⟩
        unfold gameroomlaw_DominoPlays_J3 at hm
        refine seqR ?_
        obtain ⟨r7, hr6, hm⟩ := call_b hm
        refine at_run 3 [⟨false, [], vS (Instr.loadAt 23 (.pointer (some ⟨g1, 0, none⟩))), .agg #[.int .i64 piece1, .int .i64 piece2]⟩] [none, some (.agg #[.int .i64 piece1, .int .i64 piece2]), none] [7, 8, 45, 46, 47] [pl 7 (.slice A6 r3.length c6), pl 8 (.int .i64 e1), pl 45 (.slice A1 row1.length c1), pl 46 (.agg #[.int .i64 piece1, .int .i64 piece2]), pl 47 (.bool right1)] hF hS (by kernel_rfl) (by kernel_rfl) ?_ (fun a w hF hS => ?_)
        · exact obs_cons (ob_loadA (cs := #[.int .i64 piece1, .int .i64 piece2]) (by kernel_rfl) (by kernel_rfl) (fun _ _ hS => (hS.at_ 0 rfl).cellsAt 0 (by rfl))) <| obs_nil
        refine at_call (f := 18) (args := #[.slice A1 row1.length c1, .agg #[.int .i64 piece1, .int .i64 piece2], .bool right1]) (d := 48) hF (by kernel_rfl) (by kernel_rfl) Try.func18 (by kernel_rfl) rfl (gameroomref_PlayOf_w hr6 hS (fun _ hS => (hr_row1 _ (hS.dropN 2))) _hc_row1 rfl) (fun v a w hR hF => ?_)
        clear hS
        obtain ⟨A7, c7, rfl, hS⟩ := hR
        have hS : Sep w0 B w (ownK 23 2 A7 r7.1.length c7 (List.flatMap enc23 r7.1) :: blk g1 23 #[.int .i64 piece1, .int .i64 piece2] :: ownK 23 2 A6 r3.length c6 (List.flatMap enc23 r3) :: fs) := hS
        refine at_run 5 [] [] [7, 8, 10, 11] [pl 7 (.slice A6 r3.length c6), pl 8 (.int .i64 e1), pl 10 (.slice A7 r7.1.length c7), pl 11 (.bool r7.2)] hF hS (by kernel_rfl) (by kernel_rfl) ?_ (fun a w hF hS => ?_)
        · exact obs_nil
        refine at_end [7, 8, 10, 11] [pl 7 (.slice A6 r3.length c6), pl 8 (.int .i64 e1), pl 10 (.slice A7 r7.1.length c7), pl 11 (.bool r7.2)] hF rfl (by kernel_rfl) (fun hF => ?_)
        refine then_n ?_
        refine seq_cut (fun a w => Fr 67 [pl 7 (.slice A6 r3.length c6), pl 8 (.int .i64 e1), pl 10 (.slice A7 r7.1.length c7)] a ∧ Sep w0 B w (ownK 23 2 A6 r3.length c6 (List.flatMap enc23 r3) :: ownK 23 2 A7 r7.1.length c7 (List.flatMap enc23 r7.1) :: fs) ∧ ((gameroomlaw_DominoPlays_J4 r3 e1 r7)).bind some = some r) ?_ ?_
        · rintro a w ⟨hF, hS, hm⟩
          unfold gameroomlaw_DominoPlays_J4 at hm
          obtain ⟨r8, hr7, hm⟩ := call_b hm
          refine reg [⟨false, [((e1 == 0), true)], callFunc 19 #[.slice A6 r3.length c6, .slice A7 r7.1.length c7], .bool r8⟩] [none, none, none, none, none, some (.bool r8), none, none] [6] [pl 6 (.bool ((e1 == 0) && r8))] hF hS Fol (by kernel_rfl) (by kernel_rfl) (by kernel_rfl) ?_ (fun a w hF hS => ?_)
          · exact obs_cons (ob_call Try.func19 (by kernel_rfl) rfl (fun hy _ hS => gameroomlaw_samePieces_w (ite_some hr7 (by rw [show (e1 == 0) = true from hy ((e1 == 0), true) (by simp)]; try rfl)) hS (fun _ hS => (hS.at_ 0 rfl).rdK) ((hS.at_ 0 rfl).capK encK23) rfl (fun _ hS => (hS.at_ 1 rfl).rdK) ((hS.at_ 1 rfl).capK encK23) rfl)) <| obs_nil
          refine wpIn_ret ?_
          have hS := hS.pickN 2 [] (by decide)
          have hm : some ((e1 == 0) && r8) = some r := hm
          obtain rfl := Option.some.inj hm
          exact retV (rs := [.tmp 6]) (vs := [.bool ((e1 == 0) && r8)]) hF rfl (rv_t (by kernel_rfl) <| rv_nil) rfl ⟨rfl, hS⟩
        · refine reg [] [] [7, 8, 10, 52] [pl 7 (.slice A6 r3.length c6), pl 8 (.int .i64 e1), pl 10 (.slice A7 r7.1.length c7), pl 52 (.bool (!r7.2))] hF hS Fol (by kernel_rfl) (by kernel_rfl) (by kernel_rfl) ?_ (fun a w hF hS => ?_)
          · exact obs_nil
          refine cond_ev (t := 52) (b := !r7.2) hF (by kernel_rfl) (fun hb => ?_) (fun hb => ?_)
          · replace hm := if_t hm hb
            refine reg [] [] [6] [pl 6 (.bool ((e1 == 10) && ((r3.length : Int) == 0)))] hF hS Fol (by kernel_rfl) (by kernel_rfl) (by kernel_rfl) ?_ (fun a w hF hS => ?_)
            · exact obs_nil
            refine wpIn_ret ?_
            refine then_r ?_
            have hS := hS.pickN 3 [] (by decide)
            have hm : some ((e1 == 10) && ((r3.length : Int) == 0)) = some r := hm
            obtain rfl := Option.some.inj hm
            exact retV (rs := [.tmp 6]) (vs := [.bool ((e1 == 10) && ((r3.length : Int) == 0))]) hF rfl (rv_t (by kernel_rfl) <| rv_nil) rfl ⟨rfl, hS⟩
          · replace hm := if_f hm hb
            refine wpIn_skip ?_
            refine then_n ?_
            have hS := hS.pickN 3 [2, 0] (by decide)
            exact ⟨hF.weak [7, 8, 10] (by kernel_rfl), hS, hm⟩
      · refine reg [] [] [0, 2, 4, 7, 8, 9, 35] [pl 0 (.slice A1 row1.length c1), pl 2 (.bool right1), pl 4 (.pointer (some ⟨g1, 0, none⟩)), pl 7 (.slice A6 r3.length c6), pl 8 (.int .i64 e1), pl 9 (.int .i64 no1), pl 35 (.bool (no1 != 0))] hF hS Fol (by kernel_rfl) (by kernel_rfl) (by kernel_rfl) ?_ (fun a w hF hS => ?_)
        · exact obs_nil
        refine cond_ev (t := 35) (b := (no1 != 0)) hF (by kernel_rfl) (fun hb => ?_) (fun hb => ?_)
        · replace hm := if_t hm hb
          refine reg [] [] [6] [pl 6 (.bool ((e1 == no1) && ((r3.length : Int) == 0)))] hF hS Fol (by kernel_rfl) (by kernel_rfl) (by kernel_rfl) ?_ (fun a w hF hS => ?_)
          · exact obs_nil
          refine wpIn_ret ?_
          refine then_r ?_
          have hS := hS.pickN 2 [] (by decide)
          have hm : some ((e1 == no1) && ((r3.length : Int) == 0)) = some r := hm
          obtain rfl := Option.some.inj hm
          exact retV (rs := [.tmp 6]) (vs := [.bool ((e1 == no1) && ((r3.length : Int) == 0))]) hF rfl (rv_t (by kernel_rfl) <| rv_nil) rfl ⟨rfl, hS⟩
        · replace hm := if_f hm hb
          refine wpIn_skip ?_
          refine then_n ?_
          exact ⟨hF.weak [0, 2, 4, 7, 8] (by kernel_rfl), hS, hm⟩
    · refine reg [] [] [0, 2, 4, 7, 8, 9, 22] [pl 0 (.slice A1 row1.length c1), pl 2 (.bool right1), pl 4 (.pointer (some ⟨g1, 0, none⟩)), pl 7 (.slice A6 r3.length c6), pl 8 (.int .i64 e1), pl 9 (.int .i64 0), pl 22 (.bool (decide ((60 : Int) ≤ (row1.length : Int))))] hF hS Fol (by kernel_rfl) (by kernel_rfl) (by kernel_rfl) ?_ (fun a w hF hS => ?_)
      · exact obs_nil
      refine cond_ev (t := 22) (b := decide ((60 : Int) ≤ (row1.length : Int))) hF (by kernel_rfl) (fun hb => ?_) (fun hb => ?_)
      · replace hm := if_t hm hb
        refine reg1 [] [] [0, 2, 4, 7, 8, 9] [pl 0 (.slice A1 row1.length c1), pl 2 (.bool right1), pl 4 (.pointer (some ⟨g1, 0, none⟩)), pl 7 (.slice A6 r3.length c6), pl 8 (.int .i64 e1), pl 9 (.int .i64 2)] hF hS Fol (by kernel_rfl) (by kernel_rfl) (by kernel_rfl) ?_ (fun a w hF hS => ?_)
        · exact obs_nil
        refine then_n ?_
        exact ⟨2, hF.weak [0, 2, 4, 7, 8, 9] (by kernel_rfl), hS, hm⟩
      · replace hm := if_f hm hb
        obtain ⟨r4, hr3, hm⟩ := call_b hm
        obtain ⟨r5, hr4, hm⟩ := call_b hm
        refine reg [⟨false, [], callFunc 15 #[.slice A1 row1.length c1], .bool r4⟩, ⟨false, [(!r4, false)], vS (Instr.loadAt 23 (.pointer (some ⟨g1, 0, none⟩))), .agg #[.int .i64 piece1, .int .i64 piece2]⟩, ⟨false, [(!r4, false)], callFunc 16 #[.agg #[.int .i64 piece1, .int .i64 piece2]], .bool r5⟩] [none, some (.bool r4), none, none, some (.agg #[.int .i64 piece1, .int .i64 piece2]), some (.bool r5), none, none] [0, 2, 4, 7, 8, 9, 30] [pl 0 (.slice A1 row1.length c1), pl 2 (.bool right1), pl 4 (.pointer (some ⟨g1, 0, none⟩)), pl 7 (.slice A6 r3.length c6), pl 8 (.int .i64 e1), pl 9 (.int .i64 0), pl 30 (.bool ((!r4) || (!r5)))] hF hS Fol (by kernel_rfl) (by kernel_rfl) (by kernel_rfl) ?_ (fun a w hF hS => ?_)
        · exact obs_cons (ob_call Try.func15 (by kernel_rfl) rfl (fun _ _ hS => gameroomref_PiecesMay_w hr3 hS (fun _ hS => (hr_row1 _ (hS.dropN 2))) _hc_row1 rfl)) <| obs_cons (ob_loadA (cs := #[.int .i64 piece1, .int .i64 piece2]) (by kernel_rfl) (by kernel_rfl) (fun _ _ hS => (hS.at_ 0 rfl).cellsAt 0 (by rfl))) <| obs_cons (ob_call Try.func16 (by kernel_rfl) rfl (fun hy _ hS => gameroomref_PieceMay_w (ite_some hr4 (by rw [show (!r4) = false from hy (!r4, false) (by simp)]; try rfl)) hS )) <| obs_nil
        refine cond_ev (t := 30) (b := (!r4) || (!r5)) hF (by kernel_rfl) (fun hb => ?_) (fun hb => ?_)
        · replace hm := if_t hm hb
          refine reg1 [] [] [0, 2, 4, 7, 8, 9] [pl 0 (.slice A1 row1.length c1), pl 2 (.bool right1), pl 4 (.pointer (some ⟨g1, 0, none⟩)), pl 7 (.slice A6 r3.length c6), pl 8 (.int .i64 e1), pl 9 (.int .i64 3)] hF hS Fol (by kernel_rfl) (by kernel_rfl) (by kernel_rfl) ?_ (fun a w hF hS => ?_)
          · exact obs_nil
          refine then_n ?_
          exact ⟨3, hF.weak [0, 2, 4, 7, 8, 9] (by kernel_rfl), hS, hm⟩
        · replace hm := if_f hm hb
          obtain ⟨r6, hr5, hm⟩ := call_b hm
          refine reg [⟨false, [], callFunc 17 #[.slice A1 row1.length c1], .bool r6⟩] [none, some (.bool r6), none] [0, 2, 4, 7, 8, 9, 33] [pl 0 (.slice A1 row1.length c1), pl 2 (.bool right1), pl 4 (.pointer (some ⟨g1, 0, none⟩)), pl 7 (.slice A6 r3.length c6), pl 8 (.int .i64 e1), pl 9 (.int .i64 0), pl 33 (.bool (!r6))] hF hS Fol (by kernel_rfl) (by kernel_rfl) (by kernel_rfl) ?_ (fun a w hF hS => ?_)
          · exact obs_cons (ob_call Try.func17 (by kernel_rfl) rfl (fun _ _ hS => gameroomref_RowIs_w hr5 hS (fun _ hS => (hr_row1 _ (hS.dropN 2))) _hc_row1 rfl)) <| obs_nil
          refine cond_ev (t := 33) (b := !r6) hF (by kernel_rfl) (fun hb => ?_) (fun hb => ?_)
          · replace hm := if_t hm hb
            refine reg1 [] [] [0, 2, 4, 7, 8, 9] [pl 0 (.slice A1 row1.length c1), pl 2 (.bool right1), pl 4 (.pointer (some ⟨g1, 0, none⟩)), pl 7 (.slice A6 r3.length c6), pl 8 (.int .i64 e1), pl 9 (.int .i64 1)] hF hS Fol (by kernel_rfl) (by kernel_rfl) (by kernel_rfl) ?_ (fun a w hF hS => ?_)
            · exact obs_nil
            refine then_n ?_
            exact ⟨1, hF.weak [0, 2, 4, 7, 8, 9] (by kernel_rfl), hS, hm⟩
          · replace hm := if_f hm hb
            refine wpIn_skip ?_
            refine then_n ?_
            exact ⟨0, hF.weak [0, 2, 4, 7, 8, 9] (by kernel_rfl), hS, hm⟩
  · obtain ⟨r1, hr1, hm⟩ := call_b hm
    obtain ⟨r2, hr2, hm⟩ := call_b hm
    refine regMix5 [0, 2, 3] [] 7 #[true, false, true, true, false, false, false, false, false, false] [⟨false, [], vS (Instr.loadAt 23 (.pointer (some ⟨g1, 0, none⟩))), .agg #[.int .i64 piece1, .int .i64 piece2]⟩] [none, some (.agg #[.int .i64 piece1, .int .i64 piece2]), none] [0, 2, 4, 13, 15, 16] [pl 0 (.slice A1 row1.length c1), pl 2 (.bool right1), pl 4 (.pointer (some ⟨g1, 0, none⟩)), pl 13 (.slice A1 row1.length c1), pl 15 (.agg #[.int .i64 piece1, .int .i64 piece2]), pl 16 (.bool right1)] hF hS Fol (by kernel_rfl) (by kernel_rfl) (by kernel_rfl) (by kernel_rfl) ?_ (fun a w hF hS => ?_)
    · exact obs_cons (ob_loadA (cs := #[.int .i64 piece1, .int .i64 piece2]) (by kernel_rfl) (by kernel_rfl) (fun _ _ hS => (hS.at_ 0 rfl).cellsAt 0 (by rfl))) <| obs_nil
    refine any_step [1] (by kernel_rfl) rfl ?_
    refine (all_cons ?_ all_nil)
    · refine any_op (listed' := #[true, true, true, true, false, false, false, false, false, false]) (by kernel_rfl) (by kernel_rfl) ?_
      refine at_call (f := 14) (args := #[.slice A1 row1.length c1]) (d := 14) hF (by kernel_rfl) (by kernel_rfl) Try.func14 (by kernel_rfl) rfl (gameroomlaw_pieces_w hr1 hS (fun _ hS => (hr_row1 _ (hS.dropN 1))) _hc_row1 rfl) (fun v a w hR hF => ?_)
      clear hS
      obtain ⟨A4, c4, rfl, hS⟩ := hR
      have hS : Sep w0 B w (ownK 23 2 A4 r1.length c4 (List.flatMap enc23 r1) :: blk g1 23 #[.int .i64 piece1, .int .i64 piece2] :: fs) := hS
      refine any_fin rfl (hS.pickN 2 [1] (by decide)) ?_
      refine any_step [4] (by kernel_rfl) rfl ?_
      refine (all_cons ?_ all_nil)
      · refine any_op (listed' := #[true, true, true, true, true, false, false, false, false, false]) (by kernel_rfl) (by kernel_rfl) ?_
        refine at_call (f := 13) (args := #[.slice A4 r1.length c4, .agg #[.int .i64 piece1, .int .i64 piece2], .bool right1]) (d := 17) hF (by kernel_rfl) (by kernel_rfl) Try.func13 (by kernel_rfl) rfl (domino_Play_w hr2 hS (fun _ hS => (hS.at_ 0 rfl).rdK) ((hS.at_ 0 rfl).capK encK23) rfl) (fun v a w hR hF => ?_)
        clear hS
        obtain ⟨A5, c5, rfl, hS⟩ := hR
        have hS : Sep w0 B w (ownK 23 2 A5 r2.1.length c5 (List.flatMap enc23 r2.1) :: ownK 23 2 A4 r1.length c4 (List.flatMap enc23 r1) :: blk g1 23 #[.int .i64 piece1, .int .i64 piece2] :: fs) := hS
        refine any_fin rfl (hS.pickN 3 [2] (by decide)) ?_
        refine any_step [5] (by kernel_rfl) rfl ?_
        refine (all_cons ?_ all_nil)
        · refine any_op (listed' := #[true, true, true, true, true, true, false, false, false, false]) (by kernel_rfl) (by kernel_rfl) ?_
          refine at_runW 1 [] [] [0, 2, 4, 12] [pl 0 (.slice A1 row1.length c1), pl 2 (.bool right1), pl 4 (.pointer (some ⟨g1, 0, none⟩)), pl 12 (.tuple #[.slice A5 r2.1.length c5, .int .i64 r2.2])] hF hS (by kernel_rfl) (by kernel_rfl) ?_ (fun a hF => ?_)
          · exact obs_nil
          refine any_finI rfl (fun h => h) ?_
          refine any_step [6, 7] (by kernel_rfl) rfl ?_
          refine (all_cons ?_ (all_cons ?_ all_nil))
          · refine any_op (listed' := #[true, true, true, true, true, true, true, false, false, false]) (by kernel_rfl) (by kernel_rfl) ?_
            refine at_runW 1 [] [] [0, 2, 4, 12, 18] [pl 0 (.slice A1 row1.length c1), pl 2 (.bool right1), pl 4 (.pointer (some ⟨g1, 0, none⟩)), pl 12 (.tuple #[.slice A5 r2.1.length c5, .int .i64 r2.2]), pl 18 (.slice A5 r2.1.length c5)] hF hS (by kernel_rfl) (by kernel_rfl) ?_ (fun a hF => ?_)
            · exact obs_nil
            refine any_finI rfl (fun h => h) ?_
            refine any_step [7, 8] (by kernel_rfl) rfl ?_
            refine (all_cons ?_ (all_cons ?_ all_nil))
            · refine any_op (listed' := #[true, true, true, true, true, true, true, true, false, false]) (by kernel_rfl) (by kernel_rfl) ?_
              refine at_runW 1 [] [] [0, 2, 4, 18, 19] [pl 0 (.slice A1 row1.length c1), pl 2 (.bool right1), pl 4 (.pointer (some ⟨g1, 0, none⟩)), pl 18 (.slice A5 r2.1.length c5), pl 19 (.int .i64 r2.2)] hF hS (by kernel_rfl) (by kernel_rfl) ?_ (fun a hF => ?_)
              · exact obs_nil
              refine any_finI rfl (fun h => h) ?_
              refine any_step [8] (by kernel_rfl) rfl ?_
              refine (all_cons ?_ all_nil)
              · refine any_op (listed' := #[true, true, true, true, true, true, true, true, true, false]) (by kernel_rfl) (by kernel_rfl) ?_
                refine at_runW 1 [] [] [0, 2, 4, 7, 19] [pl 0 (.slice A1 row1.length c1), pl 2 (.bool right1), pl 4 (.pointer (some ⟨g1, 0, none⟩)), pl 7 (.slice A5 r2.1.length c5), pl 19 (.int .i64 r2.2)] hF hS (by kernel_rfl) (by kernel_rfl) ?_ (fun a hF => ?_)
                · exact obs_nil
                refine any_finI rfl (fun h => h) ?_
                refine any_step [9] (by kernel_rfl) rfl ?_
                refine (all_cons ?_ all_nil)
                · refine any_op (listed' := #[true, true, true, true, true, true, true, true, true, true]) (by kernel_rfl) (by kernel_rfl) ?_
                  refine at_runW 1 [] [] [0, 2, 4, 7, 8] [pl 0 (.slice A1 row1.length c1), pl 2 (.bool right1), pl 4 (.pointer (some ⟨g1, 0, none⟩)), pl 7 (.slice A5 r2.1.length c5), pl 8 (.int .i64 r2.2)] hF hS (by kernel_rfl) (by kernel_rfl) ?_ (fun a hF => ?_)
                  · exact obs_nil
                  refine any_finI rfl (fun h => h) ?_
                  refine any_end (by kernel_rfl) ?_
                  refine np_n ?_
                  refine then_n ?_
                  have hS := hS.pickN 3 [2, 0] (by decide)
                  exact ⟨r2.1, r2.2, A5, c5, hF.weak [0, 2, 4, 7, 8] (by kernel_rfl), hS, hm⟩
            · refine any_op (listed' := #[true, true, true, true, true, true, true, false, true, false]) (by kernel_rfl) (by kernel_rfl) ?_
              refine at_runW 1 [] [] [0, 2, 4, 7, 12] [pl 0 (.slice A1 row1.length c1), pl 2 (.bool right1), pl 4 (.pointer (some ⟨g1, 0, none⟩)), pl 7 (.slice A5 r2.1.length c5), pl 12 (.tuple #[.slice A5 r2.1.length c5, .int .i64 r2.2])] hF hS (by kernel_rfl) (by kernel_rfl) ?_ (fun a hF => ?_)
              · exact obs_nil
              refine any_finI rfl (fun h => h) ?_
              refine any_step [7] (by kernel_rfl) rfl ?_
              refine (all_cons ?_ all_nil)
              · refine any_op (listed' := #[true, true, true, true, true, true, true, true, true, false]) (by kernel_rfl) (by kernel_rfl) ?_
                refine at_runW 1 [] [] [0, 2, 4, 7, 19] [pl 0 (.slice A1 row1.length c1), pl 2 (.bool right1), pl 4 (.pointer (some ⟨g1, 0, none⟩)), pl 7 (.slice A5 r2.1.length c5), pl 19 (.int .i64 r2.2)] hF hS (by kernel_rfl) (by kernel_rfl) ?_ (fun a hF => ?_)
                · exact obs_nil
                refine any_finI rfl (fun h => h) ?_
                refine any_step [9] (by kernel_rfl) rfl ?_
                refine (all_cons ?_ all_nil)
                · refine any_op (listed' := #[true, true, true, true, true, true, true, true, true, true]) (by kernel_rfl) (by kernel_rfl) ?_
                  refine at_runW 1 [] [] [0, 2, 4, 7, 8] [pl 0 (.slice A1 row1.length c1), pl 2 (.bool right1), pl 4 (.pointer (some ⟨g1, 0, none⟩)), pl 7 (.slice A5 r2.1.length c5), pl 8 (.int .i64 r2.2)] hF hS (by kernel_rfl) (by kernel_rfl) ?_ (fun a hF => ?_)
                  · exact obs_nil
                  refine any_finI rfl (fun h => h) ?_
                  refine any_end (by kernel_rfl) ?_
                  refine np_n ?_
                  refine then_n ?_
                  have hS := hS.pickN 3 [2, 0] (by decide)
                  exact ⟨r2.1, r2.2, A5, c5, hF.weak [0, 2, 4, 7, 8] (by kernel_rfl), hS, hm⟩
          · refine any_op (listed' := #[true, true, true, true, true, true, false, true, false, false]) (by kernel_rfl) (by kernel_rfl) ?_
            refine at_runW 1 [] [] [0, 2, 4, 12, 19] [pl 0 (.slice A1 row1.length c1), pl 2 (.bool right1), pl 4 (.pointer (some ⟨g1, 0, none⟩)), pl 12 (.tuple #[.slice A5 r2.1.length c5, .int .i64 r2.2]), pl 19 (.int .i64 r2.2)] hF hS (by kernel_rfl) (by kernel_rfl) ?_ (fun a hF => ?_)
            · exact obs_nil
            refine any_finI rfl (fun h => h) ?_
            refine any_step [6] (by kernel_rfl) rfl ?_
            refine (all_cons ?_ all_nil)
            · refine any_op (listed' := #[true, true, true, true, true, true, true, true, false, false]) (by kernel_rfl) (by kernel_rfl) ?_
              refine at_runW 1 [] [] [0, 2, 4, 18, 19] [pl 0 (.slice A1 row1.length c1), pl 2 (.bool right1), pl 4 (.pointer (some ⟨g1, 0, none⟩)), pl 18 (.slice A5 r2.1.length c5), pl 19 (.int .i64 r2.2)] hF hS (by kernel_rfl) (by kernel_rfl) ?_ (fun a hF => ?_)
              · exact obs_nil
              refine any_finI rfl (fun h => h) ?_
              refine any_step [8] (by kernel_rfl) rfl ?_
              refine (all_cons ?_ all_nil)
              · refine any_op (listed' := #[true, true, true, true, true, true, true, true, true, false]) (by kernel_rfl) (by kernel_rfl) ?_
                refine at_runW 1 [] [] [0, 2, 4, 7, 19] [pl 0 (.slice A1 row1.length c1), pl 2 (.bool right1), pl 4 (.pointer (some ⟨g1, 0, none⟩)), pl 7 (.slice A5 r2.1.length c5), pl 19 (.int .i64 r2.2)] hF hS (by kernel_rfl) (by kernel_rfl) ?_ (fun a hF => ?_)
                · exact obs_nil
                refine any_finI rfl (fun h => h) ?_
                refine any_step [9] (by kernel_rfl) rfl ?_
                refine (all_cons ?_ all_nil)
                · refine any_op (listed' := #[true, true, true, true, true, true, true, true, true, true]) (by kernel_rfl) (by kernel_rfl) ?_
                  refine at_runW 1 [] [] [0, 2, 4, 7, 8] [pl 0 (.slice A1 row1.length c1), pl 2 (.bool right1), pl 4 (.pointer (some ⟨g1, 0, none⟩)), pl 7 (.slice A5 r2.1.length c5), pl 8 (.int .i64 r2.2)] hF hS (by kernel_rfl) (by kernel_rfl) ?_ (fun a hF => ?_)
                  · exact obs_nil
                  refine any_finI rfl (fun h => h) ?_
                  refine any_end (by kernel_rfl) ?_
                  refine np_n ?_
                  refine then_n ?_
                  have hS := hS.pickN 3 [2, 0] (by decide)
                  exact ⟨r2.1, r2.2, A5, c5, hF.weak [0, 2, 4, 7, 8] (by kernel_rfl), hS, hm⟩

end Go.Proofs.Ytgafnmnacolgbaa
