/-
  Models and walks, printed by our own program (wip/gen).
-/
import Derived.Test.YtbmhcapeikebgaaFB
import Derived.Test.YtbmhcapeikebgaaLibAP
namespace Go.Proofs.Ytbmhcapeikebgaa
open Go Go.GL Go.RowKit


noncomputable def gameroomlaw_pieces_m (l1 : List (Int × Int)) : Option (List (Int × Int)) :=
  asrt ((0 : Int) + (l1.length : Int) ≤ bigP) <| some ([] ++ l1)

set_option maxRecDepth 100000 in
set_option maxHeartbeats 4000000 in
theorem gameroomlaw_pieces_w {A1 : Option Addr} {c1 : Nat} {n1 : Nat} {l1 : List (Int × Int)} {r : (List (Int × Int))} {w0 w : World} {B : Nat} {fs : List HP} (hm : gameroomlaw_pieces_m l1 = some r) (hS : Sep w0 B w (fs)) (hr_l1 : RdF w0 B fs A1 ((List.flatMap enc99 l1))) (_hc_l1 : l1.length ≤ c1) (_hn_l1 : n1 = l1.length) :
    Calls Try.prog 16 #[.slice A1 n1 c1] w fun e w' => ∃ v, e = .returned v ∧ ∃ (A3 : Option Addr) (c3 : Nat), v = .slice A3 r.length c3 ∧ Sep w0 B w' (ownK 99 2 A3 r.length c3 (List.flatMap enc99 r) :: fs) := by
  obtain ⟨i99, hi99, hz99, hs99, hb99⟩ := info_parts Info99
  obtain rfl := _hn_l1
  unfold gameroomlaw_pieces_m at hm
  replace hm := start_b hm
  refine enter (l := [.slice A1 l1.length c1]) (n := 5) Try.func16 rfl rfl (by simp) (fun a hF => ?_)
  refine reg [] [] [0] [pl 0 (.slice A1 l1.length c1)] hF hS Fol (by kernel_rfl) (by kernel_rfl) (by kernel_rfl) ?_ (fun a w hF hS => ?_)
  · exact obs_nil
  refine seqR ?_
  obtain ⟨hp1, hm⟩ := asrt_b hm
  refine at_run 1 [] [] [3] [pl 3 (.slice A1 l1.length c1)] hF hS (by kernel_rfl) (by kernel_rfl) ?_ (fun a w hF hS => ?_)
  · exact obs_nil
  have hS : Sep w0 B w (ownK 99 2 none 0 0 (List.flatMap enc99 ([] : List (Int × Int))) :: fs) := hS.nilK 99 2 enc99
  obtain ⟨A2, c2, w, hrun, hS⟩ := run_appK2 (P := Try.prog) (t := 22) (m := ([] : List (Int × Int))) (ys := l1) (A2 := A1) (m2 := l1.length) (c2 := c1) encK99 (hS.at_ 0 rfl) (hr_l1 _ (hS.dropN 1)) rfl 22 Und22 hi99 hz99 hs99 rfl (by omega) hp1
  have hS : Sep w0 B w (ownK 99 2 A2 (([] ++ l1).length) c2 (List.flatMap enc99 ([] ++ l1)) :: fs) := hS
  refine at_do (d := 4) hF (by kernel_rfl) (by kernel_rfl) hrun (fun a hF => ?_)
  refine at_run 1 [] [] [2] [pl 2 (.slice A2 (([] ++ l1).length) c2)] hF hS (by kernel_rfl) (by kernel_rfl) ?_ (fun a w hF hS => ?_)
  · exact obs_nil
  refine at_end [2] [pl 2 (.slice A2 (([] ++ l1).length) c2)] hF rfl (by kernel_rfl) (fun hF => ?_)
  refine then_n ?_
  refine wp_ret ?_
  have hm : some ([] ++ l1) = some r := hm
  obtain rfl := Option.some.inj hm
  exact retV (rs := [.tmp 2]) (vs := [.slice A2 (([] ++ l1).length) c2]) hF rfl (rv_t (by kernel_rfl) <| rv_nil) rfl ⟨_, rfl, A2, c2, rfl, hS⟩

noncomputable def domino_strange_m (p1 : Int) (p2 : Int) : Option Bool :=
  some ((((decide (p1 < 0)) || (decide ((9 : Int) < p1))) || (decide (p2 < 0))) || (decide ((9 : Int) < p2)))

set_option maxRecDepth 100000 in
set_option maxHeartbeats 4000000 in
theorem domino_strange_w {p1 : Int} {p2 : Int} {r : Bool} {w0 w : World} {B : Nat} {fs : List HP} (hm : domino_strange_m p1 p2 = some r) (hS : Sep w0 B w (fs)) :
    Calls Try.prog 79 #[.agg #[.int .i64 p1, .int .i64 p2]] w fun e w' => e = .returned (.bool r) ∧ Sep w0 B w' (fs) := by
  unfold domino_strange_m at hm
  replace hm := start_b hm
  refine enter (l := [.agg #[.int .i64 p1, .int .i64 p2]]) (n := 21) Try.func79 rfl rfl (by simp) (fun a hF => ?_)
  refine seqR ?_
  refine at_do (d := 1) (s := vS (Instr.box 99 (.agg #[.int .i64 p1, .int .i64 p2]))) (v := .pointer (some ⟨w.heap.size, 0, none⟩)) (w' := w.alloc (.cells #[.int .i64 p1, .int .i64 p2] 99)) hF (by kernel_rfl) (by kernel_rfl) (by kernel_rfl) (fun a hF => ?_)
  have hS : Sep w0 B (w.alloc (.cells #[.int .i64 p1, .int .i64 p2] 99)) (blk w.heap.size 99 #[.int .i64 p1, .int .i64 p2] :: (fs)) := hS.box 99 #[.int .i64 p1, .int .i64 p2]
  generalize w.heap.size = g1 at hF hS
  generalize w.alloc (.cells #[.int .i64 p1, .int .i64 p2] 99) = w at hS ⊢
  refine at_run 1 [] [] [1] [pl 1 (.pointer (some ⟨g1, 0, none⟩))] hF hS (by kernel_rfl) (by kernel_rfl) ?_ (fun a w hF hS => ?_)
  · exact obs_nil
  refine at_end [1] [pl 1 (.pointer (some ⟨g1, 0, none⟩))] hF rfl (by kernel_rfl) (fun hF => ?_)
  refine then_n ?_
  refine reg [⟨false, [], vS (Instr.loadAt 3 (.pointer (some ⟨g1, 0, none⟩))), .int .i64 p1⟩, ⟨false, [(decide (p1 < 0), false)], vS (Instr.loadAt 3 (.pointer (some ⟨g1, 0, none⟩))), .int .i64 p1⟩, ⟨false, [((decide (p1 < 0)) || (decide ((9 : Int) < p1)), false)], vS (Instr.loadAt 3 (.pointer (some ⟨g1, 1, none⟩))), .int .i64 p2⟩, ⟨false, [(((decide (p1 < 0)) || (decide ((9 : Int) < p1))) || (decide (p2 < 0)), false)], vS (Instr.loadAt 3 (.pointer (some ⟨g1, 1, none⟩))), .int .i64 p2⟩] [none, some (.int .i64 p1), none, none, none, some (.int .i64 p1), none, none, none, none, some (.int .i64 p2), none, none, none, none, some (.int .i64 p2), none, none, none] [2] [pl 2 (.bool ((((decide (p1 < 0)) || (decide ((9 : Int) < p1))) || (decide (p2 < 0))) || (decide ((9 : Int) < p2))))] hF hS Fol (by kernel_rfl) (by kernel_rfl) (by kernel_rfl) ?_ (fun a w hF hS => ?_)
  · exact obs_cons (ob_load Agg3 (fun _ _ hS => (hS.at_ 0 rfl).cell rfl)) <| obs_cons (ob_load Agg3 (fun _ _ hS => (hS.at_ 0 rfl).cell rfl)) <| obs_cons (ob_load Agg3 (fun _ _ hS => (hS.at_ 0 rfl).cell rfl)) <| obs_cons (ob_load Agg3 (fun _ _ hS => (hS.at_ 0 rfl).cell rfl)) <| obs_nil
  refine wp_ret ?_
  have hS := hS.pickN 1 [] (by decide)
  have hm : some ((((decide (p1 < 0)) || (decide ((9 : Int) < p1))) || (decide (p2 < 0))) || (decide ((9 : Int) < p2))) = some r := hm
  obtain rfl := Option.some.inj hm
  exact retV (rs := [.tmp 2]) (vs := [.bool ((((decide (p1 < 0)) || (decide ((9 : Int) < p1))) || (decide (p2 < 0))) || (decide ((9 : Int) < p2)))]) hF rfl (rv_t (by kernel_rfl) <| rv_nil) rfl ⟨rfl, hS⟩

noncomputable def slices_IndexFunc_J3 (z1 : Int) : Option (St Int (Fl Unit Int)) :=
  some (.next (w64 (z1 + 1)))

noncomputable def slices_IndexFunc_J2 (s1 : List (Int × Int)) (z1 : Int) : Option (St Int (Fl Unit Int)) :=
  asrt (0 ≤ z1 ∧ z1 < (s1.length : Int)) <| (domino_strange_m ((getd ((0, 0) : (Int × Int)) s1 z1).1) ((getd ((0, 0) : (Int × Int)) s1 z1).2)).bind fun r1 => if r1 then (some (.done (.ret z1))) else ((slices_IndexFunc_J3 z1))

noncomputable def slices_IndexFunc_J1 : Option Int :=
  some (-1)

noncomputable def slices_IndexFunc_K1 : (Fl Unit Int) → Option Int :=
  fun (x : (Fl Unit Int)) => match x with | .go _ => slices_IndexFunc_J1 | .ret x => some x

noncomputable def slices_IndexFunc_L1 (s1 : List (Int × Int)) : Int → Option (St Int (Fl Unit Int)) :=
  fun (x : Int) => match x with | z1 => if (decide (z1 < (s1.length : Int))) then ((slices_IndexFunc_J2 s1 z1)) else (some (.done (.go ())))

noncomputable def slices_IndexFunc_m (s1 : List (Int × Int)) : Option Int :=
  (loop (slices_IndexFunc_L1 s1) 0).bind slices_IndexFunc_K1

set_option maxRecDepth 100000 in
set_option maxHeartbeats 4000000 in
theorem slices_IndexFunc_w {A1 : Option Addr} {c1 : Nat} {n1 : Nat} {s1 : List (Int × Int)} {r : Int} {w0 w : World} {B : Nat} {fs : List HP} (hm : slices_IndexFunc_m s1 = some r) (hS : Sep w0 B w (fs)) (hr_s1 : RdF w0 B fs A1 ((List.flatMap enc99 s1))) (_hc_s1 : s1.length ≤ c1) (_hn_s1 : n1 = s1.length) :
    Calls Try.prog 131 #[.slice A1 n1 c1, .func (.func 79) #[] #[]] w fun e w' => e = .returned (.int .i64 r) ∧ Sep w0 B w' (fs) := by
  obtain ⟨i99, hi99, hz99, hs99, hb99⟩ := info_parts Info99
  obtain rfl := _hn_s1
  unfold slices_IndexFunc_m at hm
  replace hm := start_b hm
  refine enter (l := [.slice A1 s1.length c1, .func (.func 79) #[] #[]]) (n := 19) Try.func131 rfl rfl (by simp) (fun a hF => ?_)
  refine reg [] [] [0, 1] [pl 0 (.slice A1 s1.length c1), pl 1 (.func (.func 79) #[] #[])] hF hS Fol (by kernel_rfl) (by kernel_rfl) (by kernel_rfl) ?_ (fun a w hF hS => ?_)
  · exact obs_nil
  refine seq_cut (fun a w => Fr 19 [] a ∧ Sep w0 B w (fs) ∧ (slices_IndexFunc_J1).bind some = some r) ?_ ?_
  · rintro a w ⟨hF, hS, hm⟩
    unfold slices_IndexFunc_J1 at hm
    refine reg [] [] [4] [pl 4 (.int .i64 (-1))] hF hS Fol (by kernel_rfl) (by kernel_rfl) (by kernel_rfl) ?_ (fun a w hF hS => ?_)
    · exact obs_nil
    refine wp_ret ?_
    have hm : some (-1) = some r := hm
    obtain rfl := Option.some.inj hm
    exact retV (rs := [.tmp 4]) (vs := [.int .i64 (-1)]) hF rfl (rv_t (by kernel_rfl) <| rv_nil) rfl ⟨rfl, hS⟩
  · refine reg [] [] [0, 1, 7, 8] [pl 0 (.slice A1 s1.length c1), pl 1 (.func (.func 79) #[] #[]), pl 7 (.int .i64 (s1.length : Int)), pl 8 (.int .i64 0)] hF hS Fol (by kernel_rfl) (by kernel_rfl) (by kernel_rfl) ?_ (fun a w hF hS => ?_)
    · exact obs_nil
    refine wp_block ?_
    refine wp_loop_model (S := Int) (R := (Fl Unit Int)) (slices_IndexFunc_L1 s1) (fun x => (slices_IndexFunc_K1 x).bind some) r (fun (x : Int) a w => Fr 19 [pl 0 (.slice A1 s1.length c1), pl 1 (.func (.func 79) #[] #[]), pl 7 (.int .i64 (s1.length : Int)), pl 8 (.int .i64 x)] a ∧ Sep w0 B w (fs)) (assoc_b hm) ⟨hF.weak [0, 1, 7, 8] (by kernel_rfl), hS⟩ ?_
    clear hF hS hm
    rintro nn1 z1 a w ⟨hF, hS⟩ hm
    generalize hφ1 : stK (slices_IndexFunc_L1 s1) nn1 (fun x => (slices_IndexFunc_K1 x).bind some) = φ1 at hm
    unfold slices_IndexFunc_L1 at hm
    dsimp only at hm
    refine reg [] [] [0, 1, 7, 8, 9] [pl 0 (.slice A1 s1.length c1), pl 1 (.func (.func 79) #[] #[]), pl 7 (.int .i64 (s1.length : Int)), pl 8 (.int .i64 z1), pl 9 (.bool (decide (z1 < (s1.length : Int))))] hF hS Fol (by kernel_rfl) (by kernel_rfl) (by kernel_rfl) ?_ (fun a w hF hS => ?_)
    · exact obs_nil
    refine seq_cut (fun a w => Fr 19 [pl 0 (.slice A1 s1.length c1), pl 1 (.func (.func 79) #[] #[]), pl 7 (.int .i64 (s1.length : Int)), pl 8 (.int .i64 z1)] a ∧ Sep w0 B w (fs) ∧ ((slices_IndexFunc_J2 s1 z1)).bind φ1 = some r) ?_ ?_
    · rintro a w ⟨hF, hS, hm⟩
      unfold slices_IndexFunc_J2 at hm
      refine seq_cut (fun a w => Fr 19 [pl 0 (.slice A1 s1.length c1), pl 1 (.func (.func 79) #[] #[]), pl 7 (.int .i64 (s1.length : Int)), pl 8 (.int .i64 z1)] a ∧ Sep w0 B w (fs) ∧ ((slices_IndexFunc_J3 z1)).bind φ1 = some r) ?_ ?_
      · rintro a w ⟨hF, hS, hm⟩
        unfold slices_IndexFunc_J3 at hm
        refine reg1 [] [] [0, 1, 7, 8] [pl 0 (.slice A1 s1.length c1), pl 1 (.func (.func 79) #[] #[]), pl 7 (.int .i64 (s1.length : Int)), pl 8 (.int .i64 (w64 (z1 + 1)))] hF hS Fol (by kernel_rfl) (by kernel_rfl) (by kernel_rfl) ?_ (fun a w hF hS => ?_)
        · exact obs_nil
        refine then_n ?_
        rw [← hφ1] at hm
        exact ⟨(w64 (z1 + 1)), ⟨hF.weak [0, 1, 7, 8] (by kernel_rfl), hS⟩, hm⟩
      · refine wp_block ?_
        refine reg [] [] [0, 1, 5, 7, 8] [pl 0 (.slice A1 s1.length c1), pl 1 (.func (.func 79) #[] #[]), pl 5 (.int .i64 z1), pl 7 (.int .i64 (s1.length : Int)), pl 8 (.int .i64 z1)] hF hS Fol (by kernel_rfl) (by kernel_rfl) (by kernel_rfl) ?_ (fun a w hF hS => ?_)
        · exact obs_nil
        obtain ⟨hp1, hm⟩ := asrt_b hm
        obtain ⟨r1, hr1, hm⟩ := call_b hm
        refine reg [⟨true, [], vS (Instr.indexAt 22 (.slice A1 s1.length c1) (.int .i64 z1)), .pointer (some (sAddrK A1 2 z1))⟩, ⟨false, [], vS (Instr.loadAt 99 (.pointer (some (sAddrK A1 2 z1)))), .agg #[.int .i64 ((getd ((0, 0) : (Int × Int)) s1 z1).1), .int .i64 ((getd ((0, 0) : (Int × Int)) s1 z1).2)]⟩, ⟨false, [], callFunc 79 #[.agg #[.int .i64 ((getd ((0, 0) : (Int × Int)) s1 z1).1), .int .i64 ((getd ((0, 0) : (Int × Int)) s1 z1).2)]], .bool r1⟩] [none, none, none, some (.pointer (some (sAddrK A1 2 z1))), some (.agg #[.int .i64 ((getd ((0, 0) : (Int × Int)) s1 z1).1), .int .i64 ((getd ((0, 0) : (Int × Int)) s1 z1).2)]), some (.bool r1)] [0, 1, 5, 7, 8, 16] [pl 0 (.slice A1 s1.length c1), pl 1 (.func (.func 79) #[] #[]), pl 5 (.int .i64 z1), pl 7 (.int .i64 (s1.length : Int)), pl 8 (.int .i64 z1), pl 16 (.bool r1)] hF hS Fol (by kernel_rfl) (by kernel_rfl) (by kernel_rfl) ?_ (fun a w hF hS => ?_)
        · exact obs_cons (ob_ixK (m := s1) encK99 Und22 hi99 hs99 (hr_s1 _ (hS.dropN 0)) rfl (fun _ => hp1)) <| obs_cons (ob_getK (n := s1.length) (m := s1) encK99 ((0, 0) : (Int × Int)) (by kernel_rfl) (by kernel_rfl) (fun _ hS => ⟨_, (hr_s1 _ (hS.dropN 0))⟩) (fun _ hS => rfl) (fun _ => hp1)) <| obs_cons (ob_call Try.func79 (by kernel_rfl) rfl (fun _ _ hS => domino_strange_w hr1 hS )) <| obs_nil
        refine cond_ev (t := 16) (b := r1) hF (by kernel_rfl) (fun hb => ?_) (fun hb => ?_)
        · replace hm := if_t hm hb
          refine reg [] [] [4] [pl 4 (.int .i64 z1)] hF hS Fol (by kernel_rfl) (by kernel_rfl) (by kernel_rfl) ?_ (fun a w hF hS => ?_)
          · exact obs_nil
          refine wp_ret ?_
          refine block_r (then_r (then_r (block_r (then_r ?_))))
          rw [← hφ1] at hm
          replace hm := done_b hm
          unfold slices_IndexFunc_K1 at hm
          try dsimp only at hm
          have hm : some z1 = some r := hm
          obtain rfl := Option.some.inj hm
          exact retV (rs := [.tmp 4]) (vs := [.int .i64 z1]) hF rfl (rv_t (by kernel_rfl) <| rv_nil) rfl ⟨rfl, hS⟩
        · replace hm := if_f hm hb
          refine wp_skip ?_
          refine block_n ?_
          refine then_n ?_
          exact ⟨hF.weak [0, 1, 7, 8] (by kernel_rfl), hS, hm⟩
    · refine cond_ev (t := 9) (b := decide (z1 < (s1.length : Int))) hF (by kernel_rfl) (fun hb => ?_) (fun hb => ?_)
      · replace hm := if_t hm hb
        refine wp_skip ?_
        refine then_n ?_
        exact ⟨hF.weak [0, 1, 7, 8] (by kernel_rfl), hS, hm⟩
      · replace hm := if_f hm hb
        refine wp_exit ?_
        refine then_e (then_e (block_e (then_n ?_)))
        rw [← hφ1] at hm
        replace hm := done_b hm
        unfold slices_IndexFunc_K1 at hm
        try dsimp only at hm
        have hm : (slices_IndexFunc_J1).bind some = some r := hm
        exact ⟨hF.weak [] (by kernel_rfl), hS, hm⟩

noncomputable def slices_ContainsFunc_m (s1 : List (Int × Int)) : Option Bool :=
  (slices_IndexFunc_m s1).bind fun r1 => some (decide ((0 : Int) ≤ r1))

set_option maxRecDepth 100000 in
set_option maxHeartbeats 4000000 in
theorem slices_ContainsFunc_w {A1 : Option Addr} {c1 : Nat} {n1 : Nat} {s1 : List (Int × Int)} {r : Bool} {w0 w : World} {B : Nat} {fs : List HP} (hm : slices_ContainsFunc_m s1 = some r) (hS : Sep w0 B w (fs)) (hr_s1 : RdF w0 B fs A1 ((List.flatMap enc99 s1))) (_hc_s1 : s1.length ≤ c1) (_hn_s1 : n1 = s1.length) :
    Calls Try.prog 78 #[.slice A1 n1 c1, .func (.func 79) #[] #[]] w fun e w' => e = .returned (.bool r) ∧ Sep w0 B w' (fs) := by
  obtain ⟨i99, hi99, hz99, hs99, hb99⟩ := info_parts Info99
  obtain rfl := _hn_s1
  unfold slices_ContainsFunc_m at hm
  replace hm := start_b hm
  refine enter (l := [.slice A1 s1.length c1, .func (.func 79) #[] #[]]) (n := 9) Try.func78 rfl rfl (by simp) (fun a hF => ?_)
  refine reg [] [] [0, 1] [pl 0 (.slice A1 s1.length c1), pl 1 (.func (.func 79) #[] #[])] hF hS Fol (by kernel_rfl) (by kernel_rfl) (by kernel_rfl) ?_ (fun a w hF hS => ?_)
  · exact obs_nil
  obtain ⟨r1, hr1, hm⟩ := call_b hm
  refine reg [⟨false, [], callFunc 131 #[.slice A1 s1.length c1, .func (.func 79) #[] #[]], .int .i64 r1⟩] [none, none, some (.int .i64 r1), none, none] [4] [pl 4 (.bool (decide ((0 : Int) ≤ r1)))] hF hS Fol (by kernel_rfl) (by kernel_rfl) (by kernel_rfl) ?_ (fun a w hF hS => ?_)
  · exact obs_cons (ob_call Try.func131 (by kernel_rfl) rfl (fun _ _ hS => slices_IndexFunc_w hr1 hS (fun _ hS => (hr_s1 _ (hS.dropN 0))) _hc_s1 rfl)) <| obs_nil
  refine wp_ret ?_
  have hm : some (decide ((0 : Int) ≤ r1)) = some r := hm
  obtain rfl := Option.some.inj hm
  exact retV (rs := [.tmp 4]) (vs := [.bool (decide ((0 : Int) ≤ r1))]) hF rfl (rv_t (by kernel_rfl) <| rv_nil) rfl ⟨rfl, hS⟩

noncomputable def domino_turned_m (p1 : Int) (p2 : Int) : Option (Int × Int) :=
  some (p2, p1)

set_option maxRecDepth 100000 in
set_option maxHeartbeats 4000000 in
theorem domino_turned_w {p1 : Int} {p2 : Int} {r : (Int × Int)} {w0 w : World} {B : Nat} {fs : List HP} (hm : domino_turned_m p1 p2 = some r) (hS : Sep w0 B w (fs)) :
    Calls Try.prog 132 #[.agg #[.int .i64 p1, .int .i64 p2]] w fun e w' => e = .returned (.agg #[.int .i64 r.1, .int .i64 r.2]) ∧ Sep w0 B w' (fs) := by
  unfold domino_turned_m at hm
  replace hm := start_b hm
  refine enter (l := [.agg #[.int .i64 p1, .int .i64 p2]]) (n := 8) Try.func132 rfl rfl (by simp) (fun a hF => ?_)
  refine seqR ?_
  refine at_do (d := 1) (s := vS (Instr.box 99 (.agg #[.int .i64 p1, .int .i64 p2]))) (v := .pointer (some ⟨w.heap.size, 0, none⟩)) (w' := w.alloc (.cells #[.int .i64 p1, .int .i64 p2] 99)) hF (by kernel_rfl) (by kernel_rfl) (by kernel_rfl) (fun a hF => ?_)
  have hS : Sep w0 B (w.alloc (.cells #[.int .i64 p1, .int .i64 p2] 99)) (blk w.heap.size 99 #[.int .i64 p1, .int .i64 p2] :: (fs)) := hS.box 99 #[.int .i64 p1, .int .i64 p2]
  generalize w.heap.size = g1 at hF hS
  generalize w.alloc (.cells #[.int .i64 p1, .int .i64 p2] 99) = w at hS ⊢
  refine at_do (d := 2) (s := vS (Instr.alloc 99 true (.tuple #[]))) (v := .pointer (some ⟨w.heap.size, 0, none⟩)) (w' := w.alloc (.cells #[.int .i64 0, .int .i64 0] 99)) hF (by kernel_rfl) (by kernel_rfl) (by kernel_rfl) (fun a hF => ?_)
  have hS : Sep w0 B (w.alloc (.cells #[.int .i64 0, .int .i64 0] 99)) (blk w.heap.size 99 #[.int .i64 0, .int .i64 0] :: (blk g1 99 #[.int .i64 p1, .int .i64 p2] :: fs)) := hS.box 99 #[.int .i64 0, .int .i64 0]
  generalize w.heap.size = g2 at hF hS
  generalize w.alloc (.cells #[.int .i64 0, .int .i64 0] 99) = w at hS ⊢
  refine at_end [1, 2] [pl 1 (.pointer (some ⟨g1, 0, none⟩)), pl 2 (.pointer (some ⟨g2, 0, none⟩))] hF rfl (by kernel_rfl) (fun hF => ?_)
  refine then_n ?_
  refine seqR ?_
  refine at_run 5 [⟨false, [], vS (Instr.loadAt 3 (.pointer (some ⟨g1, 1, none⟩))), .int .i64 p2⟩, ⟨false, [], vS (Instr.loadAt 3 (.pointer (some ⟨g1, 0, none⟩))), .int .i64 p1⟩] [none, some (.int .i64 p2), none, some (.int .i64 p1), none] [2, 7] [pl 2 (.pointer (some ⟨g2, 0, none⟩)), pl 7 (.agg #[.int .i64 p2, .int .i64 p1])] hF hS (by kernel_rfl) (by kernel_rfl) ?_ (fun a w hF hS => ?_)
  · exact obs_cons (ob_load Agg3 (fun _ _ hS => (hS.at_ 1 rfl).cell rfl)) <| obs_cons (ob_load Agg3 (fun _ _ hS => (hS.at_ 1 rfl).cell rfl)) <| obs_nil
  obtain ⟨w, hrun, hS⟩ := run_putA (P := Try.prog) (t := 99) (us := #[.int .i64 p2, .int .i64 p1]) (o := 0) (hS.at_ 0 rfl) (by kernel_rfl) (all_one (by kernel_rfl)) (Nat.le_of_ble_eq_true (by kernel_rfl))
  refine at_skip hF (by kernel_rfl) hrun ?_
  have hS : Sep w0 B w (blk g2 99 #[.int .i64 p2, .int .i64 p1] :: blk g1 99 #[.int .i64 p1, .int .i64 p2] :: fs) := hS
  refine at_end [2] [pl 2 (.pointer (some ⟨g2, 0, none⟩))] hF rfl (by kernel_rfl) (fun hF => ?_)
  refine then_n ?_
  refine wp_ret ?_
  have hld0 := run_loadVarA (P := Try.prog) (t := 99) (cs := #[.int .i64 p2, .int .i64 p1]) (by kernel_rfl) (by kernel_rfl) ((hS.at_ 0 rfl).cellsAt 0 (by rfl))
  have hS := hS.pickN 2 [] (by decide)
  have hm : some (p2, p1) = some r := hm
  obtain rfl := Option.some.inj hm
  exact retV (rs := [.cell 2 99]) (vs := [.agg #[.int .i64 p2, .int .i64 p1]]) hF rfl (rv_c (by kernel_rfl) hld0 <| rv_nil) rfl ⟨rfl, hS⟩

noncomputable def domino_walker_walk_J3 (z1 : Int) (w7 : List Bool) (w8 : List (Int × Int)) : Option (St (List Bool × List (Int × Int) × Int) (List Bool × List (Int × Int))) :=
  some (.next (w7, w8, (w64 (z1 + 1))))

noncomputable def domino_walker_walk_J5 (rec_domino_walker_walk : List (Int × Int) → List Bool → List (Int × Int) → Int → Option (List Bool × List (Int × Int))) (w_l1 : List (Int × Int)) (w_used1 : List Bool) (w3 : List Bool) (w4 : List (Int × Int)) (z1 : Int) (p1 : Int) (p2 : Int) : Option (St (List Bool × List (Int × Int) × Int) (List Bool × List (Int × Int))) :=
  asrt (0 ≤ z1 ∧ z1 < (w_used1.length : Int)) <| (rec_domino_walker_walk w_l1 (w3.set (Int.toNat z1) true) w4 p2).bind fun r2 => asrt ((r2.2.length : Int) + 1 ≤ bigK) <| (domino_walker_walk_J3 z1) r2.1 (r2.2 ++ ([(p1, p2)] : List (Int × Int)))

noncomputable def domino_walker_walk_J4 (rec_domino_walker_walk : List (Int × Int) → List Bool → List (Int × Int) → Int → Option (List Bool × List (Int × Int))) (w_l1 : List (Int × Int)) (w_used1 : List Bool) (at1 : Int) (w3 : List Bool) (w4 : List (Int × Int)) (z1 : Int) : Option (St (List Bool × List (Int × Int) × Int) (List Bool × List (Int × Int))) :=
  if (((getd ((0, 0) : (Int × Int)) w_l1 z1).1) != at1) then ((domino_turned_m ((getd ((0, 0) : (Int × Int)) w_l1 z1).1) ((getd ((0, 0) : (Int × Int)) w_l1 z1).2)).bind fun r1 => (domino_walker_walk_J5 rec_domino_walker_walk w_l1 w_used1 w3 w4 z1) r1.1 r1.2) else ((domino_walker_walk_J5 rec_domino_walker_walk w_l1 w_used1 w3 w4 z1) ((getd ((0, 0) : (Int × Int)) w_l1 z1).1) ((getd ((0, 0) : (Int × Int)) w_l1 z1).2))

noncomputable def domino_walker_walk_J2 (rec_domino_walker_walk : List (Int × Int) → List Bool → List (Int × Int) → Int → Option (List Bool × List (Int × Int))) (w_l1 : List (Int × Int)) (w_used1 : List Bool) (at1 : Int) (w3 : List Bool) (w4 : List (Int × Int)) (z1 : Int) : Option (St (List Bool × List (Int × Int) × Int) (List Bool × List (Int × Int))) :=
  asrt (0 ≤ z1 ∧ z1 < (w_l1.length : Int)) <| asrt (0 ≤ z1 ∧ z1 < (w_used1.length : Int)) <| if ((getb w3 z1) || ((((getd ((0, 0) : (Int × Int)) w_l1 z1).1) != at1) && (((getd ((0, 0) : (Int × Int)) w_l1 z1).2) != at1))) then ((domino_walker_walk_J3 z1) w3 w4) else ((domino_walker_walk_J4 rec_domino_walker_walk w_l1 w_used1 at1 w3 w4 z1))

noncomputable def domino_walker_walk_J1 (w5 : List Bool) (w6 : List (Int × Int)) : Option (List Bool × List (Int × Int)) :=
  some (w5, w6)

noncomputable def domino_walker_walk_K1 : (List Bool × List (Int × Int)) → Option (List Bool × List (Int × Int)) :=
  fun (x : (List Bool × List (Int × Int))) => match x with | (w5, w6) => domino_walker_walk_J1 w5 w6

noncomputable def domino_walker_walk_L1 (rec_domino_walker_walk : List (Int × Int) → List Bool → List (Int × Int) → Int → Option (List Bool × List (Int × Int))) (w_l1 : List (Int × Int)) (w_used1 : List Bool) (at1 : Int) : (List Bool × List (Int × Int) × Int) → Option (St (List Bool × List (Int × Int) × Int) (List Bool × List (Int × Int))) :=
  fun (x : (List Bool × List (Int × Int) × Int)) => match x with | (w3, w4, z1) => if (decide (z1 < (w_l1.length : Int))) then ((domino_walker_walk_J2 rec_domino_walker_walk w_l1 w_used1 at1 w3 w4 z1)) else (some (.done (w3, w4)))

noncomputable def domino_walker_walk_B (rec_domino_walker_walk : List (Int × Int) → List Bool → List (Int × Int) → Int → Option (List Bool × List (Int × Int))) (w_l1 : List (Int × Int)) (w_used1 : List Bool) (w_way1 : List (Int × Int)) (at1 : Int) : Option (List Bool × List (Int × Int)) :=
  (loop (domino_walker_walk_L1 rec_domino_walker_walk w_l1 w_used1 at1) (w_used1, w_way1, 0)).bind domino_walker_walk_K1

noncomputable def domino_walker_walk_mF : Nat → List (Int × Int) → List Bool → List (Int × Int) → Int → Option (List Bool × List (Int × Int))
  | 0 => fun _ _ _ _ => none
  | n + 1 => fun w_l1 w_used1 w_way1 at1 => domino_walker_walk_B (domino_walker_walk_mF n) w_l1 w_used1 w_way1 at1

noncomputable def domino_walker_walk_m (w_l1 : List (Int × Int)) (w_used1 : List Bool) (w_way1 : List (Int × Int)) (at1 : Int) : Option (List Bool × List (Int × Int)) :=
  recM fun n => domino_walker_walk_mF n w_l1 w_used1 w_way1 at1

set_option maxRecDepth 100000 in
set_option maxHeartbeats 4000000 in
theorem domino_walker_walk_wB {rec_domino_walker_walk : List (Int × Int) → List Bool → List (Int × Int) → Int → Option (List Bool × List (Int × Int))} (ih_domino_walker_walk : ∀ {g1 : Nat} {A1 : Option Addr} {c1 : Nat} {n1 : Nat} {w_l1 : List (Int × Int)} {A2 : Option Addr} {c2 : Nat} {n2 : Nat} {w_used1 : List Bool} {A3 : Option Addr} {c3 : Nat} {n3 : Nat} {w_way1 : List (Int × Int)} {at1 : Int} {r : (List Bool × List (Int × Int))} {w0 w : World} {B : Nat} {fs : List HP} (_ : rec_domino_walker_walk w_l1 w_used1 w_way1 at1 = some r) (_ : Sep w0 B w (blk g1 121 #[.slice A1 n1 c1, .slice A2 n2 c2, .slice A3 n3 c3] :: own 4 (.slice A2 n2 c2) (vB w_used1) :: ownK 99 2 A3 n3 c3 (List.flatMap enc99 w_way1) :: fs)) (hr_w_l1 : RdF w0 B fs A1 ((List.flatMap enc99 w_l1))) (_hc_w_l1 : w_l1.length ≤ c1) (_hn_w_l1 : n1 = w_l1.length), Calls Try.prog 80 #[.pointer (some ⟨g1, 0, none⟩), .int .i64 at1] w fun e w' => ∃ v, e = .returned v ∧ ∃ (A4 : Option Addr) (c4 : Nat), v = .tuple #[] ∧ Sep w0 B w' (blk g1 121 #[.slice A1 n1 c1, .slice A2 n2 c2, .slice A4 r.2.length c4] :: own 4 (.slice A2 n2 c2) (vB r.1) :: ownK 99 2 A4 r.2.length c4 (List.flatMap enc99 r.2) :: fs)) {g1 : Nat} {A1 : Option Addr} {c1 : Nat} {n1 : Nat} {w_l1 : List (Int × Int)} {A2 : Option Addr} {c2 : Nat} {n2 : Nat} {w_used1 : List Bool} {A3 : Option Addr} {c3 : Nat} {n3 : Nat} {w_way1 : List (Int × Int)} {at1 : Int} {r : (List Bool × List (Int × Int))} {w0 w : World} {B : Nat} {fs : List HP} (hm : domino_walker_walk_B rec_domino_walker_walk w_l1 w_used1 w_way1 at1 = some r) (hS : Sep w0 B w (blk g1 121 #[.slice A1 n1 c1, .slice A2 n2 c2, .slice A3 n3 c3] :: own 4 (.slice A2 n2 c2) (vB w_used1) :: ownK 99 2 A3 n3 c3 (List.flatMap enc99 w_way1) :: fs)) (hr_w_l1 : RdF w0 B fs A1 ((List.flatMap enc99 w_l1))) (_hc_w_l1 : w_l1.length ≤ c1) (_hn_w_l1 : n1 = w_l1.length) :
    Calls Try.prog 80 #[.pointer (some ⟨g1, 0, none⟩), .int .i64 at1] w fun e w' => ∃ v, e = .returned v ∧ ∃ (A4 : Option Addr) (c4 : Nat), v = .tuple #[] ∧ Sep w0 B w' (blk g1 121 #[.slice A1 n1 c1, .slice A2 n2 c2, .slice A4 r.2.length c4] :: own 4 (.slice A2 n2 c2) (vB r.1) :: ownK 99 2 A4 r.2.length c4 (List.flatMap enc99 r.2) :: fs) := by
  obtain ⟨i4, hi4, hz4, hs4, hb4⟩ := info_parts Info4
  obtain ⟨i22, hi22, hz22, hs22, hb22⟩ := info_parts Info22
  obtain ⟨i99, hi99, hz99, hs99, hb99⟩ := info_parts Info99
  obtain rfl := (hS.at_ 1 rfl).len1
  obtain rfl := (hS.at_ 2 rfl).lenK encK99
  obtain rfl := _hn_w_l1
  unfold domino_walker_walk_B at hm
  replace hm := start_b hm
  refine enter (l := [.pointer (some ⟨g1, 0, none⟩), .int .i64 at1]) (n := 62) Try.func80 rfl rfl (by simp) (fun a hF => ?_)
  refine end_cut (fun a w => ∃ (w5 : List Bool) (w6 : List (Int × Int)) (A6 : Option Addr) (c6 : Nat), Fr 62 [] a ∧ Sep w0 B w (blk g1 121 #[.slice A1 w_l1.length c1, .slice A2 w_used1.length c2, .slice A6 w6.length c6] :: own 4 (.slice A2 w_used1.length c2) (vB w5) :: ownK 99 2 A6 w6.length c6 (List.flatMap enc99 w6) :: fs) ∧ (domino_walker_walk_J1 w5 w6).bind some = some r) ?_ ?_
  · rintro a w ⟨w5, w6, A6, c6, hF, hS, hm⟩
    unfold domino_walker_walk_J1 at hm
    have hm : some (w5, w6) = some r := hm
    obtain rfl := Option.some.inj hm
    exact endV (rs := []) (vs := []) hF rfl (rv_nil) rfl ⟨_, rfl, A6, c6, rfl, hS⟩ rfl
  · refine reg [⟨false, [], vS (Instr.loadAt 22 (.pointer (some ⟨g1, 0, none⟩))), .slice A1 w_l1.length c1⟩] [none, none, none, some (.slice A1 w_l1.length c1), none, none] [0, 1, 9, 10, 11] [pl 0 (.pointer (some ⟨g1, 0, none⟩)), pl 1 (.int .i64 at1), pl 9 (.slice A1 w_l1.length c1), pl 10 (.int .i64 (w_l1.length : Int)), pl 11 (.int .i64 0)] hF hS Fol (by kernel_rfl) (by kernel_rfl) (by kernel_rfl) ?_ (fun a w hF hS => ?_)
    · exact obs_cons (ob_load Agg22 (fun _ _ hS => (hS.at_ 0 rfl).cell rfl)) <| obs_nil
    refine wp_block ?_
    refine wp_loop_model (S := (List Bool × List (Int × Int) × Int)) (R := (List Bool × List (Int × Int))) (domino_walker_walk_L1 rec_domino_walker_walk w_l1 w_used1 at1) (fun x => (domino_walker_walk_K1 x).bind some) r (fun (x : (List Bool × List (Int × Int) × Int)) a w => ∃ (A5 : Option Addr) (c5 : Nat), Fr 62 [pl 0 (.pointer (some ⟨g1, 0, none⟩)), pl 1 (.int .i64 at1), pl 9 (.slice A1 w_l1.length c1), pl 10 (.int .i64 (w_l1.length : Int)), pl 11 (.int .i64 x.2.2)] a ∧ Sep w0 B w (blk g1 121 #[.slice A1 w_l1.length c1, .slice A2 w_used1.length c2, .slice A5 x.2.1.length c5] :: own 4 (.slice A2 w_used1.length c2) (vB x.1) :: ownK 99 2 A5 x.2.1.length c5 (List.flatMap enc99 x.2.1) :: fs)) (assoc_b hm) ⟨A3, c3, hF.weak [0, 1, 9, 10, 11] (by kernel_rfl), hS⟩ ?_
    clear hF hS hm
    rintro nn1 ⟨w3, w4, z1⟩ a w ⟨A5, c5, hF, hS⟩ hm
    generalize hφ1 : stK (domino_walker_walk_L1 rec_domino_walker_walk w_l1 w_used1 at1) nn1 (fun x => (domino_walker_walk_K1 x).bind some) = φ1 at hm
    unfold domino_walker_walk_L1 at hm
    dsimp only at hF hS hm
    refine reg [] [] [0, 1, 9, 10, 11, 12] [pl 0 (.pointer (some ⟨g1, 0, none⟩)), pl 1 (.int .i64 at1), pl 9 (.slice A1 w_l1.length c1), pl 10 (.int .i64 (w_l1.length : Int)), pl 11 (.int .i64 z1), pl 12 (.bool (decide (z1 < (w_l1.length : Int))))] hF hS Fol (by kernel_rfl) (by kernel_rfl) (by kernel_rfl) ?_ (fun a w hF hS => ?_)
    · exact obs_nil
    refine seq_cut (fun a w => Fr 62 [pl 0 (.pointer (some ⟨g1, 0, none⟩)), pl 1 (.int .i64 at1), pl 9 (.slice A1 w_l1.length c1), pl 10 (.int .i64 (w_l1.length : Int)), pl 11 (.int .i64 z1)] a ∧ Sep w0 B w (blk g1 121 #[.slice A1 w_l1.length c1, .slice A2 w_used1.length c2, .slice A5 w4.length c5] :: own 4 (.slice A2 w_used1.length c2) (vB w3) :: ownK 99 2 A5 w4.length c5 (List.flatMap enc99 w4) :: fs) ∧ ((domino_walker_walk_J2 rec_domino_walker_walk w_l1 w_used1 at1 w3 w4 z1)).bind φ1 = some r) ?_ ?_
    · rintro a w ⟨hF, hS, hm⟩
      unfold domino_walker_walk_J2 at hm
      refine seq_cut (fun a w => ∃ (w7 : List Bool) (w8 : List (Int × Int)) (A7 : Option Addr) (c7 : Nat), Fr 62 [pl 0 (.pointer (some ⟨g1, 0, none⟩)), pl 1 (.int .i64 at1), pl 9 (.slice A1 w_l1.length c1), pl 10 (.int .i64 (w_l1.length : Int)), pl 11 (.int .i64 z1)] a ∧ Sep w0 B w (blk g1 121 #[.slice A1 w_l1.length c1, .slice A2 w_used1.length c2, .slice A7 w8.length c7] :: own 4 (.slice A2 w_used1.length c2) (vB w7) :: ownK 99 2 A7 w8.length c7 (List.flatMap enc99 w8) :: fs) ∧ ((domino_walker_walk_J3 z1) w7 w8).bind φ1 = some r) ?_ ?_
      · rintro a w ⟨w7, w8, A7, c7, hF, hS, hm⟩
        unfold domino_walker_walk_J3 at hm
        refine reg1 [] [] [0, 1, 9, 10, 11] [pl 0 (.pointer (some ⟨g1, 0, none⟩)), pl 1 (.int .i64 at1), pl 9 (.slice A1 w_l1.length c1), pl 10 (.int .i64 (w_l1.length : Int)), pl 11 (.int .i64 (w64 (z1 + 1)))] hF hS Fol (by kernel_rfl) (by kernel_rfl) (by kernel_rfl) ?_ (fun a w hF hS => ?_)
        · exact obs_nil
        refine then_n ?_
        rw [← hφ1] at hm
        exact ⟨(w7, w8, (w64 (z1 + 1))), ⟨A7, c7, hF.weak [0, 1, 9, 10, 11] (by kernel_rfl), hS⟩, hm⟩
      · refine wp_block ?_
        refine seqR ?_
        obtain ⟨hp1, hm⟩ := asrt_b hm
        refine at_run 3 [⟨true, [], vS (Instr.indexAt 22 (.slice A1 w_l1.length c1) (.int .i64 z1)), .pointer (some (sAddrK A1 2 z1))⟩, ⟨false, [], vS (Instr.loadAt 99 (.pointer (some (sAddrK A1 2 z1)))), .agg #[.int .i64 ((getd ((0, 0) : (Int × Int)) w_l1 z1).1), .int .i64 ((getd ((0, 0) : (Int × Int)) w_l1 z1).2)]⟩] [none, some (.pointer (some (sAddrK A1 2 z1))), some (.agg #[.int .i64 ((getd ((0, 0) : (Int × Int)) w_l1 z1).1), .int .i64 ((getd ((0, 0) : (Int × Int)) w_l1 z1).2)])] [0, 1, 9, 10, 11, 13, 15] [pl 0 (.pointer (some ⟨g1, 0, none⟩)), pl 1 (.int .i64 at1), pl 9 (.slice A1 w_l1.length c1), pl 10 (.int .i64 (w_l1.length : Int)), pl 11 (.int .i64 z1), pl 13 (.int .i64 z1), pl 15 (.agg #[.int .i64 ((getd ((0, 0) : (Int × Int)) w_l1 z1).1), .int .i64 ((getd ((0, 0) : (Int × Int)) w_l1 z1).2)])] hF hS (by kernel_rfl) (by kernel_rfl) ?_ (fun a w hF hS => ?_)
        · exact obs_cons (ob_ixK (m := w_l1) encK99 Und22 hi99 hs99 (hr_w_l1 _ (hS.dropN 3)) rfl (fun _ => hp1)) <| obs_cons (ob_getK (n := w_l1.length) (m := w_l1) encK99 ((0, 0) : (Int × Int)) (by kernel_rfl) (by kernel_rfl) (fun _ hS => ⟨_, (hr_w_l1 _ (hS.dropN 3))⟩) (fun _ hS => rfl) (fun _ => hp1)) <| obs_nil
        refine at_do (d := 5) (s := vS (Instr.alloc 99 true (.tuple #[]))) (v := .pointer (some ⟨w.heap.size, 0, none⟩)) (w' := w.alloc (.cells #[.int .i64 0, .int .i64 0] 99)) hF (by kernel_rfl) (by kernel_rfl) (by kernel_rfl) (fun a hF => ?_)
        have hS : Sep w0 B (w.alloc (.cells #[.int .i64 0, .int .i64 0] 99)) (blk w.heap.size 99 #[.int .i64 0, .int .i64 0] :: (blk g1 121 #[.slice A1 w_l1.length c1, .slice A2 w_used1.length c2, .slice A5 w4.length c5] :: own 4 (.slice A2 w_used1.length c2) (vB w3) :: ownK 99 2 A5 w4.length c5 (List.flatMap enc99 w4) :: fs)) := hS.box 99 #[.int .i64 0, .int .i64 0]
        generalize w.heap.size = g2 at hF hS
        generalize w.alloc (.cells #[.int .i64 0, .int .i64 0] 99) = w at hS ⊢
        refine at_run 1 [] [] [0, 1, 4, 5, 9, 10, 11, 15] [pl 0 (.pointer (some ⟨g1, 0, none⟩)), pl 1 (.int .i64 at1), pl 4 (.int .i64 z1), pl 5 (.pointer (some ⟨g2, 0, none⟩)), pl 9 (.slice A1 w_l1.length c1), pl 10 (.int .i64 (w_l1.length : Int)), pl 11 (.int .i64 z1), pl 15 (.agg #[.int .i64 ((getd ((0, 0) : (Int × Int)) w_l1 z1).1), .int .i64 ((getd ((0, 0) : (Int × Int)) w_l1 z1).2)])] hF hS (by kernel_rfl) (by kernel_rfl) ?_ (fun a w hF hS => ?_)
        · exact obs_nil
        obtain ⟨w, hrun, hS⟩ := run_putA (P := Try.prog) (t := 99) (us := #[.int .i64 ((getd ((0, 0) : (Int × Int)) w_l1 z1).1), .int .i64 ((getd ((0, 0) : (Int × Int)) w_l1 z1).2)]) (o := 0) (hS.at_ 0 rfl) (by kernel_rfl) (all_one (by kernel_rfl)) (Nat.le_of_ble_eq_true (by kernel_rfl))
        refine at_skip hF (by kernel_rfl) hrun ?_
        have hS : Sep w0 B w (blk g2 99 #[.int .i64 ((getd ((0, 0) : (Int × Int)) w_l1 z1).1), .int .i64 ((getd ((0, 0) : (Int × Int)) w_l1 z1).2)] :: blk g1 121 #[.slice A1 w_l1.length c1, .slice A2 w_used1.length c2, .slice A5 w4.length c5] :: own 4 (.slice A2 w_used1.length c2) (vB w3) :: ownK 99 2 A5 w4.length c5 (List.flatMap enc99 w4) :: fs) := hS
        refine at_end [0, 1, 4, 5, 9, 10, 11] [pl 0 (.pointer (some ⟨g1, 0, none⟩)), pl 1 (.int .i64 at1), pl 4 (.int .i64 z1), pl 5 (.pointer (some ⟨g2, 0, none⟩)), pl 9 (.slice A1 w_l1.length c1), pl 10 (.int .i64 (w_l1.length : Int)), pl 11 (.int .i64 z1)] hF rfl (by kernel_rfl) (fun hF => ?_)
        refine then_n ?_
        refine seq_cut (fun a w => Fr 62 [pl 0 (.pointer (some ⟨g1, 0, none⟩)), pl 1 (.int .i64 at1), pl 4 (.int .i64 z1), pl 5 (.pointer (some ⟨g2, 0, none⟩)), pl 9 (.slice A1 w_l1.length c1), pl 10 (.int .i64 (w_l1.length : Int)), pl 11 (.int .i64 z1)] a ∧ Sep w0 B w (blk g1 121 #[.slice A1 w_l1.length c1, .slice A2 w_used1.length c2, .slice A5 w4.length c5] :: own 4 (.slice A2 w_used1.length c2) (vB w3) :: ownK 99 2 A5 w4.length c5 (List.flatMap enc99 w4) :: blk g2 99 #[.int .i64 ((getd ((0, 0) : (Int × Int)) w_l1 z1).1), .int .i64 ((getd ((0, 0) : (Int × Int)) w_l1 z1).2)] :: fs) ∧ ((domino_walker_walk_J4 rec_domino_walker_walk w_l1 w_used1 at1 w3 w4 z1)).bind φ1 = some r) ?_ ?_
        · rintro a w ⟨hF, hS, hm⟩
          unfold domino_walker_walk_J4 at hm
          refine seq_cut (fun a w => ∃ (p1 : Int) (p2 : Int), Fr 62 [pl 0 (.pointer (some ⟨g1, 0, none⟩)), pl 1 (.int .i64 at1), pl 4 (.int .i64 z1), pl 5 (.pointer (some ⟨g2, 0, none⟩)), pl 9 (.slice A1 w_l1.length c1), pl 10 (.int .i64 (w_l1.length : Int)), pl 11 (.int .i64 z1)] a ∧ Sep w0 B w (blk g1 121 #[.slice A1 w_l1.length c1, .slice A2 w_used1.length c2, .slice A5 w4.length c5] :: own 4 (.slice A2 w_used1.length c2) (vB w3) :: ownK 99 2 A5 w4.length c5 (List.flatMap enc99 w4) :: blk g2 99 #[.int .i64 p1, .int .i64 p2] :: fs) ∧ ((domino_walker_walk_J5 rec_domino_walker_walk w_l1 w_used1 w3 w4 z1) p1 p2).bind φ1 = some r) ?_ ?_
          · rintro a w ⟨p1, p2, hF, hS, hm⟩
            unfold domino_walker_walk_J5 at hm
            refine seqR ?_
            obtain ⟨hp3, hm⟩ := asrt_b hm
            refine at_run 6 [⟨false, [], vS (Instr.loadAt 119 (.pointer (some ⟨g1, 1, none⟩))), .slice A2 w_used1.length c2⟩, ⟨true, [], vS (Instr.indexAt 119 (.slice A2 w_used1.length c2) (.int .i64 z1)), .pointer (some (sAddr A2 z1))⟩] [none, none, none, some (.slice A2 w_used1.length c2), none, some (.pointer (some (sAddr A2 z1)))] [0, 1, 5, 9, 10, 11, 46] [pl 0 (.pointer (some ⟨g1, 0, none⟩)), pl 1 (.int .i64 at1), pl 5 (.pointer (some ⟨g2, 0, none⟩)), pl 9 (.slice A1 w_l1.length c1), pl 10 (.int .i64 (w_l1.length : Int)), pl 11 (.int .i64 z1), pl 46 (.pointer (some (sAddr A2 z1)))] hF hS (by kernel_rfl) (by kernel_rfl) ?_ (fun a w hF hS => ?_)
            · exact obs_cons (ob_load Agg119 (fun _ _ hS => (hS.at_ 0 rfl).cell rfl)) <| obs_cons (ob_ix1 (f := Value.bool) (m := w3) Und119 hi4 hs4 (hS.at_ 1 rfl).rd ((hS.at_ 1 rfl).len1) (fun _ => hp3)) <| obs_nil
            obtain ⟨w, hrun, hS⟩ := run_set1 (P := Try.prog) (t := 4) (x := true) Value.bool (hS.at_ 1 rfl) hi4 hs4 rfl rfl hp3
            refine at_skip hF (by kernel_rfl) hrun ?_
            have hS : Sep w0 B w (blk g1 121 #[.slice A1 w_l1.length c1, .slice A2 w_used1.length c2, .slice A5 w4.length c5] :: own 4 (.slice A2 w_used1.length c2) (vB (w3.set (Int.toNat z1) true)) :: ownK 99 2 A5 w4.length c5 (List.flatMap enc99 w4) :: blk g2 99 #[.int .i64 p1, .int .i64 p2] :: fs) := hS
            refine at_end [0, 1, 5, 9, 10, 11] [pl 0 (.pointer (some ⟨g1, 0, none⟩)), pl 1 (.int .i64 at1), pl 5 (.pointer (some ⟨g2, 0, none⟩)), pl 9 (.slice A1 w_l1.length c1), pl 10 (.int .i64 (w_l1.length : Int)), pl 11 (.int .i64 z1)] hF rfl (by kernel_rfl) (fun hF => ?_)
            refine then_n ?_
            refine seqR ?_
            obtain ⟨r2, hr2, hm⟩ := call_b hm
            refine at_run 3 [⟨false, [], vS (Instr.loadAt 3 (.pointer (some ⟨g2, 1, none⟩))), .int .i64 p2⟩] [none, none, some (.int .i64 p2)] [0, 1, 5, 9, 10, 11, 47, 49] [pl 0 (.pointer (some ⟨g1, 0, none⟩)), pl 1 (.int .i64 at1), pl 5 (.pointer (some ⟨g2, 0, none⟩)), pl 9 (.slice A1 w_l1.length c1), pl 10 (.int .i64 (w_l1.length : Int)), pl 11 (.int .i64 z1), pl 47 (.pointer (some ⟨g1, 0, none⟩)), pl 49 (.int .i64 p2)] hF hS (by kernel_rfl) (by kernel_rfl) ?_ (fun a w hF hS => ?_)
            · exact obs_cons (ob_load Agg3 (fun _ _ hS => (hS.at_ 3 rfl).cell rfl)) <| obs_nil
            refine at_call (f := 80) (args := #[.pointer (some ⟨g1, 0, none⟩), .int .i64 p2]) (d := 50) hF (by kernel_rfl) (by kernel_rfl) Try.func80 (by kernel_rfl) rfl (ih_domino_walker_walk hr2 hS (fun _ hS => (hr_w_l1 _ (hS.dropN 1))) _hc_w_l1 rfl) (fun v a w hR hF => ?_)
            clear hS
            obtain ⟨A8, c8, rfl, hS⟩ := hR
            have hS : Sep w0 B w (blk g1 121 #[.slice A1 w_l1.length c1, .slice A2 w_used1.length c2, .slice A8 r2.2.length c8] :: own 4 (.slice A2 w_used1.length c2) (vB r2.1) :: ownK 99 2 A8 r2.2.length c8 (List.flatMap enc99 r2.2) :: blk g2 99 #[.int .i64 p1, .int .i64 p2] :: fs) := hS
            refine at_end [0, 1, 5, 9, 10, 11] [pl 0 (.pointer (some ⟨g1, 0, none⟩)), pl 1 (.int .i64 at1), pl 5 (.pointer (some ⟨g2, 0, none⟩)), pl 9 (.slice A1 w_l1.length c1), pl 10 (.int .i64 (w_l1.length : Int)), pl 11 (.int .i64 z1)] hF rfl (by kernel_rfl) (fun hF => ?_)
            refine then_n ?_
            obtain ⟨hp4, hm⟩ := asrt_b hm
            refine regMix5 [0, 1, 2, 3, 4, 5] [7, 10] 5 #[true, true, true, true, true, true, false, false, false, false, false] [⟨false, [], vS (Instr.loadAt 22 (.pointer (some ⟨g1, 2, none⟩))), .slice A8 r2.2.length c8⟩, ⟨false, [], vS (Instr.loadAt 99 (.pointer (some ⟨g2, 0, none⟩))), .agg #[.int .i64 p1, .int .i64 p2]⟩] [none, none, none, none, some (.slice A8 r2.2.length c8), some (.agg #[.int .i64 p1, .int .i64 p2])] [0, 1, 9, 10, 11, 51, 55, 56] [pl 0 (.pointer (some ⟨g1, 0, none⟩)), pl 1 (.int .i64 at1), pl 9 (.slice A1 w_l1.length c1), pl 10 (.int .i64 (w_l1.length : Int)), pl 11 (.int .i64 z1), pl 51 (.pointer (some ⟨g1, 0, none⟩)), pl 55 (.slice A8 r2.2.length c8), pl 56 (.agg #[.int .i64 p1, .int .i64 p2])] hF hS Fol (by kernel_rfl) (by kernel_rfl) (by kernel_rfl) (by kernel_rfl) ?_ (fun a w hF hS => ?_)
            · exact obs_cons (ob_load Agg22 (fun _ _ hS => (hS.at_ 0 rfl).cell rfl)) <| obs_cons (ob_loadA (cs := #[.int .i64 p1, .int .i64 p2]) (by kernel_rfl) (by kernel_rfl) (fun _ _ hS => (hS.at_ 3 rfl).cellsAt 0 (by rfl))) <| obs_nil
            refine any_step [6] (by kernel_rfl) rfl ?_
            refine (all_cons ?_ all_nil)
            · refine any_op (listed' := #[true, true, true, true, true, true, true, false, false, false, false]) (by kernel_rfl) (by kernel_rfl) ?_
              refine at_do (d := 57) (s := vS (Instr.buildSlice 22 1 #[(0, .agg #[.int .i64 p1, .int .i64 p2])])) (v := .slice (some ⟨w.heap.size, 0, none⟩) 1 1) (w' := w.alloc (.cells #[.int .i64 p1, .int .i64 p2] 99)) hF (by kernel_rfl) (by kernel_rfl) (by kernel_rfl) (fun a hF => ?_)
              have hS : Sep w0 B (w.alloc (.cells #[.int .i64 p1, .int .i64 p2] 99)) (ownK 99 2 (some (⟨w.heap.size, 0, none⟩ : Addr)) 1 1 (List.flatMap enc99 ([(p1, p2)] : List (Int × Int))) :: (blk g1 121 #[.slice A1 w_l1.length c1, .slice A2 w_used1.length c2, .slice A8 r2.2.length c8] :: own 4 (.slice A2 w_used1.length c2) (vB r2.1) :: ownK 99 2 A8 r2.2.length c8 (List.flatMap enc99 r2.2) :: blk g2 99 #[.int .i64 p1, .int .i64 p2] :: fs)) := hS.litK 99 2 #[.int .i64 p1, .int .i64 p2] 1 rfl (by omega)
              generalize (some (⟨w.heap.size, 0, none⟩ : Addr)) = g3 at hF hS
              generalize w.alloc (.cells #[.int .i64 p1, .int .i64 p2] 99) = w at hS ⊢
              refine any_fin rfl (hS.pickN 5 [1, 2, 3, 4] (by decide)) ?_
              refine any_step [7] (by kernel_rfl) rfl ?_
              refine (all_cons ?_ all_nil)
              · refine any_op (listed' := #[true, true, true, true, true, true, true, true, false, false, false]) (by kernel_rfl) (by kernel_rfl) ?_
                obtain ⟨A9, c9, w, hrun, hS⟩ := run_appK (P := Try.prog) (t := 22) (m := r2.2) (ys := ([(p1, p2)] : List (Int × Int))) (A2 := g3) (m2 := 1) (c2 := 1) encK99 (hS.at_ 3 rfl) (hS.at_ 0 rfl).rdK ((hS.at_ 0 rfl).lenK encK99) 22 Und22 hi99 hz99 hs99 rfl (by omega) hp4
                have hS : Sep w0 B w (ownK 99 2 g3 1 1 (List.flatMap enc99 ([(p1, p2)] : List (Int × Int))) :: blk g1 121 #[.slice A1 w_l1.length c1, .slice A2 w_used1.length c2, .slice A8 r2.2.length c8] :: own 4 (.slice A2 w_used1.length c2) (vB r2.1) :: ownK 99 2 A9 ((r2.2 ++ ([(p1, p2)] : List (Int × Int))).length) c9 (List.flatMap enc99 (r2.2 ++ ([(p1, p2)] : List (Int × Int)))) :: blk g2 99 #[.int .i64 p1, .int .i64 p2] :: fs) := hS
                refine at_do (d := 58) hF (by kernel_rfl) (by kernel_rfl) hrun (fun a hF => ?_)
                refine any_finE rfl (by decide) ?_
                refine any_step [8] (by kernel_rfl) rfl ?_
                refine (all_cons ?_ all_nil)
                · refine any_op (listed' := #[true, true, true, true, true, true, true, true, true, false, false]) (by kernel_rfl) (by kernel_rfl) ?_
                  refine at_runW 1 [] [] [0, 1, 9, 10, 11, 58, 59] [pl 0 (.pointer (some ⟨g1, 0, none⟩)), pl 1 (.int .i64 at1), pl 9 (.slice A1 w_l1.length c1), pl 10 (.int .i64 (w_l1.length : Int)), pl 11 (.int .i64 z1), pl 58 (.slice A9 ((r2.2 ++ ([(p1, p2)] : List (Int × Int))).length) c9), pl 59 (.pointer (some ⟨g1, 0, none⟩))] hF hS (by kernel_rfl) (by kernel_rfl) ?_ (fun a hF => ?_)
                  · exact obs_nil
                  refine any_finI rfl (fun h => h) ?_
                  refine any_step [9] (by kernel_rfl) rfl ?_
                  refine (all_cons ?_ all_nil)
                  · refine any_op (listed' := #[true, true, true, true, true, true, true, true, true, true, false]) (by kernel_rfl) (by kernel_rfl) ?_
                    refine at_runW 1 [] [] [0, 1, 9, 10, 11, 58, 60] [pl 0 (.pointer (some ⟨g1, 0, none⟩)), pl 1 (.int .i64 at1), pl 9 (.slice A1 w_l1.length c1), pl 10 (.int .i64 (w_l1.length : Int)), pl 11 (.int .i64 z1), pl 58 (.slice A9 ((r2.2 ++ ([(p1, p2)] : List (Int × Int))).length) c9), pl 60 (.pointer (some ⟨g1, 2, none⟩))] hF hS (by kernel_rfl) (by kernel_rfl) ?_ (fun a hF => ?_)
                    · exact obs_nil
                    refine any_finI rfl (fun h => h) ?_
                    refine any_step [10] (by kernel_rfl) rfl ?_
                    refine (all_cons ?_ all_nil)
                    · refine any_op (listed' := #[true, true, true, true, true, true, true, true, true, true, true]) (by kernel_rfl) (by kernel_rfl) ?_
                      obtain ⟨w, hrun, hS⟩ := run_put (P := Try.prog) (t := 22) (u := .slice A9 ((r2.2 ++ ([(p1, p2)] : List (Int × Int))).length) c9) (i := 2) (hS.at_ 1 rfl) hi22 hs22 rfl (Nat.lt_of_lt_of_eq (Nat.lt_of_succ_le (Nat.le_of_ble_eq_true (by kernel_rfl))) rfl)
                      refine at_skip hF (by kernel_rfl) hrun ?_
                      have hS : Sep w0 B w (ownK 99 2 g3 1 1 (List.flatMap enc99 ([(p1, p2)] : List (Int × Int))) :: blk g1 121 #[.slice A1 w_l1.length c1, .slice A2 w_used1.length c2, .slice A9 ((r2.2 ++ ([(p1, p2)] : List (Int × Int))).length) c9] :: own 4 (.slice A2 w_used1.length c2) (vB r2.1) :: ownK 99 2 A9 ((r2.2 ++ ([(p1, p2)] : List (Int × Int))).length) c9 (List.flatMap enc99 (r2.2 ++ ([(p1, p2)] : List (Int × Int)))) :: blk g2 99 #[.int .i64 p1, .int .i64 p2] :: fs) := hS
                      refine any_finE rfl (by decide) ?_
                      refine any_end (by kernel_rfl) ?_
                      refine np_n ?_
                      refine block_n ?_
                      refine then_n ?_
                      have hS := hS.pickN 5 [1, 2, 3] (by decide)
                      exact ⟨r2.1, (r2.2 ++ ([(p1, p2)] : List (Int × Int))), A9, c9, hF.weak [0, 1, 9, 10, 11] (by kernel_rfl), hS, hm⟩
          · refine reg [⟨false, [], vS (Instr.loadAt 3 (.pointer (some ⟨g2, 0, none⟩))), .int .i64 ((getd ((0, 0) : (Int × Int)) w_l1 z1).1)⟩] [none, some (.int .i64 ((getd ((0, 0) : (Int × Int)) w_l1 z1).1)), none, none] [0, 1, 4, 5, 9, 10, 11, 38] [pl 0 (.pointer (some ⟨g1, 0, none⟩)), pl 1 (.int .i64 at1), pl 4 (.int .i64 z1), pl 5 (.pointer (some ⟨g2, 0, none⟩)), pl 9 (.slice A1 w_l1.length c1), pl 10 (.int .i64 (w_l1.length : Int)), pl 11 (.int .i64 z1), pl 38 (.bool (((getd ((0, 0) : (Int × Int)) w_l1 z1).1) != at1))] hF hS Fol (by kernel_rfl) (by kernel_rfl) (by kernel_rfl) ?_ (fun a w hF hS => ?_)
            · exact obs_cons (ob_load Agg3 (fun _ _ hS => (hS.at_ 3 rfl).cell rfl)) <| obs_nil
            refine cond_ev (t := 38) (b := (((getd ((0, 0) : (Int × Int)) w_l1 z1).1) != at1)) hF (by kernel_rfl) (fun hb => ?_) (fun hb => ?_)
            · replace hm := if_t hm hb
              refine oneR ?_
              obtain ⟨r1, hr1, hm⟩ := call_b hm
              refine at_run 2 [⟨false, [], vS (Instr.loadAt 99 (.pointer (some ⟨g2, 0, none⟩))), .agg #[.int .i64 ((getd ((0, 0) : (Int × Int)) w_l1 z1).1), .int .i64 ((getd ((0, 0) : (Int × Int)) w_l1 z1).2)]⟩, ⟨false, [], callFunc 132 #[.agg #[.int .i64 ((getd ((0, 0) : (Int × Int)) w_l1 z1).1), .int .i64 ((getd ((0, 0) : (Int × Int)) w_l1 z1).2)]], .agg #[.int .i64 r1.1, .int .i64 r1.2]⟩] [some (.agg #[.int .i64 ((getd ((0, 0) : (Int × Int)) w_l1 z1).1), .int .i64 ((getd ((0, 0) : (Int × Int)) w_l1 z1).2)]), some (.agg #[.int .i64 r1.1, .int .i64 r1.2])] [0, 1, 4, 5, 9, 10, 11, 40] [pl 0 (.pointer (some ⟨g1, 0, none⟩)), pl 1 (.int .i64 at1), pl 4 (.int .i64 z1), pl 5 (.pointer (some ⟨g2, 0, none⟩)), pl 9 (.slice A1 w_l1.length c1), pl 10 (.int .i64 (w_l1.length : Int)), pl 11 (.int .i64 z1), pl 40 (.agg #[.int .i64 r1.1, .int .i64 r1.2])] hF hS (by kernel_rfl) (by kernel_rfl) ?_ (fun a w hF hS => ?_)
              · exact obs_cons (ob_loadA (cs := #[.int .i64 ((getd ((0, 0) : (Int × Int)) w_l1 z1).1), .int .i64 ((getd ((0, 0) : (Int × Int)) w_l1 z1).2)]) (by kernel_rfl) (by kernel_rfl) (fun _ _ hS => (hS.at_ 3 rfl).cellsAt 0 (by rfl))) <| obs_cons (ob_call Try.func132 (by kernel_rfl) rfl (fun _ _ hS => domino_turned_w hr1 hS )) <| obs_nil
              obtain ⟨w, hrun, hS⟩ := run_putA (P := Try.prog) (t := 99) (us := #[.int .i64 r1.1, .int .i64 r1.2]) (o := 0) (hS.at_ 3 rfl) (by kernel_rfl) (all_one (by kernel_rfl)) (Nat.le_of_ble_eq_true (by kernel_rfl))
              refine at_skip hF (by kernel_rfl) hrun ?_
              have hS : Sep w0 B w (blk g1 121 #[.slice A1 w_l1.length c1, .slice A2 w_used1.length c2, .slice A5 w4.length c5] :: own 4 (.slice A2 w_used1.length c2) (vB w3) :: ownK 99 2 A5 w4.length c5 (List.flatMap enc99 w4) :: blk g2 99 #[.int .i64 r1.1, .int .i64 r1.2] :: fs) := hS
              refine at_end [0, 1, 4, 5, 9, 10, 11] [pl 0 (.pointer (some ⟨g1, 0, none⟩)), pl 1 (.int .i64 at1), pl 4 (.int .i64 z1), pl 5 (.pointer (some ⟨g2, 0, none⟩)), pl 9 (.slice A1 w_l1.length c1), pl 10 (.int .i64 (w_l1.length : Int)), pl 11 (.int .i64 z1)] hF rfl (by kernel_rfl) (fun hF => ?_)
              refine then_n ?_
              exact ⟨r1.1, r1.2, hF.weak [0, 1, 4, 5, 9, 10, 11] (by kernel_rfl), hS, hm⟩
            · replace hm := if_f hm hb
              refine wp_skip ?_
              refine then_n ?_
              exact ⟨((getd ((0, 0) : (Int × Int)) w_l1 z1).1), ((getd ((0, 0) : (Int × Int)) w_l1 z1).2), hF.weak [0, 1, 4, 5, 9, 10, 11] (by kernel_rfl), hS, hm⟩
        · obtain ⟨hp2, hm⟩ := asrt_b hm
          refine reg [⟨false, [], vS (Instr.loadAt 119 (.pointer (some ⟨g1, 1, none⟩))), .slice A2 w_used1.length c2⟩, ⟨true, [], vS (Instr.indexAt 119 (.slice A2 w_used1.length c2) (.int .i64 z1)), .pointer (some (sAddr A2 z1))⟩, ⟨false, [], vS (Instr.loadAt 4 (.pointer (some (sAddr A2 z1)))), .bool (getb w3 z1)⟩, ⟨false, [(getb w3 z1, false)], vS (Instr.loadAt 3 (.pointer (some ⟨g2, 0, none⟩))), .int .i64 ((getd ((0, 0) : (Int × Int)) w_l1 z1).1)⟩, ⟨false, [((((getd ((0, 0) : (Int × Int)) w_l1 z1).1) != at1), true), (getb w3 z1, false)], vS (Instr.loadAt 3 (.pointer (some ⟨g2, 1, none⟩))), .int .i64 ((getd ((0, 0) : (Int × Int)) w_l1 z1).2)⟩] [none, none, none, some (.slice A2 w_used1.length c2), none, some (.pointer (some (sAddr A2 z1))), some (.bool (getb w3 z1)), none, none, some (.int .i64 ((getd ((0, 0) : (Int × Int)) w_l1 z1).1)), none, none, none, none, some (.int .i64 ((getd ((0, 0) : (Int × Int)) w_l1 z1).2)), none, none, none, none] [0, 1, 4, 5, 9, 10, 11, 34] [pl 0 (.pointer (some ⟨g1, 0, none⟩)), pl 1 (.int .i64 at1), pl 4 (.int .i64 z1), pl 5 (.pointer (some ⟨g2, 0, none⟩)), pl 9 (.slice A1 w_l1.length c1), pl 10 (.int .i64 (w_l1.length : Int)), pl 11 (.int .i64 z1), pl 34 (.bool ((getb w3 z1) || ((((getd ((0, 0) : (Int × Int)) w_l1 z1).1) != at1) && (((getd ((0, 0) : (Int × Int)) w_l1 z1).2) != at1))))] hF hS Fol (by kernel_rfl) (by kernel_rfl) (by kernel_rfl) ?_ (fun a w hF hS => ?_)
          · exact obs_cons (ob_load Agg119 (fun _ _ hS => (hS.at_ 1 rfl).cell rfl)) <| obs_cons (ob_ix1 (f := Value.bool) (m := w3) Und119 hi4 hs4 (hS.at_ 2 rfl).rd ((hS.at_ 2 rfl).len1) (fun _ => hp2)) <| obs_cons (ob_get1 (n := w_used1.length) (m := w3) Value.bool false Agg4 (fun _ hS => ⟨_, (hS.at_ 2 rfl).rd⟩) (fun _ hS => ((hS.at_ 2 rfl).len1)) (fun _ => hp2)) <| obs_cons (ob_load Agg3 (fun _ _ hS => (hS.at_ 0 rfl).cell rfl)) <| obs_cons (ob_load Agg3 (fun _ _ hS => (hS.at_ 0 rfl).cell rfl)) <| obs_nil
          refine cond_ev (t := 34) (b := (getb w3 z1) || ((((getd ((0, 0) : (Int × Int)) w_l1 z1).1) != at1) && (((getd ((0, 0) : (Int × Int)) w_l1 z1).2) != at1))) hF (by kernel_rfl) (fun hb => ?_) (fun hb => ?_)
          · replace hm := if_t hm hb
            refine wp_exit ?_
            refine then_e (block_e (then_n ?_))
            have hS := hS.pickN 4 [1, 2, 3] (by decide)
            exact ⟨w3, w4, A5, c5, hF.weak [0, 1, 9, 10, 11] (by kernel_rfl), hS, hm⟩
          · replace hm := if_f hm hb
            refine wp_skip ?_
            refine then_n ?_
            have hS := hS.pickN 4 [1, 2, 3, 0] (by decide)
            exact ⟨hF.weak [0, 1, 4, 5, 9, 10, 11] (by kernel_rfl), hS, hm⟩
    · refine cond_ev (t := 12) (b := decide (z1 < (w_l1.length : Int))) hF (by kernel_rfl) (fun hb => ?_) (fun hb => ?_)
      · replace hm := if_t hm hb
        refine wp_skip ?_
        refine then_n ?_
        exact ⟨hF.weak [0, 1, 9, 10, 11] (by kernel_rfl), hS, hm⟩
      · replace hm := if_f hm hb
        refine wp_exit ?_
        refine then_e (then_e (block_e (then_n ?_)))
        rw [← hφ1] at hm
        replace hm := done_b hm
        unfold domino_walker_walk_K1 at hm
        try dsimp only at hm
        have hm : (domino_walker_walk_J1 w3 w4).bind some = some r := hm
        exact ⟨w3, w4, A5, c5, hF.weak [] (by kernel_rfl), hS, hm⟩

theorem domino_walker_walk_w {g1 : Nat} {A1 : Option Addr} {c1 : Nat} {n1 : Nat} {w_l1 : List (Int × Int)} {A2 : Option Addr} {c2 : Nat} {n2 : Nat} {w_used1 : List Bool} {A3 : Option Addr} {c3 : Nat} {n3 : Nat} {w_way1 : List (Int × Int)} {at1 : Int} {r : (List Bool × List (Int × Int))} {w0 w : World} {B : Nat} {fs : List HP} (hm : domino_walker_walk_m w_l1 w_used1 w_way1 at1 = some r) (hS : Sep w0 B w (blk g1 121 #[.slice A1 n1 c1, .slice A2 n2 c2, .slice A3 n3 c3] :: own 4 (.slice A2 n2 c2) (vB w_used1) :: ownK 99 2 A3 n3 c3 (List.flatMap enc99 w_way1) :: fs)) (hr_w_l1 : RdF w0 B fs A1 ((List.flatMap enc99 w_l1))) (_hc_w_l1 : w_l1.length ≤ c1) (_hn_w_l1 : n1 = w_l1.length) :
    Calls Try.prog 80 #[.pointer (some ⟨g1, 0, none⟩), .int .i64 at1] w fun e w' => ∃ v, e = .returned v ∧ ∃ (A4 : Option Addr) (c4 : Nat), v = .tuple #[] ∧ Sep w0 B w' (blk g1 121 #[.slice A1 n1 c1, .slice A2 n2 c2, .slice A4 r.2.length c4] :: own 4 (.slice A2 n2 c2) (vB r.1) :: ownK 99 2 A4 r.2.length c4 (List.flatMap enc99 r.2) :: fs) := by
  have key : ∀ (n : Nat) {g1 : Nat} {A1 : Option Addr} {c1 : Nat} {n1 : Nat} {w_l1 : List (Int × Int)} {A2 : Option Addr} {c2 : Nat} {n2 : Nat} {w_used1 : List Bool} {A3 : Option Addr} {c3 : Nat} {n3 : Nat} {w_way1 : List (Int × Int)} {at1 : Int} {r : (List Bool × List (Int × Int))} {w0 w : World} {B : Nat} {fs : List HP} (_ : domino_walker_walk_mF n w_l1 w_used1 w_way1 at1 = some r) (_ : Sep w0 B w (blk g1 121 #[.slice A1 n1 c1, .slice A2 n2 c2, .slice A3 n3 c3] :: own 4 (.slice A2 n2 c2) (vB w_used1) :: ownK 99 2 A3 n3 c3 (List.flatMap enc99 w_way1) :: fs)) (hr_w_l1 : RdF w0 B fs A1 ((List.flatMap enc99 w_l1))) (_hc_w_l1 : w_l1.length ≤ c1) (_hn_w_l1 : n1 = w_l1.length), Calls Try.prog 80 #[.pointer (some ⟨g1, 0, none⟩), .int .i64 at1] w fun e w' => ∃ v, e = .returned v ∧ ∃ (A4 : Option Addr) (c4 : Nat), v = .tuple #[] ∧ Sep w0 B w' (blk g1 121 #[.slice A1 n1 c1, .slice A2 n2 c2, .slice A4 r.2.length c4] :: own 4 (.slice A2 n2 c2) (vB r.1) :: ownK 99 2 A4 r.2.length c4 (List.flatMap enc99 r.2) :: fs) := by
    intro n
    induction n with
    | zero => intros; rename_i hm0 _ _ _ _; cases hm0
    | succ n ih => intros; rename_i hm0 hS0 h0 h1 h2; exact domino_walker_walk_wB (rec_domino_walker_walk := domino_walker_walk_mF n) (fun hm hS h0 h1 h2 => ih hm hS h0 h1 h2) hm0 hS0 h0 h1 h2
  obtain ⟨n, hn⟩ := recM_some hm
  exact key n hn hS hr_w_l1 _hc_w_l1 _hn_w_l1

theorem domino_walker_walk_J5_le_domino_walker_walk {rec_domino_walker_walk1 rec_domino_walker_walk2 : List (Int × Int) → List Bool → List (Int × Int) → Int → Option (List Bool × List (Int × Int))} (h_rec_domino_walker_walk : ∀ a0 a1 a2 a3, Le (rec_domino_walker_walk1 a0 a1 a2 a3) (rec_domino_walker_walk2 a0 a1 a2 a3)) (w_l1 : List (Int × Int)) (w_used1 : List Bool) (w3 : List Bool) (w4 : List (Int × Int)) (z1 : Int) (p1 : Int) (p2 : Int) : Le (domino_walker_walk_J5 rec_domino_walker_walk1 w_l1 w_used1 w3 w4 z1 p1 p2) (domino_walker_walk_J5 rec_domino_walker_walk2 w_l1 w_used1 w3 w4 z1 p1 p2) := by
  unfold domino_walker_walk_J5
  repeat' (first | with_reducible exact Le.refl _ | with_reducible exact h_rec_domino_walker_walk _ _ _ _ | refine Le.asrt ?_ | refine Le.ite ?_ ?_ | refine Le.bind ?_ (fun _ => ?_) | refine Le.loop2 (fun _ => ?_) | refine Le.elim2 (fun _ => ?_) (fun _ => ?_))

theorem domino_walker_walk_J4_le_domino_walker_walk {rec_domino_walker_walk1 rec_domino_walker_walk2 : List (Int × Int) → List Bool → List (Int × Int) → Int → Option (List Bool × List (Int × Int))} (h_rec_domino_walker_walk : ∀ a0 a1 a2 a3, Le (rec_domino_walker_walk1 a0 a1 a2 a3) (rec_domino_walker_walk2 a0 a1 a2 a3)) (w_l1 : List (Int × Int)) (w_used1 : List Bool) (at1 : Int) (w3 : List Bool) (w4 : List (Int × Int)) (z1 : Int) : Le (domino_walker_walk_J4 rec_domino_walker_walk1 w_l1 w_used1 at1 w3 w4 z1) (domino_walker_walk_J4 rec_domino_walker_walk2 w_l1 w_used1 at1 w3 w4 z1) := by
  unfold domino_walker_walk_J4
  repeat' (first | with_reducible exact Le.refl _ | with_reducible exact h_rec_domino_walker_walk _ _ _ _ | with_reducible exact domino_walker_walk_J5_le_domino_walker_walk h_rec_domino_walker_walk _ _ _ _ _ _ _ | refine Le.asrt ?_ | refine Le.ite ?_ ?_ | refine Le.bind ?_ (fun _ => ?_) | refine Le.loop2 (fun _ => ?_) | refine Le.elim2 (fun _ => ?_) (fun _ => ?_))

theorem domino_walker_walk_J2_le_domino_walker_walk {rec_domino_walker_walk1 rec_domino_walker_walk2 : List (Int × Int) → List Bool → List (Int × Int) → Int → Option (List Bool × List (Int × Int))} (h_rec_domino_walker_walk : ∀ a0 a1 a2 a3, Le (rec_domino_walker_walk1 a0 a1 a2 a3) (rec_domino_walker_walk2 a0 a1 a2 a3)) (w_l1 : List (Int × Int)) (w_used1 : List Bool) (at1 : Int) (w3 : List Bool) (w4 : List (Int × Int)) (z1 : Int) : Le (domino_walker_walk_J2 rec_domino_walker_walk1 w_l1 w_used1 at1 w3 w4 z1) (domino_walker_walk_J2 rec_domino_walker_walk2 w_l1 w_used1 at1 w3 w4 z1) := by
  unfold domino_walker_walk_J2
  repeat' (first | with_reducible exact Le.refl _ | with_reducible exact h_rec_domino_walker_walk _ _ _ _ | with_reducible exact domino_walker_walk_J4_le_domino_walker_walk h_rec_domino_walker_walk _ _ _ _ _ _ | refine Le.asrt ?_ | refine Le.ite ?_ ?_ | refine Le.bind ?_ (fun _ => ?_) | refine Le.loop2 (fun _ => ?_) | refine Le.elim2 (fun _ => ?_) (fun _ => ?_))

theorem domino_walker_walk_L1_le_domino_walker_walk {rec_domino_walker_walk1 rec_domino_walker_walk2 : List (Int × Int) → List Bool → List (Int × Int) → Int → Option (List Bool × List (Int × Int))} (h_rec_domino_walker_walk : ∀ a0 a1 a2 a3, Le (rec_domino_walker_walk1 a0 a1 a2 a3) (rec_domino_walker_walk2 a0 a1 a2 a3)) (w_l1 : List (Int × Int)) (w_used1 : List Bool) (at1 : Int) (x : (List Bool × List (Int × Int) × Int)) : Le (domino_walker_walk_L1 rec_domino_walker_walk1 w_l1 w_used1 at1 x) (domino_walker_walk_L1 rec_domino_walker_walk2 w_l1 w_used1 at1 x) := by
  rcases x with ⟨w3, w4, z1⟩
  all_goals
    unfold domino_walker_walk_L1
    try dsimp only
    repeat' (first | with_reducible exact Le.refl _ | with_reducible exact h_rec_domino_walker_walk _ _ _ _ | with_reducible exact domino_walker_walk_J2_le_domino_walker_walk h_rec_domino_walker_walk _ _ _ _ _ _ | refine Le.asrt ?_ | refine Le.ite ?_ ?_ | refine Le.bind ?_ (fun _ => ?_) | refine Le.loop2 (fun _ => ?_) | refine Le.elim2 (fun _ => ?_) (fun _ => ?_))

theorem domino_walker_walk_B_le {rec_domino_walker_walk1 rec_domino_walker_walk2 : List (Int × Int) → List Bool → List (Int × Int) → Int → Option (List Bool × List (Int × Int))} (h_rec_domino_walker_walk : ∀ a0 a1 a2 a3, Le (rec_domino_walker_walk1 a0 a1 a2 a3) (rec_domino_walker_walk2 a0 a1 a2 a3)) (w_l1 : List (Int × Int)) (w_used1 : List Bool) (w_way1 : List (Int × Int)) (at1 : Int) : Le (domino_walker_walk_B rec_domino_walker_walk1 w_l1 w_used1 w_way1 at1) (domino_walker_walk_B rec_domino_walker_walk2 w_l1 w_used1 w_way1 at1) := by
  unfold domino_walker_walk_B
  repeat' (first | with_reducible exact Le.refl _ | with_reducible exact h_rec_domino_walker_walk _ _ _ _ | with_reducible exact domino_walker_walk_L1_le_domino_walker_walk h_rec_domino_walker_walk _ _ _ _ | refine Le.asrt ?_ | refine Le.ite ?_ ?_ | refine Le.bind ?_ (fun _ => ?_) | refine Le.loop2 (fun _ => ?_) | refine Le.elim2 (fun _ => ?_) (fun _ => ?_))

theorem domino_walker_walk_mF_le : ∀ (n : Nat) (w_l1 : List (Int × Int)) (w_used1 : List Bool) (w_way1 : List (Int × Int)) (at1 : Int), Le (domino_walker_walk_mF n w_l1 w_used1 w_way1 at1) (domino_walker_walk_mF (n + 1) w_l1 w_used1 w_way1 at1)
  | 0, _, _, _, _ => fun _ h => by cases h
  | n + 1, _, _, _, _ => domino_walker_walk_B_le (fun a0 a1 a2 a3 => domino_walker_walk_mF_le n a0 a1 a2 a3) _ _ _ _

theorem domino_walker_walk_m_of (N : Nat) (w_l1 : List (Int × Int)) (w_used1 : List Bool) (w_way1 : List (Int × Int)) (at1 : Int) {r : (List Bool × List (Int × Int))} (h : domino_walker_walk_mF N w_l1 w_used1 w_way1 at1 = some r) : domino_walker_walk_m w_l1 w_used1 w_way1 at1 = some r :=
  recM_mono (fun n => domino_walker_walk_mF_le n _ _ _ _) h

noncomputable def slices_Reverse_2_J3 (s3 : List (Int × Int)) (i1 : Int) (j1 : Int) : Option (St (List (Int × Int) × Int × Int) (List (Int × Int))) :=
  some (.next (((s3.set (Int.toNat i1) (getd ((0, 0) : (Int × Int)) s3 j1)).set (Int.toNat j1) (getd ((0, 0) : (Int × Int)) s3 i1)), (w64 (i1 + 1)), (w64 (j1 - 1))))

noncomputable def slices_Reverse_2_J2 (s1 : List (Int × Int)) (s3 : List (Int × Int)) (i1 : Int) (j1 : Int) : Option (St (List (Int × Int) × Int × Int) (List (Int × Int))) :=
  asrt (0 ≤ j1 ∧ j1 < (s1.length : Int)) <| asrt (0 ≤ i1 ∧ i1 < (s1.length : Int)) <| asrt (0 ≤ i1 ∧ i1 < (s1.length : Int)) <| asrt (0 ≤ j1 ∧ j1 < (s1.length : Int)) <| (slices_Reverse_2_J3 s3 i1 j1)

noncomputable def slices_Reverse_2_J1 (s4 : List (Int × Int)) : Option (List (Int × Int)) :=
  some s4

noncomputable def slices_Reverse_2_K1 : (List (Int × Int)) → Option (List (Int × Int)) :=
  fun (x : (List (Int × Int))) => match x with | s4 => slices_Reverse_2_J1 s4

noncomputable def slices_Reverse_2_L1 (s1 : List (Int × Int)) : (List (Int × Int) × Int × Int) → Option (St (List (Int × Int) × Int × Int) (List (Int × Int))) :=
  fun (x : (List (Int × Int) × Int × Int)) => match x with | (s3, i1, j1) => if (decide (i1 < j1)) then ((slices_Reverse_2_J2 s1 s3 i1 j1)) else (some (.done s3))

noncomputable def slices_Reverse_2_m (s1 : List (Int × Int)) : Option (List (Int × Int)) :=
  (loop (slices_Reverse_2_L1 s1) (s1, 0, (w64 ((s1.length : Int) - 1)))).bind slices_Reverse_2_K1

set_option maxRecDepth 100000 in
set_option maxHeartbeats 4000000 in
theorem slices_Reverse_2_w {A1 : Option Addr} {c1 : Nat} {n1 : Nat} {s1 : List (Int × Int)} {r : (List (Int × Int))} {w0 w : World} {B : Nat} {fs : List HP} (hm : slices_Reverse_2_m s1 = some r) (hS : Sep w0 B w (ownK 99 2 A1 n1 c1 (List.flatMap enc99 s1) :: fs)) :
    Calls Try.prog 81 #[.slice A1 n1 c1] w fun e w' => ∃ v, e = .returned v ∧ v = .tuple #[] ∧ Sep w0 B w' (ownK 99 2 A1 n1 c1 (List.flatMap enc99 r) :: fs) := by
  obtain ⟨i99, hi99, hz99, hs99, hb99⟩ := info_parts Info99
  obtain rfl := (hS.at_ 0 rfl).lenK encK99
  unfold slices_Reverse_2_m at hm
  replace hm := start_b hm
  refine enter (l := [.slice A1 s1.length c1]) (n := 28) Try.func81 rfl rfl (by simp) (fun a hF => ?_)
  refine end_cut (fun a w => ∃ (s4 : List (Int × Int)), Fr 28 [] a ∧ Sep w0 B w (ownK 99 2 A1 s1.length c1 (List.flatMap enc99 s4) :: fs) ∧ (slices_Reverse_2_J1 s4).bind some = some r) ?_ ?_
  · rintro a w ⟨s4, hF, hS, hm⟩
    unfold slices_Reverse_2_J1 at hm
    have hm : some s4 = some r := hm
    obtain rfl := Option.some.inj hm
    exact endV (rs := []) (vs := []) hF rfl (rv_nil) rfl ⟨_, rfl, rfl, hS⟩ rfl
  · refine reg [] [] [0, 2, 3] [pl 0 (.slice A1 s1.length c1), pl 2 (.int .i64 0), pl 3 (.int .i64 (w64 ((s1.length : Int) - 1)))] hF hS Fol (by kernel_rfl) (by kernel_rfl) (by kernel_rfl) ?_ (fun a w hF hS => ?_)
    · exact obs_nil
    refine wp_block ?_
    refine wp_loop_model (S := (List (Int × Int) × Int × Int)) (R := (List (Int × Int))) (slices_Reverse_2_L1 s1) (fun x => (slices_Reverse_2_K1 x).bind some) r (fun (x : (List (Int × Int) × Int × Int)) a w => Fr 28 [pl 0 (.slice A1 s1.length c1), pl 2 (.int .i64 x.2.1), pl 3 (.int .i64 x.2.2)] a ∧ Sep w0 B w (ownK 99 2 A1 s1.length c1 (List.flatMap enc99 x.1) :: fs)) (assoc_b hm) ⟨hF.weak [0, 2, 3] (by kernel_rfl), hS⟩ ?_
    clear hF hS hm
    rintro nn1 ⟨s3, i1, j1⟩ a w ⟨hF, hS⟩ hm
    generalize hφ1 : stK (slices_Reverse_2_L1 s1) nn1 (fun x => (slices_Reverse_2_K1 x).bind some) = φ1 at hm
    unfold slices_Reverse_2_L1 at hm
    dsimp only at hF hS hm
    refine seq_cut (fun a w => Fr 28 [pl 0 (.slice A1 s1.length c1), pl 2 (.int .i64 i1), pl 3 (.int .i64 j1)] a ∧ Sep w0 B w (ownK 99 2 A1 s1.length c1 (List.flatMap enc99 s3) :: fs) ∧ ((slices_Reverse_2_J2 s1 s3 i1 j1)).bind φ1 = some r) ?_ ?_
    · rintro a w ⟨hF, hS, hm⟩
      unfold slices_Reverse_2_J2 at hm
      refine seq_cut (fun a w => Fr 28 [pl 0 (.slice A1 s1.length c1), pl 2 (.int .i64 i1), pl 3 (.int .i64 j1)] a ∧ Sep w0 B w (ownK 99 2 A1 s1.length c1 (List.flatMap enc99 ((s3.set (Int.toNat i1) (getd ((0, 0) : (Int × Int)) s3 j1)).set (Int.toNat j1) (getd ((0, 0) : (Int × Int)) s3 i1))) :: fs) ∧ ((slices_Reverse_2_J3 s3 i1 j1)).bind φ1 = some r) ?_ ?_
      · rintro a w ⟨hF, hS, hm⟩
        unfold slices_Reverse_2_J3 at hm
        refine reg1 [] [] [0, 2, 3] [pl 0 (.slice A1 s1.length c1), pl 2 (.int .i64 (w64 (i1 + 1))), pl 3 (.int .i64 (w64 (j1 - 1)))] hF hS Fol (by kernel_rfl) (by kernel_rfl) (by kernel_rfl) ?_ (fun a w hF hS => ?_)
        · exact obs_nil
        refine then_n ?_
        rw [← hφ1] at hm
        exact ⟨(((s3.set (Int.toNat i1) (getd ((0, 0) : (Int × Int)) s3 j1)).set (Int.toNat j1) (getd ((0, 0) : (Int × Int)) s3 i1)), (w64 (i1 + 1)), (w64 (j1 - 1))), ⟨hF.weak [0, 2, 3] (by kernel_rfl), hS⟩, hm⟩
      · refine wp_block ?_
        obtain ⟨hp1, hm⟩ := asrt_b hm
        obtain ⟨hp2, hm⟩ := asrt_b hm
        obtain ⟨hp3, hm⟩ := asrt_b hm
        obtain ⟨hp4, hm⟩ := asrt_b hm
        refine regMix4 [0, 1, 2, 3, 4, 5, 6, 7, 8, 9, 10, 11, 12] [13, 14, 15] [⟨true, [], vS (Instr.indexAt 22 (.slice A1 s1.length c1) (.int .i64 j1)), .pointer (some (sAddrK A1 2 j1))⟩, ⟨false, [], vS (Instr.loadAt 99 (.pointer (some (sAddrK A1 2 j1)))), .agg #[.int .i64 ((getd ((0, 0) : (Int × Int)) s3 j1).1), .int .i64 ((getd ((0, 0) : (Int × Int)) s3 j1).2)]⟩, ⟨true, [], vS (Instr.indexAt 22 (.slice A1 s1.length c1) (.int .i64 i1)), .pointer (some (sAddrK A1 2 i1))⟩, ⟨false, [], vS (Instr.loadAt 99 (.pointer (some (sAddrK A1 2 i1)))), .agg #[.int .i64 ((getd ((0, 0) : (Int × Int)) s3 i1).1), .int .i64 ((getd ((0, 0) : (Int × Int)) s3 i1).2)]⟩, ⟨true, [], vS (Instr.indexAt 22 (.slice A1 s1.length c1) (.int .i64 i1)), .pointer (some (sAddrK A1 2 i1))⟩] [none, none, none, none, none, none, some (.pointer (some (sAddrK A1 2 j1))), some (.agg #[.int .i64 ((getd ((0, 0) : (Int × Int)) s3 j1).1), .int .i64 ((getd ((0, 0) : (Int × Int)) s3 j1).2)]), none, none, some (.pointer (some (sAddrK A1 2 i1))), some (.agg #[.int .i64 ((getd ((0, 0) : (Int × Int)) s3 i1).1), .int .i64 ((getd ((0, 0) : (Int × Int)) s3 i1).2)]), some (.pointer (some (sAddrK A1 2 i1)))] [0, 2, 3, 16, 17, 21, 25, 26] [pl 0 (.slice A1 s1.length c1), pl 2 (.int .i64 i1), pl 3 (.int .i64 j1), pl 16 (.slice A1 s1.length c1), pl 17 (.int .i64 j1), pl 21 (.agg #[.int .i64 ((getd ((0, 0) : (Int × Int)) s3 j1).1), .int .i64 ((getd ((0, 0) : (Int × Int)) s3 j1).2)]), pl 25 (.agg #[.int .i64 ((getd ((0, 0) : (Int × Int)) s3 i1).1), .int .i64 ((getd ((0, 0) : (Int × Int)) s3 i1).2)]), pl 26 (.pointer (some (sAddrK A1 2 i1)))] hF hS Fol (by kernel_rfl) (by kernel_rfl) (by kernel_rfl) (by kernel_rfl) (by kernel_rfl) ?_ (fun a w hF hS => ?_)
        · exact obs_cons (ob_ixK (m := s3) encK99 Und22 hi99 hs99 (hS.at_ 0 rfl).rdK ((hS.at_ 0 rfl).lenK encK99) (fun _ => hp1)) <| obs_cons (ob_getK (n := s1.length) (m := s3) encK99 ((0, 0) : (Int × Int)) (by kernel_rfl) (by kernel_rfl) (fun _ hS => ⟨_, (hS.at_ 0 rfl).rdK⟩) (fun _ hS => ((hS.at_ 0 rfl).lenK encK99)) (fun _ => hp1)) <| obs_cons (ob_ixK (m := s3) encK99 Und22 hi99 hs99 (hS.at_ 0 rfl).rdK ((hS.at_ 0 rfl).lenK encK99) (fun _ => hp2)) <| obs_cons (ob_getK (n := s1.length) (m := s3) encK99 ((0, 0) : (Int × Int)) (by kernel_rfl) (by kernel_rfl) (fun _ hS => ⟨_, (hS.at_ 0 rfl).rdK⟩) (fun _ hS => ((hS.at_ 0 rfl).lenK encK99)) (fun _ => hp2)) <| obs_cons (ob_ixK (m := s3) encK99 Und22 hi99 hs99 (hS.at_ 0 rfl).rdK ((hS.at_ 0 rfl).lenK encK99) (fun _ => hp3)) <| obs_nil
        obtain ⟨w, hrun, hS⟩ := run_setK (P := Try.prog) (t := 99) (x := (getd ((0, 0) : (Int × Int)) s3 j1)) encK99 (hS.at_ 0 rfl) (by kernel_rfl) hp3
        refine at_skip hF (by kernel_rfl) hrun ?_
        have hS : Sep w0 B w (ownK 99 2 A1 s1.length c1 (List.flatMap enc99 (s3.set (Int.toNat i1) (getd ((0, 0) : (Int × Int)) s3 j1))) :: fs) := hS
        refine at_run 1 [⟨true, [], vS (Instr.indexAt 22 (.slice A1 s1.length c1) (.int .i64 j1)), .pointer (some (sAddrK A1 2 j1))⟩] [some (.pointer (some (sAddrK A1 2 j1)))] [0, 2, 3, 25, 27] [pl 0 (.slice A1 s1.length c1), pl 2 (.int .i64 i1), pl 3 (.int .i64 j1), pl 25 (.agg #[.int .i64 ((getd ((0, 0) : (Int × Int)) s3 i1).1), .int .i64 ((getd ((0, 0) : (Int × Int)) s3 i1).2)]), pl 27 (.pointer (some (sAddrK A1 2 j1)))] hF hS (by kernel_rfl) (by kernel_rfl) ?_ (fun a w hF hS => ?_)
        · exact obs_cons (ob_ixK (m := (s3.set (Int.toNat i1) (getd ((0, 0) : (Int × Int)) s3 j1))) encK99 Und22 hi99 hs99 (hS.at_ 0 rfl).rdK ((hS.at_ 0 rfl).lenK encK99) (fun _ => hp4)) <| obs_nil
        obtain ⟨w, hrun, hS⟩ := run_setK (P := Try.prog) (t := 99) (x := (getd ((0, 0) : (Int × Int)) s3 i1)) encK99 (hS.at_ 0 rfl) (by kernel_rfl) hp4
        refine at_skip hF (by kernel_rfl) hrun ?_
        have hS : Sep w0 B w (ownK 99 2 A1 s1.length c1 (List.flatMap enc99 ((s3.set (Int.toNat i1) (getd ((0, 0) : (Int × Int)) s3 j1)).set (Int.toNat j1) (getd ((0, 0) : (Int × Int)) s3 i1))) :: fs) := hS
        refine at_end [0, 2, 3] [pl 0 (.slice A1 s1.length c1), pl 2 (.int .i64 i1), pl 3 (.int .i64 j1)] hF rfl (by kernel_rfl) (fun hF => ?_)
        refine np_n ?_
        refine block_n ?_
        refine then_n ?_
        exact ⟨hF.weak [0, 2, 3] (by kernel_rfl), hS, hm⟩
    · refine reg [] [] [0, 2, 3, 9] [pl 0 (.slice A1 s1.length c1), pl 2 (.int .i64 i1), pl 3 (.int .i64 j1), pl 9 (.bool (decide (i1 < j1)))] hF hS Fol (by kernel_rfl) (by kernel_rfl) (by kernel_rfl) ?_ (fun a w hF hS => ?_)
      · exact obs_nil
      refine cond_ev (t := 9) (b := decide (i1 < j1)) hF (by kernel_rfl) (fun hb => ?_) (fun hb => ?_)
      · replace hm := if_t hm hb
        refine wp_skip ?_
        refine then_n ?_
        exact ⟨hF.weak [0, 2, 3] (by kernel_rfl), hS, hm⟩
      · replace hm := if_f hm hb
        refine wp_exit ?_
        refine then_e (then_e (block_e (then_n ?_)))
        rw [← hφ1] at hm
        replace hm := done_b hm
        unfold slices_Reverse_2_K1 at hm
        try dsimp only at hm
        have hm : (slices_Reverse_2_J1 s3).bind some = some r := hm
        exact ⟨s3, hF.weak [] (by kernel_rfl), hS, hm⟩

noncomputable def domino_Row_J4 (l1 : List (Int × Int)) (ends1 : List Int) (z1 : Int) : Option (St (List Int × Int) (List Int)) :=
  some (.next (((ends1.set (Int.toNat ((getd ((0, 0) : (Int × Int)) l1 z1).1)) (w64 ((geti ends1 ((getd ((0, 0) : (Int × Int)) l1 z1).1)) + 1))).set (Int.toNat ((getd ((0, 0) : (Int × Int)) l1 z1).2)) (w64 ((geti (ends1.set (Int.toNat ((getd ((0, 0) : (Int × Int)) l1 z1).1)) (w64 ((geti ends1 ((getd ((0, 0) : (Int × Int)) l1 z1).1)) + 1))) ((getd ((0, 0) : (Int × Int)) l1 z1).2)) + 1))), (w64 (z1 + 1))))

noncomputable def domino_Row_J3 (l1 : List (Int × Int)) (ends1 : List Int) (z1 : Int) : Option (St (List Int × Int) (List Int)) :=
  asrt (0 ≤ z1 ∧ z1 < (l1.length : Int)) <| asrt (0 ≤ ((getd ((0, 0) : (Int × Int)) l1 z1).1) ∧ ((getd ((0, 0) : (Int × Int)) l1 z1).1) < 10) <| asrt (0 ≤ ((getd ((0, 0) : (Int × Int)) l1 z1).1) ∧ ((getd ((0, 0) : (Int × Int)) l1 z1).1) < 10) <| asrt (((getd ((0, 0) : (Int × Int)) l1 z1).1) < (ends1.length : Int)) <| asrt (0 ≤ ((getd ((0, 0) : (Int × Int)) l1 z1).2) ∧ ((getd ((0, 0) : (Int × Int)) l1 z1).2) < 10) <| asrt (0 ≤ ((getd ((0, 0) : (Int × Int)) l1 z1).2) ∧ ((getd ((0, 0) : (Int × Int)) l1 z1).2) < 10) <| asrt (((getd ((0, 0) : (Int × Int)) l1 z1).2) < ((ends1.set (Int.toNat ((getd ((0, 0) : (Int × Int)) l1 z1).1)) (w64 ((geti ends1 ((getd ((0, 0) : (Int × Int)) l1 z1).1)) + 1))).length : Int)) <| (domino_Row_J4 l1 ends1 z1)

noncomputable def domino_Row_J7 (z2 : Int) (start3 : Int) (odd3 : Int) : Option (St (Int × Int × Int) (Int × Int)) :=
  some (.next (start3, odd3, (w64 (z2 + 1))))

noncomputable def domino_Row_J6 (ends2 : List Int) (start1 : Int) (odd1 : Int) (z2 : Int) : Option (St (Int × Int × Int) (Int × Int)) :=
  asrt (0 ≤ z2 ∧ z2 < 10) <| if ((bAnd (geti ends2 z2) 1) == 1) then ((domino_Row_J7 z2) z2 (w64 (odd1 + 1))) else ((domino_Row_J7 z2) start1 odd1)

noncomputable def domino_Row_L2 (ends2 : List Int) : (Int × Int × Int) → Option (St (Int × Int × Int) (Int × Int)) :=
  fun (x : (Int × Int × Int)) => match x with | (start1, odd1, z2) => if (decide (z2 < 10)) then ((domino_Row_J6 ends2 start1 odd1 z2)) else (some (.done (start1, odd1)))

noncomputable def domino_Row_J9 (r2 : (List Bool × List (Int × Int))) : Option (List (Int × Int) × Int) :=
  (slices_Reverse_2_m r2.2).bind fun r3 => some (r3, 0)

noncomputable def domino_Row_J8 (l1 : List (Int × Int)) (start2 : Int) : Option (List (Int × Int) × Int) :=
  (domino_walker_walk_m l1 (List.replicate (Int.toNat (l1.length : Int)) false) ([] : List (Int × Int)) start2).bind fun r2 => if (decide ((r2.2.length : Int) < (l1.length : Int))) then (some (([] : List (Int × Int)), 10)) else ((domino_Row_J9 r2))

noncomputable def domino_Row_J5 (l1 : List (Int × Int)) (start2 : Int) (odd2 : Int) : Option (List (Int × Int) × Int) :=
  asrt ((0 : Int) ≤ (l1.length : Int) ∧ (l1.length : Int) ≤ bigN) <| if (decide ((2 : Int) < odd2)) then (some (([] : List (Int × Int)), 10)) else ((domino_Row_J8 l1 start2))

noncomputable def domino_Row_K2 (l1 : List (Int × Int)) : (Int × Int) → Option (List (Int × Int) × Int) :=
  fun (x : (Int × Int)) => match x with | (start2, odd2) => (domino_Row_J5 l1) start2 odd2

noncomputable def domino_Row_J2 (l1 : List (Int × Int)) (ends2 : List Int) : Option (List (Int × Int) × Int) :=
  asrt (0 ≤ (0 : Int) ∧ (0 : Int) < (l1.length : Int)) <| (loop (domino_Row_L2 ends2) (((getd ((0, 0) : (Int × Int)) l1 0).1), 0, 0)).bind (domino_Row_K2 l1)

noncomputable def domino_Row_K1 (l1 : List (Int × Int)) : (List Int) → Option (List (Int × Int) × Int) :=
  fun (x : (List Int)) => match x with | ends2 => (domino_Row_J2 l1) ends2

noncomputable def domino_Row_L1 (l1 : List (Int × Int)) : (List Int × Int) → Option (St (List Int × Int) (List Int)) :=
  fun (x : (List Int × Int)) => match x with | (ends1, z1) => if (decide (z1 < (l1.length : Int))) then ((domino_Row_J3 l1 ends1 z1)) else (some (.done ends1))

noncomputable def domino_Row_J1 (l1 : List (Int × Int)) : Option (List (Int × Int) × Int) :=
  (loop (domino_Row_L1 l1) ((List.replicate 10 (0 : Int)), 0)).bind (domino_Row_K1 l1)

noncomputable def domino_Row_m (l1 : List (Int × Int)) : Option (List (Int × Int) × Int) :=
  if (decide ((60 : Int) < (l1.length : Int))) then (some (([] : List (Int × Int)), 2)) else ((slices_ContainsFunc_m l1).bind fun r1 => if r1 then (some (([] : List (Int × Int)), 3)) else (if ((l1.length : Int) == 0) then (some (([] : List (Int × Int)), 0)) else ((domino_Row_J1 l1))))

set_option maxRecDepth 100000 in
set_option maxHeartbeats 4000000 in
theorem domino_Row_w {A1 : Option Addr} {c1 : Nat} {n1 : Nat} {l1 : List (Int × Int)} {r : (List (Int × Int) × Int)} {w0 w : World} {B : Nat} {fs : List HP} (hm : domino_Row_m l1 = some r) (hS : Sep w0 B w (fs)) (hr_l1 : RdF w0 B fs A1 ((List.flatMap enc99 l1))) (_hc_l1 : l1.length ≤ c1) (_hn_l1 : n1 = l1.length) :
    Calls Try.prog 15 #[.slice A1 n1 c1] w fun e w' => ∃ v, e = .returned v ∧ ∃ (A4 : Option Addr) (c4 : Nat), v = .tuple #[.slice A4 r.1.length c4, .int .i64 r.2] ∧ Sep w0 B w' (ownK 99 2 A4 r.1.length c4 (List.flatMap enc99 r.1) :: fs) := by
  obtain ⟨i3, hi3, hz3, hs3, hb3⟩ := info_parts Info3
  obtain ⟨i4, hi4, hz4, hs4, hb4⟩ := info_parts Info4
  obtain ⟨i99, hi99, hz99, hs99, hb99⟩ := info_parts Info99
  obtain rfl := _hn_l1
  unfold domino_Row_m at hm
  replace hm := start_b hm
  refine enter (l := [.slice A1 l1.length c1]) (n := 78) Try.func15 rfl rfl (by simp) (fun a hF => ?_)
  refine reg [] [] [0] [pl 0 (.slice A1 l1.length c1)] hF hS Fol (by kernel_rfl) (by kernel_rfl) (by kernel_rfl) ?_ (fun a w hF hS => ?_)
  · exact obs_nil
  refine seq_cut (fun a w => Fr 78 [pl 0 (.slice A1 l1.length c1)] a ∧ Sep w0 B w (fs) ∧ ((domino_Row_J1 l1)).bind some = some r) ?_ ?_
  · rintro a w ⟨hF, hS, hm⟩
    unfold domino_Row_J1 at hm
    refine seqR ?_
    refine at_do (d := 4) (s := vS (Instr.alloc 118 true (.tuple #[]))) (v := .pointer (some ⟨w.heap.size, 0, none⟩)) (w' := w.alloc (.cells (List.toArray (([] : List Value) ++ (arr1 (Value.int .i64) (0 : Int) 10 (List.replicate 10 (0 : Int)) ++ ([] : List Value)))) 118)) hF (by kernel_rfl) (by kernel_rfl) (by kernel_rfl) (fun a hF => ?_)
    have hS : Sep w0 B (w.alloc (.cells (List.toArray (([] : List Value) ++ (arr1 (Value.int .i64) (0 : Int) 10 (List.replicate 10 (0 : Int)) ++ ([] : List Value)))) 118)) (blk w.heap.size 118 (List.toArray (([] : List Value) ++ (arr1 (Value.int .i64) (0 : Int) 10 (List.replicate 10 (0 : Int)) ++ ([] : List Value)))) :: (fs)) := hS.box 118 (List.toArray (([] : List Value) ++ (arr1 (Value.int .i64) (0 : Int) 10 (List.replicate 10 (0 : Int)) ++ ([] : List Value))))
    generalize w.heap.size = g1 at hF hS
    generalize w.alloc (.cells (List.toArray (([] : List Value) ++ (arr1 (Value.int .i64) (0 : Int) 10 (List.replicate 10 (0 : Int)) ++ ([] : List Value)))) 118) = w at hS ⊢
    refine at_end [0, 4] [pl 0 (.slice A1 l1.length c1), pl 4 (.pointer (some ⟨g1, 0, none⟩))] hF rfl (by kernel_rfl) (fun hF => ?_)
    refine then_n ?_
    refine seq_cut (fun a w => ∃ (ends2 : List Int), Fr 78 [pl 0 (.slice A1 l1.length c1), pl 4 (.pointer (some ⟨g1, 0, none⟩))] a ∧ Sep w0 B w (blk g1 118 (List.toArray (([] : List Value) ++ (arr1 (Value.int .i64) (0 : Int) 10 ends2 ++ ([] : List Value)))) :: fs) ∧ ((domino_Row_J2 l1) ends2).bind some = some r) ?_ ?_
    · rintro a w ⟨ends2, hF, hS, hm⟩
      unfold domino_Row_J2 at hm
      obtain ⟨hp8, hm⟩ := asrt_b hm
      refine reg [⟨true, [], vS (Instr.indexAt 22 (.slice A1 l1.length c1) (.int .i64 0)), .pointer (some (sAddrK A1 2 0))⟩, ⟨false, [], vS (Instr.loadAt 3 (.pointer (some (Addr.add (sAddrK A1 2 0) 0)))), .int .i64 ((getd ((0, 0) : (Int × Int)) l1 0).1)⟩] [none, some (.pointer (some (sAddrK A1 2 0))), none, some (.int .i64 ((getd ((0, 0) : (Int × Int)) l1 0).1)), none, none] [0, 4, 7, 8] [pl 0 (.slice A1 l1.length c1), pl 4 (.pointer (some ⟨g1, 0, none⟩)), pl 7 (.int .i64 ((getd ((0, 0) : (Int × Int)) l1 0).1)), pl 8 (.int .i64 0)] hF hS Fol (by kernel_rfl) (by kernel_rfl) (by kernel_rfl) ?_ (fun a w hF hS => ?_)
      · exact obs_cons (ob_ixK (m := l1) encK99 Und22 hi99 hs99 (hr_l1 _ (hS.dropN 1)) rfl (fun _ => hp8)) <| obs_cons (ob_getF (n := l1.length) (m := l1) (j := 0) encK99 ((0, 0) : (Int × Int)) Agg3 (fun _ hS => ⟨_, (hr_l1 _ (hS.dropN 1))⟩) (fun _ hS => rfl) (fun _ => hp8) (by decide) rfl) <| obs_nil
      refine seq_cut (fun a w => ∃ (start2 : Int) (odd2 : Int), Fr 78 [pl 0 (.slice A1 l1.length c1), pl 7 (.int .i64 start2), pl 8 (.int .i64 odd2)] a ∧ Sep w0 B w (fs) ∧ ((domino_Row_J5 l1) start2 odd2).bind some = some r) ?_ ?_
      · rintro a w ⟨start2, odd2, hF, hS, hm⟩
        unfold domino_Row_J5 at hm
        refine seqR ?_
        obtain ⟨hp10, hm⟩ := asrt_b hm
        refine at_run 3 [] [] [0, 7, 8, 58, 60] [pl 0 (.slice A1 l1.length c1), pl 7 (.int .i64 start2), pl 8 (.int .i64 odd2), pl 58 (.slice A1 l1.length c1), pl 60 (.int .i64 (l1.length : Int))] hF hS (by kernel_rfl) (by kernel_rfl) ?_ (fun a w hF hS => ?_)
        · exact obs_nil
        obtain ⟨A2, c2, w, hrun, hS⟩ := run_mk1 (P := Try.prog) (t := 119) Value.bool false hS .i64 .i64 Und119 hi4 hz4 hs4 (by omega) rfl hp10
        have hS : Sep w0 B w (own 4 (.slice A2 (Int.toNat (l1.length : Int)) c2) (vB (List.replicate (Int.toNat (l1.length : Int)) false)) :: fs) := hS
        refine at_do (d := 61) hF (by kernel_rfl) (by kernel_rfl) hrun (fun a hF => ?_)
        refine at_run 1 [] [] [0, 7, 8, 62] [pl 0 (.slice A1 l1.length c1), pl 7 (.int .i64 start2), pl 8 (.int .i64 odd2), pl 62 (.agg #[.slice A1 l1.length c1, .slice A2 (Int.toNat (l1.length : Int)) c2, .slice none 0 0])] hF hS (by kernel_rfl) (by kernel_rfl) ?_ (fun a w hF hS => ?_)
        · exact obs_nil
        refine at_do (d := 11) (s := vS (Instr.alloc 121 true (.tuple #[]))) (v := .pointer (some ⟨w.heap.size, 0, none⟩)) (w' := w.alloc (.cells #[.slice none 0 0, .slice none 0 0, .slice none 0 0] 121)) hF (by kernel_rfl) (by kernel_rfl) (by kernel_rfl) (fun a hF => ?_)
        have hS : Sep w0 B (w.alloc (.cells #[.slice none 0 0, .slice none 0 0, .slice none 0 0] 121)) (blk w.heap.size 121 #[.slice none 0 0, .slice none 0 0, .slice none 0 0] :: (own 4 (.slice A2 (Int.toNat (l1.length : Int)) c2) (vB (List.replicate (Int.toNat (l1.length : Int)) false)) :: fs)) := hS.box 121 #[.slice none 0 0, .slice none 0 0, .slice none 0 0]
        generalize w.heap.size = g3 at hF hS
        generalize w.alloc (.cells #[.slice none 0 0, .slice none 0 0, .slice none 0 0] 121) = w at hS ⊢
        obtain ⟨w, hrun, hS⟩ := run_putA (P := Try.prog) (t := 121) (us := #[.slice A1 l1.length c1, .slice A2 (Int.toNat (l1.length : Int)) c2, .slice none 0 0]) (o := 0) (hS.at_ 0 rfl) (by kernel_rfl) (all_one (by kernel_rfl)) (Nat.le_of_ble_eq_true (by kernel_rfl))
        refine at_skip hF (by kernel_rfl) hrun ?_
        have hS : Sep w0 B w (blk g3 121 #[.slice A1 l1.length c1, .slice A2 (Int.toNat (l1.length : Int)) c2, .slice none 0 0] :: own 4 (.slice A2 (Int.toNat (l1.length : Int)) c2) (vB (List.replicate (Int.toNat (l1.length : Int)) false)) :: fs) := hS
        refine at_end [0, 7, 8, 11] [pl 0 (.slice A1 l1.length c1), pl 7 (.int .i64 start2), pl 8 (.int .i64 odd2), pl 11 (.pointer (some ⟨g3, 0, none⟩))] hF rfl (by kernel_rfl) (fun hF => ?_)
        refine then_n ?_
        refine seq_cut (fun a w => Fr 78 [pl 0 (.slice A1 l1.length c1), pl 7 (.int .i64 start2), pl 11 (.pointer (some ⟨g3, 0, none⟩))] a ∧ Sep w0 B w (blk g3 121 #[.slice A1 l1.length c1, .slice A2 (Int.toNat (l1.length : Int)) c2, .slice none 0 0] :: own 4 (.slice A2 (Int.toNat (l1.length : Int)) c2) (vB (List.replicate (Int.toNat (l1.length : Int)) false)) :: fs) ∧ ((domino_Row_J8 l1 start2)).bind some = some r) ?_ ?_
        · rintro a w ⟨hF, hS, hm⟩
          unfold domino_Row_J8 at hm
          refine seqR ?_
          obtain ⟨r2, hr2, hm⟩ := call_b hm
          refine at_run 1 [] [] [0, 11, 65] [pl 0 (.slice A1 l1.length c1), pl 11 (.pointer (some ⟨g3, 0, none⟩)), pl 65 (.int .i64 start2)] hF hS (by kernel_rfl) (by kernel_rfl) ?_ (fun a w hF hS => ?_)
          · exact obs_nil
          have hS : Sep w0 B w (ownK 99 2 none 0 0 (List.flatMap enc99 ([] : List (Int × Int))) :: blk g3 121 #[.slice A1 l1.length c1, .slice A2 (Int.toNat (l1.length : Int)) c2, .slice none 0 0] :: own 4 (.slice A2 (Int.toNat (l1.length : Int)) c2) (vB (List.replicate (Int.toNat (l1.length : Int)) false)) :: fs) := hS.nilK 99 2 enc99
          have hS : Sep w0 B w (ownK 99 2 none 0 0 (List.flatMap enc99 ([] : List (Int × Int))) :: blk g3 121 #[.slice A1 l1.length c1, .slice A2 (Int.toNat (l1.length : Int)) c2, .slice none 0 0] :: own 4 (.slice A2 (Int.toNat (l1.length : Int)) c2) (vB (List.replicate (Int.toNat (l1.length : Int)) false)) :: fs) := hS
          have hS : Sep w0 B w (blk g3 121 #[.slice A1 l1.length c1, .slice A2 (Int.toNat (l1.length : Int)) c2, .slice none 0 0] :: own 4 (.slice A2 (Int.toNat (l1.length : Int)) c2) (vB (List.replicate (Int.toNat (l1.length : Int)) false)) :: ownK 99 2 none 0 0 (List.flatMap enc99 ([] : List (Int × Int))) :: fs) := hS.pickN 3 [1, 2, 0] (by decide)
          refine at_call (f := 80) (args := #[.pointer (some ⟨g3, 0, none⟩), .int .i64 start2]) (d := 66) hF (by kernel_rfl) (by kernel_rfl) Try.func80 (by kernel_rfl) rfl (domino_walker_walk_w hr2 hS (fun _ hS => (hr_l1 _ (hS.dropN 0))) _hc_l1 rfl) (fun v a w hR hF => ?_)
          clear hS
          obtain ⟨A3, c3, rfl, hS⟩ := hR
          have hS : Sep w0 B w (blk g3 121 #[.slice A1 l1.length c1, .slice A2 (Int.toNat (l1.length : Int)) c2, .slice A3 r2.2.length c3] :: own 4 (.slice A2 (Int.toNat (l1.length : Int)) c2) (vB r2.1) :: ownK 99 2 A3 r2.2.length c3 (List.flatMap enc99 r2.2) :: fs) := hS
          refine at_end [0, 11] [pl 0 (.slice A1 l1.length c1), pl 11 (.pointer (some ⟨g3, 0, none⟩))] hF rfl (by kernel_rfl) (fun hF => ?_)
          refine then_n ?_
          refine seq_cut (fun a w => Fr 78 [pl 11 (.pointer (some ⟨g3, 0, none⟩))] a ∧ Sep w0 B w (blk g3 121 #[.slice A1 l1.length c1, .slice A2 (Int.toNat (l1.length : Int)) c2, .slice A3 r2.2.length c3] :: own 4 (.slice A2 (Int.toNat (l1.length : Int)) c2) (vB r2.1) :: ownK 99 2 A3 r2.2.length c3 (List.flatMap enc99 r2.2) :: fs) ∧ ((domino_Row_J9 r2)).bind some = some r) ?_ ?_
          · rintro a w ⟨hF, hS, hm⟩
            unfold domino_Row_J9 at hm
            refine seqR ?_
            obtain ⟨r3, hr3, hm⟩ := call_b hm
            refine at_run 2 [⟨false, [], vS (Instr.loadAt 22 (.pointer (some ⟨g3, 2, none⟩))), .slice A3 r2.2.length c3⟩] [none, some (.slice A3 r2.2.length c3)] [11, 74] [pl 11 (.pointer (some ⟨g3, 0, none⟩)), pl 74 (.slice A3 r2.2.length c3)] hF hS (by kernel_rfl) (by kernel_rfl) ?_ (fun a w hF hS => ?_)
            · exact obs_cons (ob_load Agg22 (fun _ _ hS => (hS.at_ 0 rfl).cell rfl)) <| obs_nil
            have hS : Sep w0 B w (ownK 99 2 A3 r2.2.length c3 (List.flatMap enc99 r2.2) :: blk g3 121 #[.slice A1 l1.length c1, .slice A2 (Int.toNat (l1.length : Int)) c2, .slice A3 r2.2.length c3] :: own 4 (.slice A2 (Int.toNat (l1.length : Int)) c2) (vB r2.1) :: fs) := hS.pickN 3 [2, 0, 1] (by decide)
            refine at_call (f := 81) (args := #[.slice A3 r2.2.length c3]) (d := 75) hF (by kernel_rfl) (by kernel_rfl) Try.func81 (by kernel_rfl) rfl (slices_Reverse_2_w hr3 hS ) (fun v a w hR hF => ?_)
            clear hS
            obtain ⟨rfl, hS⟩ := hR
            have hS : Sep w0 B w (ownK 99 2 A3 r2.2.length c3 (List.flatMap enc99 r3) :: blk g3 121 #[.slice A1 l1.length c1, .slice A2 (Int.toNat (l1.length : Int)) c2, .slice A3 r2.2.length c3] :: own 4 (.slice A2 (Int.toNat (l1.length : Int)) c2) (vB r2.1) :: fs) := hS
            refine at_end [11] [pl 11 (.pointer (some ⟨g3, 0, none⟩))] hF rfl (by kernel_rfl) (fun hF => ?_)
            refine then_n ?_
            refine reg [⟨false, [], vS (Instr.loadAt 22 (.pointer (some ⟨g3, 2, none⟩))), .slice A3 r2.2.length c3⟩] [none, some (.slice A3 r2.2.length c3), none, none] [2, 3] [pl 2 (.slice A3 r2.2.length c3), pl 3 (.int .i64 0)] hF hS Fol (by kernel_rfl) (by kernel_rfl) (by kernel_rfl) ?_ (fun a w hF hS => ?_)
            · exact obs_cons (ob_load Agg22 (fun _ _ hS => (hS.at_ 1 rfl).cell rfl)) <| obs_nil
            refine wp_ret ?_
            have hl6 := (hS.at_ 0 rfl).lenK encK99
            have hS := (hS.at_ 0 rfl).reNK hl6
            have hS := (hS.at_ 1 rfl).reBlk (congrArg (fun k9 => (#[.slice A1 l1.length c1, .slice A2 (Int.toNat (l1.length : Int)) c2, .slice A3 k9 c3] : Array Value)) hl6)
            have hS : Sep w0 B w (ownK 99 2 A3 r3.length c3 (List.flatMap enc99 r3) :: blk g3 121 #[.slice A1 l1.length c1, .slice A2 (Int.toNat (l1.length : Int)) c2, .slice A3 r3.length c3] :: own 4 (.slice A2 (Int.toNat (l1.length : Int)) c2) (vB r2.1) :: fs) := hS
            have hF := hF.cast (t := 2) (v := .slice A3 r2.2.length c3) (v' := .slice A3 r3.length c3) rfl rfl (congrArg (fun k => Value.slice A3 k c3) hl6)
            have hS := hS.pickN 3 [0] (by decide)
            have hm : some (r3, 0) = some r := hm
            obtain rfl := Option.some.inj hm
            exact retV (rs := [.tmp 2, .tmp 3]) (vs := [.slice A3 r3.length c3, .int .i64 0]) hF rfl (rv_t (by kernel_rfl) <| rv_t (by kernel_rfl) <| rv_nil) rfl ⟨_, rfl, A3, c3, rfl, hS⟩
          · refine reg [⟨false, [], vS (Instr.loadAt 22 (.pointer (some ⟨g3, 2, none⟩))), .slice A3 r2.2.length c3⟩] [none, some (.slice A3 r2.2.length c3), none, none, none, none] [11, 72] [pl 11 (.pointer (some ⟨g3, 0, none⟩)), pl 72 (.bool (decide ((r2.2.length : Int) < (l1.length : Int))))] hF hS Fol (by kernel_rfl) (by kernel_rfl) (by kernel_rfl) ?_ (fun a w hF hS => ?_)
            · exact obs_cons (ob_load Agg22 (fun _ _ hS => (hS.at_ 0 rfl).cell rfl)) <| obs_nil
            refine cond_ev (t := 72) (b := decide ((r2.2.length : Int) < (l1.length : Int))) hF (by kernel_rfl) (fun hb => ?_) (fun hb => ?_)
            · replace hm := if_t hm hb
              refine reg [] [] [2, 3] [pl 2 (.slice none 0 0), pl 3 (.int .i64 10)] hF hS Fol (by kernel_rfl) (by kernel_rfl) (by kernel_rfl) ?_ (fun a w hF hS => ?_)
              · exact obs_nil
              refine wp_ret ?_
              refine then_r ?_
              have hS : Sep w0 B w (ownK 99 2 none 0 0 (List.flatMap enc99 ([] : List (Int × Int))) :: blk g3 121 #[.slice A1 l1.length c1, .slice A2 (Int.toNat (l1.length : Int)) c2, .slice A3 r2.2.length c3] :: own 4 (.slice A2 (Int.toNat (l1.length : Int)) c2) (vB r2.1) :: ownK 99 2 A3 r2.2.length c3 (List.flatMap enc99 r2.2) :: fs) := hS.nilK 99 2 enc99
              have hl5 := (hS.at_ 0 rfl).lenK encK99
              have hS := (hS.at_ 0 rfl).reNK hl5
              have hS : Sep w0 B w (ownK 99 2 none (([] : List (Int × Int)).length) 0 (List.flatMap enc99 ([] : List (Int × Int))) :: blk g3 121 #[.slice A1 l1.length c1, .slice A2 (Int.toNat (l1.length : Int)) c2, .slice A3 r2.2.length c3] :: own 4 (.slice A2 (Int.toNat (l1.length : Int)) c2) (vB r2.1) :: ownK 99 2 A3 r2.2.length c3 (List.flatMap enc99 r2.2) :: fs) := hS
              have hS := hS.pickN 4 [0] (by decide)
              have hm : some (([] : List (Int × Int)), 10) = some r := hm
              obtain rfl := Option.some.inj hm
              exact retV (rs := [.tmp 2, .tmp 3]) (vs := [.slice none (([] : List (Int × Int)).length) 0, .int .i64 10]) hF rfl (rv_t (by kernel_rfl) <| rv_t (by kernel_rfl) <| rv_nil) rfl ⟨_, rfl, none, 0, rfl, hS⟩
            · replace hm := if_f hm hb
              refine wp_skip ?_
              refine then_n ?_
              exact ⟨hF.weak [11] (by kernel_rfl), hS, hm⟩
        · refine reg [] [] [0, 7, 11, 64] [pl 0 (.slice A1 l1.length c1), pl 7 (.int .i64 start2), pl 11 (.pointer (some ⟨g3, 0, none⟩)), pl 64 (.bool (decide ((2 : Int) < odd2)))] hF hS Fol (by kernel_rfl) (by kernel_rfl) (by kernel_rfl) ?_ (fun a w hF hS => ?_)
          · exact obs_nil
          refine cond_ev (t := 64) (b := decide ((2 : Int) < odd2)) hF (by kernel_rfl) (fun hb => ?_) (fun hb => ?_)
          · replace hm := if_t hm hb
            refine reg [] [] [2, 3] [pl 2 (.slice none 0 0), pl 3 (.int .i64 10)] hF hS Fol (by kernel_rfl) (by kernel_rfl) (by kernel_rfl) ?_ (fun a w hF hS => ?_)
            · exact obs_nil
            refine wp_ret ?_
            refine then_r ?_
            have hS : Sep w0 B w (ownK 99 2 none 0 0 (List.flatMap enc99 ([] : List (Int × Int))) :: blk g3 121 #[.slice A1 l1.length c1, .slice A2 (Int.toNat (l1.length : Int)) c2, .slice none 0 0] :: own 4 (.slice A2 (Int.toNat (l1.length : Int)) c2) (vB (List.replicate (Int.toNat (l1.length : Int)) false)) :: fs) := hS.nilK 99 2 enc99
            have hl4 := (hS.at_ 0 rfl).lenK encK99
            have hS := (hS.at_ 0 rfl).reNK hl4
            have hS : Sep w0 B w (ownK 99 2 none (([] : List (Int × Int)).length) 0 (List.flatMap enc99 ([] : List (Int × Int))) :: blk g3 121 #[.slice A1 l1.length c1, .slice A2 (Int.toNat (l1.length : Int)) c2, .slice none 0 0] :: own 4 (.slice A2 (Int.toNat (l1.length : Int)) c2) (vB (List.replicate (Int.toNat (l1.length : Int)) false)) :: fs) := hS
            have hS := hS.pickN 3 [0] (by decide)
            have hm : some (([] : List (Int × Int)), 10) = some r := hm
            obtain rfl := Option.some.inj hm
            exact retV (rs := [.tmp 2, .tmp 3]) (vs := [.slice none (([] : List (Int × Int)).length) 0, .int .i64 10]) hF rfl (rv_t (by kernel_rfl) <| rv_t (by kernel_rfl) <| rv_nil) rfl ⟨_, rfl, none, 0, rfl, hS⟩
          · replace hm := if_f hm hb
            refine wp_skip ?_
            refine then_n ?_
            exact ⟨hF.weak [0, 7, 11] (by kernel_rfl), hS, hm⟩
      · refine reg [⟨false, [], vS (Instr.loadAt 118 (.pointer (some ⟨g1, 0, none⟩))), .agg (List.toArray (([] : List Value) ++ (arr1 (Value.int .i64) (0 : Int) 10 ends2 ++ ([] : List Value))))⟩] [some (.agg (List.toArray (([] : List Value) ++ (arr1 (Value.int .i64) (0 : Int) 10 ends2 ++ ([] : List Value))))), none] [0, 7, 8, 46, 47] [pl 0 (.slice A1 l1.length c1), pl 7 (.int .i64 ((getd ((0, 0) : (Int × Int)) l1 0).1)), pl 8 (.int .i64 0), pl 46 (.agg (List.toArray (([] : List Value) ++ (arr1 (Value.int .i64) (0 : Int) 10 ends2 ++ ([] : List Value))))), pl 47 (.int .i64 0)] hF hS Fol (by kernel_rfl) (by kernel_rfl) (by kernel_rfl) ?_ (fun a w hF hS => ?_)
        · exact obs_cons (ob_loadA (cs := (List.toArray (([] : List Value) ++ (arr1 (Value.int .i64) (0 : Int) 10 ends2 ++ ([] : List Value))))) (by kernel_rfl) (by kernel_rfl) (fun _ _ hS => (hS.at_ 0 rfl).cellsAt 0 (by rfl))) <| obs_nil
        refine wp_block ?_
        have hS := hS.pickN 1 [] (by decide)
        refine wp_loop_model (S := (Int × Int × Int)) (R := (Int × Int)) (domino_Row_L2 ends2) (fun x => ((domino_Row_K2 l1) x).bind some) r (fun (x : (Int × Int × Int)) a w => Fr 78 [pl 0 (.slice A1 l1.length c1), pl 7 (.int .i64 x.1), pl 8 (.int .i64 x.2.1), pl 46 (.agg (List.toArray (([] : List Value) ++ (arr1 (Value.int .i64) (0 : Int) 10 ends2 ++ ([] : List Value))))), pl 47 (.int .i64 x.2.2)] a ∧ Sep w0 B w (fs)) (assoc_b hm) ⟨hF.weak [0, 7, 8, 46, 47] (by kernel_rfl), hS⟩ ?_
        clear hF hS hm
        rintro nn2 ⟨start1, odd1, z2⟩ a w ⟨hF, hS⟩ hm
        generalize hφ2 : stK (domino_Row_L2 ends2) nn2 (fun x => ((domino_Row_K2 l1) x).bind some) = φ2 at hm
        unfold domino_Row_L2 at hm
        dsimp only at hF hS hm
        refine reg [] [] [0, 7, 8, 46, 47, 48] [pl 0 (.slice A1 l1.length c1), pl 7 (.int .i64 start1), pl 8 (.int .i64 odd1), pl 46 (.agg (List.toArray (([] : List Value) ++ (arr1 (Value.int .i64) (0 : Int) 10 ends2 ++ ([] : List Value))))), pl 47 (.int .i64 z2), pl 48 (.bool (decide (z2 < 10)))] hF hS Fol (by kernel_rfl) (by kernel_rfl) (by kernel_rfl) ?_ (fun a w hF hS => ?_)
        · exact obs_nil
        refine seq_cut (fun a w => Fr 78 [pl 0 (.slice A1 l1.length c1), pl 7 (.int .i64 start1), pl 8 (.int .i64 odd1), pl 46 (.agg (List.toArray (([] : List Value) ++ (arr1 (Value.int .i64) (0 : Int) 10 ends2 ++ ([] : List Value))))), pl 47 (.int .i64 z2)] a ∧ Sep w0 B w (fs) ∧ ((domino_Row_J6 ends2 start1 odd1 z2)).bind φ2 = some r) ?_ ?_
        · rintro a w ⟨hF, hS, hm⟩
          unfold domino_Row_J6 at hm
          refine seq_cut (fun a w => ∃ (start3 : Int) (odd3 : Int), Fr 78 [pl 0 (.slice A1 l1.length c1), pl 7 (.int .i64 start3), pl 8 (.int .i64 odd3), pl 46 (.agg (List.toArray (([] : List Value) ++ (arr1 (Value.int .i64) (0 : Int) 10 ends2 ++ ([] : List Value))))), pl 47 (.int .i64 z2)] a ∧ Sep w0 B w (fs) ∧ ((domino_Row_J7 z2) start3 odd3).bind φ2 = some r) ?_ ?_
          · rintro a w ⟨start3, odd3, hF, hS, hm⟩
            unfold domino_Row_J7 at hm
            refine reg1 [] [] [0, 7, 8, 46, 47] [pl 0 (.slice A1 l1.length c1), pl 7 (.int .i64 start3), pl 8 (.int .i64 odd3), pl 46 (.agg (List.toArray (([] : List Value) ++ (arr1 (Value.int .i64) (0 : Int) 10 ends2 ++ ([] : List Value))))), pl 47 (.int .i64 (w64 (z2 + 1)))] hF hS Fol (by kernel_rfl) (by kernel_rfl) (by kernel_rfl) ?_ (fun a w hF hS => ?_)
            · exact obs_nil
            refine then_n ?_
            rw [← hφ2] at hm
            exact ⟨(start3, odd3, (w64 (z2 + 1))), ⟨hF.weak [0, 7, 8, 46, 47] (by kernel_rfl), hS⟩, hm⟩
          · refine wp_block ?_
            obtain ⟨hp9, hm⟩ := asrt_b hm
            refine reg [⟨true, [], vS (Instr.index 118 (.agg (List.toArray (([] : List Value) ++ (arr1 (Value.int .i64) (0 : Int) 10 ends2 ++ ([] : List Value))))) (.int .i64 z2)), .int .i64 (geti ends2 z2)⟩] [none, some (.int .i64 (geti ends2 z2)), none, none] [0, 7, 8, 9, 10, 46, 47] [pl 0 (.slice A1 l1.length c1), pl 7 (.int .i64 start1), pl 8 (.int .i64 odd1), pl 9 (.int .i64 z2), pl 10 (.int .i64 (geti ends2 z2)), pl 46 (.agg (List.toArray (([] : List Value) ++ (arr1 (Value.int .i64) (0 : Int) 10 ends2 ++ ([] : List Value))))), pl 47 (.int .i64 z2)] hF hS Fol (by kernel_rfl) (by kernel_rfl) (by kernel_rfl) ?_ (fun a w hF hS => ?_)
            · exact obs_cons (ob_idx1 (f := (Value.int .i64)) (z := (0 : Int)) (m := ends2) UndA118 (by kernel_rfl) (by kernel_rfl) (fun _ => hp9)) <| obs_nil
            refine reg [] [] [0, 7, 8, 9, 46, 47, 53] [pl 0 (.slice A1 l1.length c1), pl 7 (.int .i64 start1), pl 8 (.int .i64 odd1), pl 9 (.int .i64 z2), pl 46 (.agg (List.toArray (([] : List Value) ++ (arr1 (Value.int .i64) (0 : Int) 10 ends2 ++ ([] : List Value))))), pl 47 (.int .i64 z2), pl 53 (.bool ((bAnd (geti ends2 z2) 1) == 1))] hF hS Fol (by kernel_rfl) (by kernel_rfl) (by kernel_rfl) ?_ (fun a w hF hS => ?_)
            · exact obs_nil
            refine cond_ev (t := 53) (b := ((bAnd (geti ends2 z2) 1) == 1)) hF (by kernel_rfl) (fun hb => ?_) (fun hb => ?_)
            · replace hm := if_t hm hb
              refine reg [] [] [0, 8, 9, 46, 47] [pl 0 (.slice A1 l1.length c1), pl 8 (.int .i64 (w64 (odd1 + 1))), pl 9 (.int .i64 z2), pl 46 (.agg (List.toArray (([] : List Value) ++ (arr1 (Value.int .i64) (0 : Int) 10 ends2 ++ ([] : List Value))))), pl 47 (.int .i64 z2)] hF hS Fol (by kernel_rfl) (by kernel_rfl) (by kernel_rfl) ?_ (fun a w hF hS => ?_)
              · exact obs_nil
              refine reg1 [] [] [0, 7, 8, 46, 47] [pl 0 (.slice A1 l1.length c1), pl 7 (.int .i64 z2), pl 8 (.int .i64 (w64 (odd1 + 1))), pl 46 (.agg (List.toArray (([] : List Value) ++ (arr1 (Value.int .i64) (0 : Int) 10 ends2 ++ ([] : List Value))))), pl 47 (.int .i64 z2)] hF hS Fol (by kernel_rfl) (by kernel_rfl) (by kernel_rfl) ?_ (fun a w hF hS => ?_)
              · exact obs_nil
              refine block_n ?_
              refine then_n ?_
              exact ⟨z2, (w64 (odd1 + 1)), hF.weak [0, 7, 8, 46, 47] (by kernel_rfl), hS, hm⟩
            · replace hm := if_f hm hb
              refine wp_skip ?_
              refine block_n ?_
              refine then_n ?_
              exact ⟨start1, odd1, hF.weak [0, 7, 8, 46, 47] (by kernel_rfl), hS, hm⟩
        · refine cond_ev (t := 48) (b := decide (z2 < 10)) hF (by kernel_rfl) (fun hb => ?_) (fun hb => ?_)
          · replace hm := if_t hm hb
            refine wp_skip ?_
            refine then_n ?_
            exact ⟨hF.weak [0, 7, 8, 46, 47] (by kernel_rfl), hS, hm⟩
          · replace hm := if_f hm hb
            refine wp_exit ?_
            refine then_e (then_e (block_e (then_n ?_)))
            rw [← hφ2] at hm
            replace hm := done_b hm
            unfold domino_Row_K2 at hm
            try dsimp only at hm
            have hm : ((domino_Row_J5 l1) start1 odd1).bind some = some r := hm
            exact ⟨start1, odd1, hF.weak [0, 7, 8] (by kernel_rfl), hS, hm⟩
    · refine reg [] [] [0, 4, 23, 24, 25] [pl 0 (.slice A1 l1.length c1), pl 4 (.pointer (some ⟨g1, 0, none⟩)), pl 23 (.slice A1 l1.length c1), pl 24 (.int .i64 (l1.length : Int)), pl 25 (.int .i64 0)] hF hS Fol (by kernel_rfl) (by kernel_rfl) (by kernel_rfl) ?_ (fun a w hF hS => ?_)
      · exact obs_nil
      refine wp_block ?_
      refine wp_loop_model (S := (List Int × Int)) (R := (List Int)) (domino_Row_L1 l1) (fun x => ((domino_Row_K1 l1) x).bind some) r (fun (x : (List Int × Int)) a w => Fr 78 [pl 0 (.slice A1 l1.length c1), pl 4 (.pointer (some ⟨g1, 0, none⟩)), pl 23 (.slice A1 l1.length c1), pl 24 (.int .i64 (l1.length : Int)), pl 25 (.int .i64 x.2)] a ∧ Sep w0 B w (blk g1 118 (List.toArray (([] : List Value) ++ (arr1 (Value.int .i64) (0 : Int) 10 x.1 ++ ([] : List Value)))) :: fs)) (assoc_b hm) ⟨hF.weak [0, 4, 23, 24, 25] (by kernel_rfl), hS⟩ ?_
      clear hF hS hm
      rintro nn1 ⟨ends1, z1⟩ a w ⟨hF, hS⟩ hm
      generalize hφ1 : stK (domino_Row_L1 l1) nn1 (fun x => ((domino_Row_K1 l1) x).bind some) = φ1 at hm
      unfold domino_Row_L1 at hm
      dsimp only at hF hS hm
      refine reg [] [] [0, 4, 23, 24, 25, 26] [pl 0 (.slice A1 l1.length c1), pl 4 (.pointer (some ⟨g1, 0, none⟩)), pl 23 (.slice A1 l1.length c1), pl 24 (.int .i64 (l1.length : Int)), pl 25 (.int .i64 z1), pl 26 (.bool (decide (z1 < (l1.length : Int))))] hF hS Fol (by kernel_rfl) (by kernel_rfl) (by kernel_rfl) ?_ (fun a w hF hS => ?_)
      · exact obs_nil
      refine seq_cut (fun a w => Fr 78 [pl 0 (.slice A1 l1.length c1), pl 4 (.pointer (some ⟨g1, 0, none⟩)), pl 23 (.slice A1 l1.length c1), pl 24 (.int .i64 (l1.length : Int)), pl 25 (.int .i64 z1)] a ∧ Sep w0 B w (blk g1 118 (List.toArray (([] : List Value) ++ (arr1 (Value.int .i64) (0 : Int) 10 ends1 ++ ([] : List Value)))) :: fs) ∧ ((domino_Row_J3 l1 ends1 z1)).bind φ1 = some r) ?_ ?_
      · rintro a w ⟨hF, hS, hm⟩
        unfold domino_Row_J3 at hm
        refine seq_cut (fun a w => Fr 78 [pl 0 (.slice A1 l1.length c1), pl 4 (.pointer (some ⟨g1, 0, none⟩)), pl 23 (.slice A1 l1.length c1), pl 24 (.int .i64 (l1.length : Int)), pl 25 (.int .i64 z1)] a ∧ Sep w0 B w (blk g1 118 (List.toArray (([] : List Value) ++ (arr1 (Value.int .i64) (0 : Int) 10 ((ends1.set (Int.toNat ((getd ((0, 0) : (Int × Int)) l1 z1).1)) (w64 ((geti ends1 ((getd ((0, 0) : (Int × Int)) l1 z1).1)) + 1))).set (Int.toNat ((getd ((0, 0) : (Int × Int)) l1 z1).2)) (w64 ((geti (ends1.set (Int.toNat ((getd ((0, 0) : (Int × Int)) l1 z1).1)) (w64 ((geti ends1 ((getd ((0, 0) : (Int × Int)) l1 z1).1)) + 1))) ((getd ((0, 0) : (Int × Int)) l1 z1).2)) + 1))) ++ ([] : List Value)))) :: fs) ∧ ((domino_Row_J4 l1 ends1 z1)).bind φ1 = some r) ?_ ?_
        · rintro a w ⟨hF, hS, hm⟩
          unfold domino_Row_J4 at hm
          refine reg1 [] [] [0, 4, 23, 24, 25] [pl 0 (.slice A1 l1.length c1), pl 4 (.pointer (some ⟨g1, 0, none⟩)), pl 23 (.slice A1 l1.length c1), pl 24 (.int .i64 (l1.length : Int)), pl 25 (.int .i64 (w64 (z1 + 1)))] hF hS Fol (by kernel_rfl) (by kernel_rfl) (by kernel_rfl) ?_ (fun a w hF hS => ?_)
          · exact obs_nil
          refine then_n ?_
          rw [← hφ1] at hm
          exact ⟨(((ends1.set (Int.toNat ((getd ((0, 0) : (Int × Int)) l1 z1).1)) (w64 ((geti ends1 ((getd ((0, 0) : (Int × Int)) l1 z1).1)) + 1))).set (Int.toNat ((getd ((0, 0) : (Int × Int)) l1 z1).2)) (w64 ((geti (ends1.set (Int.toNat ((getd ((0, 0) : (Int × Int)) l1 z1).1)) (w64 ((geti ends1 ((getd ((0, 0) : (Int × Int)) l1 z1).1)) + 1))) ((getd ((0, 0) : (Int × Int)) l1 z1).2)) + 1))), (w64 (z1 + 1))), ⟨hF.weak [0, 4, 23, 24, 25] (by kernel_rfl), hS⟩, hm⟩
        · refine wp_block ?_
          refine seqR ?_
          obtain ⟨hp1, hm⟩ := asrt_b hm
          refine at_run 2 [⟨true, [], vS (Instr.indexAt 22 (.slice A1 l1.length c1) (.int .i64 z1)), .pointer (some (sAddrK A1 2 z1))⟩, ⟨false, [], vS (Instr.loadAt 99 (.pointer (some (sAddrK A1 2 z1)))), .agg #[.int .i64 ((getd ((0, 0) : (Int × Int)) l1 z1).1), .int .i64 ((getd ((0, 0) : (Int × Int)) l1 z1).2)]⟩] [some (.pointer (some (sAddrK A1 2 z1))), some (.agg #[.int .i64 ((getd ((0, 0) : (Int × Int)) l1 z1).1), .int .i64 ((getd ((0, 0) : (Int × Int)) l1 z1).2)])] [0, 4, 23, 24, 25, 28] [pl 0 (.slice A1 l1.length c1), pl 4 (.pointer (some ⟨g1, 0, none⟩)), pl 23 (.slice A1 l1.length c1), pl 24 (.int .i64 (l1.length : Int)), pl 25 (.int .i64 z1), pl 28 (.agg #[.int .i64 ((getd ((0, 0) : (Int × Int)) l1 z1).1), .int .i64 ((getd ((0, 0) : (Int × Int)) l1 z1).2)])] hF hS (by kernel_rfl) (by kernel_rfl) ?_ (fun a w hF hS => ?_)
          · exact obs_cons (ob_ixK (m := l1) encK99 Und22 hi99 hs99 (hr_l1 _ (hS.dropN 1)) rfl (fun _ => hp1)) <| obs_cons (ob_getK (n := l1.length) (m := l1) encK99 ((0, 0) : (Int × Int)) (by kernel_rfl) (by kernel_rfl) (fun _ hS => ⟨_, (hr_l1 _ (hS.dropN 1))⟩) (fun _ hS => rfl) (fun _ => hp1)) <| obs_nil
          refine at_do (d := 6) (s := vS (Instr.alloc 99 true (.tuple #[]))) (v := .pointer (some ⟨w.heap.size, 0, none⟩)) (w' := w.alloc (.cells #[.int .i64 0, .int .i64 0] 99)) hF (by kernel_rfl) (by kernel_rfl) (by kernel_rfl) (fun a hF => ?_)
          have hS : Sep w0 B (w.alloc (.cells #[.int .i64 0, .int .i64 0] 99)) (blk w.heap.size 99 #[.int .i64 0, .int .i64 0] :: (blk g1 118 (List.toArray (([] : List Value) ++ (arr1 (Value.int .i64) (0 : Int) 10 ends1 ++ ([] : List Value)))) :: fs)) := hS.box 99 #[.int .i64 0, .int .i64 0]
          generalize w.heap.size = g2 at hF hS
          generalize w.alloc (.cells #[.int .i64 0, .int .i64 0] 99) = w at hS ⊢
          obtain ⟨w, hrun, hS⟩ := run_putA (P := Try.prog) (t := 99) (us := #[.int .i64 ((getd ((0, 0) : (Int × Int)) l1 z1).1), .int .i64 ((getd ((0, 0) : (Int × Int)) l1 z1).2)]) (o := 0) (hS.at_ 0 rfl) (by kernel_rfl) (all_one (by kernel_rfl)) (Nat.le_of_ble_eq_true (by kernel_rfl))
          refine at_skip hF (by kernel_rfl) hrun ?_
          have hS : Sep w0 B w (blk g2 99 #[.int .i64 ((getd ((0, 0) : (Int × Int)) l1 z1).1), .int .i64 ((getd ((0, 0) : (Int × Int)) l1 z1).2)] :: blk g1 118 (List.toArray (([] : List Value) ++ (arr1 (Value.int .i64) (0 : Int) 10 ends1 ++ ([] : List Value)))) :: fs) := hS
          refine at_end [0, 4, 6, 23, 24, 25] [pl 0 (.slice A1 l1.length c1), pl 4 (.pointer (some ⟨g1, 0, none⟩)), pl 6 (.pointer (some ⟨g2, 0, none⟩)), pl 23 (.slice A1 l1.length c1), pl 24 (.int .i64 (l1.length : Int)), pl 25 (.int .i64 z1)] hF rfl (by kernel_rfl) (fun hF => ?_)
          refine then_n ?_
          refine seqR ?_
          obtain ⟨hp2, hm⟩ := asrt_b hm
          obtain ⟨hp3, hm⟩ := asrt_b hm
          obtain ⟨hp4, hm⟩ := asrt_b hm
          refine at_run 6 [⟨false, [], vS (Instr.loadAt 3 (.pointer (some ⟨g2, 0, none⟩))), .int .i64 ((getd ((0, 0) : (Int × Int)) l1 z1).1)⟩, ⟨true, [], vS (Instr.indexAt 118 (.pointer (some ⟨g1, 0, none⟩)) (.int .i64 ((getd ((0, 0) : (Int × Int)) l1 z1).1))), .pointer (some ((⟨g1, 0, none⟩ : Addr).add (Int.toNat ((getd ((0, 0) : (Int × Int)) l1 z1).1) * 1)))⟩, ⟨false, [], vS (Instr.loadAt 3 (.pointer (some ((⟨g1, 0, none⟩ : Addr).add (Int.toNat ((getd ((0, 0) : (Int × Int)) l1 z1).1) * 1))))), .int .i64 (geti ends1 ((getd ((0, 0) : (Int × Int)) l1 z1).1))⟩, ⟨true, [], vS (Instr.indexAt 118 (.pointer (some ⟨g1, 0, none⟩)) (.int .i64 ((getd ((0, 0) : (Int × Int)) l1 z1).1))), .pointer (some ((⟨g1, 0, none⟩ : Addr).add (Int.toNat ((getd ((0, 0) : (Int × Int)) l1 z1).1) * 1)))⟩] [none, some (.int .i64 ((getd ((0, 0) : (Int × Int)) l1 z1).1)), some (.pointer (some ((⟨g1, 0, none⟩ : Addr).add (Int.toNat ((getd ((0, 0) : (Int × Int)) l1 z1).1) * 1)))), some (.int .i64 (geti ends1 ((getd ((0, 0) : (Int × Int)) l1 z1).1))), none, some (.pointer (some ((⟨g1, 0, none⟩ : Addr).add (Int.toNat ((getd ((0, 0) : (Int × Int)) l1 z1).1) * 1))))] [0, 4, 6, 23, 24, 25, 33, 34] [pl 0 (.slice A1 l1.length c1), pl 4 (.pointer (some ⟨g1, 0, none⟩)), pl 6 (.pointer (some ⟨g2, 0, none⟩)), pl 23 (.slice A1 l1.length c1), pl 24 (.int .i64 (l1.length : Int)), pl 25 (.int .i64 z1), pl 33 (.int .i64 (w64 ((geti ends1 ((getd ((0, 0) : (Int × Int)) l1 z1).1)) + 1))), pl 34 (.pointer (some ((⟨g1, 0, none⟩ : Addr).add (Int.toNat ((getd ((0, 0) : (Int × Int)) l1 z1).1) * 1))))] hF hS (by kernel_rfl) (by kernel_rfl) ?_ (fun a w hF hS => ?_)
          · exact obs_cons (ob_load Agg3 (fun _ _ hS => (hS.at_ 0 rfl).cell rfl)) <| obs_cons (ob_ixA UndA118 hi3 hs3 (fun _ => hp2)) <| obs_cons (ob_getA (m := ends1) (Value.int .i64) (0 : Int) 10 ([] : List Value) ([] : List Value) ((getd ((0, 0) : (Int × Int)) l1 z1).1) Agg3 rfl (fun _ hS => ⟨_, _, _, _, _, hS.at_ 1 rfl⟩) (fun hy => by have h0 := hp2; omega)) <| obs_cons (ob_ixA UndA118 hi3 hs3 (fun _ => hp3)) <| obs_nil
          obtain ⟨w, hrun, hS⟩ := run_setA (P := Try.prog) (t := 3) (x := (w64 ((geti ends1 ((getd ((0, 0) : (Int × Int)) l1 z1).1)) + 1))) (i := ((getd ((0, 0) : (Int × Int)) l1 z1).1)) (m := ends1) (d := Int.toNat ((getd ((0, 0) : (Int × Int)) l1 z1).1) * 1) (Value.int .i64) (0 : Int) 10 ([] : List Value) ([] : List Value) (hS.at_ 1 rfl) rfl hi3 hs3 rfl (by have h0 := hp3; omega) (by have h0 := hp3; have h9 := hp4; omega)
          refine at_skip hF (by kernel_rfl) hrun ?_
          have hS : Sep w0 B w (blk g2 99 #[.int .i64 ((getd ((0, 0) : (Int × Int)) l1 z1).1), .int .i64 ((getd ((0, 0) : (Int × Int)) l1 z1).2)] :: blk g1 118 (List.toArray (([] : List Value) ++ (arr1 (Value.int .i64) (0 : Int) 10 (ends1.set (Int.toNat ((getd ((0, 0) : (Int × Int)) l1 z1).1)) (w64 ((geti ends1 ((getd ((0, 0) : (Int × Int)) l1 z1).1)) + 1))) ++ ([] : List Value)))) :: fs) := hS
          refine at_end [0, 4, 6, 23, 24, 25] [pl 0 (.slice A1 l1.length c1), pl 4 (.pointer (some ⟨g1, 0, none⟩)), pl 6 (.pointer (some ⟨g2, 0, none⟩)), pl 23 (.slice A1 l1.length c1), pl 24 (.int .i64 (l1.length : Int)), pl 25 (.int .i64 z1)] hF rfl (by kernel_rfl) (fun hF => ?_)
          refine then_n ?_
          refine oneR ?_
          obtain ⟨hp5, hm⟩ := asrt_b hm
          obtain ⟨hp6, hm⟩ := asrt_b hm
          obtain ⟨hp7, hm⟩ := asrt_b hm
          refine at_run 6 [⟨false, [], vS (Instr.loadAt 3 (.pointer (some ⟨g2, 1, none⟩))), .int .i64 ((getd ((0, 0) : (Int × Int)) l1 z1).2)⟩, ⟨true, [], vS (Instr.indexAt 118 (.pointer (some ⟨g1, 0, none⟩)) (.int .i64 ((getd ((0, 0) : (Int × Int)) l1 z1).2))), .pointer (some ((⟨g1, 0, none⟩ : Addr).add (Int.toNat ((getd ((0, 0) : (Int × Int)) l1 z1).2) * 1)))⟩, ⟨false, [], vS (Instr.loadAt 3 (.pointer (some ((⟨g1, 0, none⟩ : Addr).add (Int.toNat ((getd ((0, 0) : (Int × Int)) l1 z1).2) * 1))))), .int .i64 (geti (ends1.set (Int.toNat ((getd ((0, 0) : (Int × Int)) l1 z1).1)) (w64 ((geti ends1 ((getd ((0, 0) : (Int × Int)) l1 z1).1)) + 1))) ((getd ((0, 0) : (Int × Int)) l1 z1).2))⟩, ⟨true, [], vS (Instr.indexAt 118 (.pointer (some ⟨g1, 0, none⟩)) (.int .i64 ((getd ((0, 0) : (Int × Int)) l1 z1).2))), .pointer (some ((⟨g1, 0, none⟩ : Addr).add (Int.toNat ((getd ((0, 0) : (Int × Int)) l1 z1).2) * 1)))⟩] [none, some (.int .i64 ((getd ((0, 0) : (Int × Int)) l1 z1).2)), some (.pointer (some ((⟨g1, 0, none⟩ : Addr).add (Int.toNat ((getd ((0, 0) : (Int × Int)) l1 z1).2) * 1)))), some (.int .i64 (geti (ends1.set (Int.toNat ((getd ((0, 0) : (Int × Int)) l1 z1).1)) (w64 ((geti ends1 ((getd ((0, 0) : (Int × Int)) l1 z1).1)) + 1))) ((getd ((0, 0) : (Int × Int)) l1 z1).2))), none, some (.pointer (some ((⟨g1, 0, none⟩ : Addr).add (Int.toNat ((getd ((0, 0) : (Int × Int)) l1 z1).2) * 1))))] [0, 4, 23, 24, 25, 39, 40] [pl 0 (.slice A1 l1.length c1), pl 4 (.pointer (some ⟨g1, 0, none⟩)), pl 23 (.slice A1 l1.length c1), pl 24 (.int .i64 (l1.length : Int)), pl 25 (.int .i64 z1), pl 39 (.int .i64 (w64 ((geti (ends1.set (Int.toNat ((getd ((0, 0) : (Int × Int)) l1 z1).1)) (w64 ((geti ends1 ((getd ((0, 0) : (Int × Int)) l1 z1).1)) + 1))) ((getd ((0, 0) : (Int × Int)) l1 z1).2)) + 1))), pl 40 (.pointer (some ((⟨g1, 0, none⟩ : Addr).add (Int.toNat ((getd ((0, 0) : (Int × Int)) l1 z1).2) * 1))))] hF hS (by kernel_rfl) (by kernel_rfl) ?_ (fun a w hF hS => ?_)
          · exact obs_cons (ob_load Agg3 (fun _ _ hS => (hS.at_ 0 rfl).cell rfl)) <| obs_cons (ob_ixA UndA118 hi3 hs3 (fun _ => hp5)) <| obs_cons (ob_getA (m := (ends1.set (Int.toNat ((getd ((0, 0) : (Int × Int)) l1 z1).1)) (w64 ((geti ends1 ((getd ((0, 0) : (Int × Int)) l1 z1).1)) + 1)))) (Value.int .i64) (0 : Int) 10 ([] : List Value) ([] : List Value) ((getd ((0, 0) : (Int × Int)) l1 z1).2) Agg3 rfl (fun _ hS => ⟨_, _, _, _, _, hS.at_ 1 rfl⟩) (fun hy => by have h0 := hp5; omega)) <| obs_cons (ob_ixA UndA118 hi3 hs3 (fun _ => hp6)) <| obs_nil
          obtain ⟨w, hrun, hS⟩ := run_setA (P := Try.prog) (t := 3) (x := (w64 ((geti (ends1.set (Int.toNat ((getd ((0, 0) : (Int × Int)) l1 z1).1)) (w64 ((geti ends1 ((getd ((0, 0) : (Int × Int)) l1 z1).1)) + 1))) ((getd ((0, 0) : (Int × Int)) l1 z1).2)) + 1))) (i := ((getd ((0, 0) : (Int × Int)) l1 z1).2)) (m := (ends1.set (Int.toNat ((getd ((0, 0) : (Int × Int)) l1 z1).1)) (w64 ((geti ends1 ((getd ((0, 0) : (Int × Int)) l1 z1).1)) + 1)))) (d := Int.toNat ((getd ((0, 0) : (Int × Int)) l1 z1).2) * 1) (Value.int .i64) (0 : Int) 10 ([] : List Value) ([] : List Value) (hS.at_ 1 rfl) rfl hi3 hs3 rfl (by have h0 := hp6; omega) (by have h0 := hp6; have h9 := hp7; omega)
          refine at_skip hF (by kernel_rfl) hrun ?_
          have hS : Sep w0 B w (blk g2 99 #[.int .i64 ((getd ((0, 0) : (Int × Int)) l1 z1).1), .int .i64 ((getd ((0, 0) : (Int × Int)) l1 z1).2)] :: blk g1 118 (List.toArray (([] : List Value) ++ (arr1 (Value.int .i64) (0 : Int) 10 ((ends1.set (Int.toNat ((getd ((0, 0) : (Int × Int)) l1 z1).1)) (w64 ((geti ends1 ((getd ((0, 0) : (Int × Int)) l1 z1).1)) + 1))).set (Int.toNat ((getd ((0, 0) : (Int × Int)) l1 z1).2)) (w64 ((geti (ends1.set (Int.toNat ((getd ((0, 0) : (Int × Int)) l1 z1).1)) (w64 ((geti ends1 ((getd ((0, 0) : (Int × Int)) l1 z1).1)) + 1))) ((getd ((0, 0) : (Int × Int)) l1 z1).2)) + 1))) ++ ([] : List Value)))) :: fs) := hS
          refine at_end [0, 4, 23, 24, 25] [pl 0 (.slice A1 l1.length c1), pl 4 (.pointer (some ⟨g1, 0, none⟩)), pl 23 (.slice A1 l1.length c1), pl 24 (.int .i64 (l1.length : Int)), pl 25 (.int .i64 z1)] hF rfl (by kernel_rfl) (fun hF => ?_)
          refine block_n ?_
          refine then_n ?_
          have hS := hS.pickN 2 [1] (by decide)
          exact ⟨hF.weak [0, 4, 23, 24, 25] (by kernel_rfl), hS, hm⟩
      · refine cond_ev (t := 26) (b := decide (z1 < (l1.length : Int))) hF (by kernel_rfl) (fun hb => ?_) (fun hb => ?_)
        · replace hm := if_t hm hb
          refine wp_skip ?_
          refine then_n ?_
          exact ⟨hF.weak [0, 4, 23, 24, 25] (by kernel_rfl), hS, hm⟩
        · replace hm := if_f hm hb
          refine wp_exit ?_
          refine then_e (then_e (block_e (then_n ?_)))
          rw [← hφ1] at hm
          replace hm := done_b hm
          unfold domino_Row_K1 at hm
          try dsimp only at hm
          have hm : ((domino_Row_J2 l1) ends1).bind some = some r := hm
          exact ⟨ends1, hF.weak [0, 4] (by kernel_rfl), hS, hm⟩
  · refine wp_block ?_
    refine reg [] [] [0, 12] [pl 0 (.slice A1 l1.length c1), pl 12 (.bool (decide ((60 : Int) < (l1.length : Int))))] hF hS Fol (by kernel_rfl) (by kernel_rfl) (by kernel_rfl) ?_ (fun a w hF hS => ?_)
    · exact obs_nil
    refine cond_ev (t := 12) (b := decide ((60 : Int) < (l1.length : Int))) hF (by kernel_rfl) (fun hb => ?_) (fun hb => ?_)
    · replace hm := if_t hm hb
      refine reg [] [] [2, 3] [pl 2 (.slice none 0 0), pl 3 (.int .i64 2)] hF hS Fol (by kernel_rfl) (by kernel_rfl) (by kernel_rfl) ?_ (fun a w hF hS => ?_)
      · exact obs_nil
      refine wp_ret ?_
      refine block_r (then_r ?_)
      have hS : Sep w0 B w (ownK 99 2 none 0 0 (List.flatMap enc99 ([] : List (Int × Int))) :: fs) := hS.nilK 99 2 enc99
      have hl1 := (hS.at_ 0 rfl).lenK encK99
      have hS := (hS.at_ 0 rfl).reNK hl1
      have hS : Sep w0 B w (ownK 99 2 none (([] : List (Int × Int)).length) 0 (List.flatMap enc99 ([] : List (Int × Int))) :: fs) := hS
      have hm : some (([] : List (Int × Int)), 2) = some r := hm
      obtain rfl := Option.some.inj hm
      exact retV (rs := [.tmp 2, .tmp 3]) (vs := [.slice none (([] : List (Int × Int)).length) 0, .int .i64 2]) hF rfl (rv_t (by kernel_rfl) <| rv_t (by kernel_rfl) <| rv_nil) rfl ⟨_, rfl, none, 0, rfl, hS⟩
    · replace hm := if_f hm hb
      obtain ⟨r1, hr1, hm⟩ := call_b hm
      refine reg [⟨false, [], callFunc 78 #[.slice A1 l1.length c1, .func (.func 79) #[] #[]], .bool r1⟩] [none, some (.bool r1), none] [0, 16] [pl 0 (.slice A1 l1.length c1), pl 16 (.bool r1)] hF hS Fol (by kernel_rfl) (by kernel_rfl) (by kernel_rfl) ?_ (fun a w hF hS => ?_)
      · exact obs_cons (ob_call Try.func78 (by kernel_rfl) rfl (fun _ _ hS => slices_ContainsFunc_w hr1 hS (fun _ hS => (hr_l1 _ (hS.dropN 0))) _hc_l1 rfl)) <| obs_nil
      refine cond_ev (t := 16) (b := r1) hF (by kernel_rfl) (fun hb => ?_) (fun hb => ?_)
      · replace hm := if_t hm hb
        refine reg [] [] [2, 3] [pl 2 (.slice none 0 0), pl 3 (.int .i64 3)] hF hS Fol (by kernel_rfl) (by kernel_rfl) (by kernel_rfl) ?_ (fun a w hF hS => ?_)
        · exact obs_nil
        refine wp_ret ?_
        refine block_r (then_r ?_)
        have hS : Sep w0 B w (ownK 99 2 none 0 0 (List.flatMap enc99 ([] : List (Int × Int))) :: fs) := hS.nilK 99 2 enc99
        have hl2 := (hS.at_ 0 rfl).lenK encK99
        have hS := (hS.at_ 0 rfl).reNK hl2
        have hS : Sep w0 B w (ownK 99 2 none (([] : List (Int × Int)).length) 0 (List.flatMap enc99 ([] : List (Int × Int))) :: fs) := hS
        have hm : some (([] : List (Int × Int)), 3) = some r := hm
        obtain rfl := Option.some.inj hm
        exact retV (rs := [.tmp 2, .tmp 3]) (vs := [.slice none (([] : List (Int × Int)).length) 0, .int .i64 3]) hF rfl (rv_t (by kernel_rfl) <| rv_t (by kernel_rfl) <| rv_nil) rfl ⟨_, rfl, none, 0, rfl, hS⟩
      · replace hm := if_f hm hb
        refine reg [] [] [0, 19] [pl 0 (.slice A1 l1.length c1), pl 19 (.bool ((l1.length : Int) == 0))] hF hS Fol (by kernel_rfl) (by kernel_rfl) (by kernel_rfl) ?_ (fun a w hF hS => ?_)
        · exact obs_nil
        refine cond_ev (t := 19) (b := ((l1.length : Int) == 0)) hF (by kernel_rfl) (fun hb => ?_) (fun hb => ?_)
        · replace hm := if_t hm hb
          refine reg [] [] [2, 3] [pl 2 (.slice none 0 0), pl 3 (.int .i64 0)] hF hS Fol (by kernel_rfl) (by kernel_rfl) (by kernel_rfl) ?_ (fun a w hF hS => ?_)
          · exact obs_nil
          refine wp_ret ?_
          refine block_r (then_r ?_)
          have hS : Sep w0 B w (ownK 99 2 none 0 0 (List.flatMap enc99 ([] : List (Int × Int))) :: fs) := hS.nilK 99 2 enc99
          have hl3 := (hS.at_ 0 rfl).lenK encK99
          have hS := (hS.at_ 0 rfl).reNK hl3
          have hS : Sep w0 B w (ownK 99 2 none (([] : List (Int × Int)).length) 0 (List.flatMap enc99 ([] : List (Int × Int))) :: fs) := hS
          have hm : some (([] : List (Int × Int)), 0) = some r := hm
          obtain rfl := Option.some.inj hm
          exact retV (rs := [.tmp 2, .tmp 3]) (vs := [.slice none (([] : List (Int × Int)).length) 0, .int .i64 0]) hF rfl (rv_t (by kernel_rfl) <| rv_t (by kernel_rfl) <| rv_nil) rfl ⟨_, rfl, none, 0, rfl, hS⟩
        · replace hm := if_f hm hb
          refine wp_skip ?_
          refine block_n ?_
          refine then_n ?_
          exact ⟨hF.weak [0] (by kernel_rfl), hS, hm⟩

noncomputable def gameroomref_within_m (n1 : Int) (low1 : Int) (high1 : Int) : Option Bool :=
  some ((decide (low1 ≤ n1)) && (decide (n1 ≤ high1)))

set_option maxRecDepth 100000 in
set_option maxHeartbeats 4000000 in
theorem gameroomref_within_w {n1 : Int} {low1 : Int} {high1 : Int} {r : Bool} {w0 w : World} {B : Nat} {fs : List HP} (hm : gameroomref_within_m n1 low1 high1 = some r) (hS : Sep w0 B w (fs)) :
    Calls Try.prog 90 #[.int .i64 n1, .int .i64 low1, .int .i64 high1] w fun e w' => e = .returned (.bool r) ∧ Sep w0 B w' (fs) := by
  unfold gameroomref_within_m at hm
  replace hm := start_b hm
  refine enter (l := [.int .i64 n1, .int .i64 low1, .int .i64 high1]) (n := 15) Try.func90 rfl rfl (by simp) (fun a hF => ?_)
  refine reg [] [] [0, 1, 2] [pl 0 (.int .i64 n1), pl 1 (.int .i64 low1), pl 2 (.int .i64 high1)] hF hS Fol (by kernel_rfl) (by kernel_rfl) (by kernel_rfl) ?_ (fun a w hF hS => ?_)
  · exact obs_nil
  refine reg [] [] [6] [pl 6 (.bool ((decide (low1 ≤ n1)) && (decide (n1 ≤ high1))))] hF hS Fol (by kernel_rfl) (by kernel_rfl) (by kernel_rfl) ?_ (fun a w hF hS => ?_)
  · exact obs_nil
  refine wp_ret ?_
  have hm : some ((decide (low1 ≤ n1)) && (decide (n1 ≤ high1))) = some r := hm
  obtain rfl := Option.some.inj hm
  exact retV (rs := [.tmp 6]) (vs := [.bool ((decide (low1 ≤ n1)) && (decide (n1 ≤ high1)))]) hF rfl (rv_t (by kernel_rfl) <| rv_nil) rfl ⟨rfl, hS⟩

noncomputable def gameroomref_PieceMay_m (p1 : Int) (p2 : Int) : Option Bool :=
  (gameroomref_within_m p1 0 9).bind fun r1 => ((if r1 then gameroomref_within_m p2 0 9 else some false)).bind fun r2 => some (r1 && r2)

set_option maxRecDepth 100000 in
set_option maxHeartbeats 4000000 in
theorem gameroomref_PieceMay_w {p1 : Int} {p2 : Int} {r : Bool} {w0 w : World} {B : Nat} {fs : List HP} (hm : gameroomref_PieceMay_m p1 p2 = some r) (hS : Sep w0 B w (fs)) :
    Calls Try.prog 82 #[.agg #[.int .i64 p1, .int .i64 p2]] w fun e w' => e = .returned (.bool r) ∧ Sep w0 B w' (fs) := by
  unfold gameroomref_PieceMay_m at hm
  replace hm := start_b hm
  refine enter (l := [.agg #[.int .i64 p1, .int .i64 p2]]) (n := 11) Try.func82 rfl rfl (by simp) (fun a hF => ?_)
  refine seqR ?_
  refine at_do (d := 1) (s := vS (Instr.box 99 (.agg #[.int .i64 p1, .int .i64 p2]))) (v := .pointer (some ⟨w.heap.size, 0, none⟩)) (w' := w.alloc (.cells #[.int .i64 p1, .int .i64 p2] 99)) hF (by kernel_rfl) (by kernel_rfl) (by kernel_rfl) (fun a hF => ?_)
  have hS : Sep w0 B (w.alloc (.cells #[.int .i64 p1, .int .i64 p2] 99)) (blk w.heap.size 99 #[.int .i64 p1, .int .i64 p2] :: (fs)) := hS.box 99 #[.int .i64 p1, .int .i64 p2]
  generalize w.heap.size = g1 at hF hS
  generalize w.alloc (.cells #[.int .i64 p1, .int .i64 p2] 99) = w at hS ⊢
  refine at_run 1 [] [] [1] [pl 1 (.pointer (some ⟨g1, 0, none⟩))] hF hS (by kernel_rfl) (by kernel_rfl) ?_ (fun a w hF hS => ?_)
  · exact obs_nil
  refine at_end [1] [pl 1 (.pointer (some ⟨g1, 0, none⟩))] hF rfl (by kernel_rfl) (fun hF => ?_)
  refine then_n ?_
  obtain ⟨r1, hr1, hm⟩ := call_b hm
  obtain ⟨r2, hr2, hm⟩ := call_b hm
  refine reg [⟨false, [], vS (Instr.loadAt 3 (.pointer (some ⟨g1, 0, none⟩))), .int .i64 p1⟩, ⟨false, [], callFunc 90 #[.int .i64 p1, .int .i64 0, .int .i64 9], .bool r1⟩, ⟨false, [(r1, true)], vS (Instr.loadAt 3 (.pointer (some ⟨g1, 1, none⟩))), .int .i64 p2⟩, ⟨false, [(r1, true)], callFunc 90 #[.int .i64 p2, .int .i64 0, .int .i64 9], .bool r2⟩] [none, some (.int .i64 p1), some (.bool r1), none, none, some (.int .i64 p2), some (.bool r2), none, none] [2] [pl 2 (.bool (r1 && r2))] hF hS Fol (by kernel_rfl) (by kernel_rfl) (by kernel_rfl) ?_ (fun a w hF hS => ?_)
  · exact obs_cons (ob_load Agg3 (fun _ _ hS => (hS.at_ 0 rfl).cell rfl)) <| obs_cons (ob_call Try.func90 (by kernel_rfl) rfl (fun _ _ hS => gameroomref_within_w hr1 hS )) <| obs_cons (ob_load Agg3 (fun _ _ hS => (hS.at_ 0 rfl).cell rfl)) <| obs_cons (ob_call Try.func90 (by kernel_rfl) rfl (fun hy _ hS => gameroomref_within_w (ite_some hr2 (by rw [show r1 = true from hy (r1, true) (by simp)]; try rfl)) hS )) <| obs_nil
  refine wp_ret ?_
  have hS := hS.pickN 1 [] (by decide)
  have hm : some (r1 && r2) = some r := hm
  obtain rfl := Option.some.inj hm
  exact retV (rs := [.tmp 2]) (vs := [.bool (r1 && r2)]) hF rfl (rv_t (by kernel_rfl) <| rv_nil) rfl ⟨rfl, hS⟩

noncomputable def gameroomref_PiecesMay_J3 (i1 : Int) : Option (St Int (Fl Unit Bool)) :=
  some (.next (w64 (i1 + 1)))

noncomputable def gameroomref_PiecesMay_J2 (l1 : List (Int × Int)) (i1 : Int) : Option (St Int (Fl Unit Bool)) :=
  asrt (0 ≤ i1 ∧ i1 < (l1.length : Int)) <| (gameroomref_PieceMay_m ((getd ((0, 0) : (Int × Int)) l1 i1).1) ((getd ((0, 0) : (Int × Int)) l1 i1).2)).bind fun r1 => if (!r1) then (some (.done (.ret false))) else ((gameroomref_PiecesMay_J3 i1))

noncomputable def gameroomref_PiecesMay_J1 : Option Bool :=
  some true

noncomputable def gameroomref_PiecesMay_K1 : (Fl Unit Bool) → Option Bool :=
  fun (x : (Fl Unit Bool)) => match x with | .go _ => gameroomref_PiecesMay_J1 | .ret x => some x

noncomputable def gameroomref_PiecesMay_L1 (l1 : List (Int × Int)) : Int → Option (St Int (Fl Unit Bool)) :=
  fun (x : Int) => match x with | i1 => if (decide (i1 < (l1.length : Int))) then ((gameroomref_PiecesMay_J2 l1 i1)) else (some (.done (.go ())))

noncomputable def gameroomref_PiecesMay_m (l1 : List (Int × Int)) : Option Bool :=
  (loop (gameroomref_PiecesMay_L1 l1) 0).bind gameroomref_PiecesMay_K1

set_option maxRecDepth 100000 in
set_option maxHeartbeats 4000000 in
theorem gameroomref_PiecesMay_w {A1 : Option Addr} {c1 : Nat} {n1 : Nat} {l1 : List (Int × Int)} {r : Bool} {w0 w : World} {B : Nat} {fs : List HP} (hm : gameroomref_PiecesMay_m l1 = some r) (hS : Sep w0 B w (fs)) (hr_l1 : RdF w0 B fs A1 ((List.flatMap enc99 l1))) (_hc_l1 : l1.length ≤ c1) (_hn_l1 : n1 = l1.length) :
    Calls Try.prog 17 #[.slice A1 n1 c1] w fun e w' => e = .returned (.bool r) ∧ Sep w0 B w' (fs) := by
  obtain ⟨i99, hi99, hz99, hs99, hb99⟩ := info_parts Info99
  obtain rfl := _hn_l1
  unfold gameroomref_PiecesMay_m at hm
  replace hm := start_b hm
  refine enter (l := [.slice A1 l1.length c1]) (n := 16) Try.func17 rfl rfl (by simp) (fun a hF => ?_)
  refine reg [] [] [0] [pl 0 (.slice A1 l1.length c1)] hF hS Fol (by kernel_rfl) (by kernel_rfl) (by kernel_rfl) ?_ (fun a w hF hS => ?_)
  · exact obs_nil
  refine seq_cut (fun a w => Fr 16 [] a ∧ Sep w0 B w (fs) ∧ (gameroomref_PiecesMay_J1).bind some = some r) ?_ ?_
  · rintro a w ⟨hF, hS, hm⟩
    unfold gameroomref_PiecesMay_J1 at hm
    refine reg [] [] [2] [pl 2 (.bool true)] hF hS Fol (by kernel_rfl) (by kernel_rfl) (by kernel_rfl) ?_ (fun a w hF hS => ?_)
    · exact obs_nil
    refine wp_ret ?_
    have hm : some true = some r := hm
    obtain rfl := Option.some.inj hm
    exact retV (rs := [.tmp 2]) (vs := [.bool true]) hF rfl (rv_t (by kernel_rfl) <| rv_nil) rfl ⟨rfl, hS⟩
  · refine reg [] [] [0, 3] [pl 0 (.slice A1 l1.length c1), pl 3 (.int .i64 0)] hF hS Fol (by kernel_rfl) (by kernel_rfl) (by kernel_rfl) ?_ (fun a w hF hS => ?_)
    · exact obs_nil
    refine wp_block ?_
    refine wp_loop_model (S := Int) (R := (Fl Unit Bool)) (gameroomref_PiecesMay_L1 l1) (fun x => (gameroomref_PiecesMay_K1 x).bind some) r (fun (x : Int) a w => Fr 16 [pl 0 (.slice A1 l1.length c1), pl 3 (.int .i64 x)] a ∧ Sep w0 B w (fs)) (assoc_b hm) ⟨hF.weak [0, 3] (by kernel_rfl), hS⟩ ?_
    clear hF hS hm
    rintro nn1 i1 a w ⟨hF, hS⟩ hm
    generalize hφ1 : stK (gameroomref_PiecesMay_L1 l1) nn1 (fun x => (gameroomref_PiecesMay_K1 x).bind some) = φ1 at hm
    unfold gameroomref_PiecesMay_L1 at hm
    dsimp only at hm
    refine seq_cut (fun a w => Fr 16 [pl 0 (.slice A1 l1.length c1), pl 3 (.int .i64 i1)] a ∧ Sep w0 B w (fs) ∧ ((gameroomref_PiecesMay_J2 l1 i1)).bind φ1 = some r) ?_ ?_
    · rintro a w ⟨hF, hS, hm⟩
      unfold gameroomref_PiecesMay_J2 at hm
      refine seq_cut (fun a w => Fr 16 [pl 0 (.slice A1 l1.length c1), pl 3 (.int .i64 i1)] a ∧ Sep w0 B w (fs) ∧ ((gameroomref_PiecesMay_J3 i1)).bind φ1 = some r) ?_ ?_
      · rintro a w ⟨hF, hS, hm⟩
        unfold gameroomref_PiecesMay_J3 at hm
        refine reg1 [] [] [0, 3] [pl 0 (.slice A1 l1.length c1), pl 3 (.int .i64 (w64 (i1 + 1)))] hF hS Fol (by kernel_rfl) (by kernel_rfl) (by kernel_rfl) ?_ (fun a w hF hS => ?_)
        · exact obs_nil
        refine then_n ?_
        rw [← hφ1] at hm
        exact ⟨(w64 (i1 + 1)), ⟨hF.weak [0, 3] (by kernel_rfl), hS⟩, hm⟩
      · refine wp_block ?_
        obtain ⟨hp1, hm⟩ := asrt_b hm
        obtain ⟨r1, hr1, hm⟩ := call_b hm
        refine reg [⟨true, [], vS (Instr.indexAt 22 (.slice A1 l1.length c1) (.int .i64 i1)), .pointer (some (sAddrK A1 2 i1))⟩, ⟨false, [], vS (Instr.loadAt 99 (.pointer (some (sAddrK A1 2 i1)))), .agg #[.int .i64 ((getd ((0, 0) : (Int × Int)) l1 i1).1), .int .i64 ((getd ((0, 0) : (Int × Int)) l1 i1).2)]⟩, ⟨false, [], callFunc 82 #[.agg #[.int .i64 ((getd ((0, 0) : (Int × Int)) l1 i1).1), .int .i64 ((getd ((0, 0) : (Int × Int)) l1 i1).2)]], .bool r1⟩] [none, none, some (.pointer (some (sAddrK A1 2 i1))), some (.agg #[.int .i64 ((getd ((0, 0) : (Int × Int)) l1 i1).1), .int .i64 ((getd ((0, 0) : (Int × Int)) l1 i1).2)]), some (.bool r1), none] [0, 3, 15] [pl 0 (.slice A1 l1.length c1), pl 3 (.int .i64 i1), pl 15 (.bool (!r1))] hF hS Fol (by kernel_rfl) (by kernel_rfl) (by kernel_rfl) ?_ (fun a w hF hS => ?_)
        · exact obs_cons (ob_ixK (m := l1) encK99 Und22 hi99 hs99 (hr_l1 _ (hS.dropN 0)) rfl (fun _ => hp1)) <| obs_cons (ob_getK (n := l1.length) (m := l1) encK99 ((0, 0) : (Int × Int)) (by kernel_rfl) (by kernel_rfl) (fun _ hS => ⟨_, (hr_l1 _ (hS.dropN 0))⟩) (fun _ hS => rfl) (fun _ => hp1)) <| obs_cons (ob_call Try.func82 (by kernel_rfl) rfl (fun _ _ hS => gameroomref_PieceMay_w hr1 hS )) <| obs_nil
        refine cond_ev (t := 15) (b := !r1) hF (by kernel_rfl) (fun hb => ?_) (fun hb => ?_)
        · replace hm := if_t hm hb
          refine reg [] [] [2] [pl 2 (.bool false)] hF hS Fol (by kernel_rfl) (by kernel_rfl) (by kernel_rfl) ?_ (fun a w hF hS => ?_)
          · exact obs_nil
          refine wp_ret ?_
          refine block_r (then_r (then_r (block_r (then_r ?_))))
          rw [← hφ1] at hm
          replace hm := done_b hm
          unfold gameroomref_PiecesMay_K1 at hm
          try dsimp only at hm
          have hm : some false = some r := hm
          obtain rfl := Option.some.inj hm
          exact retV (rs := [.tmp 2]) (vs := [.bool false]) hF rfl (rv_t (by kernel_rfl) <| rv_nil) rfl ⟨rfl, hS⟩
        · replace hm := if_f hm hb
          refine wp_skip ?_
          refine block_n ?_
          refine then_n ?_
          exact ⟨hF.weak [0, 3] (by kernel_rfl), hS, hm⟩
    · refine reg [] [] [0, 3, 7] [pl 0 (.slice A1 l1.length c1), pl 3 (.int .i64 i1), pl 7 (.bool (decide (i1 < (l1.length : Int))))] hF hS Fol (by kernel_rfl) (by kernel_rfl) (by kernel_rfl) ?_ (fun a w hF hS => ?_)
      · exact obs_nil
      refine cond_ev (t := 7) (b := decide (i1 < (l1.length : Int))) hF (by kernel_rfl) (fun hb => ?_) (fun hb => ?_)
      · replace hm := if_t hm hb
        refine wp_skip ?_
        refine then_n ?_
        exact ⟨hF.weak [0, 3] (by kernel_rfl), hS, hm⟩
      · replace hm := if_f hm hb
        refine wp_exit ?_
        refine then_e (then_e (block_e (then_n ?_)))
        rw [← hφ1] at hm
        replace hm := done_b hm
        unfold gameroomref_PiecesMay_K1 at hm
        try dsimp only at hm
        have hm : (gameroomref_PiecesMay_J1).bind some = some r := hm
        exact ⟨hF.weak [] (by kernel_rfl), hS, hm⟩

noncomputable def gameroomref_RowCan_J6 (i1 : Int) (k4 : Int) : Option (St (Int × Int) Int) :=
  some (.next (k4, (w64 (i1 + 1))))

noncomputable def gameroomref_RowCan_J7 (l1 : List (Int × Int)) (n2 : Int) (i1 : Int) (k3 : Int) : Option (St (Int × Int) Int) :=
  asrt (0 ≤ i1 ∧ i1 < (l1.length : Int)) <| if (((getd ((0, 0) : (Int × Int)) l1 i1).2) == n2) then ((gameroomref_RowCan_J6 i1) (w64 (k3 + 1))) else ((gameroomref_RowCan_J6 i1) k3)

noncomputable def gameroomref_RowCan_J5 (l1 : List (Int × Int)) (n2 : Int) (k1 : Int) (i1 : Int) : Option (St (Int × Int) Int) :=
  asrt (0 ≤ i1 ∧ i1 < (l1.length : Int)) <| if (((getd ((0, 0) : (Int × Int)) l1 i1).1) == n2) then ((gameroomref_RowCan_J7 l1 n2 i1) (w64 (k1 + 1))) else ((gameroomref_RowCan_J7 l1 n2 i1) k1)

noncomputable def gameroomref_RowCan_J3 (n2 : Int) (odd3 : Int) : Option (St (Int × Int) Int) :=
  some (.next (odd3, (w64 (n2 + 1))))

noncomputable def gameroomref_RowCan_J4 (odd1 : Int) (n2 : Int) (k2 : Int) : Option (St (Int × Int) Int) :=
  (gameroomref_RowCan_J3 n2) (w64 (odd1 + (Int.tmod k2 2)))

noncomputable def gameroomref_RowCan_K2 (odd1 : Int) (n2 : Int) : Int → Option (St (Int × Int) Int) :=
  fun (x : Int) => match x with | k2 => (gameroomref_RowCan_J4 odd1 n2) k2

noncomputable def gameroomref_RowCan_L2 (l1 : List (Int × Int)) (n2 : Int) : (Int × Int) → Option (St (Int × Int) Int) :=
  fun (x : (Int × Int)) => match x with | (k1, i1) => if (decide (i1 < (l1.length : Int))) then ((gameroomref_RowCan_J5 l1 n2 k1 i1)) else (some (.done k1))

noncomputable def gameroomref_RowCan_J2 (l1 : List (Int × Int)) (odd1 : Int) (n2 : Int) : Option (St (Int × Int) Int) :=
  (loop (gameroomref_RowCan_L2 l1 n2) (0, 0)).bind (gameroomref_RowCan_K2 odd1 n2)

noncomputable def gameroomref_RowCan_J14 (i2 : Int) (seen6 : List Bool) : Option (St (List Bool × Int) (List Bool)) :=
  some (.next (seen6, (w64 (i2 + 1))))

noncomputable def gameroomref_RowCan_J13 (l1 : List (Int × Int)) (seen4 : List Bool) (i2 : Int) : Option (St (List Bool × Int) (List Bool)) :=
  asrt (0 ≤ i2 ∧ i2 < (l1.length : Int)) <| asrt (0 ≤ ((getd ((0, 0) : (Int × Int)) l1 i2).1) ∧ ((getd ((0, 0) : (Int × Int)) l1 i2).1) < (((Int.toNat 10) : Nat) : Int)) <| asrt ((getb seen4 ((getd ((0, 0) : (Int × Int)) l1 i2).1)) = false → 0 ≤ i2 ∧ i2 < (l1.length : Int)) <| asrt ((getb seen4 ((getd ((0, 0) : (Int × Int)) l1 i2).1)) = false → 0 ≤ ((getd ((0, 0) : (Int × Int)) l1 i2).2) ∧ ((getd ((0, 0) : (Int × Int)) l1 i2).2) < (((Int.toNat 10) : Nat) : Int)) <| if ((getb seen4 ((getd ((0, 0) : (Int × Int)) l1 i2).1)) || (getb seen4 ((getd ((0, 0) : (Int × Int)) l1 i2).2))) then (asrt (0 ≤ i2 ∧ i2 < (l1.length : Int)) <| asrt (0 ≤ ((getd ((0, 0) : (Int × Int)) l1 i2).1) ∧ ((getd ((0, 0) : (Int × Int)) l1 i2).1) < (((Int.toNat 10) : Nat) : Int)) <| asrt (0 ≤ i2 ∧ i2 < (l1.length : Int)) <| asrt (0 ≤ ((getd ((0, 0) : (Int × Int)) l1 i2).2) ∧ ((getd ((0, 0) : (Int × Int)) l1 i2).2) < (((Int.toNat 10) : Nat) : Int)) <| (gameroomref_RowCan_J14 i2) ((seen4.set (Int.toNat ((getd ((0, 0) : (Int × Int)) l1 i2).1)) true).set (Int.toNat ((getd ((0, 0) : (Int × Int)) l1 i2).2)) true)) else ((gameroomref_RowCan_J14 i2) seen4)

noncomputable def gameroomref_RowCan_L4 (l1 : List (Int × Int)) : (List Bool × Int) → Option (St (List Bool × Int) (List Bool)) :=
  fun (x : (List Bool × Int)) => match x with | (seen4, i2) => if (decide (i2 < (l1.length : Int))) then ((gameroomref_RowCan_J13 l1 seen4 i2)) else (some (.done seen4))

noncomputable def gameroomref_RowCan_J12 (round1 : Int) (seen5 : List Bool) : Option (St (List Bool × Int) (List Bool)) :=
  some (.next (seen5, (w64 (round1 + 1))))

noncomputable def gameroomref_RowCan_K4 (round1 : Int) : (List Bool) → Option (St (List Bool × Int) (List Bool)) :=
  fun (x : (List Bool)) => match x with | seen5 => (gameroomref_RowCan_J12 round1) seen5

noncomputable def gameroomref_RowCan_J11 (l1 : List (Int × Int)) (seen2 : List Bool) (round1 : Int) : Option (St (List Bool × Int) (List Bool)) :=
  (loop (gameroomref_RowCan_L4 l1) (seen2, 0)).bind (gameroomref_RowCan_K4 round1)

noncomputable def gameroomref_RowCan_L3 (l1 : List (Int × Int)) : (List Bool × Int) → Option (St (List Bool × Int) (List Bool)) :=
  fun (x : (List Bool × Int)) => match x with | (seen2, round1) => if (decide (round1 ≤ 9)) then ((gameroomref_RowCan_J11 l1 seen2 round1)) else (some (.done seen2))

noncomputable def gameroomref_RowCan_J17 (i3 : Int) : Option (St Int (Fl Unit Bool)) :=
  some (.next (w64 (i3 + 1)))

noncomputable def gameroomref_RowCan_J16 (l1 : List (Int × Int)) (seen3 : List Bool) (i3 : Int) : Option (St Int (Fl Unit Bool)) :=
  asrt (0 ≤ i3 ∧ i3 < (l1.length : Int)) <| asrt (0 ≤ ((getd ((0, 0) : (Int × Int)) l1 i3).1) ∧ ((getd ((0, 0) : (Int × Int)) l1 i3).1) < (((Int.toNat 10) : Nat) : Int)) <| if (!(getb seen3 ((getd ((0, 0) : (Int × Int)) l1 i3).1))) then (some (.done (.ret false))) else ((gameroomref_RowCan_J17 i3))

noncomputable def gameroomref_RowCan_L5 (l1 : List (Int × Int)) (seen3 : List Bool) : Int → Option (St Int (Fl Unit Bool)) :=
  fun (x : Int) => match x with | i3 => if (decide (i3 < (l1.length : Int))) then ((gameroomref_RowCan_J16 l1 seen3 i3)) else (some (.done (.go ())))

noncomputable def gameroomref_RowCan_J15 : Option Bool :=
  some true

noncomputable def gameroomref_RowCan_K5 : (Fl Unit Bool) → Option Bool :=
  fun (x : (Fl Unit Bool)) => match x with | .go _ => gameroomref_RowCan_J15 | .ret x => some x

noncomputable def gameroomref_RowCan_J10 (l1 : List (Int × Int)) (seen3 : List Bool) : Option Bool :=
  (loop (gameroomref_RowCan_L5 l1 seen3) 0).bind gameroomref_RowCan_K5

noncomputable def gameroomref_RowCan_K3 (l1 : List (Int × Int)) : (List Bool) → Option Bool :=
  fun (x : (List Bool)) => match x with | seen3 => (gameroomref_RowCan_J10 l1) seen3

noncomputable def gameroomref_RowCan_J9 (l1 : List (Int × Int)) (seen1 : List Bool) : Option Bool :=
  (loop (gameroomref_RowCan_L3 l1) (seen1, 0)).bind (gameroomref_RowCan_K3 l1)

noncomputable def gameroomref_RowCan_J8 (l1 : List (Int × Int)) : Option Bool :=
  asrt ((0 : Int) ≤ 10 ∧ 10 ≤ bigN) <| if (decide ((0 : Int) < (l1.length : Int))) then (asrt (0 ≤ (0 : Int) ∧ (0 : Int) < (l1.length : Int)) <| asrt (0 ≤ ((getd ((0, 0) : (Int × Int)) l1 0).1) ∧ ((getd ((0, 0) : (Int × Int)) l1 0).1) < (((Int.toNat 10) : Nat) : Int)) <| (gameroomref_RowCan_J9 l1) ((List.replicate (Int.toNat 10) false).set (Int.toNat ((getd ((0, 0) : (Int × Int)) l1 0).1)) true)) else ((gameroomref_RowCan_J9 l1) (List.replicate (Int.toNat 10) false))

noncomputable def gameroomref_RowCan_J1 (l1 : List (Int × Int)) (odd2 : Int) : Option Bool :=
  if (decide ((2 : Int) < odd2)) then (some false) else ((gameroomref_RowCan_J8 l1))

noncomputable def gameroomref_RowCan_K1 (l1 : List (Int × Int)) : Int → Option Bool :=
  fun (x : Int) => match x with | odd2 => (gameroomref_RowCan_J1 l1) odd2

noncomputable def gameroomref_RowCan_L1 (l1 : List (Int × Int)) : (Int × Int) → Option (St (Int × Int) Int) :=
  fun (x : (Int × Int)) => match x with | (odd1, n2) => if (decide (n2 ≤ 9)) then ((gameroomref_RowCan_J2 l1 odd1 n2)) else (some (.done odd1))

noncomputable def gameroomref_RowCan_m (l1 : List (Int × Int)) : Option Bool :=
  (loop (gameroomref_RowCan_L1 l1) (0, 0)).bind (gameroomref_RowCan_K1 l1)

set_option maxRecDepth 100000 in
set_option maxHeartbeats 4000000 in
theorem gameroomref_RowCan_w {A1 : Option Addr} {c1 : Nat} {n1 : Nat} {l1 : List (Int × Int)} {r : Bool} {w0 w : World} {B : Nat} {fs : List HP} (hm : gameroomref_RowCan_m l1 = some r) (hS : Sep w0 B w (fs)) (hr_l1 : RdF w0 B fs A1 ((List.flatMap enc99 l1))) (_hc_l1 : l1.length ≤ c1) (_hn_l1 : n1 = l1.length) :
    Calls Try.prog 18 #[.slice A1 n1 c1] w fun e w' => e = .returned (.bool r) ∧ Sep w0 B w' (fs) := by
  obtain ⟨i4, hi4, hz4, hs4, hb4⟩ := info_parts Info4
  obtain ⟨i99, hi99, hz99, hs99, hb99⟩ := info_parts Info99
  obtain rfl := _hn_l1
  unfold gameroomref_RowCan_m at hm
  replace hm := start_b hm
  refine enter (l := [.slice A1 l1.length c1]) (n := 112) Try.func18 rfl rfl (by simp) (fun a hF => ?_)
  refine reg [] [] [0] [pl 0 (.slice A1 l1.length c1)] hF hS Fol (by kernel_rfl) (by kernel_rfl) (by kernel_rfl) ?_ (fun a w hF hS => ?_)
  · exact obs_nil
  refine reg [] [] [0, 3] [pl 0 (.slice A1 l1.length c1), pl 3 (.int .i64 0)] hF hS Fol (by kernel_rfl) (by kernel_rfl) (by kernel_rfl) ?_ (fun a w hF hS => ?_)
  · exact obs_nil
  refine seq_cut (fun a w => ∃ (odd2 : Int), Fr 112 [pl 0 (.slice A1 l1.length c1), pl 3 (.int .i64 odd2)] a ∧ Sep w0 B w (fs) ∧ ((gameroomref_RowCan_J1 l1) odd2).bind some = some r) ?_ ?_
  · rintro a w ⟨odd2, hF, hS, hm⟩
    unfold gameroomref_RowCan_J1 at hm
    refine seq_cut (fun a w => Fr 112 [pl 0 (.slice A1 l1.length c1)] a ∧ Sep w0 B w (fs) ∧ ((gameroomref_RowCan_J8 l1)).bind some = some r) ?_ ?_
    · rintro a w ⟨hF, hS, hm⟩
      unfold gameroomref_RowCan_J8 at hm
      refine seqR ?_
      obtain ⟨hp3, hm⟩ := asrt_b hm
      obtain ⟨A2, c2, w, hrun, hS⟩ := run_mk1 (P := Try.prog) (t := 119) Value.bool false hS .i64 .i64 Und119 hi4 hz4 hs4 (by omega) rfl hp3
      have hS : Sep w0 B w (own 4 (.slice A2 (Int.toNat 10) c2) (vB (List.replicate (Int.toNat 10) false)) :: fs) := hS
      refine at_do (d := 45) hF (by kernel_rfl) (by kernel_rfl) hrun (fun a hF => ?_)
      refine at_run 1 [] [] [0, 7] [pl 0 (.slice A1 l1.length c1), pl 7 (.slice A2 (Int.toNat 10) c2)] hF hS (by kernel_rfl) (by kernel_rfl) ?_ (fun a w hF hS => ?_)
      · exact obs_nil
      refine at_end [0, 7] [pl 0 (.slice A1 l1.length c1), pl 7 (.slice A2 (Int.toNat 10) c2)] hF rfl (by kernel_rfl) (fun hF => ?_)
      refine then_n ?_
      refine seq_cut (fun a w => ∃ (seen1 : List Bool), Fr 112 [pl 0 (.slice A1 l1.length c1), pl 7 (.slice A2 (Int.toNat 10) c2)] a ∧ Sep w0 B w (own 4 (.slice A2 (Int.toNat 10) c2) (vB seen1) :: fs) ∧ ((gameroomref_RowCan_J9 l1) seen1).bind some = some r) ?_ ?_
      · rintro a w ⟨seen1, hF, hS, hm⟩
        unfold gameroomref_RowCan_J9 at hm
        refine seq_cut (fun a w => ∃ (seen3 : List Bool), Fr 112 [pl 0 (.slice A1 l1.length c1), pl 7 (.slice A2 (Int.toNat 10) c2)] a ∧ Sep w0 B w (own 4 (.slice A2 (Int.toNat 10) c2) (vB seen3) :: fs) ∧ ((gameroomref_RowCan_J10 l1) seen3).bind some = some r) ?_ ?_
        · rintro a w ⟨seen3, hF, hS, hm⟩
          unfold gameroomref_RowCan_J10 at hm
          refine seq_cut (fun a w => Fr 112 [] a ∧ Sep w0 B w (fs) ∧ (gameroomref_RowCan_J15).bind some = some r) ?_ ?_
          · rintro a w ⟨hF, hS, hm⟩
            unfold gameroomref_RowCan_J15 at hm
            refine reg [] [] [2] [pl 2 (.bool true)] hF hS Fol (by kernel_rfl) (by kernel_rfl) (by kernel_rfl) ?_ (fun a w hF hS => ?_)
            · exact obs_nil
            refine wp_ret ?_
            have hm : some true = some r := hm
            obtain rfl := Option.some.inj hm
            exact retV (rs := [.tmp 2]) (vs := [.bool true]) hF rfl (rv_t (by kernel_rfl) <| rv_nil) rfl ⟨rfl, hS⟩
          · refine reg [] [] [0, 7, 10] [pl 0 (.slice A1 l1.length c1), pl 7 (.slice A2 (Int.toNat 10) c2), pl 10 (.int .i64 0)] hF hS Fol (by kernel_rfl) (by kernel_rfl) (by kernel_rfl) ?_ (fun a w hF hS => ?_)
            · exact obs_nil
            refine wp_block ?_
            refine wp_loop_model (S := Int) (R := (Fl Unit Bool)) (gameroomref_RowCan_L5 l1 seen3) (fun x => (gameroomref_RowCan_K5 x).bind some) r (fun (x : Int) a w => Fr 112 [pl 0 (.slice A1 l1.length c1), pl 7 (.slice A2 (Int.toNat 10) c2), pl 10 (.int .i64 x)] a ∧ Sep w0 B w (own 4 (.slice A2 (Int.toNat 10) c2) (vB seen3) :: fs)) (assoc_b hm) ⟨hF.weak [0, 7, 10] (by kernel_rfl), hS⟩ ?_
            clear hF hS hm
            rintro nn5 i3 a w ⟨hF, hS⟩ hm
            generalize hφ5 : stK (gameroomref_RowCan_L5 l1 seen3) nn5 (fun x => (gameroomref_RowCan_K5 x).bind some) = φ5 at hm
            unfold gameroomref_RowCan_L5 at hm
            dsimp only at hm
            refine seq_cut (fun a w => Fr 112 [pl 0 (.slice A1 l1.length c1), pl 7 (.slice A2 (Int.toNat 10) c2), pl 10 (.int .i64 i3)] a ∧ Sep w0 B w (own 4 (.slice A2 (Int.toNat 10) c2) (vB seen3) :: fs) ∧ ((gameroomref_RowCan_J16 l1 seen3 i3)).bind φ5 = some r) ?_ ?_
            · rintro a w ⟨hF, hS, hm⟩
              unfold gameroomref_RowCan_J16 at hm
              refine seq_cut (fun a w => Fr 112 [pl 0 (.slice A1 l1.length c1), pl 7 (.slice A2 (Int.toNat 10) c2), pl 10 (.int .i64 i3)] a ∧ Sep w0 B w (own 4 (.slice A2 (Int.toNat 10) c2) (vB seen3) :: fs) ∧ ((gameroomref_RowCan_J17 i3)).bind φ5 = some r) ?_ ?_
              · rintro a w ⟨hF, hS, hm⟩
                unfold gameroomref_RowCan_J17 at hm
                refine reg1 [] [] [0, 7, 10] [pl 0 (.slice A1 l1.length c1), pl 7 (.slice A2 (Int.toNat 10) c2), pl 10 (.int .i64 (w64 (i3 + 1)))] hF hS Fol (by kernel_rfl) (by kernel_rfl) (by kernel_rfl) ?_ (fun a w hF hS => ?_)
                · exact obs_nil
                refine then_n ?_
                rw [← hφ5] at hm
                exact ⟨(w64 (i3 + 1)), ⟨hF.weak [0, 7, 10] (by kernel_rfl), hS⟩, hm⟩
              · refine wp_block ?_
                obtain ⟨hp14, hm⟩ := asrt_b hm
                obtain ⟨hp15, hm⟩ := asrt_b hm
                refine reg [⟨true, [], vS (Instr.indexAt 22 (.slice A1 l1.length c1) (.int .i64 i3)), .pointer (some (sAddrK A1 2 i3))⟩, ⟨false, [], vS (Instr.loadAt 3 (.pointer (some (Addr.add (sAddrK A1 2 i3) 0)))), .int .i64 ((getd ((0, 0) : (Int × Int)) l1 i3).1)⟩, ⟨true, [], vS (Instr.indexAt 119 (.slice A2 (Int.toNat 10) c2) (.int .i64 ((getd ((0, 0) : (Int × Int)) l1 i3).1))), .pointer (some (sAddr A2 ((getd ((0, 0) : (Int × Int)) l1 i3).1)))⟩, ⟨false, [], vS (Instr.loadAt 4 (.pointer (some (sAddr A2 ((getd ((0, 0) : (Int × Int)) l1 i3).1))))), .bool (getb seen3 ((getd ((0, 0) : (Int × Int)) l1 i3).1))⟩] [none, none, none, some (.pointer (some (sAddrK A1 2 i3))), none, some (.int .i64 ((getd ((0, 0) : (Int × Int)) l1 i3).1)), some (.pointer (some (sAddr A2 ((getd ((0, 0) : (Int × Int)) l1 i3).1)))), some (.bool (getb seen3 ((getd ((0, 0) : (Int × Int)) l1 i3).1))), none] [0, 7, 10, 111] [pl 0 (.slice A1 l1.length c1), pl 7 (.slice A2 (Int.toNat 10) c2), pl 10 (.int .i64 i3), pl 111 (.bool (!(getb seen3 ((getd ((0, 0) : (Int × Int)) l1 i3).1))))] hF hS Fol (by kernel_rfl) (by kernel_rfl) (by kernel_rfl) ?_ (fun a w hF hS => ?_)
                · exact obs_cons (ob_ixK (m := l1) encK99 Und22 hi99 hs99 (hr_l1 _ (hS.dropN 1)) rfl (fun _ => hp14)) <| obs_cons (ob_getF (n := l1.length) (m := l1) (j := 0) encK99 ((0, 0) : (Int × Int)) Agg3 (fun _ hS => ⟨_, (hr_l1 _ (hS.dropN 1))⟩) (fun _ hS => rfl) (fun _ => hp14) (by decide) rfl) <| obs_cons (ob_ix1 (f := Value.bool) (m := seen3) Und119 hi4 hs4 (hS.at_ 0 rfl).rd ((hS.at_ 0 rfl).len1) (fun _ => hp15)) <| obs_cons (ob_get1 (n := (Int.toNat 10)) (m := seen3) Value.bool false Agg4 (fun _ hS => ⟨_, (hS.at_ 0 rfl).rd⟩) (fun _ hS => ((hS.at_ 0 rfl).len1)) (fun _ => hp15)) <| obs_nil
                refine cond_ev (t := 111) (b := !(getb seen3 ((getd ((0, 0) : (Int × Int)) l1 i3).1))) hF (by kernel_rfl) (fun hb => ?_) (fun hb => ?_)
                · replace hm := if_t hm hb
                  refine reg [] [] [2] [pl 2 (.bool false)] hF hS Fol (by kernel_rfl) (by kernel_rfl) (by kernel_rfl) ?_ (fun a w hF hS => ?_)
                  · exact obs_nil
                  refine wp_ret ?_
                  refine block_r (then_r (then_r (block_r (then_r ?_))))
                  rw [← hφ5] at hm
                  replace hm := done_b hm
                  unfold gameroomref_RowCan_K5 at hm
                  try dsimp only at hm
                  have hS := hS.pickN 1 [] (by decide)
                  have hm : some false = some r := hm
                  obtain rfl := Option.some.inj hm
                  exact retV (rs := [.tmp 2]) (vs := [.bool false]) hF rfl (rv_t (by kernel_rfl) <| rv_nil) rfl ⟨rfl, hS⟩
                · replace hm := if_f hm hb
                  refine wp_skip ?_
                  refine block_n ?_
                  refine then_n ?_
                  exact ⟨hF.weak [0, 7, 10] (by kernel_rfl), hS, hm⟩
            · refine reg [] [] [0, 7, 10, 100] [pl 0 (.slice A1 l1.length c1), pl 7 (.slice A2 (Int.toNat 10) c2), pl 10 (.int .i64 i3), pl 100 (.bool (decide (i3 < (l1.length : Int))))] hF hS Fol (by kernel_rfl) (by kernel_rfl) (by kernel_rfl) ?_ (fun a w hF hS => ?_)
              · exact obs_nil
              refine cond_ev (t := 100) (b := decide (i3 < (l1.length : Int))) hF (by kernel_rfl) (fun hb => ?_) (fun hb => ?_)
              · replace hm := if_t hm hb
                refine wp_skip ?_
                refine then_n ?_
                exact ⟨hF.weak [0, 7, 10] (by kernel_rfl), hS, hm⟩
              · replace hm := if_f hm hb
                refine wp_exit ?_
                refine then_e (then_e (block_e (then_n ?_)))
                have hS := hS.pickN 1 [] (by decide)
                rw [← hφ5] at hm
                replace hm := done_b hm
                unfold gameroomref_RowCan_K5 at hm
                try dsimp only at hm
                have hm : (gameroomref_RowCan_J15).bind some = some r := hm
                exact ⟨hF.weak [] (by kernel_rfl), hS, hm⟩
        · refine reg [] [] [0, 7, 8] [pl 0 (.slice A1 l1.length c1), pl 7 (.slice A2 (Int.toNat 10) c2), pl 8 (.int .i64 0)] hF hS Fol (by kernel_rfl) (by kernel_rfl) (by kernel_rfl) ?_ (fun a w hF hS => ?_)
          · exact obs_nil
          refine wp_block ?_
          refine wp_loop_model (S := (List Bool × Int)) (R := (List Bool)) (gameroomref_RowCan_L3 l1) (fun x => ((gameroomref_RowCan_K3 l1) x).bind some) r (fun (x : (List Bool × Int)) a w => Fr 112 [pl 0 (.slice A1 l1.length c1), pl 7 (.slice A2 (Int.toNat 10) c2), pl 8 (.int .i64 x.2)] a ∧ Sep w0 B w (own 4 (.slice A2 (Int.toNat 10) c2) (vB x.1) :: fs)) (assoc_b hm) ⟨hF.weak [0, 7, 8] (by kernel_rfl), hS⟩ ?_
          clear hF hS hm
          rintro nn3 ⟨seen2, round1⟩ a w ⟨hF, hS⟩ hm
          generalize hφ3 : stK (gameroomref_RowCan_L3 l1) nn3 (fun x => ((gameroomref_RowCan_K3 l1) x).bind some) = φ3 at hm
          unfold gameroomref_RowCan_L3 at hm
          dsimp only at hF hS hm
          refine seq_cut (fun a w => Fr 112 [pl 0 (.slice A1 l1.length c1), pl 7 (.slice A2 (Int.toNat 10) c2), pl 8 (.int .i64 round1)] a ∧ Sep w0 B w (own 4 (.slice A2 (Int.toNat 10) c2) (vB seen2) :: fs) ∧ ((gameroomref_RowCan_J11 l1 seen2 round1)).bind φ3 = some r) ?_ ?_
          · rintro a w ⟨hF, hS, hm⟩
            unfold gameroomref_RowCan_J11 at hm
            refine seq_cut (fun a w => ∃ (seen5 : List Bool), Fr 112 [pl 0 (.slice A1 l1.length c1), pl 7 (.slice A2 (Int.toNat 10) c2), pl 8 (.int .i64 round1)] a ∧ Sep w0 B w (own 4 (.slice A2 (Int.toNat 10) c2) (vB seen5) :: fs) ∧ ((gameroomref_RowCan_J12 round1) seen5).bind φ3 = some r) ?_ ?_
            · rintro a w ⟨seen5, hF, hS, hm⟩
              unfold gameroomref_RowCan_J12 at hm
              refine reg1 [] [] [0, 7, 8] [pl 0 (.slice A1 l1.length c1), pl 7 (.slice A2 (Int.toNat 10) c2), pl 8 (.int .i64 (w64 (round1 + 1)))] hF hS Fol (by kernel_rfl) (by kernel_rfl) (by kernel_rfl) ?_ (fun a w hF hS => ?_)
              · exact obs_nil
              refine then_n ?_
              rw [← hφ3] at hm
              exact ⟨(seen5, (w64 (round1 + 1))), ⟨hF.weak [0, 7, 8] (by kernel_rfl), hS⟩, hm⟩
            · refine wp_block ?_
              refine reg [] [] [0, 7, 8, 9] [pl 0 (.slice A1 l1.length c1), pl 7 (.slice A2 (Int.toNat 10) c2), pl 8 (.int .i64 round1), pl 9 (.int .i64 0)] hF hS Fol (by kernel_rfl) (by kernel_rfl) (by kernel_rfl) ?_ (fun a w hF hS => ?_)
              · exact obs_nil
              refine wp_block ?_
              refine wp_loop_model (S := (List Bool × Int)) (R := (List Bool)) (gameroomref_RowCan_L4 l1) (fun x => ((gameroomref_RowCan_K4 round1) x).bind φ3) r (fun (x : (List Bool × Int)) a w => Fr 112 [pl 0 (.slice A1 l1.length c1), pl 7 (.slice A2 (Int.toNat 10) c2), pl 8 (.int .i64 round1), pl 9 (.int .i64 x.2)] a ∧ Sep w0 B w (own 4 (.slice A2 (Int.toNat 10) c2) (vB x.1) :: fs)) (assoc_b hm) ⟨hF.weak [0, 7, 8, 9] (by kernel_rfl), hS⟩ ?_
              clear hF hS hm
              rintro nn4 ⟨seen4, i2⟩ a w ⟨hF, hS⟩ hm
              generalize hφ4 : stK (gameroomref_RowCan_L4 l1) nn4 (fun x => ((gameroomref_RowCan_K4 round1) x).bind φ3) = φ4 at hm
              unfold gameroomref_RowCan_L4 at hm
              dsimp only at hF hS hm
              refine seq_cut (fun a w => Fr 112 [pl 0 (.slice A1 l1.length c1), pl 7 (.slice A2 (Int.toNat 10) c2), pl 8 (.int .i64 round1), pl 9 (.int .i64 i2)] a ∧ Sep w0 B w (own 4 (.slice A2 (Int.toNat 10) c2) (vB seen4) :: fs) ∧ ((gameroomref_RowCan_J13 l1 seen4 i2)).bind φ4 = some r) ?_ ?_
              · rintro a w ⟨hF, hS, hm⟩
                unfold gameroomref_RowCan_J13 at hm
                refine seq_cut (fun a w => ∃ (seen6 : List Bool), Fr 112 [pl 0 (.slice A1 l1.length c1), pl 7 (.slice A2 (Int.toNat 10) c2), pl 8 (.int .i64 round1), pl 9 (.int .i64 i2)] a ∧ Sep w0 B w (own 4 (.slice A2 (Int.toNat 10) c2) (vB seen6) :: fs) ∧ ((gameroomref_RowCan_J14 i2) seen6).bind φ4 = some r) ?_ ?_
                · rintro a w ⟨seen6, hF, hS, hm⟩
                  unfold gameroomref_RowCan_J14 at hm
                  refine reg1 [] [] [0, 7, 8, 9] [pl 0 (.slice A1 l1.length c1), pl 7 (.slice A2 (Int.toNat 10) c2), pl 8 (.int .i64 round1), pl 9 (.int .i64 (w64 (i2 + 1)))] hF hS Fol (by kernel_rfl) (by kernel_rfl) (by kernel_rfl) ?_ (fun a w hF hS => ?_)
                  · exact obs_nil
                  refine then_n ?_
                  rw [← hφ4] at hm
                  exact ⟨(seen6, (w64 (i2 + 1))), ⟨hF.weak [0, 7, 8, 9] (by kernel_rfl), hS⟩, hm⟩
                · refine wp_block ?_
                  obtain ⟨hp6, hm⟩ := asrt_b hm
                  obtain ⟨hp7, hm⟩ := asrt_b hm
                  obtain ⟨hp8, hm⟩ := asrt_b hm
                  obtain ⟨hp9, hm⟩ := asrt_b hm
                  refine reg [⟨true, [], vS (Instr.indexAt 22 (.slice A1 l1.length c1) (.int .i64 i2)), .pointer (some (sAddrK A1 2 i2))⟩, ⟨false, [], vS (Instr.loadAt 3 (.pointer (some (Addr.add (sAddrK A1 2 i2) 0)))), .int .i64 ((getd ((0, 0) : (Int × Int)) l1 i2).1)⟩, ⟨true, [], vS (Instr.indexAt 119 (.slice A2 (Int.toNat 10) c2) (.int .i64 ((getd ((0, 0) : (Int × Int)) l1 i2).1))), .pointer (some (sAddr A2 ((getd ((0, 0) : (Int × Int)) l1 i2).1)))⟩, ⟨false, [], vS (Instr.loadAt 4 (.pointer (some (sAddr A2 ((getd ((0, 0) : (Int × Int)) l1 i2).1))))), .bool (getb seen4 ((getd ((0, 0) : (Int × Int)) l1 i2).1))⟩, ⟨true, [(getb seen4 ((getd ((0, 0) : (Int × Int)) l1 i2).1), false)], vS (Instr.indexAt 22 (.slice A1 l1.length c1) (.int .i64 i2)), .pointer (some (sAddrK A1 2 i2))⟩, ⟨false, [(getb seen4 ((getd ((0, 0) : (Int × Int)) l1 i2).1), false)], vS (Instr.loadAt 3 (.pointer (some (Addr.add (sAddrK A1 2 i2) 1)))), .int .i64 ((getd ((0, 0) : (Int × Int)) l1 i2).2)⟩, ⟨true, [(getb seen4 ((getd ((0, 0) : (Int × Int)) l1 i2).1), false)], vS (Instr.indexAt 119 (.slice A2 (Int.toNat 10) c2) (.int .i64 ((getd ((0, 0) : (Int × Int)) l1 i2).2))), .pointer (some (sAddr A2 ((getd ((0, 0) : (Int × Int)) l1 i2).2)))⟩, ⟨false, [(getb seen4 ((getd ((0, 0) : (Int × Int)) l1 i2).1), false)], vS (Instr.loadAt 4 (.pointer (some (sAddr A2 ((getd ((0, 0) : (Int × Int)) l1 i2).2))))), .bool (getb seen4 ((getd ((0, 0) : (Int × Int)) l1 i2).2))⟩] [none, none, none, some (.pointer (some (sAddrK A1 2 i2))), none, some (.int .i64 ((getd ((0, 0) : (Int × Int)) l1 i2).1)), some (.pointer (some (sAddr A2 ((getd ((0, 0) : (Int × Int)) l1 i2).1)))), some (.bool (getb seen4 ((getd ((0, 0) : (Int × Int)) l1 i2).1))), none, none, none, none, some (.pointer (some (sAddrK A1 2 i2))), none, some (.int .i64 ((getd ((0, 0) : (Int × Int)) l1 i2).2)), some (.pointer (some (sAddr A2 ((getd ((0, 0) : (Int × Int)) l1 i2).2)))), some (.bool (getb seen4 ((getd ((0, 0) : (Int × Int)) l1 i2).2))), none] [0, 7, 8, 9, 82] [pl 0 (.slice A1 l1.length c1), pl 7 (.slice A2 (Int.toNat 10) c2), pl 8 (.int .i64 round1), pl 9 (.int .i64 i2), pl 82 (.bool ((getb seen4 ((getd ((0, 0) : (Int × Int)) l1 i2).1)) || (getb seen4 ((getd ((0, 0) : (Int × Int)) l1 i2).2))))] hF hS Fol (by kernel_rfl) (by kernel_rfl) (by kernel_rfl) ?_ (fun a w hF hS => ?_)
                  · exact obs_cons (ob_ixK (m := l1) encK99 Und22 hi99 hs99 (hr_l1 _ (hS.dropN 1)) rfl (fun _ => hp6)) <| obs_cons (ob_getF (n := l1.length) (m := l1) (j := 0) encK99 ((0, 0) : (Int × Int)) Agg3 (fun _ hS => ⟨_, (hr_l1 _ (hS.dropN 1))⟩) (fun _ hS => rfl) (fun _ => hp6) (by decide) rfl) <| obs_cons (ob_ix1 (f := Value.bool) (m := seen4) Und119 hi4 hs4 (hS.at_ 0 rfl).rd ((hS.at_ 0 rfl).len1) (fun _ => hp7)) <| obs_cons (ob_get1 (n := (Int.toNat 10)) (m := seen4) Value.bool false Agg4 (fun _ hS => ⟨_, (hS.at_ 0 rfl).rd⟩) (fun _ hS => ((hS.at_ 0 rfl).len1)) (fun _ => hp7)) <| obs_cons (ob_ixK (m := l1) encK99 Und22 hi99 hs99 (hr_l1 _ (hS.dropN 1)) rfl (fun hy => hp8 (hy (getb seen4 ((getd ((0, 0) : (Int × Int)) l1 i2).1), false) (by simp)))) <| obs_cons (ob_getF (n := l1.length) (m := l1) (j := 1) encK99 ((0, 0) : (Int × Int)) Agg3 (fun _ hS => ⟨_, (hr_l1 _ (hS.dropN 1))⟩) (fun _ hS => rfl) (fun hy => hp8 (hy (getb seen4 ((getd ((0, 0) : (Int × Int)) l1 i2).1), false) (by simp))) (by decide) rfl) <| obs_cons (ob_ix1 (f := Value.bool) (m := seen4) Und119 hi4 hs4 (hS.at_ 0 rfl).rd ((hS.at_ 0 rfl).len1) (fun hy => hp9 (hy (getb seen4 ((getd ((0, 0) : (Int × Int)) l1 i2).1), false) (by simp)))) <| obs_cons (ob_get1 (n := (Int.toNat 10)) (m := seen4) Value.bool false Agg4 (fun _ hS => ⟨_, (hS.at_ 0 rfl).rd⟩) (fun _ hS => ((hS.at_ 0 rfl).len1)) (fun hy => hp9 (hy (getb seen4 ((getd ((0, 0) : (Int × Int)) l1 i2).1), false) (by simp)))) <| obs_nil
                  refine cond_ev (t := 82) (b := (getb seen4 ((getd ((0, 0) : (Int × Int)) l1 i2).1)) || (getb seen4 ((getd ((0, 0) : (Int × Int)) l1 i2).2))) hF (by kernel_rfl) (fun hb => ?_) (fun hb => ?_)
                  · replace hm := if_t hm hb
                    refine seqR ?_
                    obtain ⟨hp10, hm⟩ := asrt_b hm
                    obtain ⟨hp11, hm⟩ := asrt_b hm
                    refine at_run 7 [⟨true, [], vS (Instr.indexAt 22 (.slice A1 l1.length c1) (.int .i64 i2)), .pointer (some (sAddrK A1 2 i2))⟩, ⟨false, [], vS (Instr.loadAt 3 (.pointer (some (Addr.add (sAddrK A1 2 i2) 0)))), .int .i64 ((getd ((0, 0) : (Int × Int)) l1 i2).1)⟩, ⟨true, [], vS (Instr.indexAt 119 (.slice A2 (Int.toNat 10) c2) (.int .i64 ((getd ((0, 0) : (Int × Int)) l1 i2).1))), .pointer (some (sAddr A2 ((getd ((0, 0) : (Int × Int)) l1 i2).1)))⟩] [none, none, none, some (.pointer (some (sAddrK A1 2 i2))), none, some (.int .i64 ((getd ((0, 0) : (Int × Int)) l1 i2).1)), some (.pointer (some (sAddr A2 ((getd ((0, 0) : (Int × Int)) l1 i2).1))))] [0, 7, 8, 9, 89] [pl 0 (.slice A1 l1.length c1), pl 7 (.slice A2 (Int.toNat 10) c2), pl 8 (.int .i64 round1), pl 9 (.int .i64 i2), pl 89 (.pointer (some (sAddr A2 ((getd ((0, 0) : (Int × Int)) l1 i2).1))))] hF hS (by kernel_rfl) (by kernel_rfl) ?_ (fun a w hF hS => ?_)
                    · exact obs_cons (ob_ixK (m := l1) encK99 Und22 hi99 hs99 (hr_l1 _ (hS.dropN 1)) rfl (fun _ => hp10)) <| obs_cons (ob_getF (n := l1.length) (m := l1) (j := 0) encK99 ((0, 0) : (Int × Int)) Agg3 (fun _ hS => ⟨_, (hr_l1 _ (hS.dropN 1))⟩) (fun _ hS => rfl) (fun _ => hp10) (by decide) rfl) <| obs_cons (ob_ix1 (f := Value.bool) (m := seen4) Und119 hi4 hs4 (hS.at_ 0 rfl).rd ((hS.at_ 0 rfl).len1) (fun _ => hp11)) <| obs_nil
                    obtain ⟨w, hrun, hS⟩ := run_set1 (P := Try.prog) (t := 4) (x := true) Value.bool (hS.at_ 0 rfl) hi4 hs4 rfl rfl hp11
                    refine at_skip hF (by kernel_rfl) hrun ?_
                    have hS : Sep w0 B w (own 4 (.slice A2 (Int.toNat 10) c2) (vB (seen4.set (Int.toNat ((getd ((0, 0) : (Int × Int)) l1 i2).1)) true)) :: fs) := hS
                    refine at_end [0, 7, 8, 9] [pl 0 (.slice A1 l1.length c1), pl 7 (.slice A2 (Int.toNat 10) c2), pl 8 (.int .i64 round1), pl 9 (.int .i64 i2)] hF rfl (by kernel_rfl) (fun hF => ?_)
                    refine then_n ?_
                    refine oneR ?_
                    obtain ⟨hp12, hm⟩ := asrt_b hm
                    obtain ⟨hp13, hm⟩ := asrt_b hm
                    refine at_run 7 [⟨true, [], vS (Instr.indexAt 22 (.slice A1 l1.length c1) (.int .i64 i2)), .pointer (some (sAddrK A1 2 i2))⟩, ⟨false, [], vS (Instr.loadAt 3 (.pointer (some (Addr.add (sAddrK A1 2 i2) 1)))), .int .i64 ((getd ((0, 0) : (Int × Int)) l1 i2).2)⟩, ⟨true, [], vS (Instr.indexAt 119 (.slice A2 (Int.toNat 10) c2) (.int .i64 ((getd ((0, 0) : (Int × Int)) l1 i2).2))), .pointer (some (sAddr A2 ((getd ((0, 0) : (Int × Int)) l1 i2).2)))⟩] [none, none, none, some (.pointer (some (sAddrK A1 2 i2))), none, some (.int .i64 ((getd ((0, 0) : (Int × Int)) l1 i2).2)), some (.pointer (some (sAddr A2 ((getd ((0, 0) : (Int × Int)) l1 i2).2))))] [0, 7, 8, 9, 96] [pl 0 (.slice A1 l1.length c1), pl 7 (.slice A2 (Int.toNat 10) c2), pl 8 (.int .i64 round1), pl 9 (.int .i64 i2), pl 96 (.pointer (some (sAddr A2 ((getd ((0, 0) : (Int × Int)) l1 i2).2))))] hF hS (by kernel_rfl) (by kernel_rfl) ?_ (fun a w hF hS => ?_)
                    · exact obs_cons (ob_ixK (m := l1) encK99 Und22 hi99 hs99 (hr_l1 _ (hS.dropN 1)) rfl (fun _ => hp12)) <| obs_cons (ob_getF (n := l1.length) (m := l1) (j := 1) encK99 ((0, 0) : (Int × Int)) Agg3 (fun _ hS => ⟨_, (hr_l1 _ (hS.dropN 1))⟩) (fun _ hS => rfl) (fun _ => hp12) (by decide) rfl) <| obs_cons (ob_ix1 (f := Value.bool) (m := (seen4.set (Int.toNat ((getd ((0, 0) : (Int × Int)) l1 i2).1)) true)) Und119 hi4 hs4 (hS.at_ 0 rfl).rd ((hS.at_ 0 rfl).len1) (fun _ => hp13)) <| obs_nil
                    obtain ⟨w, hrun, hS⟩ := run_set1 (P := Try.prog) (t := 4) (x := true) Value.bool (hS.at_ 0 rfl) hi4 hs4 rfl rfl hp13
                    refine at_skip hF (by kernel_rfl) hrun ?_
                    have hS : Sep w0 B w (own 4 (.slice A2 (Int.toNat 10) c2) (vB ((seen4.set (Int.toNat ((getd ((0, 0) : (Int × Int)) l1 i2).1)) true).set (Int.toNat ((getd ((0, 0) : (Int × Int)) l1 i2).2)) true)) :: fs) := hS
                    refine at_end [0, 7, 8, 9] [pl 0 (.slice A1 l1.length c1), pl 7 (.slice A2 (Int.toNat 10) c2), pl 8 (.int .i64 round1), pl 9 (.int .i64 i2)] hF rfl (by kernel_rfl) (fun hF => ?_)
                    refine block_n ?_
                    refine then_n ?_
                    exact ⟨((seen4.set (Int.toNat ((getd ((0, 0) : (Int × Int)) l1 i2).1)) true).set (Int.toNat ((getd ((0, 0) : (Int × Int)) l1 i2).2)) true), hF.weak [0, 7, 8, 9] (by kernel_rfl), hS, hm⟩
                  · replace hm := if_f hm hb
                    refine wp_skip ?_
                    refine block_n ?_
                    refine then_n ?_
                    exact ⟨seen4, hF.weak [0, 7, 8, 9] (by kernel_rfl), hS, hm⟩
              · refine reg [] [] [0, 7, 8, 9, 62] [pl 0 (.slice A1 l1.length c1), pl 7 (.slice A2 (Int.toNat 10) c2), pl 8 (.int .i64 round1), pl 9 (.int .i64 i2), pl 62 (.bool (decide (i2 < (l1.length : Int))))] hF hS Fol (by kernel_rfl) (by kernel_rfl) (by kernel_rfl) ?_ (fun a w hF hS => ?_)
                · exact obs_nil
                refine cond_ev (t := 62) (b := decide (i2 < (l1.length : Int))) hF (by kernel_rfl) (fun hb => ?_) (fun hb => ?_)
                · replace hm := if_t hm hb
                  refine wp_skip ?_
                  refine then_n ?_
                  exact ⟨hF.weak [0, 7, 8, 9] (by kernel_rfl), hS, hm⟩
                · replace hm := if_f hm hb
                  refine wp_exit ?_
                  refine then_e (then_e (block_e (block_n (then_n ?_))))
                  rw [← hφ4] at hm
                  replace hm := done_b hm
                  unfold gameroomref_RowCan_K4 at hm
                  try dsimp only at hm
                  have hm : ((gameroomref_RowCan_J12 round1) seen4).bind φ3 = some r := hm
                  exact ⟨seen4, hF.weak [0, 7, 8] (by kernel_rfl), hS, hm⟩
          · refine reg [] [] [0, 7, 8, 56] [pl 0 (.slice A1 l1.length c1), pl 7 (.slice A2 (Int.toNat 10) c2), pl 8 (.int .i64 round1), pl 56 (.bool (decide (round1 ≤ 9)))] hF hS Fol (by kernel_rfl) (by kernel_rfl) (by kernel_rfl) ?_ (fun a w hF hS => ?_)
            · exact obs_nil
            refine cond_ev (t := 56) (b := decide (round1 ≤ 9)) hF (by kernel_rfl) (fun hb => ?_) (fun hb => ?_)
            · replace hm := if_t hm hb
              refine wp_skip ?_
              refine then_n ?_
              exact ⟨hF.weak [0, 7, 8] (by kernel_rfl), hS, hm⟩
            · replace hm := if_f hm hb
              refine wp_exit ?_
              refine then_e (then_e (block_e (then_n ?_)))
              rw [← hφ3] at hm
              replace hm := done_b hm
              unfold gameroomref_RowCan_K3 at hm
              try dsimp only at hm
              have hm : ((gameroomref_RowCan_J10 l1) seen2).bind some = some r := hm
              exact ⟨seen2, hF.weak [0, 7] (by kernel_rfl), hS, hm⟩
      · refine reg [] [] [0, 7, 48] [pl 0 (.slice A1 l1.length c1), pl 7 (.slice A2 (Int.toNat 10) c2), pl 48 (.bool (decide ((0 : Int) < (l1.length : Int))))] hF hS Fol (by kernel_rfl) (by kernel_rfl) (by kernel_rfl) ?_ (fun a w hF hS => ?_)
        · exact obs_nil
        refine cond_ev (t := 48) (b := decide ((0 : Int) < (l1.length : Int))) hF (by kernel_rfl) (fun hb => ?_) (fun hb => ?_)
        · replace hm := if_t hm hb
          refine oneR ?_
          obtain ⟨hp4, hm⟩ := asrt_b hm
          obtain ⟨hp5, hm⟩ := asrt_b hm
          refine at_run 6 [⟨true, [], vS (Instr.indexAt 22 (.slice A1 l1.length c1) (.int .i64 0)), .pointer (some (sAddrK A1 2 0))⟩, ⟨false, [], vS (Instr.loadAt 3 (.pointer (some (Addr.add (sAddrK A1 2 0) 0)))), .int .i64 ((getd ((0, 0) : (Int × Int)) l1 0).1)⟩, ⟨true, [], vS (Instr.indexAt 119 (.slice A2 (Int.toNat 10) c2) (.int .i64 ((getd ((0, 0) : (Int × Int)) l1 0).1))), .pointer (some (sAddr A2 ((getd ((0, 0) : (Int × Int)) l1 0).1)))⟩] [none, none, some (.pointer (some (sAddrK A1 2 0))), none, some (.int .i64 ((getd ((0, 0) : (Int × Int)) l1 0).1)), some (.pointer (some (sAddr A2 ((getd ((0, 0) : (Int × Int)) l1 0).1))))] [0, 7, 54] [pl 0 (.slice A1 l1.length c1), pl 7 (.slice A2 (Int.toNat 10) c2), pl 54 (.pointer (some (sAddr A2 ((getd ((0, 0) : (Int × Int)) l1 0).1))))] hF hS (by kernel_rfl) (by kernel_rfl) ?_ (fun a w hF hS => ?_)
          · exact obs_cons (ob_ixK (m := l1) encK99 Und22 hi99 hs99 (hr_l1 _ (hS.dropN 1)) rfl (fun _ => hp4)) <| obs_cons (ob_getF (n := l1.length) (m := l1) (j := 0) encK99 ((0, 0) : (Int × Int)) Agg3 (fun _ hS => ⟨_, (hr_l1 _ (hS.dropN 1))⟩) (fun _ hS => rfl) (fun _ => hp4) (by decide) rfl) <| obs_cons (ob_ix1 (f := Value.bool) (m := (List.replicate (Int.toNat 10) false)) Und119 hi4 hs4 (hS.at_ 0 rfl).rd ((hS.at_ 0 rfl).len1) (fun _ => hp5)) <| obs_nil
          obtain ⟨w, hrun, hS⟩ := run_set1 (P := Try.prog) (t := 4) (x := true) Value.bool (hS.at_ 0 rfl) hi4 hs4 rfl rfl hp5
          refine at_skip hF (by kernel_rfl) hrun ?_
          have hS : Sep w0 B w (own 4 (.slice A2 (Int.toNat 10) c2) (vB ((List.replicate (Int.toNat 10) false).set (Int.toNat ((getd ((0, 0) : (Int × Int)) l1 0).1)) true)) :: fs) := hS
          refine at_end [0, 7] [pl 0 (.slice A1 l1.length c1), pl 7 (.slice A2 (Int.toNat 10) c2)] hF rfl (by kernel_rfl) (fun hF => ?_)
          refine then_n ?_
          exact ⟨((List.replicate (Int.toNat 10) false).set (Int.toNat ((getd ((0, 0) : (Int × Int)) l1 0).1)) true), hF.weak [0, 7] (by kernel_rfl), hS, hm⟩
        · replace hm := if_f hm hb
          refine wp_skip ?_
          refine then_n ?_
          exact ⟨(List.replicate (Int.toNat 10) false), hF.weak [0, 7] (by kernel_rfl), hS, hm⟩
    · refine reg [] [] [0, 44] [pl 0 (.slice A1 l1.length c1), pl 44 (.bool (decide ((2 : Int) < odd2)))] hF hS Fol (by kernel_rfl) (by kernel_rfl) (by kernel_rfl) ?_ (fun a w hF hS => ?_)
      · exact obs_nil
      refine cond_ev (t := 44) (b := decide ((2 : Int) < odd2)) hF (by kernel_rfl) (fun hb => ?_) (fun hb => ?_)
      · replace hm := if_t hm hb
        refine reg [] [] [2] [pl 2 (.bool false)] hF hS Fol (by kernel_rfl) (by kernel_rfl) (by kernel_rfl) ?_ (fun a w hF hS => ?_)
        · exact obs_nil
        refine wp_ret ?_
        refine then_r ?_
        have hm : some false = some r := hm
        obtain rfl := Option.some.inj hm
        exact retV (rs := [.tmp 2]) (vs := [.bool false]) hF rfl (rv_t (by kernel_rfl) <| rv_nil) rfl ⟨rfl, hS⟩
      · replace hm := if_f hm hb
        refine wp_skip ?_
        refine then_n ?_
        exact ⟨hF.weak [0] (by kernel_rfl), hS, hm⟩
  · refine reg [] [] [0, 3, 4] [pl 0 (.slice A1 l1.length c1), pl 3 (.int .i64 0), pl 4 (.int .i64 0)] hF hS Fol (by kernel_rfl) (by kernel_rfl) (by kernel_rfl) ?_ (fun a w hF hS => ?_)
    · exact obs_nil
    refine wp_block ?_
    refine wp_loop_model (S := (Int × Int)) (R := Int) (gameroomref_RowCan_L1 l1) (fun x => ((gameroomref_RowCan_K1 l1) x).bind some) r (fun (x : (Int × Int)) a w => Fr 112 [pl 0 (.slice A1 l1.length c1), pl 3 (.int .i64 x.1), pl 4 (.int .i64 x.2)] a ∧ Sep w0 B w (fs)) (assoc_b hm) ⟨hF.weak [0, 3, 4] (by kernel_rfl), hS⟩ ?_
    clear hF hS hm
    rintro nn1 ⟨odd1, n2⟩ a w ⟨hF, hS⟩ hm
    generalize hφ1 : stK (gameroomref_RowCan_L1 l1) nn1 (fun x => ((gameroomref_RowCan_K1 l1) x).bind some) = φ1 at hm
    unfold gameroomref_RowCan_L1 at hm
    dsimp only at hF hS hm
    refine seq_cut (fun a w => Fr 112 [pl 0 (.slice A1 l1.length c1), pl 3 (.int .i64 odd1), pl 4 (.int .i64 n2)] a ∧ Sep w0 B w (fs) ∧ ((gameroomref_RowCan_J2 l1 odd1 n2)).bind φ1 = some r) ?_ ?_
    · rintro a w ⟨hF, hS, hm⟩
      unfold gameroomref_RowCan_J2 at hm
      refine seq_cut (fun a w => ∃ (odd3 : Int), Fr 112 [pl 0 (.slice A1 l1.length c1), pl 3 (.int .i64 odd3), pl 4 (.int .i64 n2)] a ∧ Sep w0 B w (fs) ∧ ((gameroomref_RowCan_J3 n2) odd3).bind φ1 = some r) ?_ ?_
      · rintro a w ⟨odd3, hF, hS, hm⟩
        unfold gameroomref_RowCan_J3 at hm
        refine reg1 [] [] [0, 3, 4] [pl 0 (.slice A1 l1.length c1), pl 3 (.int .i64 odd3), pl 4 (.int .i64 (w64 (n2 + 1)))] hF hS Fol (by kernel_rfl) (by kernel_rfl) (by kernel_rfl) ?_ (fun a w hF hS => ?_)
        · exact obs_nil
        refine then_n ?_
        rw [← hφ1] at hm
        exact ⟨(odd3, (w64 (n2 + 1))), ⟨hF.weak [0, 3, 4] (by kernel_rfl), hS⟩, hm⟩
      · refine wp_block ?_
        refine reg [] [] [0, 3, 4, 5] [pl 0 (.slice A1 l1.length c1), pl 3 (.int .i64 odd1), pl 4 (.int .i64 n2), pl 5 (.int .i64 0)] hF hS Fol (by kernel_rfl) (by kernel_rfl) (by kernel_rfl) ?_ (fun a w hF hS => ?_)
        · exact obs_nil
        refine seq_cut (fun a w => ∃ (k2 : Int), Fr 112 [pl 0 (.slice A1 l1.length c1), pl 3 (.int .i64 odd1), pl 4 (.int .i64 n2), pl 5 (.int .i64 k2)] a ∧ Sep w0 B w (fs) ∧ ((gameroomref_RowCan_J4 odd1 n2) k2).bind φ1 = some r) ?_ ?_
        · rintro a w ⟨k2, hF, hS, hm⟩
          unfold gameroomref_RowCan_J4 at hm
          refine reg1 [] [] [0, 3, 4] [pl 0 (.slice A1 l1.length c1), pl 3 (.int .i64 (w64 (odd1 + (Int.tmod k2 2)))), pl 4 (.int .i64 n2)] hF hS Fol (by kernel_rfl) (by kernel_rfl) (by kernel_rfl) ?_ (fun a w hF hS => ?_)
          · exact obs_nil
          refine block_n ?_
          refine then_n ?_
          exact ⟨(w64 (odd1 + (Int.tmod k2 2))), hF.weak [0, 3, 4] (by kernel_rfl), hS, hm⟩
        · refine reg [] [] [0, 3, 4, 5, 6] [pl 0 (.slice A1 l1.length c1), pl 3 (.int .i64 odd1), pl 4 (.int .i64 n2), pl 5 (.int .i64 0), pl 6 (.int .i64 0)] hF hS Fol (by kernel_rfl) (by kernel_rfl) (by kernel_rfl) ?_ (fun a w hF hS => ?_)
          · exact obs_nil
          refine wp_block ?_
          refine wp_loop_model (S := (Int × Int)) (R := Int) (gameroomref_RowCan_L2 l1 n2) (fun x => ((gameroomref_RowCan_K2 odd1 n2) x).bind φ1) r (fun (x : (Int × Int)) a w => Fr 112 [pl 0 (.slice A1 l1.length c1), pl 3 (.int .i64 odd1), pl 4 (.int .i64 n2), pl 5 (.int .i64 x.1), pl 6 (.int .i64 x.2)] a ∧ Sep w0 B w (fs)) (assoc_b hm) ⟨hF.weak [0, 3, 4, 5, 6] (by kernel_rfl), hS⟩ ?_
          clear hF hS hm
          rintro nn2 ⟨k1, i1⟩ a w ⟨hF, hS⟩ hm
          generalize hφ2 : stK (gameroomref_RowCan_L2 l1 n2) nn2 (fun x => ((gameroomref_RowCan_K2 odd1 n2) x).bind φ1) = φ2 at hm
          unfold gameroomref_RowCan_L2 at hm
          dsimp only at hF hS hm
          refine seq_cut (fun a w => Fr 112 [pl 0 (.slice A1 l1.length c1), pl 3 (.int .i64 odd1), pl 4 (.int .i64 n2), pl 5 (.int .i64 k1), pl 6 (.int .i64 i1)] a ∧ Sep w0 B w (fs) ∧ ((gameroomref_RowCan_J5 l1 n2 k1 i1)).bind φ2 = some r) ?_ ?_
          · rintro a w ⟨hF, hS, hm⟩
            unfold gameroomref_RowCan_J5 at hm
            refine seq_cut (fun a w => ∃ (k4 : Int), Fr 112 [pl 0 (.slice A1 l1.length c1), pl 3 (.int .i64 odd1), pl 4 (.int .i64 n2), pl 5 (.int .i64 k4), pl 6 (.int .i64 i1)] a ∧ Sep w0 B w (fs) ∧ ((gameroomref_RowCan_J6 i1) k4).bind φ2 = some r) ?_ ?_
            · rintro a w ⟨k4, hF, hS, hm⟩
              unfold gameroomref_RowCan_J6 at hm
              refine reg1 [] [] [0, 3, 4, 5, 6] [pl 0 (.slice A1 l1.length c1), pl 3 (.int .i64 odd1), pl 4 (.int .i64 n2), pl 5 (.int .i64 k4), pl 6 (.int .i64 (w64 (i1 + 1)))] hF hS Fol (by kernel_rfl) (by kernel_rfl) (by kernel_rfl) ?_ (fun a w hF hS => ?_)
              · exact obs_nil
              refine then_n ?_
              rw [← hφ2] at hm
              exact ⟨(k4, (w64 (i1 + 1))), ⟨hF.weak [0, 3, 4, 5, 6] (by kernel_rfl), hS⟩, hm⟩
            · refine wp_block ?_
              refine seq_cut (fun a w => ∃ (k3 : Int), Fr 112 [pl 0 (.slice A1 l1.length c1), pl 3 (.int .i64 odd1), pl 4 (.int .i64 n2), pl 5 (.int .i64 k3), pl 6 (.int .i64 i1)] a ∧ Sep w0 B w (fs) ∧ ((gameroomref_RowCan_J7 l1 n2 i1) k3).bind φ2 = some r) ?_ ?_
              · rintro a w ⟨k3, hF, hS, hm⟩
                unfold gameroomref_RowCan_J7 at hm
                obtain ⟨hp2, hm⟩ := asrt_b hm
                refine reg [⟨true, [], vS (Instr.indexAt 22 (.slice A1 l1.length c1) (.int .i64 i1)), .pointer (some (sAddrK A1 2 i1))⟩, ⟨false, [], vS (Instr.loadAt 3 (.pointer (some (Addr.add (sAddrK A1 2 i1) 1)))), .int .i64 ((getd ((0, 0) : (Int × Int)) l1 i1).2)⟩] [none, none, some (.pointer (some (sAddrK A1 2 i1))), none, some (.int .i64 ((getd ((0, 0) : (Int × Int)) l1 i1).2)), none, none] [0, 3, 4, 5, 6, 36] [pl 0 (.slice A1 l1.length c1), pl 3 (.int .i64 odd1), pl 4 (.int .i64 n2), pl 5 (.int .i64 k3), pl 6 (.int .i64 i1), pl 36 (.bool (((getd ((0, 0) : (Int × Int)) l1 i1).2) == n2))] hF hS Fol (by kernel_rfl) (by kernel_rfl) (by kernel_rfl) ?_ (fun a w hF hS => ?_)
                · exact obs_cons (ob_ixK (m := l1) encK99 Und22 hi99 hs99 (hr_l1 _ (hS.dropN 0)) rfl (fun _ => hp2)) <| obs_cons (ob_getF (n := l1.length) (m := l1) (j := 1) encK99 ((0, 0) : (Int × Int)) Agg3 (fun _ hS => ⟨_, (hr_l1 _ (hS.dropN 0))⟩) (fun _ hS => rfl) (fun _ => hp2) (by decide) rfl) <| obs_nil
                refine cond_ev (t := 36) (b := (((getd ((0, 0) : (Int × Int)) l1 i1).2) == n2)) hF (by kernel_rfl) (fun hb => ?_) (fun hb => ?_)
                · replace hm := if_t hm hb
                  refine reg1 [] [] [0, 3, 4, 5, 6] [pl 0 (.slice A1 l1.length c1), pl 3 (.int .i64 odd1), pl 4 (.int .i64 n2), pl 5 (.int .i64 (w64 (k3 + 1))), pl 6 (.int .i64 i1)] hF hS Fol (by kernel_rfl) (by kernel_rfl) (by kernel_rfl) ?_ (fun a w hF hS => ?_)
                  · exact obs_nil
                  refine block_n ?_
                  refine then_n ?_
                  exact ⟨(w64 (k3 + 1)), hF.weak [0, 3, 4, 5, 6] (by kernel_rfl), hS, hm⟩
                · replace hm := if_f hm hb
                  refine wp_skip ?_
                  refine block_n ?_
                  refine then_n ?_
                  exact ⟨k3, hF.weak [0, 3, 4, 5, 6] (by kernel_rfl), hS, hm⟩
              · obtain ⟨hp1, hm⟩ := asrt_b hm
                refine reg [⟨true, [], vS (Instr.indexAt 22 (.slice A1 l1.length c1) (.int .i64 i1)), .pointer (some (sAddrK A1 2 i1))⟩, ⟨false, [], vS (Instr.loadAt 3 (.pointer (some (Addr.add (sAddrK A1 2 i1) 0)))), .int .i64 ((getd ((0, 0) : (Int × Int)) l1 i1).1)⟩] [none, none, some (.pointer (some (sAddrK A1 2 i1))), none, some (.int .i64 ((getd ((0, 0) : (Int × Int)) l1 i1).1)), none, none] [0, 3, 4, 5, 6, 27] [pl 0 (.slice A1 l1.length c1), pl 3 (.int .i64 odd1), pl 4 (.int .i64 n2), pl 5 (.int .i64 k1), pl 6 (.int .i64 i1), pl 27 (.bool (((getd ((0, 0) : (Int × Int)) l1 i1).1) == n2))] hF hS Fol (by kernel_rfl) (by kernel_rfl) (by kernel_rfl) ?_ (fun a w hF hS => ?_)
                · exact obs_cons (ob_ixK (m := l1) encK99 Und22 hi99 hs99 (hr_l1 _ (hS.dropN 0)) rfl (fun _ => hp1)) <| obs_cons (ob_getF (n := l1.length) (m := l1) (j := 0) encK99 ((0, 0) : (Int × Int)) Agg3 (fun _ hS => ⟨_, (hr_l1 _ (hS.dropN 0))⟩) (fun _ hS => rfl) (fun _ => hp1) (by decide) rfl) <| obs_nil
                refine cond_ev (t := 27) (b := (((getd ((0, 0) : (Int × Int)) l1 i1).1) == n2)) hF (by kernel_rfl) (fun hb => ?_) (fun hb => ?_)
                · replace hm := if_t hm hb
                  refine reg1 [] [] [0, 3, 4, 5, 6] [pl 0 (.slice A1 l1.length c1), pl 3 (.int .i64 odd1), pl 4 (.int .i64 n2), pl 5 (.int .i64 (w64 (k1 + 1))), pl 6 (.int .i64 i1)] hF hS Fol (by kernel_rfl) (by kernel_rfl) (by kernel_rfl) ?_ (fun a w hF hS => ?_)
                  · exact obs_nil
                  refine then_n ?_
                  exact ⟨(w64 (k1 + 1)), hF.weak [0, 3, 4, 5, 6] (by kernel_rfl), hS, hm⟩
                · replace hm := if_f hm hb
                  refine wp_skip ?_
                  refine then_n ?_
                  exact ⟨k1, hF.weak [0, 3, 4, 5, 6] (by kernel_rfl), hS, hm⟩
          · refine reg [] [] [0, 3, 4, 5, 6, 18] [pl 0 (.slice A1 l1.length c1), pl 3 (.int .i64 odd1), pl 4 (.int .i64 n2), pl 5 (.int .i64 k1), pl 6 (.int .i64 i1), pl 18 (.bool (decide (i1 < (l1.length : Int))))] hF hS Fol (by kernel_rfl) (by kernel_rfl) (by kernel_rfl) ?_ (fun a w hF hS => ?_)
            · exact obs_nil
            refine cond_ev (t := 18) (b := decide (i1 < (l1.length : Int))) hF (by kernel_rfl) (fun hb => ?_) (fun hb => ?_)
            · replace hm := if_t hm hb
              refine wp_skip ?_
              refine then_n ?_
              exact ⟨hF.weak [0, 3, 4, 5, 6] (by kernel_rfl), hS, hm⟩
            · replace hm := if_f hm hb
              refine wp_exit ?_
              refine then_e (then_e (block_e (then_n ?_)))
              rw [← hφ2] at hm
              replace hm := done_b hm
              unfold gameroomref_RowCan_K2 at hm
              try dsimp only at hm
              have hm : ((gameroomref_RowCan_J4 odd1 n2) k1).bind φ1 = some r := hm
              exact ⟨k1, hF.weak [0, 3, 4, 5] (by kernel_rfl), hS, hm⟩
    · refine reg [] [] [0, 3, 4, 12] [pl 0 (.slice A1 l1.length c1), pl 3 (.int .i64 odd1), pl 4 (.int .i64 n2), pl 12 (.bool (decide (n2 ≤ 9)))] hF hS Fol (by kernel_rfl) (by kernel_rfl) (by kernel_rfl) ?_ (fun a w hF hS => ?_)
      · exact obs_nil
      refine cond_ev (t := 12) (b := decide (n2 ≤ 9)) hF (by kernel_rfl) (fun hb => ?_) (fun hb => ?_)
      · replace hm := if_t hm hb
        refine wp_skip ?_
        refine then_n ?_
        exact ⟨hF.weak [0, 3, 4] (by kernel_rfl), hS, hm⟩
      · replace hm := if_f hm hb
        refine wp_exit ?_
        refine then_e (then_e (block_e (then_n ?_)))
        rw [← hφ1] at hm
        replace hm := done_b hm
        unfold gameroomref_RowCan_K1 at hm
        try dsimp only at hm
        have hm : ((gameroomref_RowCan_J1 l1) odd1).bind some = some r := hm
        exact ⟨odd1, hF.weak [0, 3] (by kernel_rfl), hS, hm⟩

noncomputable def gameroomref_RowIs_J3 (i1 : Int) : Option (St Int (Fl Unit Bool)) :=
  some (.next (w64 (i1 + 1)))

noncomputable def gameroomref_RowIs_J2 (l1 : List (Int × Int)) (i1 : Int) : Option (St Int (Fl Unit Bool)) :=
  asrt (0 ≤ (w64 (i1 - 1)) ∧ (w64 (i1 - 1)) < (l1.length : Int)) <| asrt (0 ≤ i1 ∧ i1 < (l1.length : Int)) <| if (((getd ((0, 0) : (Int × Int)) l1 (w64 (i1 - 1))).2) != ((getd ((0, 0) : (Int × Int)) l1 i1).1)) then (some (.done (.ret false))) else ((gameroomref_RowIs_J3 i1))

noncomputable def gameroomref_RowIs_J1 : Option Bool :=
  some true

noncomputable def gameroomref_RowIs_K1 : (Fl Unit Bool) → Option Bool :=
  fun (x : (Fl Unit Bool)) => match x with | .go _ => gameroomref_RowIs_J1 | .ret x => some x

noncomputable def gameroomref_RowIs_L1 (l1 : List (Int × Int)) : Int → Option (St Int (Fl Unit Bool)) :=
  fun (x : Int) => match x with | i1 => if (decide (i1 < (l1.length : Int))) then ((gameroomref_RowIs_J2 l1 i1)) else (some (.done (.go ())))

noncomputable def gameroomref_RowIs_m (l1 : List (Int × Int)) : Option Bool :=
  (loop (gameroomref_RowIs_L1 l1) 1).bind gameroomref_RowIs_K1

set_option maxRecDepth 100000 in
set_option maxHeartbeats 4000000 in
theorem gameroomref_RowIs_w {A1 : Option Addr} {c1 : Nat} {n1 : Nat} {l1 : List (Int × Int)} {r : Bool} {w0 w : World} {B : Nat} {fs : List HP} (hm : gameroomref_RowIs_m l1 = some r) (hS : Sep w0 B w (fs)) (hr_l1 : RdF w0 B fs A1 ((List.flatMap enc99 l1))) (_hc_l1 : l1.length ≤ c1) (_hn_l1 : n1 = l1.length) :
    Calls Try.prog 19 #[.slice A1 n1 c1] w fun e w' => e = .returned (.bool r) ∧ Sep w0 B w' (fs) := by
  obtain ⟨i99, hi99, hz99, hs99, hb99⟩ := info_parts Info99
  obtain rfl := _hn_l1
  unfold gameroomref_RowIs_m at hm
  replace hm := start_b hm
  refine enter (l := [.slice A1 l1.length c1]) (n := 22) Try.func19 rfl rfl (by simp) (fun a hF => ?_)
  refine reg [] [] [0] [pl 0 (.slice A1 l1.length c1)] hF hS Fol (by kernel_rfl) (by kernel_rfl) (by kernel_rfl) ?_ (fun a w hF hS => ?_)
  · exact obs_nil
  refine seq_cut (fun a w => Fr 22 [] a ∧ Sep w0 B w (fs) ∧ (gameroomref_RowIs_J1).bind some = some r) ?_ ?_
  · rintro a w ⟨hF, hS, hm⟩
    unfold gameroomref_RowIs_J1 at hm
    refine reg [] [] [2] [pl 2 (.bool true)] hF hS Fol (by kernel_rfl) (by kernel_rfl) (by kernel_rfl) ?_ (fun a w hF hS => ?_)
    · exact obs_nil
    refine wp_ret ?_
    have hm : some true = some r := hm
    obtain rfl := Option.some.inj hm
    exact retV (rs := [.tmp 2]) (vs := [.bool true]) hF rfl (rv_t (by kernel_rfl) <| rv_nil) rfl ⟨rfl, hS⟩
  · refine reg [] [] [0, 3] [pl 0 (.slice A1 l1.length c1), pl 3 (.int .i64 1)] hF hS Fol (by kernel_rfl) (by kernel_rfl) (by kernel_rfl) ?_ (fun a w hF hS => ?_)
    · exact obs_nil
    refine wp_block ?_
    refine wp_loop_model (S := Int) (R := (Fl Unit Bool)) (gameroomref_RowIs_L1 l1) (fun x => (gameroomref_RowIs_K1 x).bind some) r (fun (x : Int) a w => Fr 22 [pl 0 (.slice A1 l1.length c1), pl 3 (.int .i64 x)] a ∧ Sep w0 B w (fs)) (assoc_b hm) ⟨hF.weak [0, 3] (by kernel_rfl), hS⟩ ?_
    clear hF hS hm
    rintro nn1 i1 a w ⟨hF, hS⟩ hm
    generalize hφ1 : stK (gameroomref_RowIs_L1 l1) nn1 (fun x => (gameroomref_RowIs_K1 x).bind some) = φ1 at hm
    unfold gameroomref_RowIs_L1 at hm
    dsimp only at hm
    refine seq_cut (fun a w => Fr 22 [pl 0 (.slice A1 l1.length c1), pl 3 (.int .i64 i1)] a ∧ Sep w0 B w (fs) ∧ ((gameroomref_RowIs_J2 l1 i1)).bind φ1 = some r) ?_ ?_
    · rintro a w ⟨hF, hS, hm⟩
      unfold gameroomref_RowIs_J2 at hm
      refine seq_cut (fun a w => Fr 22 [pl 0 (.slice A1 l1.length c1), pl 3 (.int .i64 i1)] a ∧ Sep w0 B w (fs) ∧ ((gameroomref_RowIs_J3 i1)).bind φ1 = some r) ?_ ?_
      · rintro a w ⟨hF, hS, hm⟩
        unfold gameroomref_RowIs_J3 at hm
        refine reg1 [] [] [0, 3] [pl 0 (.slice A1 l1.length c1), pl 3 (.int .i64 (w64 (i1 + 1)))] hF hS Fol (by kernel_rfl) (by kernel_rfl) (by kernel_rfl) ?_ (fun a w hF hS => ?_)
        · exact obs_nil
        refine then_n ?_
        rw [← hφ1] at hm
        exact ⟨(w64 (i1 + 1)), ⟨hF.weak [0, 3] (by kernel_rfl), hS⟩, hm⟩
      · refine wp_block ?_
        obtain ⟨hp1, hm⟩ := asrt_b hm
        obtain ⟨hp2, hm⟩ := asrt_b hm
        refine reg [⟨true, [], vS (Instr.indexAt 22 (.slice A1 l1.length c1) (.int .i64 (w64 (i1 - 1)))), .pointer (some (sAddrK A1 2 (w64 (i1 - 1))))⟩, ⟨false, [], vS (Instr.loadAt 3 (.pointer (some (Addr.add (sAddrK A1 2 (w64 (i1 - 1))) 1)))), .int .i64 ((getd ((0, 0) : (Int × Int)) l1 (w64 (i1 - 1))).2)⟩, ⟨true, [], vS (Instr.indexAt 22 (.slice A1 l1.length c1) (.int .i64 i1)), .pointer (some (sAddrK A1 2 i1))⟩, ⟨false, [], vS (Instr.loadAt 3 (.pointer (some (Addr.add (sAddrK A1 2 i1) 0)))), .int .i64 ((getd ((0, 0) : (Int × Int)) l1 i1).1)⟩] [none, none, none, some (.pointer (some (sAddrK A1 2 (w64 (i1 - 1))))), none, some (.int .i64 ((getd ((0, 0) : (Int × Int)) l1 (w64 (i1 - 1))).2)), none, none, some (.pointer (some (sAddrK A1 2 i1))), none, some (.int .i64 ((getd ((0, 0) : (Int × Int)) l1 i1).1)), none] [0, 3, 21] [pl 0 (.slice A1 l1.length c1), pl 3 (.int .i64 i1), pl 21 (.bool (((getd ((0, 0) : (Int × Int)) l1 (w64 (i1 - 1))).2) != ((getd ((0, 0) : (Int × Int)) l1 i1).1)))] hF hS Fol (by kernel_rfl) (by kernel_rfl) (by kernel_rfl) ?_ (fun a w hF hS => ?_)
        · exact obs_cons (ob_ixK (m := l1) encK99 Und22 hi99 hs99 (hr_l1 _ (hS.dropN 0)) rfl (fun _ => hp1)) <| obs_cons (ob_getF (n := l1.length) (m := l1) (j := 1) encK99 ((0, 0) : (Int × Int)) Agg3 (fun _ hS => ⟨_, (hr_l1 _ (hS.dropN 0))⟩) (fun _ hS => rfl) (fun _ => hp1) (by decide) rfl) <| obs_cons (ob_ixK (m := l1) encK99 Und22 hi99 hs99 (hr_l1 _ (hS.dropN 0)) rfl (fun _ => hp2)) <| obs_cons (ob_getF (n := l1.length) (m := l1) (j := 0) encK99 ((0, 0) : (Int × Int)) Agg3 (fun _ hS => ⟨_, (hr_l1 _ (hS.dropN 0))⟩) (fun _ hS => rfl) (fun _ => hp2) (by decide) rfl) <| obs_nil
        refine cond_ev (t := 21) (b := (((getd ((0, 0) : (Int × Int)) l1 (w64 (i1 - 1))).2) != ((getd ((0, 0) : (Int × Int)) l1 i1).1))) hF (by kernel_rfl) (fun hb => ?_) (fun hb => ?_)
        · replace hm := if_t hm hb
          refine reg [] [] [2] [pl 2 (.bool false)] hF hS Fol (by kernel_rfl) (by kernel_rfl) (by kernel_rfl) ?_ (fun a w hF hS => ?_)
          · exact obs_nil
          refine wp_ret ?_
          refine block_r (then_r (then_r (block_r (then_r ?_))))
          rw [← hφ1] at hm
          replace hm := done_b hm
          unfold gameroomref_RowIs_K1 at hm
          try dsimp only at hm
          have hm : some false = some r := hm
          obtain rfl := Option.some.inj hm
          exact retV (rs := [.tmp 2]) (vs := [.bool false]) hF rfl (rv_t (by kernel_rfl) <| rv_nil) rfl ⟨rfl, hS⟩
        · replace hm := if_f hm hb
          refine wp_skip ?_
          refine block_n ?_
          refine then_n ?_
          exact ⟨hF.weak [0, 3] (by kernel_rfl), hS, hm⟩
    · refine reg [] [] [0, 3, 7] [pl 0 (.slice A1 l1.length c1), pl 3 (.int .i64 i1), pl 7 (.bool (decide (i1 < (l1.length : Int))))] hF hS Fol (by kernel_rfl) (by kernel_rfl) (by kernel_rfl) ?_ (fun a w hF hS => ?_)
      · exact obs_nil
      refine cond_ev (t := 7) (b := decide (i1 < (l1.length : Int))) hF (by kernel_rfl) (fun hb => ?_) (fun hb => ?_)
      · replace hm := if_t hm hb
        refine wp_skip ?_
        refine then_n ?_
        exact ⟨hF.weak [0, 3] (by kernel_rfl), hS, hm⟩
      · replace hm := if_f hm hb
        refine wp_exit ?_
        refine then_e (then_e (block_e (then_n ?_)))
        rw [← hφ1] at hm
        replace hm := done_b hm
        unfold gameroomref_RowIs_K1 at hm
        try dsimp only at hm
        have hm : (gameroomref_RowIs_J1).bind some = some r := hm
        exact ⟨hF.weak [] (by kernel_rfl), hS, hm⟩

noncomputable def gameroomref_SamePieces_J7 (k1 : Int) (used4 : List Bool) (found3 : Bool) : Option (St (List Bool × Bool × Int) (List Bool × Bool)) :=
  some (.next (used4, found3, (w64 (k1 + 1))))

noncomputable def gameroomref_SamePieces_J6 (a1 : List (Int × Int)) (b1 : List (Int × Int)) (i1 : Int) (used2 : List Bool) (found1 : Bool) (k1 : Int) : Option (St (List Bool × Bool × Int) (List Bool × Bool)) :=
  asrt (0 ≤ k1 ∧ k1 < (((Int.toNat (b1.length : Int)) : Nat) : Int)) <| asrt ((!(getb used2 k1)) = true → 0 ≤ i1 ∧ i1 < (a1.length : Int)) <| asrt ((!(getb used2 k1)) = true → 0 ≤ k1 ∧ k1 < (b1.length : Int)) <| asrt (((((getd ((0, 0) : (Int × Int)) a1 i1).1) == ((getd ((0, 0) : (Int × Int)) b1 k1).1)) && (((getd ((0, 0) : (Int × Int)) a1 i1).2) == ((getd ((0, 0) : (Int × Int)) b1 k1).2))) = false → (!(getb used2 k1)) = true → 0 ≤ i1 ∧ i1 < (a1.length : Int)) <| asrt (((((getd ((0, 0) : (Int × Int)) a1 i1).1) == ((getd ((0, 0) : (Int × Int)) b1 k1).1)) && (((getd ((0, 0) : (Int × Int)) a1 i1).2) == ((getd ((0, 0) : (Int × Int)) b1 k1).2))) = false → (!(getb used2 k1)) = true → 0 ≤ k1 ∧ k1 < (b1.length : Int)) <| asrt ((((getd ((0, 0) : (Int × Int)) a1 i1).1) == ((getd ((0, 0) : (Int × Int)) b1 k1).2)) = true → ((((getd ((0, 0) : (Int × Int)) a1 i1).1) == ((getd ((0, 0) : (Int × Int)) b1 k1).1)) && (((getd ((0, 0) : (Int × Int)) a1 i1).2) == ((getd ((0, 0) : (Int × Int)) b1 k1).2))) = false → (!(getb used2 k1)) = true → 0 ≤ i1 ∧ i1 < (a1.length : Int)) <| asrt ((((getd ((0, 0) : (Int × Int)) a1 i1).1) == ((getd ((0, 0) : (Int × Int)) b1 k1).2)) = true → ((((getd ((0, 0) : (Int × Int)) a1 i1).1) == ((getd ((0, 0) : (Int × Int)) b1 k1).1)) && (((getd ((0, 0) : (Int × Int)) a1 i1).2) == ((getd ((0, 0) : (Int × Int)) b1 k1).2))) = false → (!(getb used2 k1)) = true → 0 ≤ k1 ∧ k1 < (b1.length : Int)) <| if ((!(getb used2 k1)) && (((((getd ((0, 0) : (Int × Int)) a1 i1).1) == ((getd ((0, 0) : (Int × Int)) b1 k1).1)) && (((getd ((0, 0) : (Int × Int)) a1 i1).2) == ((getd ((0, 0) : (Int × Int)) b1 k1).2))) || ((((getd ((0, 0) : (Int × Int)) a1 i1).1) == ((getd ((0, 0) : (Int × Int)) b1 k1).2)) && (((getd ((0, 0) : (Int × Int)) a1 i1).2) == ((getd ((0, 0) : (Int × Int)) b1 k1).1))))) then (asrt (0 ≤ k1 ∧ k1 < (((Int.toNat (b1.length : Int)) : Nat) : Int)) <| (gameroomref_SamePieces_J7 k1) (used2.set (Int.toNat k1) true) true) else ((gameroomref_SamePieces_J7 k1) used2 found1)

noncomputable def gameroomref_SamePieces_J4 (i1 : Int) (used5 : List Bool) : Option (St (List Bool × Int) (Fl Unit Bool)) :=
  some (.next (used5, (w64 (i1 + 1))))

noncomputable def gameroomref_SamePieces_J5 (i1 : Int) (used3 : List Bool) (found2 : Bool) : Option (St (List Bool × Int) (Fl Unit Bool)) :=
  if (!found2) then (some (.done (.ret false))) else ((gameroomref_SamePieces_J4 i1) used3)

noncomputable def gameroomref_SamePieces_K2 (i1 : Int) : (List Bool × Bool) → Option (St (List Bool × Int) (Fl Unit Bool)) :=
  fun (x : (List Bool × Bool)) => match x with | (used3, found2) => (gameroomref_SamePieces_J5 i1) used3 found2

noncomputable def gameroomref_SamePieces_L2 (a1 : List (Int × Int)) (b1 : List (Int × Int)) (i1 : Int) : (List Bool × Bool × Int) → Option (St (List Bool × Bool × Int) (List Bool × Bool)) :=
  fun (x : (List Bool × Bool × Int)) => match x with | (used2, found1, k1) => if ((decide (k1 < (b1.length : Int))) && (!found1)) then ((gameroomref_SamePieces_J6 a1 b1 i1 used2 found1 k1)) else (some (.done (used2, found1)))

noncomputable def gameroomref_SamePieces_J3 (a1 : List (Int × Int)) (b1 : List (Int × Int)) (used1 : List Bool) (i1 : Int) : Option (St (List Bool × Int) (Fl Unit Bool)) :=
  (loop (gameroomref_SamePieces_L2 a1 b1 i1) (used1, false, 0)).bind (gameroomref_SamePieces_K2 i1)

noncomputable def gameroomref_SamePieces_J2 : Option Bool :=
  some true

noncomputable def gameroomref_SamePieces_K1 : (Fl Unit Bool) → Option Bool :=
  fun (x : (Fl Unit Bool)) => match x with | .go _ => gameroomref_SamePieces_J2 | .ret x => some x

noncomputable def gameroomref_SamePieces_L1 (a1 : List (Int × Int)) (b1 : List (Int × Int)) : (List Bool × Int) → Option (St (List Bool × Int) (Fl Unit Bool)) :=
  fun (x : (List Bool × Int)) => match x with | (used1, i1) => if (decide (i1 < (a1.length : Int))) then ((gameroomref_SamePieces_J3 a1 b1 used1 i1)) else (some (.done (.go ())))

noncomputable def gameroomref_SamePieces_J1 (a1 : List (Int × Int)) (b1 : List (Int × Int)) : Option Bool :=
  asrt ((0 : Int) ≤ (b1.length : Int) ∧ (b1.length : Int) ≤ bigN) <| (loop (gameroomref_SamePieces_L1 a1 b1) ((List.replicate (Int.toNat (b1.length : Int)) false), 0)).bind gameroomref_SamePieces_K1

noncomputable def gameroomref_SamePieces_m (a1 : List (Int × Int)) (b1 : List (Int × Int)) : Option Bool :=
  if ((a1.length : Int) != (b1.length : Int)) then (some false) else ((gameroomref_SamePieces_J1 a1 b1))

set_option maxRecDepth 100000 in
set_option maxHeartbeats 4000000 in
theorem gameroomref_SamePieces_w {A1 : Option Addr} {c1 : Nat} {n1 : Nat} {a1 : List (Int × Int)} {A2 : Option Addr} {c2 : Nat} {n2 : Nat} {b1 : List (Int × Int)} {r : Bool} {w0 w : World} {B : Nat} {fs : List HP} (hm : gameroomref_SamePieces_m a1 b1 = some r) (hS : Sep w0 B w (fs)) (hr_a1 : RdF w0 B fs A1 ((List.flatMap enc99 a1))) (_hc_a1 : a1.length ≤ c1) (_hn_a1 : n1 = a1.length) (hr_b1 : RdF w0 B fs A2 ((List.flatMap enc99 b1))) (_hc_b1 : b1.length ≤ c2) (_hn_b1 : n2 = b1.length) :
    Calls Try.prog 20 #[.slice A1 n1 c1, .slice A2 n2 c2] w fun e w' => e = .returned (.bool r) ∧ Sep w0 B w' (fs) := by
  obtain ⟨i4, hi4, hz4, hs4, hb4⟩ := info_parts Info4
  obtain ⟨i99, hi99, hz99, hs99, hb99⟩ := info_parts Info99
  obtain rfl := _hn_a1
  obtain rfl := _hn_b1
  unfold gameroomref_SamePieces_m at hm
  replace hm := start_b hm
  refine enter (l := [.slice A1 a1.length c1, .slice A2 b1.length c2]) (n := 80) Try.func20 rfl rfl (by simp) (fun a hF => ?_)
  refine reg [] [] [0, 1] [pl 0 (.slice A1 a1.length c1), pl 1 (.slice A2 b1.length c2)] hF hS Fol (by kernel_rfl) (by kernel_rfl) (by kernel_rfl) ?_ (fun a w hF hS => ?_)
  · exact obs_nil
  refine seq_cut (fun a w => Fr 80 [pl 0 (.slice A1 a1.length c1), pl 1 (.slice A2 b1.length c2)] a ∧ Sep w0 B w (fs) ∧ ((gameroomref_SamePieces_J1 a1 b1)).bind some = some r) ?_ ?_
  · rintro a w ⟨hF, hS, hm⟩
    unfold gameroomref_SamePieces_J1 at hm
    refine seqR ?_
    obtain ⟨hp1, hm⟩ := asrt_b hm
    refine at_run 2 [] [] [0, 1, 15] [pl 0 (.slice A1 a1.length c1), pl 1 (.slice A2 b1.length c2), pl 15 (.int .i64 (b1.length : Int))] hF hS (by kernel_rfl) (by kernel_rfl) ?_ (fun a w hF hS => ?_)
    · exact obs_nil
    obtain ⟨A3, c3, w, hrun, hS⟩ := run_mk1 (P := Try.prog) (t := 119) Value.bool false hS .i64 .i64 Und119 hi4 hz4 hs4 (by omega) rfl hp1
    have hS : Sep w0 B w (own 4 (.slice A3 (Int.toNat (b1.length : Int)) c3) (vB (List.replicate (Int.toNat (b1.length : Int)) false)) :: fs) := hS
    refine at_do (d := 16) hF (by kernel_rfl) (by kernel_rfl) hrun (fun a hF => ?_)
    refine at_run 1 [] [] [0, 1, 5] [pl 0 (.slice A1 a1.length c1), pl 1 (.slice A2 b1.length c2), pl 5 (.slice A3 (Int.toNat (b1.length : Int)) c3)] hF hS (by kernel_rfl) (by kernel_rfl) ?_ (fun a w hF hS => ?_)
    · exact obs_nil
    refine at_end [0, 1, 5] [pl 0 (.slice A1 a1.length c1), pl 1 (.slice A2 b1.length c2), pl 5 (.slice A3 (Int.toNat (b1.length : Int)) c3)] hF rfl (by kernel_rfl) (fun hF => ?_)
    refine then_n ?_
    refine seq_cut (fun a w => Fr 80 [] a ∧ Sep w0 B w (fs) ∧ (gameroomref_SamePieces_J2).bind some = some r) ?_ ?_
    · rintro a w ⟨hF, hS, hm⟩
      unfold gameroomref_SamePieces_J2 at hm
      refine reg [] [] [4] [pl 4 (.bool true)] hF hS Fol (by kernel_rfl) (by kernel_rfl) (by kernel_rfl) ?_ (fun a w hF hS => ?_)
      · exact obs_nil
      refine wp_ret ?_
      have hm : some true = some r := hm
      obtain rfl := Option.some.inj hm
      exact retV (rs := [.tmp 4]) (vs := [.bool true]) hF rfl (rv_t (by kernel_rfl) <| rv_nil) rfl ⟨rfl, hS⟩
    · refine reg [] [] [0, 1, 5, 6] [pl 0 (.slice A1 a1.length c1), pl 1 (.slice A2 b1.length c2), pl 5 (.slice A3 (Int.toNat (b1.length : Int)) c3), pl 6 (.int .i64 0)] hF hS Fol (by kernel_rfl) (by kernel_rfl) (by kernel_rfl) ?_ (fun a w hF hS => ?_)
      · exact obs_nil
      refine wp_block ?_
      refine wp_loop_model (S := (List Bool × Int)) (R := (Fl Unit Bool)) (gameroomref_SamePieces_L1 a1 b1) (fun x => (gameroomref_SamePieces_K1 x).bind some) r (fun (x : (List Bool × Int)) a w => Fr 80 [pl 0 (.slice A1 a1.length c1), pl 1 (.slice A2 b1.length c2), pl 5 (.slice A3 (Int.toNat (b1.length : Int)) c3), pl 6 (.int .i64 x.2)] a ∧ Sep w0 B w (own 4 (.slice A3 (Int.toNat (b1.length : Int)) c3) (vB x.1) :: fs)) (assoc_b hm) ⟨hF.weak [0, 1, 5, 6] (by kernel_rfl), hS⟩ ?_
      clear hF hS hm
      rintro nn1 ⟨used1, i1⟩ a w ⟨hF, hS⟩ hm
      generalize hφ1 : stK (gameroomref_SamePieces_L1 a1 b1) nn1 (fun x => (gameroomref_SamePieces_K1 x).bind some) = φ1 at hm
      unfold gameroomref_SamePieces_L1 at hm
      dsimp only at hF hS hm
      refine seq_cut (fun a w => Fr 80 [pl 0 (.slice A1 a1.length c1), pl 1 (.slice A2 b1.length c2), pl 5 (.slice A3 (Int.toNat (b1.length : Int)) c3), pl 6 (.int .i64 i1)] a ∧ Sep w0 B w (own 4 (.slice A3 (Int.toNat (b1.length : Int)) c3) (vB used1) :: fs) ∧ ((gameroomref_SamePieces_J3 a1 b1 used1 i1)).bind φ1 = some r) ?_ ?_
      · rintro a w ⟨hF, hS, hm⟩
        unfold gameroomref_SamePieces_J3 at hm
        refine seq_cut (fun a w => ∃ (used5 : List Bool), Fr 80 [pl 0 (.slice A1 a1.length c1), pl 1 (.slice A2 b1.length c2), pl 5 (.slice A3 (Int.toNat (b1.length : Int)) c3), pl 6 (.int .i64 i1)] a ∧ Sep w0 B w (own 4 (.slice A3 (Int.toNat (b1.length : Int)) c3) (vB used5) :: fs) ∧ ((gameroomref_SamePieces_J4 i1) used5).bind φ1 = some r) ?_ ?_
        · rintro a w ⟨used5, hF, hS, hm⟩
          unfold gameroomref_SamePieces_J4 at hm
          refine reg1 [] [] [0, 1, 5, 6] [pl 0 (.slice A1 a1.length c1), pl 1 (.slice A2 b1.length c2), pl 5 (.slice A3 (Int.toNat (b1.length : Int)) c3), pl 6 (.int .i64 (w64 (i1 + 1)))] hF hS Fol (by kernel_rfl) (by kernel_rfl) (by kernel_rfl) ?_ (fun a w hF hS => ?_)
          · exact obs_nil
          refine then_n ?_
          rw [← hφ1] at hm
          exact ⟨(used5, (w64 (i1 + 1))), ⟨hF.weak [0, 1, 5, 6] (by kernel_rfl), hS⟩, hm⟩
        · refine wp_block ?_
          refine reg [] [] [0, 1, 5, 6, 7] [pl 0 (.slice A1 a1.length c1), pl 1 (.slice A2 b1.length c2), pl 5 (.slice A3 (Int.toNat (b1.length : Int)) c3), pl 6 (.int .i64 i1), pl 7 (.bool false)] hF hS Fol (by kernel_rfl) (by kernel_rfl) (by kernel_rfl) ?_ (fun a w hF hS => ?_)
          · exact obs_nil
          refine seq_cut (fun a w => ∃ (used3 : List Bool) (found2 : Bool), Fr 80 [pl 0 (.slice A1 a1.length c1), pl 1 (.slice A2 b1.length c2), pl 5 (.slice A3 (Int.toNat (b1.length : Int)) c3), pl 6 (.int .i64 i1), pl 7 (.bool found2)] a ∧ Sep w0 B w (own 4 (.slice A3 (Int.toNat (b1.length : Int)) c3) (vB used3) :: fs) ∧ ((gameroomref_SamePieces_J5 i1) used3 found2).bind φ1 = some r) ?_ ?_
          · rintro a w ⟨used3, found2, hF, hS, hm⟩
            unfold gameroomref_SamePieces_J5 at hm
            refine reg [] [] [0, 1, 5, 6, 79] [pl 0 (.slice A1 a1.length c1), pl 1 (.slice A2 b1.length c2), pl 5 (.slice A3 (Int.toNat (b1.length : Int)) c3), pl 6 (.int .i64 i1), pl 79 (.bool (!found2))] hF hS Fol (by kernel_rfl) (by kernel_rfl) (by kernel_rfl) ?_ (fun a w hF hS => ?_)
            · exact obs_nil
            refine cond_ev (t := 79) (b := !found2) hF (by kernel_rfl) (fun hb => ?_) (fun hb => ?_)
            · replace hm := if_t hm hb
              refine reg [] [] [4] [pl 4 (.bool false)] hF hS Fol (by kernel_rfl) (by kernel_rfl) (by kernel_rfl) ?_ (fun a w hF hS => ?_)
              · exact obs_nil
              refine wp_ret ?_
              refine block_r (then_r (then_r (block_r (then_r ?_))))
              rw [← hφ1] at hm
              replace hm := done_b hm
              unfold gameroomref_SamePieces_K1 at hm
              try dsimp only at hm
              have hS := hS.pickN 1 [] (by decide)
              have hm : some false = some r := hm
              obtain rfl := Option.some.inj hm
              exact retV (rs := [.tmp 4]) (vs := [.bool false]) hF rfl (rv_t (by kernel_rfl) <| rv_nil) rfl ⟨rfl, hS⟩
            · replace hm := if_f hm hb
              refine wp_skip ?_
              refine block_n ?_
              refine then_n ?_
              exact ⟨used3, hF.weak [0, 1, 5, 6] (by kernel_rfl), hS, hm⟩
          · refine reg [] [] [0, 1, 5, 6, 7, 8] [pl 0 (.slice A1 a1.length c1), pl 1 (.slice A2 b1.length c2), pl 5 (.slice A3 (Int.toNat (b1.length : Int)) c3), pl 6 (.int .i64 i1), pl 7 (.bool false), pl 8 (.int .i64 0)] hF hS Fol (by kernel_rfl) (by kernel_rfl) (by kernel_rfl) ?_ (fun a w hF hS => ?_)
            · exact obs_nil
            refine wp_block ?_
            refine wp_loop_model (S := (List Bool × Bool × Int)) (R := (List Bool × Bool)) (gameroomref_SamePieces_L2 a1 b1 i1) (fun x => ((gameroomref_SamePieces_K2 i1) x).bind φ1) r (fun (x : (List Bool × Bool × Int)) a w => Fr 80 [pl 0 (.slice A1 a1.length c1), pl 1 (.slice A2 b1.length c2), pl 5 (.slice A3 (Int.toNat (b1.length : Int)) c3), pl 6 (.int .i64 i1), pl 7 (.bool x.2.1), pl 8 (.int .i64 x.2.2)] a ∧ Sep w0 B w (own 4 (.slice A3 (Int.toNat (b1.length : Int)) c3) (vB x.1) :: fs)) (assoc_b hm) ⟨hF.weak [0, 1, 5, 6, 7, 8] (by kernel_rfl), hS⟩ ?_
            clear hF hS hm
            rintro nn2 ⟨used2, found1, k1⟩ a w ⟨hF, hS⟩ hm
            generalize hφ2 : stK (gameroomref_SamePieces_L2 a1 b1 i1) nn2 (fun x => ((gameroomref_SamePieces_K2 i1) x).bind φ1) = φ2 at hm
            unfold gameroomref_SamePieces_L2 at hm
            dsimp only at hF hS hm
            refine seq_cut (fun a w => Fr 80 [pl 0 (.slice A1 a1.length c1), pl 1 (.slice A2 b1.length c2), pl 5 (.slice A3 (Int.toNat (b1.length : Int)) c3), pl 6 (.int .i64 i1), pl 7 (.bool found1), pl 8 (.int .i64 k1)] a ∧ Sep w0 B w (own 4 (.slice A3 (Int.toNat (b1.length : Int)) c3) (vB used2) :: fs) ∧ ((gameroomref_SamePieces_J6 a1 b1 i1 used2 found1 k1)).bind φ2 = some r) ?_ ?_
            · rintro a w ⟨hF, hS, hm⟩
              unfold gameroomref_SamePieces_J6 at hm
              refine seq_cut (fun a w => ∃ (used4 : List Bool) (found3 : Bool), Fr 80 [pl 0 (.slice A1 a1.length c1), pl 1 (.slice A2 b1.length c2), pl 5 (.slice A3 (Int.toNat (b1.length : Int)) c3), pl 6 (.int .i64 i1), pl 7 (.bool found3), pl 8 (.int .i64 k1)] a ∧ Sep w0 B w (own 4 (.slice A3 (Int.toNat (b1.length : Int)) c3) (vB used4) :: fs) ∧ ((gameroomref_SamePieces_J7 k1) used4 found3).bind φ2 = some r) ?_ ?_
              · rintro a w ⟨used4, found3, hF, hS, hm⟩
                unfold gameroomref_SamePieces_J7 at hm
                refine reg1 [] [] [0, 1, 5, 6, 7, 8] [pl 0 (.slice A1 a1.length c1), pl 1 (.slice A2 b1.length c2), pl 5 (.slice A3 (Int.toNat (b1.length : Int)) c3), pl 6 (.int .i64 i1), pl 7 (.bool found3), pl 8 (.int .i64 (w64 (k1 + 1)))] hF hS Fol (by kernel_rfl) (by kernel_rfl) (by kernel_rfl) ?_ (fun a w hF hS => ?_)
                · exact obs_nil
                refine then_n ?_
                rw [← hφ2] at hm
                exact ⟨(used4, found3, (w64 (k1 + 1))), ⟨hF.weak [0, 1, 5, 6, 7, 8] (by kernel_rfl), hS⟩, hm⟩
              · refine wp_block ?_
                obtain ⟨hp2, hm⟩ := asrt_b hm
                obtain ⟨hp3, hm⟩ := asrt_b hm
                obtain ⟨hp4, hm⟩ := asrt_b hm
                obtain ⟨hp5, hm⟩ := asrt_b hm
                obtain ⟨hp6, hm⟩ := asrt_b hm
                obtain ⟨hp7, hm⟩ := asrt_b hm
                obtain ⟨hp8, hm⟩ := asrt_b hm
                refine reg [⟨true, [], vS (Instr.indexAt 119 (.slice A3 (Int.toNat (b1.length : Int)) c3) (.int .i64 k1)), .pointer (some (sAddr A3 k1))⟩, ⟨false, [], vS (Instr.loadAt 4 (.pointer (some (sAddr A3 k1)))), .bool (getb used2 k1)⟩, ⟨true, [(!(getb used2 k1), true)], vS (Instr.indexAt 22 (.slice A1 a1.length c1) (.int .i64 i1)), .pointer (some (sAddrK A1 2 i1))⟩, ⟨false, [(!(getb used2 k1), true)], vS (Instr.loadAt 99 (.pointer (some (sAddrK A1 2 i1)))), .agg #[.int .i64 ((getd ((0, 0) : (Int × Int)) a1 i1).1), .int .i64 ((getd ((0, 0) : (Int × Int)) a1 i1).2)]⟩, ⟨true, [(!(getb used2 k1), true)], vS (Instr.indexAt 22 (.slice A2 b1.length c2) (.int .i64 k1)), .pointer (some (sAddrK A2 2 k1))⟩, ⟨false, [(!(getb used2 k1), true)], vS (Instr.loadAt 99 (.pointer (some (sAddrK A2 2 k1)))), .agg #[.int .i64 ((getd ((0, 0) : (Int × Int)) b1 k1).1), .int .i64 ((getd ((0, 0) : (Int × Int)) b1 k1).2)]⟩, ⟨true, [(!(getb used2 k1), true)], vS (do eqGuard .eql 99 (.tmp 42) (.tmp 46) (.agg #[.int .i64 ((getd ((0, 0) : (Int × Int)) a1 i1).1), .int .i64 ((getd ((0, 0) : (Int × Int)) a1 i1).2)]) (.agg #[.int .i64 ((getd ((0, 0) : (Int × Int)) b1 k1).1), .int .i64 ((getd ((0, 0) : (Int × Int)) b1 k1).2)]); binOp .eql 99 (.agg #[.int .i64 ((getd ((0, 0) : (Int × Int)) a1 i1).1), .int .i64 ((getd ((0, 0) : (Int × Int)) a1 i1).2)]) (.agg #[.int .i64 ((getd ((0, 0) : (Int × Int)) b1 k1).1), .int .i64 ((getd ((0, 0) : (Int × Int)) b1 k1).2)])), .bool (((((getd ((0, 0) : (Int × Int)) a1 i1).1) == ((getd ((0, 0) : (Int × Int)) b1 k1).1)) && (((getd ((0, 0) : (Int × Int)) a1 i1).2) == ((getd ((0, 0) : (Int × Int)) b1 k1).2))))⟩, ⟨true, [(((((getd ((0, 0) : (Int × Int)) a1 i1).1) == ((getd ((0, 0) : (Int × Int)) b1 k1).1)) && (((getd ((0, 0) : (Int × Int)) a1 i1).2) == ((getd ((0, 0) : (Int × Int)) b1 k1).2))), false), (!(getb used2 k1), true)], vS (Instr.indexAt 22 (.slice A1 a1.length c1) (.int .i64 i1)), .pointer (some (sAddrK A1 2 i1))⟩, ⟨false, [(((((getd ((0, 0) : (Int × Int)) a1 i1).1) == ((getd ((0, 0) : (Int × Int)) b1 k1).1)) && (((getd ((0, 0) : (Int × Int)) a1 i1).2) == ((getd ((0, 0) : (Int × Int)) b1 k1).2))), false), (!(getb used2 k1), true)], vS (Instr.loadAt 3 (.pointer (some (Addr.add (sAddrK A1 2 i1) 0)))), .int .i64 ((getd ((0, 0) : (Int × Int)) a1 i1).1)⟩, ⟨true, [(((((getd ((0, 0) : (Int × Int)) a1 i1).1) == ((getd ((0, 0) : (Int × Int)) b1 k1).1)) && (((getd ((0, 0) : (Int × Int)) a1 i1).2) == ((getd ((0, 0) : (Int × Int)) b1 k1).2))), false), (!(getb used2 k1), true)], vS (Instr.indexAt 22 (.slice A2 b1.length c2) (.int .i64 k1)), .pointer (some (sAddrK A2 2 k1))⟩, ⟨false, [(((((getd ((0, 0) : (Int × Int)) a1 i1).1) == ((getd ((0, 0) : (Int × Int)) b1 k1).1)) && (((getd ((0, 0) : (Int × Int)) a1 i1).2) == ((getd ((0, 0) : (Int × Int)) b1 k1).2))), false), (!(getb used2 k1), true)], vS (Instr.loadAt 3 (.pointer (some (Addr.add (sAddrK A2 2 k1) 1)))), .int .i64 ((getd ((0, 0) : (Int × Int)) b1 k1).2)⟩, ⟨true, [((((getd ((0, 0) : (Int × Int)) a1 i1).1) == ((getd ((0, 0) : (Int × Int)) b1 k1).2)), true), (((((getd ((0, 0) : (Int × Int)) a1 i1).1) == ((getd ((0, 0) : (Int × Int)) b1 k1).1)) && (((getd ((0, 0) : (Int × Int)) a1 i1).2) == ((getd ((0, 0) : (Int × Int)) b1 k1).2))), false), (!(getb used2 k1), true)], vS (Instr.indexAt 22 (.slice A1 a1.length c1) (.int .i64 i1)), .pointer (some (sAddrK A1 2 i1))⟩, ⟨false, [((((getd ((0, 0) : (Int × Int)) a1 i1).1) == ((getd ((0, 0) : (Int × Int)) b1 k1).2)), true), (((((getd ((0, 0) : (Int × Int)) a1 i1).1) == ((getd ((0, 0) : (Int × Int)) b1 k1).1)) && (((getd ((0, 0) : (Int × Int)) a1 i1).2) == ((getd ((0, 0) : (Int × Int)) b1 k1).2))), false), (!(getb used2 k1), true)], vS (Instr.loadAt 3 (.pointer (some (Addr.add (sAddrK A1 2 i1) 1)))), .int .i64 ((getd ((0, 0) : (Int × Int)) a1 i1).2)⟩, ⟨true, [((((getd ((0, 0) : (Int × Int)) a1 i1).1) == ((getd ((0, 0) : (Int × Int)) b1 k1).2)), true), (((((getd ((0, 0) : (Int × Int)) a1 i1).1) == ((getd ((0, 0) : (Int × Int)) b1 k1).1)) && (((getd ((0, 0) : (Int × Int)) a1 i1).2) == ((getd ((0, 0) : (Int × Int)) b1 k1).2))), false), (!(getb used2 k1), true)], vS (Instr.indexAt 22 (.slice A2 b1.length c2) (.int .i64 k1)), .pointer (some (sAddrK A2 2 k1))⟩, ⟨false, [((((getd ((0, 0) : (Int × Int)) a1 i1).1) == ((getd ((0, 0) : (Int × Int)) b1 k1).2)), true), (((((getd ((0, 0) : (Int × Int)) a1 i1).1) == ((getd ((0, 0) : (Int × Int)) b1 k1).1)) && (((getd ((0, 0) : (Int × Int)) a1 i1).2) == ((getd ((0, 0) : (Int × Int)) b1 k1).2))), false), (!(getb used2 k1), true)], vS (Instr.loadAt 3 (.pointer (some (Addr.add (sAddrK A2 2 k1) 0)))), .int .i64 ((getd ((0, 0) : (Int × Int)) b1 k1).1)⟩] [none, none, some (.pointer (some (sAddr A3 k1))), some (.bool (getb used2 k1)), none, none, none, none, some (.pointer (some (sAddrK A1 2 i1))), some (.agg #[.int .i64 ((getd ((0, 0) : (Int × Int)) a1 i1).1), .int .i64 ((getd ((0, 0) : (Int × Int)) a1 i1).2)]), none, none, some (.pointer (some (sAddrK A2 2 k1))), some (.agg #[.int .i64 ((getd ((0, 0) : (Int × Int)) b1 k1).1), .int .i64 ((getd ((0, 0) : (Int × Int)) b1 k1).2)]), some (.bool (((((getd ((0, 0) : (Int × Int)) a1 i1).1) == ((getd ((0, 0) : (Int × Int)) b1 k1).1)) && (((getd ((0, 0) : (Int × Int)) a1 i1).2) == ((getd ((0, 0) : (Int × Int)) b1 k1).2))))), none, none, none, some (.pointer (some (sAddrK A1 2 i1))), none, some (.int .i64 ((getd ((0, 0) : (Int × Int)) a1 i1).1)), none, none, some (.pointer (some (sAddrK A2 2 k1))), none, some (.int .i64 ((getd ((0, 0) : (Int × Int)) b1 k1).2)), none, none, none, none, some (.pointer (some (sAddrK A1 2 i1))), none, some (.int .i64 ((getd ((0, 0) : (Int × Int)) a1 i1).2)), none, none, some (.pointer (some (sAddrK A2 2 k1))), none, some (.int .i64 ((getd ((0, 0) : (Int × Int)) b1 k1).1)), none, none, none, none] [0, 1, 5, 6, 7, 8, 74] [pl 0 (.slice A1 a1.length c1), pl 1 (.slice A2 b1.length c2), pl 5 (.slice A3 (Int.toNat (b1.length : Int)) c3), pl 6 (.int .i64 i1), pl 7 (.bool found1), pl 8 (.int .i64 k1), pl 74 (.bool ((!(getb used2 k1)) && (((((getd ((0, 0) : (Int × Int)) a1 i1).1) == ((getd ((0, 0) : (Int × Int)) b1 k1).1)) && (((getd ((0, 0) : (Int × Int)) a1 i1).2) == ((getd ((0, 0) : (Int × Int)) b1 k1).2))) || ((((getd ((0, 0) : (Int × Int)) a1 i1).1) == ((getd ((0, 0) : (Int × Int)) b1 k1).2)) && (((getd ((0, 0) : (Int × Int)) a1 i1).2) == ((getd ((0, 0) : (Int × Int)) b1 k1).1))))))] hF hS Fol (by kernel_rfl) (by kernel_rfl) (by kernel_rfl) ?_ (fun a w hF hS => ?_)
                · exact obs_cons (ob_ix1 (f := Value.bool) (m := used2) Und119 hi4 hs4 (hS.at_ 0 rfl).rd ((hS.at_ 0 rfl).len1) (fun _ => hp2)) <| obs_cons (ob_get1 (n := (Int.toNat (b1.length : Int))) (m := used2) Value.bool false Agg4 (fun _ hS => ⟨_, (hS.at_ 0 rfl).rd⟩) (fun _ hS => ((hS.at_ 0 rfl).len1)) (fun _ => hp2)) <| obs_cons (ob_ixK (m := a1) encK99 Und22 hi99 hs99 (hr_a1 _ (hS.dropN 1)) rfl (fun hy => hp3 (hy (!(getb used2 k1), true) (by simp)))) <| obs_cons (ob_getK (n := a1.length) (m := a1) encK99 ((0, 0) : (Int × Int)) (by kernel_rfl) (by kernel_rfl) (fun _ hS => ⟨_, (hr_a1 _ (hS.dropN 1))⟩) (fun _ hS => rfl) (fun hy => hp3 (hy (!(getb used2 k1), true) (by simp)))) <| obs_cons (ob_ixK (m := b1) encK99 Und22 hi99 hs99 (hr_b1 _ (hS.dropN 1)) rfl (fun hy => hp4 (hy (!(getb used2 k1), true) (by simp)))) <| obs_cons (ob_getK (n := b1.length) (m := b1) encK99 ((0, 0) : (Int × Int)) (by kernel_rfl) (by kernel_rfl) (fun _ hS => ⟨_, (hr_b1 _ (hS.dropN 1))⟩) (fun _ hS => rfl) (fun hy => hp4 (hy (!(getb used2 k1), true) (by simp)))) <| obs_cons (ob_eql rfl (by kernel_rfl) (fun w => Eql99 w)) <| obs_cons (ob_ixK (m := a1) encK99 Und22 hi99 hs99 (hr_a1 _ (hS.dropN 1)) rfl (fun hy => hp5 (hy (((((getd ((0, 0) : (Int × Int)) a1 i1).1) == ((getd ((0, 0) : (Int × Int)) b1 k1).1)) && (((getd ((0, 0) : (Int × Int)) a1 i1).2) == ((getd ((0, 0) : (Int × Int)) b1 k1).2))), false) (by simp)) (hy (!(getb used2 k1), true) (by simp)))) <| obs_cons (ob_getF (n := a1.length) (m := a1) (j := 0) encK99 ((0, 0) : (Int × Int)) Agg3 (fun _ hS => ⟨_, (hr_a1 _ (hS.dropN 1))⟩) (fun _ hS => rfl) (fun hy => hp5 (hy (((((getd ((0, 0) : (Int × Int)) a1 i1).1) == ((getd ((0, 0) : (Int × Int)) b1 k1).1)) && (((getd ((0, 0) : (Int × Int)) a1 i1).2) == ((getd ((0, 0) : (Int × Int)) b1 k1).2))), false) (by simp)) (hy (!(getb used2 k1), true) (by simp))) (by decide) rfl) <| obs_cons (ob_ixK (m := b1) encK99 Und22 hi99 hs99 (hr_b1 _ (hS.dropN 1)) rfl (fun hy => hp6 (hy (((((getd ((0, 0) : (Int × Int)) a1 i1).1) == ((getd ((0, 0) : (Int × Int)) b1 k1).1)) && (((getd ((0, 0) : (Int × Int)) a1 i1).2) == ((getd ((0, 0) : (Int × Int)) b1 k1).2))), false) (by simp)) (hy (!(getb used2 k1), true) (by simp)))) <| obs_cons (ob_getF (n := b1.length) (m := b1) (j := 1) encK99 ((0, 0) : (Int × Int)) Agg3 (fun _ hS => ⟨_, (hr_b1 _ (hS.dropN 1))⟩) (fun _ hS => rfl) (fun hy => hp6 (hy (((((getd ((0, 0) : (Int × Int)) a1 i1).1) == ((getd ((0, 0) : (Int × Int)) b1 k1).1)) && (((getd ((0, 0) : (Int × Int)) a1 i1).2) == ((getd ((0, 0) : (Int × Int)) b1 k1).2))), false) (by simp)) (hy (!(getb used2 k1), true) (by simp))) (by decide) rfl) <| obs_cons (ob_ixK (m := a1) encK99 Und22 hi99 hs99 (hr_a1 _ (hS.dropN 1)) rfl (fun hy => hp7 (hy ((((getd ((0, 0) : (Int × Int)) a1 i1).1) == ((getd ((0, 0) : (Int × Int)) b1 k1).2)), true) (by simp)) (hy (((((getd ((0, 0) : (Int × Int)) a1 i1).1) == ((getd ((0, 0) : (Int × Int)) b1 k1).1)) && (((getd ((0, 0) : (Int × Int)) a1 i1).2) == ((getd ((0, 0) : (Int × Int)) b1 k1).2))), false) (by simp)) (hy (!(getb used2 k1), true) (by simp)))) <| obs_cons (ob_getF (n := a1.length) (m := a1) (j := 1) encK99 ((0, 0) : (Int × Int)) Agg3 (fun _ hS => ⟨_, (hr_a1 _ (hS.dropN 1))⟩) (fun _ hS => rfl) (fun hy => hp7 (hy ((((getd ((0, 0) : (Int × Int)) a1 i1).1) == ((getd ((0, 0) : (Int × Int)) b1 k1).2)), true) (by simp)) (hy (((((getd ((0, 0) : (Int × Int)) a1 i1).1) == ((getd ((0, 0) : (Int × Int)) b1 k1).1)) && (((getd ((0, 0) : (Int × Int)) a1 i1).2) == ((getd ((0, 0) : (Int × Int)) b1 k1).2))), false) (by simp)) (hy (!(getb used2 k1), true) (by simp))) (by decide) rfl) <| obs_cons (ob_ixK (m := b1) encK99 Und22 hi99 hs99 (hr_b1 _ (hS.dropN 1)) rfl (fun hy => hp8 (hy ((((getd ((0, 0) : (Int × Int)) a1 i1).1) == ((getd ((0, 0) : (Int × Int)) b1 k1).2)), true) (by simp)) (hy (((((getd ((0, 0) : (Int × Int)) a1 i1).1) == ((getd ((0, 0) : (Int × Int)) b1 k1).1)) && (((getd ((0, 0) : (Int × Int)) a1 i1).2) == ((getd ((0, 0) : (Int × Int)) b1 k1).2))), false) (by simp)) (hy (!(getb used2 k1), true) (by simp)))) <| obs_cons (ob_getF (n := b1.length) (m := b1) (j := 0) encK99 ((0, 0) : (Int × Int)) Agg3 (fun _ hS => ⟨_, (hr_b1 _ (hS.dropN 1))⟩) (fun _ hS => rfl) (fun hy => hp8 (hy ((((getd ((0, 0) : (Int × Int)) a1 i1).1) == ((getd ((0, 0) : (Int × Int)) b1 k1).2)), true) (by simp)) (hy (((((getd ((0, 0) : (Int × Int)) a1 i1).1) == ((getd ((0, 0) : (Int × Int)) b1 k1).1)) && (((getd ((0, 0) : (Int × Int)) a1 i1).2) == ((getd ((0, 0) : (Int × Int)) b1 k1).2))), false) (by simp)) (hy (!(getb used2 k1), true) (by simp))) (by decide) rfl) <| obs_nil
                refine cond_ev (t := 74) (b := (!(getb used2 k1)) && (((((getd ((0, 0) : (Int × Int)) a1 i1).1) == ((getd ((0, 0) : (Int × Int)) b1 k1).1)) && (((getd ((0, 0) : (Int × Int)) a1 i1).2) == ((getd ((0, 0) : (Int × Int)) b1 k1).2))) || ((((getd ((0, 0) : (Int × Int)) a1 i1).1) == ((getd ((0, 0) : (Int × Int)) b1 k1).2)) && (((getd ((0, 0) : (Int × Int)) a1 i1).2) == ((getd ((0, 0) : (Int × Int)) b1 k1).1))))) hF (by kernel_rfl) (fun hb => ?_) (fun hb => ?_)
                · replace hm := if_t hm hb
                  refine seqR ?_
                  obtain ⟨hp9, hm⟩ := asrt_b hm
                  refine at_run 3 [⟨true, [], vS (Instr.indexAt 119 (.slice A3 (Int.toNat (b1.length : Int)) c3) (.int .i64 k1)), .pointer (some (sAddr A3 k1))⟩] [none, none, some (.pointer (some (sAddr A3 k1)))] [0, 1, 5, 6, 8, 77] [pl 0 (.slice A1 a1.length c1), pl 1 (.slice A2 b1.length c2), pl 5 (.slice A3 (Int.toNat (b1.length : Int)) c3), pl 6 (.int .i64 i1), pl 8 (.int .i64 k1), pl 77 (.pointer (some (sAddr A3 k1)))] hF hS (by kernel_rfl) (by kernel_rfl) ?_ (fun a w hF hS => ?_)
                  · exact obs_cons (ob_ix1 (f := Value.bool) (m := used2) Und119 hi4 hs4 (hS.at_ 0 rfl).rd ((hS.at_ 0 rfl).len1) (fun _ => hp9)) <| obs_nil
                  obtain ⟨w, hrun, hS⟩ := run_set1 (P := Try.prog) (t := 4) (x := true) Value.bool (hS.at_ 0 rfl) hi4 hs4 rfl rfl hp9
                  refine at_skip hF (by kernel_rfl) hrun ?_
                  have hS : Sep w0 B w (own 4 (.slice A3 (Int.toNat (b1.length : Int)) c3) (vB (used2.set (Int.toNat k1) true)) :: fs) := hS
                  refine at_end [0, 1, 5, 6, 8] [pl 0 (.slice A1 a1.length c1), pl 1 (.slice A2 b1.length c2), pl 5 (.slice A3 (Int.toNat (b1.length : Int)) c3), pl 6 (.int .i64 i1), pl 8 (.int .i64 k1)] hF rfl (by kernel_rfl) (fun hF => ?_)
                  refine then_n ?_
                  refine reg1 [] [] [0, 1, 5, 6, 7, 8] [pl 0 (.slice A1 a1.length c1), pl 1 (.slice A2 b1.length c2), pl 5 (.slice A3 (Int.toNat (b1.length : Int)) c3), pl 6 (.int .i64 i1), pl 7 (.bool true), pl 8 (.int .i64 k1)] hF hS Fol (by kernel_rfl) (by kernel_rfl) (by kernel_rfl) ?_ (fun a w hF hS => ?_)
                  · exact obs_nil
                  refine block_n ?_
                  refine then_n ?_
                  exact ⟨(used2.set (Int.toNat k1) true), true, hF.weak [0, 1, 5, 6, 7, 8] (by kernel_rfl), hS, hm⟩
                · replace hm := if_f hm hb
                  refine wp_skip ?_
                  refine block_n ?_
                  refine then_n ?_
                  exact ⟨used2, found1, hF.weak [0, 1, 5, 6, 7, 8] (by kernel_rfl), hS, hm⟩
            · refine reg [] [] [0, 1, 5, 6, 7, 8, 30] [pl 0 (.slice A1 a1.length c1), pl 1 (.slice A2 b1.length c2), pl 5 (.slice A3 (Int.toNat (b1.length : Int)) c3), pl 6 (.int .i64 i1), pl 7 (.bool found1), pl 8 (.int .i64 k1), pl 30 (.bool ((decide (k1 < (b1.length : Int))) && (!found1)))] hF hS Fol (by kernel_rfl) (by kernel_rfl) (by kernel_rfl) ?_ (fun a w hF hS => ?_)
              · exact obs_nil
              refine cond_ev (t := 30) (b := (decide (k1 < (b1.length : Int))) && (!found1)) hF (by kernel_rfl) (fun hb => ?_) (fun hb => ?_)
              · replace hm := if_t hm hb
                refine wp_skip ?_
                refine then_n ?_
                exact ⟨hF.weak [0, 1, 5, 6, 7, 8] (by kernel_rfl), hS, hm⟩
              · replace hm := if_f hm hb
                refine wp_exit ?_
                refine then_e (then_e (block_e (then_n ?_)))
                rw [← hφ2] at hm
                replace hm := done_b hm
                unfold gameroomref_SamePieces_K2 at hm
                try dsimp only at hm
                have hm : ((gameroomref_SamePieces_J5 i1) used2 found1).bind φ1 = some r := hm
                exact ⟨used2, found1, hF.weak [0, 1, 5, 6, 7] (by kernel_rfl), hS, hm⟩
      · refine reg [] [] [0, 1, 5, 6, 20] [pl 0 (.slice A1 a1.length c1), pl 1 (.slice A2 b1.length c2), pl 5 (.slice A3 (Int.toNat (b1.length : Int)) c3), pl 6 (.int .i64 i1), pl 20 (.bool (decide (i1 < (a1.length : Int))))] hF hS Fol (by kernel_rfl) (by kernel_rfl) (by kernel_rfl) ?_ (fun a w hF hS => ?_)
        · exact obs_nil
        refine cond_ev (t := 20) (b := decide (i1 < (a1.length : Int))) hF (by kernel_rfl) (fun hb => ?_) (fun hb => ?_)
        · replace hm := if_t hm hb
          refine wp_skip ?_
          refine then_n ?_
          exact ⟨hF.weak [0, 1, 5, 6] (by kernel_rfl), hS, hm⟩
        · replace hm := if_f hm hb
          refine wp_exit ?_
          refine then_e (then_e (block_e (then_n ?_)))
          have hS := hS.pickN 1 [] (by decide)
          rw [← hφ1] at hm
          replace hm := done_b hm
          unfold gameroomref_SamePieces_K1 at hm
          try dsimp only at hm
          have hm : (gameroomref_SamePieces_J2).bind some = some r := hm
          exact ⟨hF.weak [] (by kernel_rfl), hS, hm⟩
  · refine reg [] [] [0, 1, 13] [pl 0 (.slice A1 a1.length c1), pl 1 (.slice A2 b1.length c2), pl 13 (.bool ((a1.length : Int) != (b1.length : Int)))] hF hS Fol (by kernel_rfl) (by kernel_rfl) (by kernel_rfl) ?_ (fun a w hF hS => ?_)
    · exact obs_nil
    refine cond_ev (t := 13) (b := ((a1.length : Int) != (b1.length : Int))) hF (by kernel_rfl) (fun hb => ?_) (fun hb => ?_)
    · replace hm := if_t hm hb
      refine reg [] [] [4] [pl 4 (.bool false)] hF hS Fol (by kernel_rfl) (by kernel_rfl) (by kernel_rfl) ?_ (fun a w hF hS => ?_)
      · exact obs_nil
      refine wp_ret ?_
      refine then_r ?_
      have hm : some false = some r := hm
      obtain rfl := Option.some.inj hm
      exact retV (rs := [.tmp 4]) (vs := [.bool false]) hF rfl (rv_t (by kernel_rfl) <| rv_nil) rfl ⟨rfl, hS⟩
    · replace hm := if_f hm hb
      refine wp_skip ?_
      refine then_n ?_
      exact ⟨hF.weak [0, 1] (by kernel_rfl), hS, hm⟩

noncomputable def gameroomlaw_DominoRows_J3 (l1 : List (Int × Int)) (r2 : (List (Int × Int) × Int)) : Option Bool :=
  ((if (r2.2 == 0) then gameroomref_RowIs_m r2.1 else some false)).bind fun r5 => ((if ((r2.2 == 0) && r5) then gameroomref_SamePieces_m r2.1 l1 else some false)).bind fun r6 => some (((r2.2 == 0) && r5) && r6)

noncomputable def gameroomlaw_DominoRows_J2 (l1 : List (Int × Int)) (r2 : (List (Int × Int) × Int)) : Option Bool :=
  (gameroomref_RowCan_m l1).bind fun r4 => if (!r4) then (some ((r2.2 == 10) && ((r2.1.length : Int) == 0))) else ((gameroomlaw_DominoRows_J3 l1 r2))

noncomputable def gameroomlaw_DominoRows_J1 (l1 : List (Int × Int)) (r2 : (List (Int × Int) × Int)) : Option Bool :=
  (gameroomref_PiecesMay_m l1).bind fun r3 => if (!r3) then (some ((r2.2 == 3) && ((r2.1.length : Int) == 0))) else ((gameroomlaw_DominoRows_J2 l1 r2))

noncomputable def gameroomlaw_DominoRows_m (l1 : List (Int × Int)) : Option Bool :=
  (gameroomlaw_pieces_m l1).bind fun r1 => (domino_Row_m r1).bind fun r2 => if (decide ((60 : Int) < (l1.length : Int))) then (some ((r2.2 == 2) && ((r2.1.length : Int) == 0))) else ((gameroomlaw_DominoRows_J1 l1 r2))

set_option maxRecDepth 100000 in
set_option maxHeartbeats 4000000 in
theorem gameroomlaw_DominoRows_w {A1 : Option Addr} {c1 : Nat} {n1 : Nat} {l1 : List (Int × Int)} {r : Bool} {w0 w : World} {B : Nat} {fs : List HP} (hm : gameroomlaw_DominoRows_m l1 = some r) (hS : Sep w0 B w (fs)) (hr_l1 : RdF w0 B fs A1 ((List.flatMap enc99 l1))) (_hc_l1 : l1.length ≤ c1) (_hn_l1 : n1 = l1.length) :
    Calls Try.prog 3 #[.slice A1 n1 c1] w fun e w' => e = .returned (.bool r) ∧ Sep w0 B w' (fs) := by
  obtain ⟨i99, hi99, hz99, hs99, hb99⟩ := info_parts Info99
  obtain rfl := _hn_l1
  unfold gameroomlaw_DominoRows_m at hm
  replace hm := start_b hm
  refine enter (l := [.slice A1 l1.length c1]) (n := 52) Try.func3 rfl rfl (by simp) (fun a hF => ?_)
  refine reg [] [] [0] [pl 0 (.slice A1 l1.length c1)] hF hS Fol (by kernel_rfl) (by kernel_rfl) (by kernel_rfl) ?_ (fun a w hF hS => ?_)
  · exact obs_nil
  refine seqR ?_
  obtain ⟨r1, hr1, hm⟩ := call_b hm
  obtain ⟨r2, hr2, hm⟩ := call_b hm
  refine at_run 1 [] [] [0, 6] [pl 0 (.slice A1 l1.length c1), pl 6 (.slice A1 l1.length c1)] hF hS (by kernel_rfl) (by kernel_rfl) ?_ (fun a w hF hS => ?_)
  · exact obs_nil
  refine at_call (f := 16) (args := #[.slice A1 l1.length c1]) (d := 7) hF (by kernel_rfl) (by kernel_rfl) Try.func16 (by kernel_rfl) rfl (gameroomlaw_pieces_w hr1 hS (fun _ hS => (hr_l1 _ (hS.dropN 0))) _hc_l1 rfl) (fun v a w hR hF => ?_)
  clear hS
  obtain ⟨A2, c2, rfl, hS⟩ := hR
  have hS : Sep w0 B w (ownK 99 2 A2 r1.length c2 (List.flatMap enc99 r1) :: fs) := hS
  refine at_call (f := 15) (args := #[.slice A2 r1.length c2]) (d := 8) hF (by kernel_rfl) (by kernel_rfl) Try.func15 (by kernel_rfl) rfl (domino_Row_w hr2 hS (fun _ hS => (hS.at_ 0 rfl).rdK) ((hS.at_ 0 rfl).capK encK99) rfl) (fun v a w hR hF => ?_)
  clear hS
  obtain ⟨A3, c3, rfl, hS⟩ := hR
  have hS : Sep w0 B w (ownK 99 2 A3 r2.1.length c3 (List.flatMap enc99 r2.1) :: ownK 99 2 A2 r1.length c2 (List.flatMap enc99 r1) :: fs) := hS
  refine at_run 5 [] [] [0, 3, 4] [pl 0 (.slice A1 l1.length c1), pl 3 (.slice A3 r2.1.length c3), pl 4 (.int .i64 r2.2)] hF hS (by kernel_rfl) (by kernel_rfl) ?_ (fun a w hF hS => ?_)
  · exact obs_nil
  refine at_end [0, 3, 4] [pl 0 (.slice A1 l1.length c1), pl 3 (.slice A3 r2.1.length c3), pl 4 (.int .i64 r2.2)] hF rfl (by kernel_rfl) (fun hF => ?_)
  refine then_n ?_
  refine seq_cut (fun a w => Fr 52 [pl 0 (.slice A1 l1.length c1), pl 3 (.slice A3 r2.1.length c3), pl 4 (.int .i64 r2.2)] a ∧ Sep w0 B w (ownK 99 2 A3 r2.1.length c3 (List.flatMap enc99 r2.1) :: fs) ∧ ((gameroomlaw_DominoRows_J1 l1 r2)).bind some = some r) ?_ ?_
  · rintro a w ⟨hF, hS, hm⟩
    unfold gameroomlaw_DominoRows_J1 at hm
    refine seq_cut (fun a w => Fr 52 [pl 0 (.slice A1 l1.length c1), pl 3 (.slice A3 r2.1.length c3), pl 4 (.int .i64 r2.2)] a ∧ Sep w0 B w (ownK 99 2 A3 r2.1.length c3 (List.flatMap enc99 r2.1) :: fs) ∧ ((gameroomlaw_DominoRows_J2 l1 r2)).bind some = some r) ?_ ?_
    · rintro a w ⟨hF, hS, hm⟩
      unfold gameroomlaw_DominoRows_J2 at hm
      refine seq_cut (fun a w => Fr 52 [pl 0 (.slice A1 l1.length c1), pl 3 (.slice A3 r2.1.length c3), pl 4 (.int .i64 r2.2)] a ∧ Sep w0 B w (ownK 99 2 A3 r2.1.length c3 (List.flatMap enc99 r2.1) :: fs) ∧ ((gameroomlaw_DominoRows_J3 l1 r2)).bind some = some r) ?_ ?_
      · rintro a w ⟨hF, hS, hm⟩
        unfold gameroomlaw_DominoRows_J3 at hm
        obtain ⟨r5, hr5, hm⟩ := call_b hm
        obtain ⟨r6, hr6, hm⟩ := call_b hm
        refine reg [⟨false, [((r2.2 == 0), true)], callFunc 19 #[.slice A3 r2.1.length c3], .bool r5⟩, ⟨false, [((r2.2 == 0) && r5, true)], callFunc 20 #[.slice A3 r2.1.length c3, .slice A1 l1.length c1], .bool r6⟩] [none, none, none, none, some (.bool r5), none, none, none, none, some (.bool r6), none, none] [2] [pl 2 (.bool (((r2.2 == 0) && r5) && r6))] hF hS Fol (by kernel_rfl) (by kernel_rfl) (by kernel_rfl) ?_ (fun a w hF hS => ?_)
        · exact obs_cons (ob_call Try.func19 (by kernel_rfl) rfl (fun hy _ hS => gameroomref_RowIs_w (ite_some hr5 (by rw [show (r2.2 == 0) = true from hy ((r2.2 == 0), true) (by simp)]; try rfl)) hS (fun _ hS => (hS.at_ 0 rfl).rdK) ((hS.at_ 0 rfl).capK encK99) rfl)) <| obs_cons (ob_call Try.func20 (by kernel_rfl) rfl (fun hy _ hS => gameroomref_SamePieces_w (ite_some hr6 (by rw [show ((r2.2 == 0) && r5) = true from hy ((r2.2 == 0) && r5, true) (by simp)]; try rfl)) hS (fun _ hS => (hS.at_ 0 rfl).rdK) ((hS.at_ 0 rfl).capK encK99) rfl (fun _ hS => (hr_l1 _ (hS.dropN 1))) _hc_l1 rfl)) <| obs_nil
        refine wp_ret ?_
        have hS := hS.pickN 1 [] (by decide)
        have hm : some (((r2.2 == 0) && r5) && r6) = some r := hm
        obtain rfl := Option.some.inj hm
        exact retV (rs := [.tmp 2]) (vs := [.bool (((r2.2 == 0) && r5) && r6)]) hF rfl (rv_t (by kernel_rfl) <| rv_nil) rfl ⟨rfl, hS⟩
      · obtain ⟨r4, hr4, hm⟩ := call_b hm
        refine reg [⟨false, [], callFunc 18 #[.slice A1 l1.length c1], .bool r4⟩] [none, some (.bool r4), none] [0, 3, 4, 33] [pl 0 (.slice A1 l1.length c1), pl 3 (.slice A3 r2.1.length c3), pl 4 (.int .i64 r2.2), pl 33 (.bool (!r4))] hF hS Fol (by kernel_rfl) (by kernel_rfl) (by kernel_rfl) ?_ (fun a w hF hS => ?_)
        · exact obs_cons (ob_call Try.func18 (by kernel_rfl) rfl (fun _ _ hS => gameroomref_RowCan_w hr4 hS (fun _ hS => (hr_l1 _ (hS.dropN 1))) _hc_l1 rfl)) <| obs_nil
        refine cond_ev (t := 33) (b := !r4) hF (by kernel_rfl) (fun hb => ?_) (fun hb => ?_)
        · replace hm := if_t hm hb
          refine reg [] [] [2] [pl 2 (.bool ((r2.2 == 10) && ((r2.1.length : Int) == 0)))] hF hS Fol (by kernel_rfl) (by kernel_rfl) (by kernel_rfl) ?_ (fun a w hF hS => ?_)
          · exact obs_nil
          refine wp_ret ?_
          refine then_r ?_
          have hS := hS.pickN 1 [] (by decide)
          have hm : some ((r2.2 == 10) && ((r2.1.length : Int) == 0)) = some r := hm
          obtain rfl := Option.some.inj hm
          exact retV (rs := [.tmp 2]) (vs := [.bool ((r2.2 == 10) && ((r2.1.length : Int) == 0))]) hF rfl (rv_t (by kernel_rfl) <| rv_nil) rfl ⟨rfl, hS⟩
        · replace hm := if_f hm hb
          refine wp_skip ?_
          refine then_n ?_
          exact ⟨hF.weak [0, 3, 4] (by kernel_rfl), hS, hm⟩
    · obtain ⟨r3, hr3, hm⟩ := call_b hm
      refine reg [⟨false, [], callFunc 17 #[.slice A1 l1.length c1], .bool r3⟩] [none, some (.bool r3), none] [0, 3, 4, 23] [pl 0 (.slice A1 l1.length c1), pl 3 (.slice A3 r2.1.length c3), pl 4 (.int .i64 r2.2), pl 23 (.bool (!r3))] hF hS Fol (by kernel_rfl) (by kernel_rfl) (by kernel_rfl) ?_ (fun a w hF hS => ?_)
      · exact obs_cons (ob_call Try.func17 (by kernel_rfl) rfl (fun _ _ hS => gameroomref_PiecesMay_w hr3 hS (fun _ hS => (hr_l1 _ (hS.dropN 1))) _hc_l1 rfl)) <| obs_nil
      refine cond_ev (t := 23) (b := !r3) hF (by kernel_rfl) (fun hb => ?_) (fun hb => ?_)
      · replace hm := if_t hm hb
        refine reg [] [] [2] [pl 2 (.bool ((r2.2 == 3) && ((r2.1.length : Int) == 0)))] hF hS Fol (by kernel_rfl) (by kernel_rfl) (by kernel_rfl) ?_ (fun a w hF hS => ?_)
        · exact obs_nil
        refine wp_ret ?_
        refine then_r ?_
        have hS := hS.pickN 1 [] (by decide)
        have hm : some ((r2.2 == 3) && ((r2.1.length : Int) == 0)) = some r := hm
        obtain rfl := Option.some.inj hm
        exact retV (rs := [.tmp 2]) (vs := [.bool ((r2.2 == 3) && ((r2.1.length : Int) == 0))]) hF rfl (rv_t (by kernel_rfl) <| rv_nil) rfl ⟨rfl, hS⟩
      · replace hm := if_f hm hb
        refine wp_skip ?_
        refine then_n ?_
        exact ⟨hF.weak [0, 3, 4] (by kernel_rfl), hS, hm⟩
  · refine reg [] [] [0, 3, 4, 13] [pl 0 (.slice A1 l1.length c1), pl 3 (.slice A3 r2.1.length c3), pl 4 (.int .i64 r2.2), pl 13 (.bool (decide ((60 : Int) < (l1.length : Int))))] hF hS Fol (by kernel_rfl) (by kernel_rfl) (by kernel_rfl) ?_ (fun a w hF hS => ?_)
    · exact obs_nil
    refine cond_ev (t := 13) (b := decide ((60 : Int) < (l1.length : Int))) hF (by kernel_rfl) (fun hb => ?_) (fun hb => ?_)
    · replace hm := if_t hm hb
      refine reg [] [] [2] [pl 2 (.bool ((r2.2 == 2) && ((r2.1.length : Int) == 0)))] hF hS Fol (by kernel_rfl) (by kernel_rfl) (by kernel_rfl) ?_ (fun a w hF hS => ?_)
      · exact obs_nil
      refine wp_ret ?_
      refine then_r ?_
      have hS := hS.pickN 2 [] (by decide)
      have hm : some ((r2.2 == 2) && ((r2.1.length : Int) == 0)) = some r := hm
      obtain rfl := Option.some.inj hm
      exact retV (rs := [.tmp 2]) (vs := [.bool ((r2.2 == 2) && ((r2.1.length : Int) == 0))]) hF rfl (rv_t (by kernel_rfl) <| rv_nil) rfl ⟨rfl, hS⟩
    · replace hm := if_f hm hb
      refine wp_skip ?_
      refine then_n ?_
      have hS := hS.pickN 2 [0] (by decide)
      exact ⟨hF.weak [0, 3, 4] (by kernel_rfl), hS, hm⟩

end Go.Proofs.Ytbmhcapeikebgaa
