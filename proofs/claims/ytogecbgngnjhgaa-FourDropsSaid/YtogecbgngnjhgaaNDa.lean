/-
  Models and walks, printed by our own program (wip/gen).
-/
import Derived.Test.YtogecbgngnjhgaaFB
namespace Go.Proofs.Ytogecbgngnjhgaa
open Go Go.GL Go.RowKit




noncomputable def gameroomref_Ints_m (l1 : List Int) : Option (List Int) :=
  asrt ((0 : Int) + (l1.length : Int) ≤ bigN) <| some ([] ++ l1)

set_option maxRecDepth 100000 in
set_option maxHeartbeats 4000000 in
theorem gameroomref_Ints_w {A1 : Option Addr} {c1 : Nat} {n1 : Nat} {l1 : List Int} {r : (List Int)} {w0 w : World} {B : Nat} {fs : List HP} (hm : gameroomref_Ints_m l1 = some r) (hS : Sep w0 B w (fs)) (hr_l1 : RdF w0 B fs A1 (vI l1)) (_hc_l1 : l1.length ≤ c1) (_hn_l1 : n1 = l1.length) :
    Calls Try.prog 58 #[.slice A1 n1 c1] w fun e w' => ∃ v, e = .returned v ∧ ∃ (A3 : Option Addr) (c3 : Nat), v = .slice A3 r.length c3 ∧ Sep w0 B w' (own 3 (.slice A3 r.length c3) (vI r) :: fs) := by
  obtain ⟨i3, hi3, hz3, hs3, hb3⟩ := info_parts Info3
  obtain rfl := _hn_l1
  unfold gameroomref_Ints_m at hm
  replace hm := start_b hm
  refine enter (l := [.slice A1 l1.length c1]) (n := 5) Try.func58 rfl rfl (by simp) (fun a hF => ?_)
  refine reg [] [] [0] [pl 0 (.slice A1 l1.length c1)] hF hS Fol (by kernel_rfl) (by kernel_rfl) (by kernel_rfl) ?_ (fun a w hF hS => ?_)
  · exact obs_nil
  refine seqR ?_
  obtain ⟨hp1, hm⟩ := asrt_b hm
  refine at_run 1 [] [] [3] [pl 3 (.slice A1 l1.length c1)] hF hS (by kernel_rfl) (by kernel_rfl) ?_ (fun a w hF hS => ?_)
  · exact obs_nil
  have hS : Sep w0 B w (own 3 (.slice none 0 0) (vI ([] : List Int)) :: fs) := hS.nil 3
  obtain ⟨A2, c2, w, hrun, hS⟩ := run_app1 (P := Try.prog) (t := 22) (m := ([] : List Int)) (ys := l1) (A2 := A1) (m2 := l1.length) (c2 := c1) (Value.int .i64) (0 : Int) (hS.at_ 0 rfl) (hr_l1 _ (hS.dropN 1)) rfl 22 Und22 hi3 hz3 hs3 (by omega) rfl (fun _ => rfl) hp1
  have hS : Sep w0 B w (own 3 (.slice A2 (([] ++ l1).length) c2) (vI ([] ++ l1)) :: fs) := hS
  refine at_do (d := 4) hF (by kernel_rfl) (by kernel_rfl) hrun (fun a hF => ?_)
  refine at_run 1 [] [] [2] [pl 2 (.slice A2 (([] ++ l1).length) c2)] hF hS (by kernel_rfl) (by kernel_rfl) ?_ (fun a w hF hS => ?_)
  · exact obs_nil
  refine at_end [2] [pl 2 (.slice A2 (([] ++ l1).length) c2)] hF rfl (by kernel_rfl) (fun hF => ?_)
  refine then_n ?_
  refine wp_ret ?_
  have hm : some ([] ++ l1) = some r := hm
  obtain rfl := Option.some.inj hm
  exact retV (rs := [.tmp 2]) (vs := [.slice A2 (([] ++ l1).length) c2]) hF rfl (rv_t (by kernel_rfl) <| rv_nil) rfl ⟨_, rfl, A2, c2, rfl, hS⟩

noncomputable def gameroomref_GridOf_m (g1 : Int) (g2 : Int) (g3 : List Int) : Option (Int × Int × List Int) :=
  (gameroomref_Ints_m g3).bind fun r1 => some (g1, g2, r1)

set_option maxRecDepth 100000 in
set_option maxHeartbeats 4000000 in
theorem gameroomref_GridOf_w {g1 : Int} {g2 : Int} {A1 : Option Addr} {c1 : Nat} {n1 : Nat} {g3 : List Int} {r : (Int × Int × List Int)} {w0 w : World} {B : Nat} {fs : List HP} (hm : gameroomref_GridOf_m g1 g2 g3 = some r) (hS : Sep w0 B w (fs)) (hr_g3 : RdF w0 B fs A1 (vI g3)) (_hc_g3 : g3.length ≤ c1) (_hn_g3 : n1 = g3.length) :
    Calls Try.prog 13 #[.agg #[.int .i64 g1, .int .i64 g2, .slice A1 n1 c1]] w fun e w' => ∃ v, e = .returned v ∧ ∃ (A3 : Option Addr) (c3 : Nat), v = .agg #[.int .i64 r.1, .int .i64 r.2.1, .slice A3 r.2.2.length c3] ∧ Sep w0 B w' (own 3 (.slice A3 r.2.2.length c3) (vI r.2.2) :: fs) := by
  obtain ⟨i3, hi3, hz3, hs3, hb3⟩ := info_parts Info3
  obtain ⟨i22, hi22, hz22, hs22, hb22⟩ := info_parts Info22
  obtain rfl := _hn_g3
  unfold gameroomref_GridOf_m at hm
  replace hm := start_b hm
  refine enter (l := [.agg #[.int .i64 g1, .int .i64 g2, .slice A1 g3.length c1]]) (n := 8) Try.func13 rfl rfl (by simp) (fun a hF => ?_)
  refine seqR ?_
  refine at_do (d := 1) (s := vS (Instr.box 24 (.agg #[.int .i64 g1, .int .i64 g2, .slice A1 g3.length c1]))) (v := .pointer (some ⟨w.heap.size, 0, none⟩)) (w' := w.alloc (.cells #[.int .i64 g1, .int .i64 g2, .slice A1 g3.length c1] 24)) hF (by kernel_rfl) (by kernel_rfl) (by kernel_rfl) (fun a hF => ?_)
  have hS : Sep w0 B (w.alloc (.cells #[.int .i64 g1, .int .i64 g2, .slice A1 g3.length c1] 24)) (blk w.heap.size 24 #[.int .i64 g1, .int .i64 g2, .slice A1 g3.length c1] :: (fs)) := hS.box 24 #[.int .i64 g1, .int .i64 g2, .slice A1 g3.length c1]
  generalize w.heap.size = g4 at hF hS
  generalize w.alloc (.cells #[.int .i64 g1, .int .i64 g2, .slice A1 g3.length c1] 24) = w at hS ⊢
  refine at_do (d := 2) (s := vS (Instr.alloc 24 true (.tuple #[]))) (v := .pointer (some ⟨w.heap.size, 0, none⟩)) (w' := w.alloc (.cells #[.int .i64 0, .int .i64 0, .slice none 0 0] 24)) hF (by kernel_rfl) (by kernel_rfl) (by kernel_rfl) (fun a hF => ?_)
  have hS : Sep w0 B (w.alloc (.cells #[.int .i64 0, .int .i64 0, .slice none 0 0] 24)) (blk w.heap.size 24 #[.int .i64 0, .int .i64 0, .slice none 0 0] :: (blk g4 24 #[.int .i64 g1, .int .i64 g2, .slice A1 g3.length c1] :: fs)) := hS.box 24 #[.int .i64 0, .int .i64 0, .slice none 0 0]
  generalize w.heap.size = g5 at hF hS
  generalize w.alloc (.cells #[.int .i64 0, .int .i64 0, .slice none 0 0] 24) = w at hS ⊢
  refine at_end [1, 2] [pl 1 (.pointer (some ⟨g4, 0, none⟩)), pl 2 (.pointer (some ⟨g5, 0, none⟩))] hF rfl (by kernel_rfl) (fun hF => ?_)
  refine then_n ?_
  refine seqR ?_
  obtain ⟨r1, hr1, hm⟩ := call_b hm
  refine at_run 2 [⟨false, [], vS (Instr.loadAt 22 (.pointer (some ⟨g4, 2, none⟩))), .slice A1 g3.length c1⟩] [none, some (.slice A1 g3.length c1)] [1, 2, 4] [pl 1 (.pointer (some ⟨g4, 0, none⟩)), pl 2 (.pointer (some ⟨g5, 0, none⟩)), pl 4 (.slice A1 g3.length c1)] hF hS (by kernel_rfl) (by kernel_rfl) ?_ (fun a w hF hS => ?_)
  · exact obs_cons (ob_load Agg22 (fun _ _ hS => (hS.at_ 1 rfl).cell rfl)) <| obs_nil
  refine at_call (f := 58) (args := #[.slice A1 g3.length c1]) (d := 5) hF (by kernel_rfl) (by kernel_rfl) Try.func58 (by kernel_rfl) rfl (gameroomref_Ints_w hr1 hS (fun _ hS => (hr_g3 _ (hS.dropN 2))) _hc_g3 rfl) (fun v a w hR hF => ?_)
  clear hS
  obtain ⟨A2, c2, rfl, hS⟩ := hR
  have hS : Sep w0 B w (own 3 (.slice A2 r1.length c2) (vI r1) :: blk g5 24 #[.int .i64 0, .int .i64 0, .slice none 0 0] :: blk g4 24 #[.int .i64 g1, .int .i64 g2, .slice A1 g3.length c1] :: fs) := hS
  refine at_run 1 [] [] [1, 2, 5, 6] [pl 1 (.pointer (some ⟨g4, 0, none⟩)), pl 2 (.pointer (some ⟨g5, 0, none⟩)), pl 5 (.slice A2 r1.length c2), pl 6 (.pointer (some ⟨g4, 2, none⟩))] hF hS (by kernel_rfl) (by kernel_rfl) ?_ (fun a w hF hS => ?_)
  · exact obs_nil
  obtain ⟨w, hrun, hS⟩ := run_put (P := Try.prog) (t := 22) (u := .slice A2 r1.length c2) (i := 2) (hS.at_ 2 rfl) hi22 hs22 rfl (Nat.lt_of_lt_of_eq (Nat.lt_of_succ_le (Nat.le_of_ble_eq_true (by kernel_rfl))) rfl)
  refine at_skip hF (by kernel_rfl) hrun ?_
  have hS : Sep w0 B w (own 3 (.slice A2 r1.length c2) (vI r1) :: blk g5 24 #[.int .i64 0, .int .i64 0, .slice none 0 0] :: blk g4 24 #[.int .i64 g1, .int .i64 g2, .slice A2 r1.length c2] :: fs) := hS
  refine at_end [1, 2] [pl 1 (.pointer (some ⟨g4, 0, none⟩)), pl 2 (.pointer (some ⟨g5, 0, none⟩))] hF rfl (by kernel_rfl) (fun hF => ?_)
  refine then_n ?_
  refine seqR ?_
  refine at_run 1 [⟨false, [], vS (Instr.loadAt 24 (.pointer (some ⟨g4, 0, none⟩))), .agg #[.int .i64 g1, .int .i64 g2, .slice A2 r1.length c2]⟩] [some (.agg #[.int .i64 g1, .int .i64 g2, .slice A2 r1.length c2])] [2, 7] [pl 2 (.pointer (some ⟨g5, 0, none⟩)), pl 7 (.agg #[.int .i64 g1, .int .i64 g2, .slice A2 r1.length c2])] hF hS (by kernel_rfl) (by kernel_rfl) ?_ (fun a w hF hS => ?_)
  · exact obs_cons (ob_loadA (cs := #[.int .i64 g1, .int .i64 g2, .slice A2 r1.length c2]) (by kernel_rfl) (by kernel_rfl) (fun _ _ hS => (hS.at_ 2 rfl).cellsAt 0 (by rfl))) <| obs_nil
  obtain ⟨w, hrun, hS⟩ := run_putA (P := Try.prog) (t := 24) (us := #[.int .i64 g1, .int .i64 g2, .slice A2 r1.length c2]) (o := 0) (hS.at_ 1 rfl) (by kernel_rfl) (all_one (by kernel_rfl)) (Nat.le_of_ble_eq_true (by kernel_rfl))
  refine at_skip hF (by kernel_rfl) hrun ?_
  have hS : Sep w0 B w (own 3 (.slice A2 r1.length c2) (vI r1) :: blk g5 24 #[.int .i64 g1, .int .i64 g2, .slice A2 r1.length c2] :: blk g4 24 #[.int .i64 g1, .int .i64 g2, .slice A2 r1.length c2] :: fs) := hS
  refine at_end [2] [pl 2 (.pointer (some ⟨g5, 0, none⟩))] hF rfl (by kernel_rfl) (fun hF => ?_)
  refine then_n ?_
  refine wp_ret ?_
  have hld0 := run_loadVarA (P := Try.prog) (t := 24) (cs := #[.int .i64 g1, .int .i64 g2, .slice A2 r1.length c2]) (by kernel_rfl) (by kernel_rfl) ((hS.at_ 1 rfl).cellsAt 0 (by rfl))
  have hS := hS.pickN 3 [0] (by decide)
  have hm : some (g1, g2, r1) = some r := hm
  obtain rfl := Option.some.inj hm
  exact retV (rs := [.cell 2 24]) (vs := [.agg #[.int .i64 g1, .int .i64 g2, .slice A2 r1.length c2]]) hF rfl (rv_c (by kernel_rfl) hld0 <| rv_nil) rfl ⟨_, rfl, A2, c2, rfl, hS⟩

noncomputable def rows_May_1_m (c1 : Int) : Option Bool :=
  some ((decide (c1 < 0)) || (decide ((2 : Int) < c1)))

set_option maxRecDepth 100000 in
set_option maxHeartbeats 4000000 in
theorem rows_May_1_w {c1 : Int} {r : Bool} {w0 w : World} {B : Nat} {fs : List HP} (hm : rows_May_1_m c1 = some r) (hS : Sep w0 B w (fs)) :
    Calls Try.prog 132 #[.int .i64 c1] w fun e w' => e = .returned (.bool r) ∧ Sep w0 B w' (fs) := by
  unfold rows_May_1_m at hm
  replace hm := start_b hm
  refine enter (l := [.int .i64 c1]) (n := 9) Try.func132 rfl rfl (by simp) (fun a hF => ?_)
  refine reg [] [] [0] [pl 0 (.int .i64 c1)] hF hS Fol (by kernel_rfl) (by kernel_rfl) (by kernel_rfl) ?_ (fun a w hF hS => ?_)
  · exact obs_nil
  refine reg [] [] [2] [pl 2 (.bool ((decide (c1 < 0)) || (decide ((2 : Int) < c1))))] hF hS Fol (by kernel_rfl) (by kernel_rfl) (by kernel_rfl) ?_ (fun a w hF hS => ?_)
  · exact obs_nil
  refine wp_ret ?_
  have hm : some ((decide (c1 < 0)) || (decide ((2 : Int) < c1))) = some r := hm
  obtain rfl := Option.some.inj hm
  exact retV (rs := [.tmp 2]) (vs := [.bool ((decide (c1 < 0)) || (decide ((2 : Int) < c1)))]) hF rfl (rv_t (by kernel_rfl) <| rv_nil) rfl ⟨rfl, hS⟩

noncomputable def slices_IndexFunc_J3 (z1 : Int) : Option (St Int (Fl Unit Int)) :=
  some (.next (w64 (z1 + 1)))

noncomputable def slices_IndexFunc_J2 (s1 : List Int) (z1 : Int) : Option (St Int (Fl Unit Int)) :=
  asrt (0 ≤ z1 ∧ z1 < (s1.length : Int)) <| (rows_May_1_m (geti s1 z1)).bind fun r1 => if r1 then (some (.done (.ret z1))) else ((slices_IndexFunc_J3 z1))

noncomputable def slices_IndexFunc_J1 : Option Int :=
  some (-1)

noncomputable def slices_IndexFunc_K1 : (Fl Unit Int) → Option Int :=
  fun (x : (Fl Unit Int)) => match x with | .go _ => slices_IndexFunc_J1 | .ret x => some x

noncomputable def slices_IndexFunc_L1 (s1 : List Int) : Int → Option (St Int (Fl Unit Int)) :=
  fun (x : Int) => match x with | z1 => if (decide (z1 < (s1.length : Int))) then ((slices_IndexFunc_J2 s1 z1)) else (some (.done (.go ())))

noncomputable def slices_IndexFunc_m (s1 : List Int) : Option Int :=
  (loop (slices_IndexFunc_L1 s1) 0).bind slices_IndexFunc_K1

set_option maxRecDepth 100000 in
set_option maxHeartbeats 4000000 in
theorem slices_IndexFunc_w {A1 : Option Addr} {c1 : Nat} {n1 : Nat} {s1 : List Int} {r : Int} {w0 w : World} {B : Nat} {fs : List HP} (hm : slices_IndexFunc_m s1 = some r) (hS : Sep w0 B w (fs)) (hr_s1 : RdF w0 B fs A1 (vI s1)) (_hc_s1 : s1.length ≤ c1) (_hn_s1 : n1 = s1.length) :
    Calls Try.prog 123 #[.slice A1 n1 c1, .func (.func 132) #[] #[]] w fun e w' => e = .returned (.int .i64 r) ∧ Sep w0 B w' (fs) := by
  obtain ⟨i3, hi3, hz3, hs3, hb3⟩ := info_parts Info3
  obtain rfl := _hn_s1
  unfold slices_IndexFunc_m at hm
  replace hm := start_b hm
  refine enter (l := [.slice A1 s1.length c1, .func (.func 132) #[] #[]]) (n := 19) Try.func123 rfl rfl (by simp) (fun a hF => ?_)
  refine reg [] [] [0, 1] [pl 0 (.slice A1 s1.length c1), pl 1 (.func (.func 132) #[] #[])] hF hS Fol (by kernel_rfl) (by kernel_rfl) (by kernel_rfl) ?_ (fun a w hF hS => ?_)
  · exact obs_nil
  refine seq_cut (fun a w => Fr 19 [] a ∧ Sep w0 B w (fs) ∧ (slices_IndexFunc_J1).bind some = some r) ?_ ?_
  · rintro a w ⟨hF, hS, hm⟩
    unfold slices_IndexFunc_J1 at hm
    refine reg [] [] [4] [pl 4 (.int .i64 (-1))] hF hS Fol (by kernel_rfl) (by kernel_rfl) (by kernel_rfl) ?_ (fun a w hF hS => ?_)
    · exact obs_nil
    refine wp_ret ?_
    have hm : some (-1) = some r := hm
    obtain rfl := Option.some.inj hm
    exact retV (rs := [.tmp 4]) (vs := [.int .i64 (-1)]) hF rfl (rv_t (by kernel_rfl) <| rv_nil) rfl ⟨rfl, hS⟩
  · refine reg [] [] [0, 1, 7, 8] [pl 0 (.slice A1 s1.length c1), pl 1 (.func (.func 132) #[] #[]), pl 7 (.int .i64 (s1.length : Int)), pl 8 (.int .i64 0)] hF hS Fol (by kernel_rfl) (by kernel_rfl) (by kernel_rfl) ?_ (fun a w hF hS => ?_)
    · exact obs_nil
    refine wp_block ?_
    refine wp_loop_model (S := Int) (R := (Fl Unit Int)) (slices_IndexFunc_L1 s1) (fun x => (slices_IndexFunc_K1 x).bind some) r (fun (x : Int) a w => Fr 19 [pl 0 (.slice A1 s1.length c1), pl 1 (.func (.func 132) #[] #[]), pl 7 (.int .i64 (s1.length : Int)), pl 8 (.int .i64 x)] a ∧ Sep w0 B w (fs)) (assoc_b hm) ⟨hF.weak [0, 1, 7, 8] (by kernel_rfl), hS⟩ ?_
    clear hF hS hm
    rintro nn1 z1 a w ⟨hF, hS⟩ hm
    generalize hφ1 : stK (slices_IndexFunc_L1 s1) nn1 (fun x => (slices_IndexFunc_K1 x).bind some) = φ1 at hm
    unfold slices_IndexFunc_L1 at hm
    dsimp only at hm
    refine reg [] [] [0, 1, 7, 8, 9] [pl 0 (.slice A1 s1.length c1), pl 1 (.func (.func 132) #[] #[]), pl 7 (.int .i64 (s1.length : Int)), pl 8 (.int .i64 z1), pl 9 (.bool (decide (z1 < (s1.length : Int))))] hF hS Fol (by kernel_rfl) (by kernel_rfl) (by kernel_rfl) ?_ (fun a w hF hS => ?_)
    · exact obs_nil
    refine seq_cut (fun a w => Fr 19 [pl 0 (.slice A1 s1.length c1), pl 1 (.func (.func 132) #[] #[]), pl 7 (.int .i64 (s1.length : Int)), pl 8 (.int .i64 z1)] a ∧ Sep w0 B w (fs) ∧ ((slices_IndexFunc_J2 s1 z1)).bind φ1 = some r) ?_ ?_
    · rintro a w ⟨hF, hS, hm⟩
      unfold slices_IndexFunc_J2 at hm
      refine seq_cut (fun a w => Fr 19 [pl 0 (.slice A1 s1.length c1), pl 1 (.func (.func 132) #[] #[]), pl 7 (.int .i64 (s1.length : Int)), pl 8 (.int .i64 z1)] a ∧ Sep w0 B w (fs) ∧ ((slices_IndexFunc_J3 z1)).bind φ1 = some r) ?_ ?_
      · rintro a w ⟨hF, hS, hm⟩
        unfold slices_IndexFunc_J3 at hm
        refine reg1 [] [] [0, 1, 7, 8] [pl 0 (.slice A1 s1.length c1), pl 1 (.func (.func 132) #[] #[]), pl 7 (.int .i64 (s1.length : Int)), pl 8 (.int .i64 (w64 (z1 + 1)))] hF hS Fol (by kernel_rfl) (by kernel_rfl) (by kernel_rfl) ?_ (fun a w hF hS => ?_)
        · exact obs_nil
        refine then_n ?_
        rw [← hφ1] at hm
        exact ⟨(w64 (z1 + 1)), ⟨hF.weak [0, 1, 7, 8] (by kernel_rfl), hS⟩, hm⟩
      · refine wp_block ?_
        refine reg [] [] [0, 1, 5, 7, 8] [pl 0 (.slice A1 s1.length c1), pl 1 (.func (.func 132) #[] #[]), pl 5 (.int .i64 z1), pl 7 (.int .i64 (s1.length : Int)), pl 8 (.int .i64 z1)] hF hS Fol (by kernel_rfl) (by kernel_rfl) (by kernel_rfl) ?_ (fun a w hF hS => ?_)
        · exact obs_nil
        obtain ⟨hp1, hm⟩ := asrt_b hm
        obtain ⟨r1, hr1, hm⟩ := call_b hm
        refine reg [⟨true, [], vS (Instr.indexAt 22 (.slice A1 s1.length c1) (.int .i64 z1)), .pointer (some (sAddr A1 z1))⟩, ⟨false, [], vS (Instr.loadAt 3 (.pointer (some (sAddr A1 z1)))), .int .i64 (geti s1 z1)⟩, ⟨false, [], callFunc 132 #[.int .i64 (geti s1 z1)], .bool r1⟩] [none, none, none, some (.pointer (some (sAddr A1 z1))), some (.int .i64 (geti s1 z1)), some (.bool r1)] [0, 1, 5, 7, 8, 16] [pl 0 (.slice A1 s1.length c1), pl 1 (.func (.func 132) #[] #[]), pl 5 (.int .i64 z1), pl 7 (.int .i64 (s1.length : Int)), pl 8 (.int .i64 z1), pl 16 (.bool r1)] hF hS Fol (by kernel_rfl) (by kernel_rfl) (by kernel_rfl) ?_ (fun a w hF hS => ?_)
        · exact obs_cons (ob_ix1 (f := (Value.int .i64)) (m := s1) Und22 hi3 hs3 (hr_s1 _ (hS.dropN 0)) rfl (fun _ => hp1)) <| obs_cons (ob_get1 (n := s1.length) (m := s1) (Value.int .i64) (0 : Int) Agg3 (fun _ hS => ⟨_, (hr_s1 _ (hS.dropN 0))⟩) (fun _ hS => rfl) (fun _ => hp1)) <| obs_cons (ob_call Try.func132 (by kernel_rfl) rfl (fun _ _ hS => rows_May_1_w hr1 hS )) <| obs_nil
        refine cond_ev (t := 16) (b := r1) hF (by kernel_rfl) (fun hb => ?_) (fun hb => ?_)
        · replace hm := if_t hm hb
          refine reg [] [] [4] [pl 4 (.int .i64 z1)] hF hS Fol (by kernel_rfl) (by kernel_rfl) (by kernel_rfl) ?_ (fun a w hF hS => ?_)
          · exact obs_nil
          refine wp_ret ?_
          refine block_r (then_r (then_r (block_r (then_r ?_))))
          rw [← hφ1] at hm
          replace hm := done_b hm
          unfold slices_IndexFunc_K1 at hm
          try dsimp only at hm
          have hm : some z1 = some r := hm
          obtain rfl := Option.some.inj hm
          exact retV (rs := [.tmp 4]) (vs := [.int .i64 z1]) hF rfl (rv_t (by kernel_rfl) <| rv_nil) rfl ⟨rfl, hS⟩
        · replace hm := if_f hm hb
          refine wp_skip ?_
          refine block_n ?_
          refine then_n ?_
          exact ⟨hF.weak [0, 1, 7, 8] (by kernel_rfl), hS, hm⟩
    · refine cond_ev (t := 9) (b := decide (z1 < (s1.length : Int))) hF (by kernel_rfl) (fun hb => ?_) (fun hb => ?_)
      · replace hm := if_t hm hb
        refine wp_skip ?_
        refine then_n ?_
        exact ⟨hF.weak [0, 1, 7, 8] (by kernel_rfl), hS, hm⟩
      · replace hm := if_f hm hb
        refine wp_exit ?_
        refine then_e (then_e (block_e (then_n ?_)))
        rw [← hφ1] at hm
        replace hm := done_b hm
        unfold slices_IndexFunc_K1 at hm
        try dsimp only at hm
        have hm : (slices_IndexFunc_J1).bind some = some r := hm
        exact ⟨hF.weak [] (by kernel_rfl), hS, hm⟩

noncomputable def slices_ContainsFunc_m (s1 : List Int) : Option Bool :=
  (slices_IndexFunc_m s1).bind fun r1 => some (decide ((0 : Int) ≤ r1))

set_option maxRecDepth 100000 in
set_option maxHeartbeats 4000000 in
theorem slices_ContainsFunc_w {A1 : Option Addr} {c1 : Nat} {n1 : Nat} {s1 : List Int} {r : Bool} {w0 w : World} {B : Nat} {fs : List HP} (hm : slices_ContainsFunc_m s1 = some r) (hS : Sep w0 B w (fs)) (hr_s1 : RdF w0 B fs A1 (vI s1)) (_hc_s1 : s1.length ≤ c1) (_hn_s1 : n1 = s1.length) :
    Calls Try.prog 94 #[.slice A1 n1 c1, .func (.func 132) #[] #[]] w fun e w' => e = .returned (.bool r) ∧ Sep w0 B w' (fs) := by
  obtain ⟨i3, hi3, hz3, hs3, hb3⟩ := info_parts Info3
  obtain rfl := _hn_s1
  unfold slices_ContainsFunc_m at hm
  replace hm := start_b hm
  refine enter (l := [.slice A1 s1.length c1, .func (.func 132) #[] #[]]) (n := 9) Try.func94 rfl rfl (by simp) (fun a hF => ?_)
  refine reg [] [] [0, 1] [pl 0 (.slice A1 s1.length c1), pl 1 (.func (.func 132) #[] #[])] hF hS Fol (by kernel_rfl) (by kernel_rfl) (by kernel_rfl) ?_ (fun a w hF hS => ?_)
  · exact obs_nil
  obtain ⟨r1, hr1, hm⟩ := call_b hm
  refine reg [⟨false, [], callFunc 123 #[.slice A1 s1.length c1, .func (.func 132) #[] #[]], .int .i64 r1⟩] [none, none, some (.int .i64 r1), none, none] [4] [pl 4 (.bool (decide ((0 : Int) ≤ r1)))] hF hS Fol (by kernel_rfl) (by kernel_rfl) (by kernel_rfl) ?_ (fun a w hF hS => ?_)
  · exact obs_cons (ob_call Try.func123 (by kernel_rfl) rfl (fun _ _ hS => slices_IndexFunc_w hr1 hS (fun _ hS => (hr_s1 _ (hS.dropN 0))) _hc_s1 rfl)) <| obs_nil
  refine wp_ret ?_
  have hm : some (decide ((0 : Int) ≤ r1)) = some r := hm
  obtain rfl := Option.some.inj hm
  exact retV (rs := [.tmp 4]) (vs := [.bool (decide ((0 : Int) ≤ r1))]) hF rfl (rv_t (by kernel_rfl) <| rv_nil) rfl ⟨rfl, hS⟩

noncomputable def rows_May_m (g1 : Int) (g2 : Int) (g3 : List Int) : Option Bool :=
  ((if (((((decide ((1 : Int) ≤ g1)) && (decide (g1 ≤ 10))) && (decide ((1 : Int) ≤ g2))) && (decide (g2 ≤ 10))) && ((g3.length : Int) == (w64 (g1 * g2)))) then slices_ContainsFunc_m g3 else some false)).bind fun r1 => some ((((((decide ((1 : Int) ≤ g1)) && (decide (g1 ≤ 10))) && (decide ((1 : Int) ≤ g2))) && (decide (g2 ≤ 10))) && ((g3.length : Int) == (w64 (g1 * g2)))) && (!r1))

set_option maxRecDepth 100000 in
set_option maxHeartbeats 4000000 in
theorem rows_May_w {g1 : Int} {g2 : Int} {A1 : Option Addr} {c1 : Nat} {n1 : Nat} {g3 : List Int} {r : Bool} {w0 w : World} {B : Nat} {fs : List HP} (hm : rows_May_m g1 g2 g3 = some r) (hS : Sep w0 B w (fs)) (hr_g3 : RdF w0 B fs A1 (vI g3)) (_hc_g3 : g3.length ≤ c1) (_hn_g3 : n1 = g3.length) :
    Calls Try.prog 111 #[.agg #[.int .i64 g1, .int .i64 g2, .slice A1 n1 c1]] w fun e w' => e = .returned (.bool r) ∧ Sep w0 B w' (fs) := by
  obtain ⟨i3, hi3, hz3, hs3, hb3⟩ := info_parts Info3
  obtain rfl := _hn_g3
  unfold rows_May_m at hm
  replace hm := start_b hm
  refine enter (l := [.agg #[.int .i64 g1, .int .i64 g2, .slice A1 g3.length c1]]) (n := 38) Try.func111 rfl rfl (by simp) (fun a hF => ?_)
  refine seqR ?_
  refine at_do (d := 1) (s := vS (Instr.box 24 (.agg #[.int .i64 g1, .int .i64 g2, .slice A1 g3.length c1]))) (v := .pointer (some ⟨w.heap.size, 0, none⟩)) (w' := w.alloc (.cells #[.int .i64 g1, .int .i64 g2, .slice A1 g3.length c1] 24)) hF (by kernel_rfl) (by kernel_rfl) (by kernel_rfl) (fun a hF => ?_)
  have hS : Sep w0 B (w.alloc (.cells #[.int .i64 g1, .int .i64 g2, .slice A1 g3.length c1] 24)) (blk w.heap.size 24 #[.int .i64 g1, .int .i64 g2, .slice A1 g3.length c1] :: (fs)) := hS.box 24 #[.int .i64 g1, .int .i64 g2, .slice A1 g3.length c1]
  generalize w.heap.size = g4 at hF hS
  generalize w.alloc (.cells #[.int .i64 g1, .int .i64 g2, .slice A1 g3.length c1] 24) = w at hS ⊢
  refine at_run 1 [] [] [1] [pl 1 (.pointer (some ⟨g4, 0, none⟩))] hF hS (by kernel_rfl) (by kernel_rfl) ?_ (fun a w hF hS => ?_)
  · exact obs_nil
  refine at_end [1] [pl 1 (.pointer (some ⟨g4, 0, none⟩))] hF rfl (by kernel_rfl) (fun hF => ?_)
  refine then_n ?_
  obtain ⟨r1, hr1, hm⟩ := call_b hm
  refine reg [⟨false, [], vS (Instr.loadAt 3 (.pointer (some ⟨g4, 0, none⟩))), .int .i64 g1⟩, ⟨false, [(decide ((1 : Int) ≤ g1), true)], vS (Instr.loadAt 3 (.pointer (some ⟨g4, 0, none⟩))), .int .i64 g1⟩, ⟨false, [((decide ((1 : Int) ≤ g1)) && (decide (g1 ≤ 10)), true)], vS (Instr.loadAt 3 (.pointer (some ⟨g4, 1, none⟩))), .int .i64 g2⟩, ⟨false, [(((decide ((1 : Int) ≤ g1)) && (decide (g1 ≤ 10))) && (decide ((1 : Int) ≤ g2)), true)], vS (Instr.loadAt 3 (.pointer (some ⟨g4, 1, none⟩))), .int .i64 g2⟩, ⟨false, [((((decide ((1 : Int) ≤ g1)) && (decide (g1 ≤ 10))) && (decide ((1 : Int) ≤ g2))) && (decide (g2 ≤ 10)), true)], vS (Instr.loadAt 22 (.pointer (some ⟨g4, 2, none⟩))), .slice A1 g3.length c1⟩, ⟨false, [((((decide ((1 : Int) ≤ g1)) && (decide (g1 ≤ 10))) && (decide ((1 : Int) ≤ g2))) && (decide (g2 ≤ 10)), true)], vS (Instr.loadAt 3 (.pointer (some ⟨g4, 0, none⟩))), .int .i64 g1⟩, ⟨false, [((((decide ((1 : Int) ≤ g1)) && (decide (g1 ≤ 10))) && (decide ((1 : Int) ≤ g2))) && (decide (g2 ≤ 10)), true)], vS (Instr.loadAt 3 (.pointer (some ⟨g4, 1, none⟩))), .int .i64 g2⟩, ⟨false, [(((((decide ((1 : Int) ≤ g1)) && (decide (g1 ≤ 10))) && (decide ((1 : Int) ≤ g2))) && (decide (g2 ≤ 10))) && ((g3.length : Int) == (w64 (g1 * g2))), true)], vS (Instr.loadAt 22 (.pointer (some ⟨g4, 2, none⟩))), .slice A1 g3.length c1⟩, ⟨false, [(((((decide ((1 : Int) ≤ g1)) && (decide (g1 ≤ 10))) && (decide ((1 : Int) ≤ g2))) && (decide (g2 ≤ 10))) && ((g3.length : Int) == (w64 (g1 * g2))), true)], callFunc 94 #[.slice A1 g3.length c1, .func (.func 132) #[] #[]], .bool r1⟩] [none, some (.int .i64 g1), none, none, none, some (.int .i64 g1), none, none, none, none, some (.int .i64 g2), none, none, none, none, some (.int .i64 g2), none, none, none, none, some (.slice A1 g3.length c1), none, none, some (.int .i64 g1), none, some (.int .i64 g2), none, none, none, none, none, some (.slice A1 g3.length c1), some (.bool r1), none, none, none] [2] [pl 2 (.bool ((((((decide ((1 : Int) ≤ g1)) && (decide (g1 ≤ 10))) && (decide ((1 : Int) ≤ g2))) && (decide (g2 ≤ 10))) && ((g3.length : Int) == (w64 (g1 * g2)))) && (!r1)))] hF hS Fol (by kernel_rfl) (by kernel_rfl) (by kernel_rfl) ?_ (fun a w hF hS => ?_)
  · exact obs_cons (ob_load Agg3 (fun _ _ hS => (hS.at_ 0 rfl).cell rfl)) <| obs_cons (ob_load Agg3 (fun _ _ hS => (hS.at_ 0 rfl).cell rfl)) <| obs_cons (ob_load Agg3 (fun _ _ hS => (hS.at_ 0 rfl).cell rfl)) <| obs_cons (ob_load Agg3 (fun _ _ hS => (hS.at_ 0 rfl).cell rfl)) <| obs_cons (ob_load Agg22 (fun _ _ hS => (hS.at_ 0 rfl).cell rfl)) <| obs_cons (ob_load Agg3 (fun _ _ hS => (hS.at_ 0 rfl).cell rfl)) <| obs_cons (ob_load Agg3 (fun _ _ hS => (hS.at_ 0 rfl).cell rfl)) <| obs_cons (ob_load Agg22 (fun _ _ hS => (hS.at_ 0 rfl).cell rfl)) <| obs_cons (ob_call Try.func94 (by kernel_rfl) rfl (fun hy _ hS => slices_ContainsFunc_w (ite_some hr1 (by rw [show (((((decide ((1 : Int) ≤ g1)) && (decide (g1 ≤ 10))) && (decide ((1 : Int) ≤ g2))) && (decide (g2 ≤ 10))) && ((g3.length : Int) == (w64 (g1 * g2)))) = true from hy (((((decide ((1 : Int) ≤ g1)) && (decide (g1 ≤ 10))) && (decide ((1 : Int) ≤ g2))) && (decide (g2 ≤ 10))) && ((g3.length : Int) == (w64 (g1 * g2))), true) (by simp)]; try rfl)) hS (fun _ hS => (hr_g3 _ (hS.dropN 1))) _hc_g3 rfl)) <| obs_nil
  refine wp_ret ?_
  have hS := hS.pickN 1 [] (by decide)
  have hm : some ((((((decide ((1 : Int) ≤ g1)) && (decide (g1 ≤ 10))) && (decide ((1 : Int) ≤ g2))) && (decide (g2 ≤ 10))) && ((g3.length : Int) == (w64 (g1 * g2)))) && (!r1)) = some r := hm
  obtain rfl := Option.some.inj hm
  exact retV (rs := [.tmp 2]) (vs := [.bool ((((((decide ((1 : Int) ≤ g1)) && (decide (g1 ≤ 10))) && (decide ((1 : Int) ≤ g2))) && (decide (g2 ≤ 10))) && ((g3.length : Int) == (w64 (g1 * g2)))) && (!r1))]) hF rfl (rv_t (by kernel_rfl) <| rv_nil) rfl ⟨rfl, hS⟩

noncomputable def slices_Clone_J1 (s1 : List Int) : Option (List Int) :=
  asrt ((0 : Int) + (s1.length : Int) ≤ bigN) <| some (([] : List Int) ++ s1)

noncomputable def slices_Clone_m (s1 : List Int) : Option (List Int) :=
  (slices_Clone_J1 s1)

set_option maxRecDepth 100000 in
set_option maxHeartbeats 4000000 in
theorem slices_Clone_w {A1 : Option Addr} {c1 : Nat} {n1 : Nat} {s1 : List Int} {r : (List Int)} {w0 w : World} {B : Nat} {fs : List HP} (hm : slices_Clone_m s1 = some r) (hS : Sep w0 B w (fs)) (hr_s1 : RdF w0 B fs A1 (vI s1)) (_hc_s1 : s1.length ≤ c1) (_hn_s1 : n1 = s1.length) :
    Calls Try.prog 113 #[.slice A1 n1 c1] w fun e w' => ∃ v, e = .returned v ∧ ∃ (A3 : Option Addr) (c3 : Nat), v = .slice A3 r.length c3 ∧ Sep w0 B w' (own 3 (.slice A3 r.length c3) (vI r) :: fs) := by
  obtain ⟨i3, hi3, hz3, hs3, hb3⟩ := info_parts Info3
  obtain rfl := _hn_s1
  unfold slices_Clone_m at hm
  replace hm := start_b hm
  refine enter (l := [.slice A1 s1.length c1]) (n := 8) Try.func113 rfl rfl (by simp) (fun a hF => ?_)
  refine reg [] [] [0] [pl 0 (.slice A1 s1.length c1)] hF hS Fol (by kernel_rfl) (by kernel_rfl) (by kernel_rfl) ?_ (fun a w hF hS => ?_)
  · exact obs_nil
  refine seq_cut (fun a w => Fr 8 [pl 0 (.slice A1 s1.length c1)] a ∧ Sep w0 B w (fs) ∧ ((slices_Clone_J1 s1)).bind some = some r) ?_ ?_
  · rintro a w ⟨hF, hS, hm⟩
    unfold slices_Clone_J1 at hm
    refine seqR ?_
    obtain ⟨hp1, hm⟩ := asrt_b hm
    refine at_do (d := 5) (s := vS (Instr.buildSlice 22 0 #[])) (v := .slice (some ⟨w.heap.size, 0, none⟩) 0 0) (w' := w.alloc (.cells #[] 3)) hF (by kernel_rfl) (by kernel_rfl) (by kernel_rfl) (fun a hF => ?_)
    have hS : Sep w0 B (w.alloc (.cells #[] 3)) (own 3 (.slice (some (⟨w.heap.size, 0, none⟩ : Addr)) 0 0) (vI ([] : List Int)) :: (fs)) := hS.lit 3 #[] 0 rfl (by omega)
    generalize (some (⟨w.heap.size, 0, none⟩ : Addr)) = g1 at hF hS
    generalize w.alloc (.cells #[] 3) = w at hS ⊢
    refine at_run 1 [] [] [5, 6] [pl 5 (.slice g1 0 0), pl 6 (.slice A1 s1.length c1)] hF hS (by kernel_rfl) (by kernel_rfl) ?_ (fun a w hF hS => ?_)
    · exact obs_nil
    obtain ⟨A2, c2, w, hrun, hS⟩ := run_app1 (P := Try.prog) (t := 22) (m := ([] : List Int)) (ys := s1) (A2 := A1) (m2 := s1.length) (c2 := c1) (Value.int .i64) (0 : Int) (hS.at_ 0 rfl) (hr_s1 _ (hS.dropN 1)) rfl 22 Und22 hi3 hz3 hs3 (by omega) rfl (fun _ => rfl) hp1
    have hS : Sep w0 B w (own 3 (.slice A2 ((([] : List Int) ++ s1).length) c2) (vI (([] : List Int) ++ s1)) :: fs) := hS
    refine at_do (d := 7) hF (by kernel_rfl) (by kernel_rfl) hrun (fun a hF => ?_)
    refine at_run 1 [] [] [2] [pl 2 (.slice A2 ((([] : List Int) ++ s1).length) c2)] hF hS (by kernel_rfl) (by kernel_rfl) ?_ (fun a w hF hS => ?_)
    · exact obs_nil
    refine at_end [2] [pl 2 (.slice A2 ((([] : List Int) ++ s1).length) c2)] hF rfl (by kernel_rfl) (fun hF => ?_)
    refine then_n ?_
    refine wp_ret ?_
    have hm : some (([] : List Int) ++ s1) = some r := hm
    obtain rfl := Option.some.inj hm
    exact retV (rs := [.tmp 2]) (vs := [.slice A2 ((([] : List Int) ++ s1).length) c2]) hF rfl (rv_t (by kernel_rfl) <| rv_nil) rfl ⟨_, rfl, A2, c2, rfl, hS⟩
  · refine reg [⟨true, [], vS (binOp .eql 22 (.slice A1 s1.length c1) (.slice none 0 0)), .bool A1.isNone⟩] [none, some (.bool A1.isNone)] [0, 4] [pl 0 (.slice A1 s1.length c1), pl 4 (.bool A1.isNone)] hF hS Fol (by kernel_rfl) (by kernel_rfl) (by kernel_rfl) ?_ (fun a w hF hS => ?_)
    · exact obs_cons (ob_isnil Und22 rfl) <| obs_nil
    refine cond_ev (t := 4) (b := A1.isNone) hF (by kernel_rfl) (fun hb => ?_) (fun hb => ?_)
    · have hA9 := Option.isNone_iff_eq_none.1 hb
      have hnil9 : s1 = [] := by have h9 := (hr_s1 _ (hS.dropN 0)); rw [hA9] at h9; exact h9.none_nil
      have hm : (some ([] : List Int)).bind some = some r := by rw [hnil9] at hm; simpa [asrt, bigN, slices_Clone_J1] using hm
      refine reg [] [] [2] [pl 2 (.slice none 0 0)] hF hS Fol (by kernel_rfl) (by kernel_rfl) (by kernel_rfl) ?_ (fun a w hF hS => ?_)
      · exact obs_nil
      refine wp_ret ?_
      refine then_r ?_
      have hS : Sep w0 B w (own 3 (.slice none 0 0) (vI ([] : List Int)) :: fs) := hS.nil 3
      have hl1 := (hS.at_ 0 rfl).len1
      have hS := (hS.at_ 0 rfl).reN hl1
      have hS : Sep w0 B w (own 3 (.slice none (([] : List Int).length) 0) (vI ([] : List Int)) :: fs) := hS
      have hm : some ([] : List Int) = some r := hm
      obtain rfl := Option.some.inj hm
      exact retV (rs := [.tmp 2]) (vs := [.slice none (([] : List Int).length) 0]) hF rfl (rv_t (by kernel_rfl) <| rv_nil) rfl ⟨_, rfl, none, 0, rfl, hS⟩
    · refine wp_skip ?_
      refine then_n ?_
      exact ⟨hF.weak [0] (by kernel_rfl), hS, hm⟩

noncomputable def four_opened_J5 (z1 : Int) (w4 : Int) : Option (St (Int × Int) (Fl Int (Fl Unit (Int × Int × List Int × Int)))) :=
  some (.next (w4, (w64 (z1 + 1))))

noncomputable def four_opened_J4 (g1 : Int) (g3 : List Int) (w2 : Int) (z1 : Int) : Option (St (Int × Int) (Fl Int (Fl Unit (Int × Int × List Int × Int)))) :=
  asrt (0 ≤ z1 ∧ z1 < (g3.length : Int)) <| if (decide ((0 : Int) < (geti g3 z1))) then (asrt ((decide ((w64 (z1 + g1)) < (g3.length : Int))) = true → 0 ≤ (w64 (z1 + g1)) ∧ (w64 (z1 + g1)) < (g3.length : Int)) <| if ((decide ((w64 (z1 + g1)) < (g3.length : Int))) && ((geti g3 (w64 (z1 + g1))) == 0)) then (some (.done (.ret (.go ())))) else ((four_opened_J5 z1) (w64 (w2 + 1)))) else ((four_opened_J5 z1) w2)

noncomputable def four_opened_J3 (g1 : Int) (g2 : Int) (w1 : List Int) (w3 : Int) : Option (Fl Unit (Int × Int × List Int × Int)) :=
  some (.ret (g1, g2, w1, w3))

noncomputable def four_opened_K1 (g1 : Int) (g2 : Int) (w1 : List Int) : (Fl Int (Fl Unit (Int × Int × List Int × Int))) → Option (Fl Unit (Int × Int × List Int × Int)) :=
  fun (x : (Fl Int (Fl Unit (Int × Int × List Int × Int)))) => match x with | .go w3 => (four_opened_J3 g1 g2 w1) w3 | .ret x => some x

noncomputable def four_opened_L1 (g1 : Int) (g3 : List Int) : (Int × Int) → Option (St (Int × Int) (Fl Int (Fl Unit (Int × Int × List Int × Int)))) :=
  fun (x : (Int × Int)) => match x with | (w2, z1) => if (decide (z1 < (g3.length : Int))) then ((four_opened_J4 g1 g3 w2 z1)) else (some (.done (.go w2)))

noncomputable def four_opened_J2 (g1 : Int) (g2 : Int) (g3 : List Int) (w1 : List Int) : Option (Fl Unit (Int × Int × List Int × Int)) :=
  (loop (four_opened_L1 g1 g3) (0, 0)).bind (four_opened_K1 g1 g2 w1)

noncomputable def four_opened_J1 (g1 : Int) (g2 : Int) (g3 : List Int) : Option (Fl Unit (Int × Int × List Int × Int)) :=
  (slices_Clone_m g3).bind fun r2 => (four_opened_J2 g1 g2 g3) r2

noncomputable def four_opened_m (g1 : Int) (g2 : Int) (g3 : List Int) : Option (Fl Unit (Int × Int × List Int × Int)) :=
  (rows_May_m g1 g2 g3).bind fun r1 => if (!r1) then (some (.go ())) else ((four_opened_J1 g1 g2 g3))

set_option maxRecDepth 100000 in
set_option maxHeartbeats 4000000 in
theorem four_opened_w {g1 : Int} {g2 : Int} {A1 : Option Addr} {c1 : Nat} {n1 : Nat} {g3 : List Int} {r : (Fl Unit (Int × Int × List Int × Int))} {w0 w : World} {B : Nat} {fs : List HP} (hm : four_opened_m g1 g2 g3 = some r) (hS : Sep w0 B w (fs)) (hr_g3 : RdF w0 B fs A1 (vI g3)) (_hc_g3 : g3.length ≤ c1) (_hn_g3 : n1 = g3.length) :
    Calls Try.prog 73 #[.agg #[.int .i64 g1, .int .i64 g2, .slice A1 n1 c1]] w fun e w' => ∃ v, e = .returned v ∧ Fl.post r (fun r => v = .tuple #[.pointer none, .int .i64 12] ∧ Sep w0 B w' (fs)) (fun r => ∃ (g7 : Nat) (A5 : Option Addr) (c5 : Nat), v = .tuple #[.pointer (some ⟨g7, 0, none⟩), .int .i64 0] ∧ Sep w0 B w' (blk g7 95 #[.int .i64 r.1, .int .i64 r.2.1, .slice A5 r.2.2.1.length c5, .int .i64 0, .int .i64 r.2.2.2] :: own 3 (.slice A5 r.2.2.1.length c5) (vI r.2.2.1) :: fs)) := by
  obtain ⟨i3, hi3, hz3, hs3, hb3⟩ := info_parts Info3
  obtain rfl := _hn_g3
  unfold four_opened_m at hm
  replace hm := start_b hm
  refine enter (l := [.agg #[.int .i64 g1, .int .i64 g2, .slice A1 g3.length c1]]) (n := 57) Try.func73 rfl rfl (by simp) (fun a hF => ?_)
  refine seqR ?_
  refine at_do (d := 1) (s := vS (Instr.box 24 (.agg #[.int .i64 g1, .int .i64 g2, .slice A1 g3.length c1]))) (v := .pointer (some ⟨w.heap.size, 0, none⟩)) (w' := w.alloc (.cells #[.int .i64 g1, .int .i64 g2, .slice A1 g3.length c1] 24)) hF (by kernel_rfl) (by kernel_rfl) (by kernel_rfl) (fun a hF => ?_)
  have hS : Sep w0 B (w.alloc (.cells #[.int .i64 g1, .int .i64 g2, .slice A1 g3.length c1] 24)) (blk w.heap.size 24 #[.int .i64 g1, .int .i64 g2, .slice A1 g3.length c1] :: (fs)) := hS.box 24 #[.int .i64 g1, .int .i64 g2, .slice A1 g3.length c1]
  generalize w.heap.size = g4 at hF hS
  generalize w.alloc (.cells #[.int .i64 g1, .int .i64 g2, .slice A1 g3.length c1] 24) = w at hS ⊢
  refine at_run 2 [] [] [1] [pl 1 (.pointer (some ⟨g4, 0, none⟩))] hF hS (by kernel_rfl) (by kernel_rfl) ?_ (fun a w hF hS => ?_)
  · exact obs_nil
  refine at_end [1] [pl 1 (.pointer (some ⟨g4, 0, none⟩))] hF rfl (by kernel_rfl) (fun hF => ?_)
  refine then_n ?_
  refine seq_cut (fun a w => Fr 57 [pl 1 (.pointer (some ⟨g4, 0, none⟩))] a ∧ Sep w0 B w (blk g4 24 #[.int .i64 g1, .int .i64 g2, .slice A1 g3.length c1] :: fs) ∧ ((four_opened_J1 g1 g2 g3)).bind some = some r) ?_ ?_
  · rintro a w ⟨hF, hS, hm⟩
    unfold four_opened_J1 at hm
    refine seq_cut (fun a w => ∃ (w1 : List Int) (g6 : Nat) (A4 : Option Addr) (c4 : Nat), Fr 57 [pl 1 (.pointer (some ⟨g4, 0, none⟩)), pl 4 (.pointer (some ⟨g6, 0, none⟩))] a ∧ Sep w0 B w (blk g4 24 #[.int .i64 g1, .int .i64 g2, .slice A1 g3.length c1] :: blk g6 95 #[.int .i64 g1, .int .i64 g2, .slice A4 w1.length c4, .int .i64 0, .int .i64 0] :: own 3 (.slice A4 w1.length c4) (vI w1) :: fs) ∧ ((four_opened_J2 g1 g2 g3) w1).bind some = some r) ?_ ?_
    · rintro a w ⟨w1, g6, A4, c4, hF, hS, hm⟩
      unfold four_opened_J2 at hm
      refine seq_cut (fun a w => ∃ (w3 : Int), Fr 57 [pl 4 (.pointer (some ⟨g6, 0, none⟩))] a ∧ Sep w0 B w (blk g6 95 #[.int .i64 g1, .int .i64 g2, .slice A4 w1.length c4, .int .i64 0, .int .i64 w3] :: own 3 (.slice A4 w1.length c4) (vI w1) :: fs) ∧ ((four_opened_J3 g1 g2 w1) w3).bind some = some r) ?_ ?_
      · rintro a w ⟨w3, hF, hS, hm⟩
        unfold four_opened_J3 at hm
        refine reg [] [] [2, 3] [pl 2 (.pointer (some ⟨g6, 0, none⟩)), pl 3 (.int .i64 0)] hF hS Fol (by kernel_rfl) (by kernel_rfl) (by kernel_rfl) ?_ (fun a w hF hS => ?_)
        · exact obs_nil
        refine wp_ret ?_
        have hm : some (.ret (g1, g2, w1, w3)) = some r := hm
        obtain rfl := Option.some.inj hm
        exact retV (rs := [.tmp 2, .tmp 3]) (vs := [.pointer (some ⟨g6, 0, none⟩), .int .i64 0]) hF rfl (rv_t (by kernel_rfl) <| rv_t (by kernel_rfl) <| rv_nil) rfl ⟨_, rfl, g6, A4, c4, rfl, hS⟩
      · refine reg [⟨false, [], vS (Instr.loadAt 22 (.pointer (some ⟨g4, 2, none⟩))), .slice A1 g3.length c1⟩] [none, some (.slice A1 g3.length c1), none, none] [1, 4, 22, 23, 24] [pl 1 (.pointer (some ⟨g4, 0, none⟩)), pl 4 (.pointer (some ⟨g6, 0, none⟩)), pl 22 (.slice A1 g3.length c1), pl 23 (.int .i64 (g3.length : Int)), pl 24 (.int .i64 0)] hF hS Fol (by kernel_rfl) (by kernel_rfl) (by kernel_rfl) ?_ (fun a w hF hS => ?_)
        · exact obs_cons (ob_load Agg22 (fun _ _ hS => (hS.at_ 0 rfl).cell rfl)) <| obs_nil
        refine wp_block ?_
        refine wp_loop_model (S := (Int × Int)) (R := (Fl Int (Fl Unit (Int × Int × List Int × Int)))) (four_opened_L1 g1 g3) (fun x => ((four_opened_K1 g1 g2 w1) x).bind some) r (fun (x : (Int × Int)) a w => Fr 57 [pl 1 (.pointer (some ⟨g4, 0, none⟩)), pl 4 (.pointer (some ⟨g6, 0, none⟩)), pl 22 (.slice A1 g3.length c1), pl 23 (.int .i64 (g3.length : Int)), pl 24 (.int .i64 x.2)] a ∧ Sep w0 B w (blk g4 24 #[.int .i64 g1, .int .i64 g2, .slice A1 g3.length c1] :: blk g6 95 #[.int .i64 g1, .int .i64 g2, .slice A4 w1.length c4, .int .i64 0, .int .i64 x.1] :: own 3 (.slice A4 w1.length c4) (vI w1) :: fs)) (assoc_b hm) ⟨hF.weak [1, 4, 22, 23, 24] (by kernel_rfl), hS⟩ ?_
        clear hF hS hm
        rintro nn1 ⟨w2, z1⟩ a w ⟨hF, hS⟩ hm
        generalize hφ1 : stK (four_opened_L1 g1 g3) nn1 (fun x => ((four_opened_K1 g1 g2 w1) x).bind some) = φ1 at hm
        unfold four_opened_L1 at hm
        dsimp only at hF hS hm
        refine reg [] [] [1, 4, 22, 23, 24, 25] [pl 1 (.pointer (some ⟨g4, 0, none⟩)), pl 4 (.pointer (some ⟨g6, 0, none⟩)), pl 22 (.slice A1 g3.length c1), pl 23 (.int .i64 (g3.length : Int)), pl 24 (.int .i64 z1), pl 25 (.bool (decide (z1 < (g3.length : Int))))] hF hS Fol (by kernel_rfl) (by kernel_rfl) (by kernel_rfl) ?_ (fun a w hF hS => ?_)
        · exact obs_nil
        refine seq_cut (fun a w => Fr 57 [pl 1 (.pointer (some ⟨g4, 0, none⟩)), pl 4 (.pointer (some ⟨g6, 0, none⟩)), pl 22 (.slice A1 g3.length c1), pl 23 (.int .i64 (g3.length : Int)), pl 24 (.int .i64 z1)] a ∧ Sep w0 B w (blk g4 24 #[.int .i64 g1, .int .i64 g2, .slice A1 g3.length c1] :: blk g6 95 #[.int .i64 g1, .int .i64 g2, .slice A4 w1.length c4, .int .i64 0, .int .i64 w2] :: own 3 (.slice A4 w1.length c4) (vI w1) :: fs) ∧ ((four_opened_J4 g1 g3 w2 z1)).bind φ1 = some r) ?_ ?_
        · rintro a w ⟨hF, hS, hm⟩
          unfold four_opened_J4 at hm
          refine seq_cut (fun a w => ∃ (w4 : Int), Fr 57 [pl 1 (.pointer (some ⟨g4, 0, none⟩)), pl 4 (.pointer (some ⟨g6, 0, none⟩)), pl 22 (.slice A1 g3.length c1), pl 23 (.int .i64 (g3.length : Int)), pl 24 (.int .i64 z1)] a ∧ Sep w0 B w (blk g4 24 #[.int .i64 g1, .int .i64 g2, .slice A1 g3.length c1] :: blk g6 95 #[.int .i64 g1, .int .i64 g2, .slice A4 w1.length c4, .int .i64 0, .int .i64 w4] :: own 3 (.slice A4 w1.length c4) (vI w1) :: fs) ∧ ((four_opened_J5 z1) w4).bind φ1 = some r) ?_ ?_
          · rintro a w ⟨w4, hF, hS, hm⟩
            unfold four_opened_J5 at hm
            refine reg1 [] [] [1, 4, 22, 23, 24] [pl 1 (.pointer (some ⟨g4, 0, none⟩)), pl 4 (.pointer (some ⟨g6, 0, none⟩)), pl 22 (.slice A1 g3.length c1), pl 23 (.int .i64 (g3.length : Int)), pl 24 (.int .i64 (w64 (z1 + 1)))] hF hS Fol (by kernel_rfl) (by kernel_rfl) (by kernel_rfl) ?_ (fun a w hF hS => ?_)
            · exact obs_nil
            refine then_n ?_
            rw [← hφ1] at hm
            exact ⟨(w4, (w64 (z1 + 1))), ⟨hF.weak [1, 4, 22, 23, 24] (by kernel_rfl), hS⟩, hm⟩
          · refine wp_block ?_
            obtain ⟨hp1, hm⟩ := asrt_b hm
            refine reg [⟨true, [], vS (Instr.indexAt 22 (.slice A1 g3.length c1) (.int .i64 z1)), .pointer (some (sAddr A1 z1))⟩, ⟨false, [], vS (Instr.loadAt 3 (.pointer (some (sAddr A1 z1)))), .int .i64 (geti g3 z1)⟩] [none, some (.pointer (some (sAddr A1 z1))), some (.int .i64 (geti g3 z1)), none, none] [1, 4, 5, 6, 22, 23, 24] [pl 1 (.pointer (some ⟨g4, 0, none⟩)), pl 4 (.pointer (some ⟨g6, 0, none⟩)), pl 5 (.int .i64 z1), pl 6 (.int .i64 (geti g3 z1)), pl 22 (.slice A1 g3.length c1), pl 23 (.int .i64 (g3.length : Int)), pl 24 (.int .i64 z1)] hF hS Fol (by kernel_rfl) (by kernel_rfl) (by kernel_rfl) ?_ (fun a w hF hS => ?_)
            · exact obs_cons (ob_ix1 (f := (Value.int .i64)) (m := g3) Und22 hi3 hs3 (hr_g3 _ (hS.dropN 3)) rfl (fun _ => hp1)) <| obs_cons (ob_get1 (n := g3.length) (m := g3) (Value.int .i64) (0 : Int) Agg3 (fun _ hS => ⟨_, (hr_g3 _ (hS.dropN 3))⟩) (fun _ hS => rfl) (fun _ => hp1)) <| obs_nil
            refine reg [] [] [1, 4, 5, 22, 23, 24, 30] [pl 1 (.pointer (some ⟨g4, 0, none⟩)), pl 4 (.pointer (some ⟨g6, 0, none⟩)), pl 5 (.int .i64 z1), pl 22 (.slice A1 g3.length c1), pl 23 (.int .i64 (g3.length : Int)), pl 24 (.int .i64 z1), pl 30 (.bool (decide ((0 : Int) < (geti g3 z1))))] hF hS Fol (by kernel_rfl) (by kernel_rfl) (by kernel_rfl) ?_ (fun a w hF hS => ?_)
            · exact obs_nil
            refine cond_ev (t := 30) (b := decide ((0 : Int) < (geti g3 z1))) hF (by kernel_rfl) (fun hb => ?_) (fun hb => ?_)
            · replace hm := if_t hm hb
              refine seqR ?_
              refine at_run 7 [⟨false, [], vS (Instr.loadAt 3 (.pointer (some ⟨g6, 4, none⟩))), .int .i64 w2⟩] [none, none, none, some (.int .i64 w2), none, none, none] [1, 4, 5, 22, 23, 24, 35, 37] [pl 1 (.pointer (some ⟨g4, 0, none⟩)), pl 4 (.pointer (some ⟨g6, 0, none⟩)), pl 5 (.int .i64 z1), pl 22 (.slice A1 g3.length c1), pl 23 (.int .i64 (g3.length : Int)), pl 24 (.int .i64 z1), pl 35 (.int .i64 (w64 (w2 + 1))), pl 37 (.pointer (some ⟨g6, 4, none⟩))] hF hS (by kernel_rfl) (by kernel_rfl) ?_ (fun a w hF hS => ?_)
              · exact obs_cons (ob_load Agg3 (fun _ _ hS => (hS.at_ 1 rfl).cell rfl)) <| obs_nil
              obtain ⟨w, hrun, hS⟩ := run_put (P := Try.prog) (t := 3) (u := .int .i64 (w64 (w2 + 1))) (i := 4) (hS.at_ 1 rfl) hi3 hs3 rfl (Nat.lt_of_lt_of_eq (Nat.lt_of_succ_le (Nat.le_of_ble_eq_true (by kernel_rfl))) rfl)
              refine at_skip hF (by kernel_rfl) hrun ?_
              have hS : Sep w0 B w (blk g4 24 #[.int .i64 g1, .int .i64 g2, .slice A1 g3.length c1] :: blk g6 95 #[.int .i64 g1, .int .i64 g2, .slice A4 w1.length c4, .int .i64 0, .int .i64 (w64 (w2 + 1))] :: own 3 (.slice A4 w1.length c4) (vI w1) :: fs) := hS
              refine at_end [1, 4, 5, 22, 23, 24] [pl 1 (.pointer (some ⟨g4, 0, none⟩)), pl 4 (.pointer (some ⟨g6, 0, none⟩)), pl 5 (.int .i64 z1), pl 22 (.slice A1 g3.length c1), pl 23 (.int .i64 (g3.length : Int)), pl 24 (.int .i64 z1)] hF rfl (by kernel_rfl) (fun hF => ?_)
              refine then_n ?_
              refine reg [⟨false, [], vS (Instr.loadAt 3 (.pointer (some ⟨g4, 0, none⟩))), .int .i64 g1⟩] [none, none, some (.int .i64 g1), none, none] [1, 4, 7, 22, 23, 24] [pl 1 (.pointer (some ⟨g4, 0, none⟩)), pl 4 (.pointer (some ⟨g6, 0, none⟩)), pl 7 (.int .i64 (w64 (z1 + g1))), pl 22 (.slice A1 g3.length c1), pl 23 (.int .i64 (g3.length : Int)), pl 24 (.int .i64 z1)] hF hS Fol (by kernel_rfl) (by kernel_rfl) (by kernel_rfl) ?_ (fun a w hF hS => ?_)
              · exact obs_cons (ob_load Agg3 (fun _ _ hS => (hS.at_ 0 rfl).cell rfl)) <| obs_nil
              obtain ⟨hp2, hm⟩ := asrt_b hm
              refine reg [⟨false, [], vS (Instr.loadAt 22 (.pointer (some ⟨g4, 2, none⟩))), .slice A1 g3.length c1⟩, ⟨false, [(decide ((w64 (z1 + g1)) < (g3.length : Int)), true)], vS (Instr.loadAt 22 (.pointer (some ⟨g4, 2, none⟩))), .slice A1 g3.length c1⟩, ⟨true, [(decide ((w64 (z1 + g1)) < (g3.length : Int)), true)], vS (Instr.indexAt 22 (.slice A1 g3.length c1) (.int .i64 (w64 (z1 + g1)))), .pointer (some (sAddr A1 (w64 (z1 + g1))))⟩, ⟨false, [(decide ((w64 (z1 + g1)) < (g3.length : Int)), true)], vS (Instr.loadAt 3 (.pointer (some (sAddr A1 (w64 (z1 + g1)))))), .int .i64 (geti g3 (w64 (z1 + g1)))⟩] [none, none, some (.slice A1 g3.length c1), none, none, none, none, some (.slice A1 g3.length c1), none, some (.pointer (some (sAddr A1 (w64 (z1 + g1))))), some (.int .i64 (geti g3 (w64 (z1 + g1)))), none, none] [1, 4, 22, 23, 24, 54] [pl 1 (.pointer (some ⟨g4, 0, none⟩)), pl 4 (.pointer (some ⟨g6, 0, none⟩)), pl 22 (.slice A1 g3.length c1), pl 23 (.int .i64 (g3.length : Int)), pl 24 (.int .i64 z1), pl 54 (.bool ((decide ((w64 (z1 + g1)) < (g3.length : Int))) && ((geti g3 (w64 (z1 + g1))) == 0)))] hF hS Fol (by kernel_rfl) (by kernel_rfl) (by kernel_rfl) ?_ (fun a w hF hS => ?_)
              · exact obs_cons (ob_load Agg22 (fun _ _ hS => (hS.at_ 0 rfl).cell rfl)) <| obs_cons (ob_load Agg22 (fun _ _ hS => (hS.at_ 0 rfl).cell rfl)) <| obs_cons (ob_ix1 (f := (Value.int .i64)) (m := g3) Und22 hi3 hs3 (hr_g3 _ (hS.dropN 3)) rfl (fun hy => hp2 (hy (decide ((w64 (z1 + g1)) < (g3.length : Int)), true) (by simp)))) <| obs_cons (ob_get1 (n := g3.length) (m := g3) (Value.int .i64) (0 : Int) Agg3 (fun _ hS => ⟨_, (hr_g3 _ (hS.dropN 3))⟩) (fun _ hS => rfl) (fun hy => hp2 (hy (decide ((w64 (z1 + g1)) < (g3.length : Int)), true) (by simp)))) <| obs_nil
              refine cond_ev (t := 54) (b := (decide ((w64 (z1 + g1)) < (g3.length : Int))) && ((geti g3 (w64 (z1 + g1))) == 0)) hF (by kernel_rfl) (fun hb => ?_) (fun hb => ?_)
              · replace hm := if_t hm hb
                refine reg [] [] [2, 3] [pl 2 (.pointer none), pl 3 (.int .i64 12)] hF hS Fol (by kernel_rfl) (by kernel_rfl) (by kernel_rfl) ?_ (fun a w hF hS => ?_)
                · exact obs_nil
                refine wp_ret ?_
                refine block_r (then_r (then_r (block_r (then_r ?_))))
                rw [← hφ1] at hm
                replace hm := done_b hm
                unfold four_opened_K1 at hm
                try dsimp only at hm
                have hS := hS.pickN 3 [] (by decide)
                have hm : some (.go ()) = some r := hm
                obtain rfl := Option.some.inj hm
                exact retV (rs := [.tmp 2, .tmp 3]) (vs := [.pointer none, .int .i64 12]) hF rfl (rv_t (by kernel_rfl) <| rv_t (by kernel_rfl) <| rv_nil) rfl ⟨_, rfl, rfl, hS⟩
              · replace hm := if_f hm hb
                refine wp_skip ?_
                refine block_n ?_
                refine then_n ?_
                exact ⟨(w64 (w2 + 1)), hF.weak [1, 4, 22, 23, 24] (by kernel_rfl), hS, hm⟩
            · replace hm := if_f hm hb
              refine wp_skip ?_
              refine block_n ?_
              refine then_n ?_
              exact ⟨w2, hF.weak [1, 4, 22, 23, 24] (by kernel_rfl), hS, hm⟩
        · refine cond_ev (t := 25) (b := decide (z1 < (g3.length : Int))) hF (by kernel_rfl) (fun hb => ?_) (fun hb => ?_)
          · replace hm := if_t hm hb
            refine wp_skip ?_
            refine then_n ?_
            exact ⟨hF.weak [1, 4, 22, 23, 24] (by kernel_rfl), hS, hm⟩
          · replace hm := if_f hm hb
            refine wp_exit ?_
            refine then_e (then_e (block_e (then_n ?_)))
            have hS := hS.pickN 3 [1, 2] (by decide)
            rw [← hφ1] at hm
            replace hm := done_b hm
            unfold four_opened_K1 at hm
            try dsimp only at hm
            have hm : ((four_opened_J3 g1 g2 w1) w2).bind some = some r := hm
            exact ⟨w2, hF.weak [4] (by kernel_rfl), hS, hm⟩
    · obtain ⟨r2, hr2, hm⟩ := call_b hm
      refine regMix5 [0, 1, 2, 3, 4, 5] [] 5 #[true, true, true, true, true, true, false, false, false, false, false] [⟨false, [], vS (Instr.loadAt 3 (.pointer (some ⟨g4, 0, none⟩))), .int .i64 g1⟩, ⟨false, [], vS (Instr.loadAt 3 (.pointer (some ⟨g4, 1, none⟩))), .int .i64 g2⟩, ⟨false, [], vS (Instr.loadAt 22 (.pointer (some ⟨g4, 2, none⟩))), .slice A1 g3.length c1⟩] [none, some (.int .i64 g1), none, some (.int .i64 g2), none, some (.slice A1 g3.length c1)] [1, 12, 14, 16] [pl 1 (.pointer (some ⟨g4, 0, none⟩)), pl 12 (.int .i64 g1), pl 14 (.int .i64 g2), pl 16 (.slice A1 g3.length c1)] hF hS Fol (by kernel_rfl) (by kernel_rfl) (by kernel_rfl) (by kernel_rfl) ?_ (fun a w hF hS => ?_)
      · exact obs_cons (ob_load Agg3 (fun _ _ hS => (hS.at_ 0 rfl).cell rfl)) <| obs_cons (ob_load Agg3 (fun _ _ hS => (hS.at_ 0 rfl).cell rfl)) <| obs_cons (ob_load Agg22 (fun _ _ hS => (hS.at_ 0 rfl).cell rfl)) <| obs_nil
      refine any_step [6] (by kernel_rfl) rfl ?_
      refine (all_cons ?_ all_nil)
      · refine any_op (listed' := #[true, true, true, true, true, true, true, false, false, false, false]) (by kernel_rfl) (by kernel_rfl) ?_
        refine at_call (f := 113) (args := #[.slice A1 g3.length c1]) (d := 17) hF (by kernel_rfl) (by kernel_rfl) Try.func113 (by kernel_rfl) rfl (slices_Clone_w hr2 hS (fun _ hS => (hr_g3 _ (hS.dropN 1))) _hc_g3 rfl) (fun v a w hR hF => ?_)
        clear hS
        obtain ⟨A3, c3, rfl, hS⟩ := hR
        have hS : Sep w0 B w (own 3 (.slice A3 r2.length c3) (vI r2) :: blk g4 24 #[.int .i64 g1, .int .i64 g2, .slice A1 g3.length c1] :: fs) := hS
        refine any_fin rfl (hS.pickN 2 [1] (by decide)) ?_
        refine any_step [7] (by kernel_rfl) rfl ?_
        refine (all_cons ?_ all_nil)
        · refine any_op (listed' := #[true, true, true, true, true, true, true, true, false, false, false]) (by kernel_rfl) (by kernel_rfl) ?_
          refine at_runW 1 [] [] [1, 18] [pl 1 (.pointer (some ⟨g4, 0, none⟩)), pl 18 (.agg #[.int .i64 g1, .int .i64 g2, .slice A3 r2.length c3])] hF hS (by kernel_rfl) (by kernel_rfl) ?_ (fun a hF => ?_)
          · exact obs_nil
          refine any_finI rfl (fun h => h) ?_
          refine any_step [8] (by kernel_rfl) rfl ?_
          refine (all_cons ?_ all_nil)
          · refine any_op (listed' := #[true, true, true, true, true, true, true, true, true, false, false]) (by kernel_rfl) (by kernel_rfl) ?_
            refine at_runW 1 [] [] [1, 19] [pl 1 (.pointer (some ⟨g4, 0, none⟩)), pl 19 (.agg #[.int .i64 g1, .int .i64 g2, .slice A3 r2.length c3, .int .i64 0, .int .i64 0])] hF hS (by kernel_rfl) (by kernel_rfl) ?_ (fun a hF => ?_)
            · exact obs_nil
            refine any_finI rfl (fun h => h) ?_
            refine any_step [9] (by kernel_rfl) rfl ?_
            refine (all_cons ?_ all_nil)
            · refine any_op (listed' := #[true, true, true, true, true, true, true, true, true, true, false]) (by kernel_rfl) (by kernel_rfl) ?_
              refine at_do (d := 20) (s := vS (Instr.box 95 (.agg #[.int .i64 g1, .int .i64 g2, .slice A3 r2.length c3, .int .i64 0, .int .i64 0]))) (v := .pointer (some ⟨w.heap.size, 0, none⟩)) (w' := w.alloc (.cells #[.int .i64 g1, .int .i64 g2, .slice A3 r2.length c3, .int .i64 0, .int .i64 0] 95)) hF (by kernel_rfl) (by kernel_rfl) (by kernel_rfl) (fun a hF => ?_)
              have hS : Sep w0 B (w.alloc (.cells #[.int .i64 g1, .int .i64 g2, .slice A3 r2.length c3, .int .i64 0, .int .i64 0] 95)) (blk w.heap.size 95 #[.int .i64 g1, .int .i64 g2, .slice A3 r2.length c3, .int .i64 0, .int .i64 0] :: (own 3 (.slice A3 r2.length c3) (vI r2) :: blk g4 24 #[.int .i64 g1, .int .i64 g2, .slice A1 g3.length c1] :: fs)) := hS.box 95 #[.int .i64 g1, .int .i64 g2, .slice A3 r2.length c3, .int .i64 0, .int .i64 0]
              generalize w.heap.size = g5 at hF hS
              generalize w.alloc (.cells #[.int .i64 g1, .int .i64 g2, .slice A3 r2.length c3, .int .i64 0, .int .i64 0] 95) = w at hS ⊢
              refine any_fin rfl (hS.pickN 3 [2] (by decide)) ?_
              refine any_step [10] (by kernel_rfl) rfl ?_
              refine (all_cons ?_ all_nil)
              · refine any_op (listed' := #[true, true, true, true, true, true, true, true, true, true, true]) (by kernel_rfl) (by kernel_rfl) ?_
                refine at_runW 1 [] [] [1, 4] [pl 1 (.pointer (some ⟨g4, 0, none⟩)), pl 4 (.pointer (some ⟨g5, 0, none⟩))] hF hS (by kernel_rfl) (by kernel_rfl) ?_ (fun a hF => ?_)
                · exact obs_nil
                refine any_finI rfl (fun h => h) ?_
                refine any_end (by kernel_rfl) ?_
                refine np_n ?_
                refine then_n ?_
                have hS := hS.pickN 3 [2, 0, 1] (by decide)
                exact ⟨r2, g5, A3, c3, hF.weak [1, 4] (by kernel_rfl), hS, hm⟩
  · obtain ⟨r1, hr1, hm⟩ := call_b hm
    refine reg [⟨false, [], vS (Instr.loadAt 24 (.pointer (some ⟨g4, 0, none⟩))), .agg #[.int .i64 g1, .int .i64 g2, .slice A1 g3.length c1]⟩, ⟨false, [], callFunc 111 #[.agg #[.int .i64 g1, .int .i64 g2, .slice A1 g3.length c1]], .bool r1⟩] [some (.agg #[.int .i64 g1, .int .i64 g2, .slice A1 g3.length c1]), some (.bool r1), none] [1, 10] [pl 1 (.pointer (some ⟨g4, 0, none⟩)), pl 10 (.bool (!r1))] hF hS Fol (by kernel_rfl) (by kernel_rfl) (by kernel_rfl) ?_ (fun a w hF hS => ?_)
    · exact obs_cons (ob_loadA (cs := #[.int .i64 g1, .int .i64 g2, .slice A1 g3.length c1]) (by kernel_rfl) (by kernel_rfl) (fun _ _ hS => (hS.at_ 0 rfl).cellsAt 0 (by rfl))) <| obs_cons (ob_call Try.func111 (by kernel_rfl) rfl (fun _ _ hS => rows_May_w hr1 hS (fun _ hS => (hr_g3 _ (hS.dropN 1))) _hc_g3 rfl)) <| obs_nil
    refine cond_ev (t := 10) (b := !r1) hF (by kernel_rfl) (fun hb => ?_) (fun hb => ?_)
    · replace hm := if_t hm hb
      refine reg [] [] [2, 3] [pl 2 (.pointer none), pl 3 (.int .i64 12)] hF hS Fol (by kernel_rfl) (by kernel_rfl) (by kernel_rfl) ?_ (fun a w hF hS => ?_)
      · exact obs_nil
      refine wp_ret ?_
      refine then_r ?_
      have hS := hS.pickN 1 [] (by decide)
      have hm : some (.go ()) = some r := hm
      obtain rfl := Option.some.inj hm
      exact retV (rs := [.tmp 2, .tmp 3]) (vs := [.pointer none, .int .i64 12]) hF rfl (rv_t (by kernel_rfl) <| rv_t (by kernel_rfl) <| rv_nil) rfl ⟨_, rfl, rfl, hS⟩
    · replace hm := if_f hm hb
      refine wp_skip ?_
      refine then_n ?_
      exact ⟨hF.weak [1] (by kernel_rfl), hS, hm⟩

noncomputable def four_far_m (k1 : Int) : Option Bool :=
  some ((decide (k1 < 1)) || (decide ((10 : Int) < k1)))

set_option maxRecDepth 100000 in
set_option maxHeartbeats 4000000 in
theorem four_far_w {k1 : Int} {r : Bool} {w0 w : World} {B : Nat} {fs : List HP} (hm : four_far_m k1 = some r) (hS : Sep w0 B w (fs)) :
    Calls Try.prog 74 #[.int .i64 k1] w fun e w' => e = .returned (.bool r) ∧ Sep w0 B w' (fs) := by
  unfold four_far_m at hm
  replace hm := start_b hm
  refine enter (l := [.int .i64 k1]) (n := 9) Try.func74 rfl rfl (by simp) (fun a hF => ?_)
  refine reg [] [] [0] [pl 0 (.int .i64 k1)] hF hS Fol (by kernel_rfl) (by kernel_rfl) (by kernel_rfl) ?_ (fun a w hF hS => ?_)
  · exact obs_nil
  refine reg [] [] [2] [pl 2 (.bool ((decide (k1 < 1)) || (decide ((10 : Int) < k1))))] hF hS Fol (by kernel_rfl) (by kernel_rfl) (by kernel_rfl) ?_ (fun a w hF hS => ?_)
  · exact obs_nil
  refine wp_ret ?_
  have hm : some ((decide (k1 < 1)) || (decide ((10 : Int) < k1))) = some r := hm
  obtain rfl := Option.some.inj hm
  exact retV (rs := [.tmp 2]) (vs := [.bool ((decide (k1 < 1)) || (decide ((10 : Int) < k1)))]) hF rfl (rv_t (by kernel_rfl) <| rv_nil) rfl ⟨rfl, hS⟩

noncomputable def four_well_mover_J3 (w_Grid_Cells1 : List Int) (lead1 : Int) (z1 : Int) : Option (St (Int × Int) Int) :=
  some (.next ((w64 (lead1 + (geti ([0, 1, (-1)] : List Int) (geti w_Grid_Cells1 z1)))), (w64 (z1 + 1))))

noncomputable def four_well_mover_J2 (w_Grid_Cells1 : List Int) (lead1 : Int) (z1 : Int) : Option (St (Int × Int) Int) :=
  asrt (0 ≤ z1 ∧ z1 < (w_Grid_Cells1.length : Int)) <| asrt (0 ≤ (geti w_Grid_Cells1 z1) ∧ (geti w_Grid_Cells1 z1) < 3) <| (four_well_mover_J3 w_Grid_Cells1 lead1 z1)

noncomputable def four_well_mover_J4 (lead2 : Int) : Option Int :=
  some (w64 (1 + lead2))

noncomputable def four_well_mover_J1 (lead2 : Int) : Option Int :=
  if ((decide (lead2 < 0)) || (decide ((1 : Int) < lead2))) then (some 0) else ((four_well_mover_J4 lead2))

noncomputable def four_well_mover_K1 : Int → Option Int :=
  fun (x : Int) => match x with | lead2 => four_well_mover_J1 lead2

noncomputable def four_well_mover_L1 (w_Grid_Cells1 : List Int) : (Int × Int) → Option (St (Int × Int) Int) :=
  fun (x : (Int × Int)) => match x with | (lead1, z1) => if (decide (z1 < (w_Grid_Cells1.length : Int))) then ((four_well_mover_J2 w_Grid_Cells1 lead1 z1)) else (some (.done lead1))

noncomputable def four_well_mover_m (w_Grid_W1 : Int) (w_Grid_H1 : Int) (w_Grid_Cells1 : List Int) (w_k1 : Int) (w_moved1 : Int) : Option Int :=
  (loop (four_well_mover_L1 w_Grid_Cells1) (0, 0)).bind four_well_mover_K1

set_option maxRecDepth 100000 in
set_option maxHeartbeats 4000000 in
theorem four_well_mover_w {g1 : Nat} {w_Grid_W1 : Int} {w_Grid_H1 : Int} {A1 : Option Addr} {c1 : Nat} {n1 : Nat} {w_Grid_Cells1 : List Int} {w_k1 : Int} {w_moved1 : Int} {r : Int} {w0 w : World} {B : Nat} {fs : List HP} (hm : four_well_mover_m w_Grid_W1 w_Grid_H1 w_Grid_Cells1 w_k1 w_moved1 = some r) (hS : Sep w0 B w (blk g1 95 #[.int .i64 w_Grid_W1, .int .i64 w_Grid_H1, .slice A1 n1 c1, .int .i64 w_k1, .int .i64 w_moved1] :: own 3 (.slice A1 n1 c1) (vI w_Grid_Cells1) :: fs)) :
    Calls Try.prog 75 #[.pointer (some ⟨g1, 0, none⟩)] w fun e w' => e = .returned (.int .i64 r) ∧ Sep w0 B w' (blk g1 95 #[.int .i64 w_Grid_W1, .int .i64 w_Grid_H1, .slice A1 n1 c1, .int .i64 w_k1, .int .i64 w_moved1] :: own 3 (.slice A1 n1 c1) (vI w_Grid_Cells1) :: fs) := by
  obtain ⟨i3, hi3, hz3, hs3, hb3⟩ := info_parts Info3
  obtain rfl := (hS.at_ 1 rfl).len1
  unfold four_well_mover_m at hm
  replace hm := start_b hm
  refine enter (l := [.pointer (some ⟨g1, 0, none⟩)]) (n := 30) Try.func75 rfl rfl (by simp) (fun a hF => ?_)
  refine reg [] [] [0] [pl 0 (.pointer (some ⟨g1, 0, none⟩))] hF hS Fol (by kernel_rfl) (by kernel_rfl) (by kernel_rfl) ?_ (fun a w hF hS => ?_)
  · exact obs_nil
  refine reg [] [] [0, 3] [pl 0 (.pointer (some ⟨g1, 0, none⟩)), pl 3 (.int .i64 0)] hF hS Fol (by kernel_rfl) (by kernel_rfl) (by kernel_rfl) ?_ (fun a w hF hS => ?_)
  · exact obs_nil
  refine seq_cut (fun a w => ∃ (lead2 : Int), Fr 30 [pl 3 (.int .i64 lead2)] a ∧ Sep w0 B w (blk g1 95 #[.int .i64 w_Grid_W1, .int .i64 w_Grid_H1, .slice A1 w_Grid_Cells1.length c1, .int .i64 w_k1, .int .i64 w_moved1] :: own 3 (.slice A1 w_Grid_Cells1.length c1) (vI w_Grid_Cells1) :: fs) ∧ (four_well_mover_J1 lead2).bind some = some r) ?_ ?_
  · rintro a w ⟨lead2, hF, hS, hm⟩
    unfold four_well_mover_J1 at hm
    refine seq_cut (fun a w => Fr 30 [pl 3 (.int .i64 lead2)] a ∧ Sep w0 B w (blk g1 95 #[.int .i64 w_Grid_W1, .int .i64 w_Grid_H1, .slice A1 w_Grid_Cells1.length c1, .int .i64 w_k1, .int .i64 w_moved1] :: own 3 (.slice A1 w_Grid_Cells1.length c1) (vI w_Grid_Cells1) :: fs) ∧ ((four_well_mover_J4 lead2)).bind some = some r) ?_ ?_
    · rintro a w ⟨hF, hS, hm⟩
      unfold four_well_mover_J4 at hm
      refine reg [] [] [2] [pl 2 (.int .i64 (w64 (1 + lead2)))] hF hS Fol (by kernel_rfl) (by kernel_rfl) (by kernel_rfl) ?_ (fun a w hF hS => ?_)
      · exact obs_nil
      refine wp_ret ?_
      have hm : some (w64 (1 + lead2)) = some r := hm
      obtain rfl := Option.some.inj hm
      exact retV (rs := [.tmp 2]) (vs := [.int .i64 (w64 (1 + lead2))]) hF rfl (rv_t (by kernel_rfl) <| rv_nil) rfl ⟨rfl, hS⟩
    · refine reg [] [] [3, 27] [pl 3 (.int .i64 lead2), pl 27 (.bool ((decide (lead2 < 0)) || (decide ((1 : Int) < lead2))))] hF hS Fol (by kernel_rfl) (by kernel_rfl) (by kernel_rfl) ?_ (fun a w hF hS => ?_)
      · exact obs_nil
      refine cond_ev (t := 27) (b := (decide (lead2 < 0)) || (decide ((1 : Int) < lead2))) hF (by kernel_rfl) (fun hb => ?_) (fun hb => ?_)
      · replace hm := if_t hm hb
        refine reg [] [] [2] [pl 2 (.int .i64 0)] hF hS Fol (by kernel_rfl) (by kernel_rfl) (by kernel_rfl) ?_ (fun a w hF hS => ?_)
        · exact obs_nil
        refine wp_ret ?_
        refine then_r ?_
        have hm : some 0 = some r := hm
        obtain rfl := Option.some.inj hm
        exact retV (rs := [.tmp 2]) (vs := [.int .i64 0]) hF rfl (rv_t (by kernel_rfl) <| rv_nil) rfl ⟨rfl, hS⟩
      · replace hm := if_f hm hb
        refine wp_skip ?_
        refine then_n ?_
        exact ⟨hF.weak [3] (by kernel_rfl), hS, hm⟩
  · refine reg [⟨false, [], vS (Instr.loadAt 22 (.pointer (some ⟨g1, 2, none⟩))), .slice A1 w_Grid_Cells1.length c1⟩] [none, none, none, none, some (.slice A1 w_Grid_Cells1.length c1), none, none] [3, 10, 11, 12] [pl 3 (.int .i64 0), pl 10 (.slice A1 w_Grid_Cells1.length c1), pl 11 (.int .i64 (w_Grid_Cells1.length : Int)), pl 12 (.int .i64 0)] hF hS Fol (by kernel_rfl) (by kernel_rfl) (by kernel_rfl) ?_ (fun a w hF hS => ?_)
    · exact obs_cons (ob_load Agg22 (fun _ _ hS => (hS.at_ 0 rfl).cell rfl)) <| obs_nil
    refine wp_block ?_
    have hS := hS.pickN 2 [1, 0] (by decide)
    refine wp_loop_model (S := (Int × Int)) (R := Int) (four_well_mover_L1 w_Grid_Cells1) (fun x => (four_well_mover_K1 x).bind some) r (fun (x : (Int × Int)) a w => Fr 30 [pl 3 (.int .i64 x.1), pl 10 (.slice A1 w_Grid_Cells1.length c1), pl 11 (.int .i64 (w_Grid_Cells1.length : Int)), pl 12 (.int .i64 x.2)] a ∧ Sep w0 B w (own 3 (.slice A1 w_Grid_Cells1.length c1) (vI w_Grid_Cells1) :: blk g1 95 #[.int .i64 w_Grid_W1, .int .i64 w_Grid_H1, .slice A1 w_Grid_Cells1.length c1, .int .i64 w_k1, .int .i64 w_moved1] :: fs)) (assoc_b hm) ⟨hF.weak [3, 10, 11, 12] (by kernel_rfl), hS⟩ ?_
    clear hF hS hm
    rintro nn1 ⟨lead1, z1⟩ a w ⟨hF, hS⟩ hm
    generalize hφ1 : stK (four_well_mover_L1 w_Grid_Cells1) nn1 (fun x => (four_well_mover_K1 x).bind some) = φ1 at hm
    unfold four_well_mover_L1 at hm
    dsimp only at hF hS hm
    refine reg [] [] [3, 10, 11, 12, 13] [pl 3 (.int .i64 lead1), pl 10 (.slice A1 w_Grid_Cells1.length c1), pl 11 (.int .i64 (w_Grid_Cells1.length : Int)), pl 12 (.int .i64 z1), pl 13 (.bool (decide (z1 < (w_Grid_Cells1.length : Int))))] hF hS Fol (by kernel_rfl) (by kernel_rfl) (by kernel_rfl) ?_ (fun a w hF hS => ?_)
    · exact obs_nil
    refine seq_cut (fun a w => Fr 30 [pl 3 (.int .i64 lead1), pl 10 (.slice A1 w_Grid_Cells1.length c1), pl 11 (.int .i64 (w_Grid_Cells1.length : Int)), pl 12 (.int .i64 z1)] a ∧ Sep w0 B w (own 3 (.slice A1 w_Grid_Cells1.length c1) (vI w_Grid_Cells1) :: blk g1 95 #[.int .i64 w_Grid_W1, .int .i64 w_Grid_H1, .slice A1 w_Grid_Cells1.length c1, .int .i64 w_k1, .int .i64 w_moved1] :: fs) ∧ ((four_well_mover_J2 w_Grid_Cells1 lead1 z1)).bind φ1 = some r) ?_ ?_
    · rintro a w ⟨hF, hS, hm⟩
      unfold four_well_mover_J2 at hm
      refine seq_cut (fun a w => Fr 30 [pl 3 (.int .i64 (w64 (lead1 + (geti ([0, 1, (-1)] : List Int) (geti w_Grid_Cells1 z1))))), pl 10 (.slice A1 w_Grid_Cells1.length c1), pl 11 (.int .i64 (w_Grid_Cells1.length : Int)), pl 12 (.int .i64 z1)] a ∧ Sep w0 B w (own 3 (.slice A1 w_Grid_Cells1.length c1) (vI w_Grid_Cells1) :: blk g1 95 #[.int .i64 w_Grid_W1, .int .i64 w_Grid_H1, .slice A1 w_Grid_Cells1.length c1, .int .i64 w_k1, .int .i64 w_moved1] :: fs) ∧ ((four_well_mover_J3 w_Grid_Cells1 lead1 z1)).bind φ1 = some r) ?_ ?_
      · rintro a w ⟨hF, hS, hm⟩
        unfold four_well_mover_J3 at hm
        refine reg1 [] [] [3, 10, 11, 12] [pl 3 (.int .i64 (w64 (lead1 + (geti ([0, 1, (-1)] : List Int) (geti w_Grid_Cells1 z1))))), pl 10 (.slice A1 w_Grid_Cells1.length c1), pl 11 (.int .i64 (w_Grid_Cells1.length : Int)), pl 12 (.int .i64 (w64 (z1 + 1)))] hF hS Fol (by kernel_rfl) (by kernel_rfl) (by kernel_rfl) ?_ (fun a w hF hS => ?_)
        · exact obs_nil
        refine then_n ?_
        rw [← hφ1] at hm
        exact ⟨((w64 (lead1 + (geti ([0, 1, (-1)] : List Int) (geti w_Grid_Cells1 z1)))), (w64 (z1 + 1))), ⟨hF.weak [3, 10, 11, 12] (by kernel_rfl), hS⟩, hm⟩
      · refine wp_block ?_
        obtain ⟨hp1, hm⟩ := asrt_b hm
        refine reg [⟨true, [], vS (Instr.indexAt 22 (.slice A1 w_Grid_Cells1.length c1) (.int .i64 z1)), .pointer (some (sAddr A1 z1))⟩, ⟨false, [], vS (Instr.loadAt 3 (.pointer (some (sAddr A1 z1)))), .int .i64 (geti w_Grid_Cells1 z1)⟩] [some (.pointer (some (sAddr A1 z1))), some (.int .i64 (geti w_Grid_Cells1 z1)), none] [3, 5, 10, 11, 12] [pl 3 (.int .i64 lead1), pl 5 (.int .i64 (geti w_Grid_Cells1 z1)), pl 10 (.slice A1 w_Grid_Cells1.length c1), pl 11 (.int .i64 (w_Grid_Cells1.length : Int)), pl 12 (.int .i64 z1)] hF hS Fol (by kernel_rfl) (by kernel_rfl) (by kernel_rfl) ?_ (fun a w hF hS => ?_)
        · exact obs_cons (ob_ix1 (f := (Value.int .i64)) (m := w_Grid_Cells1) Und22 hi3 hs3 (hS.at_ 0 rfl).rd rfl (fun _ => hp1)) <| obs_cons (ob_get1 (n := w_Grid_Cells1.length) (m := w_Grid_Cells1) (Value.int .i64) (0 : Int) Agg3 (fun _ hS => ⟨_, (hS.at_ 0 rfl).rd⟩) (fun _ hS => rfl) (fun _ => hp1)) <| obs_nil
        obtain ⟨hp2, hm⟩ := asrt_b hm
        refine reg1 [⟨true, [], vS (Instr.index 130 (.agg (List.toArray (([] : List Value) ++ (arr1 (Value.int .i64) (0 : Int) 3 ([0, 1, (-1)] : List Int) ++ ([] : List Value))))) (.int .i64 (geti w_Grid_Cells1 z1))), .int .i64 (geti ([0, 1, (-1)] : List Int) (geti w_Grid_Cells1 z1))⟩] [none, none, none, some (.int .i64 (geti ([0, 1, (-1)] : List Int) (geti w_Grid_Cells1 z1))), none, none] [3, 10, 11, 12] [pl 3 (.int .i64 (w64 (lead1 + (geti ([0, 1, (-1)] : List Int) (geti w_Grid_Cells1 z1))))), pl 10 (.slice A1 w_Grid_Cells1.length c1), pl 11 (.int .i64 (w_Grid_Cells1.length : Int)), pl 12 (.int .i64 z1)] hF hS Fol (by kernel_rfl) (by kernel_rfl) (by kernel_rfl) ?_ (fun a w hF hS => ?_)
        · exact obs_cons (ob_idx1 (f := (Value.int .i64)) (z := (0 : Int)) (m := ([0, 1, (-1)] : List Int)) UndA130 (by kernel_rfl) (by kernel_rfl) (fun _ => hp2)) <| obs_nil
        refine block_n ?_
        refine then_n ?_
        exact ⟨hF.weak [3, 10, 11, 12] (by kernel_rfl), hS, hm⟩
    · refine cond_ev (t := 13) (b := decide (z1 < (w_Grid_Cells1.length : Int))) hF (by kernel_rfl) (fun hb => ?_) (fun hb => ?_)
      · replace hm := if_t hm hb
        refine wp_skip ?_
        refine then_n ?_
        exact ⟨hF.weak [3, 10, 11, 12] (by kernel_rfl), hS, hm⟩
      · replace hm := if_f hm hb
        refine wp_exit ?_
        refine then_e (then_e (block_e (then_n ?_)))
        have hS := hS.pickN 2 [1, 0] (by decide)
        rw [← hφ1] at hm
        replace hm := done_b hm
        unfold four_well_mover_K1 at hm
        try dsimp only at hm
        have hm : (four_well_mover_J1 lead1).bind some = some r := hm
        exact ⟨lead1, hF.weak [3] (by kernel_rfl), hS, hm⟩

noncomputable def four_well_won_J8 (z1 : Int) (z2 : Int) (n4 : Int) (a1 : Int) (b1 : Int) : Option (St (Int × Int × Int) Int) :=
  some (.next ((w64 (n4 + 1)), (w64 (a1 + (w64 ((geti ([1, (-1)] : List Int) z2) * (geti ([1, 0, 0, 1, 1, 1, 1, (-1)] : List Int) (z1 * 2)))))), (w64 (b1 + (w64 ((geti ([1, (-1)] : List Int) z2) * (geti ([1, 0, 0, 1, 1, 1, 1, (-1)] : List Int) (z1 * 2 + 1))))))))

noncomputable def four_well_won_J7 (z1 : Int) (z2 : Int) (n4 : Int) (a1 : Int) (b1 : Int) : Option (St (Int × Int × Int) Int) :=
  (four_well_won_J8 z1 z2 n4 a1 b1)

noncomputable def four_well_won_J6 (z2 : Int) (n5 : Int) : Option (St (Int × Int) Int) :=
  some (.next (n5, (w64 (z2 + 1))))

noncomputable def four_well_won_K3 (z2 : Int) : Int → Option (St (Int × Int) Int) :=
  fun (x : Int) => match x with | n5 => (four_well_won_J6 z2) n5

noncomputable def four_well_won_L3 (w_Grid_W1 : Int) (w_Grid_H1 : Int) (w_Grid_Cells1 : List Int) (at1 : Int) (z1 : Int) (z2 : Int) : (Int × Int × Int) → Option (St (Int × Int × Int) Int) :=
  fun (x : (Int × Int × Int)) => match x with | (n4, a1, b1) => asrt (((((decide ((0 : Int) ≤ a1)) && (decide (a1 < w_Grid_W1))) && (decide ((0 : Int) ≤ b1))) && (decide (b1 < w_Grid_H1))) = true → 0 ≤ (w64 ((w64 (b1 * w_Grid_W1)) + a1)) ∧ (w64 ((w64 (b1 * w_Grid_W1)) + a1)) < (w_Grid_Cells1.length : Int)) <| if (((((decide ((0 : Int) ≤ a1)) && (decide (a1 < w_Grid_W1))) && (decide ((0 : Int) ≤ b1))) && (decide (b1 < w_Grid_H1))) && ((geti w_Grid_Cells1 (w64 ((w64 (b1 * w_Grid_W1)) + a1))) == (geti w_Grid_Cells1 at1))) then ((four_well_won_J7 z1 z2 n4 a1 b1)) else (some (.done n4))

noncomputable def four_well_won_J5 (w_Grid_W1 : Int) (w_Grid_H1 : Int) (w_Grid_Cells1 : List Int) (at1 : Int) (z1 : Int) (n2 : Int) (z2 : Int) : Option (St (Int × Int) Int) :=
  asrt (0 ≤ z2 ∧ z2 < 2) <| (loop (four_well_won_L3 w_Grid_W1 w_Grid_H1 w_Grid_Cells1 at1 z1 z2) (n2, (w64 ((Int.tmod at1 w_Grid_W1) + (w64 ((geti ([1, (-1)] : List Int) z2) * (geti ([1, 0, 0, 1, 1, 1, 1, (-1)] : List Int) (z1 * 2)))))), (w64 ((w64 (Int.tdiv at1 w_Grid_W1)) + (w64 ((geti ([1, (-1)] : List Int) z2) * (geti ([1, 0, 0, 1, 1, 1, 1, (-1)] : List Int) (z1 * 2 + 1)))))))).bind (four_well_won_K3 z2)

noncomputable def four_well_won_J3 (z1 : Int) : Option (St Int (Fl Unit Bool)) :=
  some (.next (w64 (z1 + 1)))

noncomputable def four_well_won_J4 (w_k1 : Int) (z1 : Int) (n3 : Int) : Option (St Int (Fl Unit Bool)) :=
  if (decide (w_k1 ≤ n3)) then (some (.done (.ret true))) else ((four_well_won_J3 z1))

noncomputable def four_well_won_K2 (w_k1 : Int) (z1 : Int) : Int → Option (St Int (Fl Unit Bool)) :=
  fun (x : Int) => match x with | n3 => (four_well_won_J4 w_k1 z1) n3

noncomputable def four_well_won_L2 (w_Grid_W1 : Int) (w_Grid_H1 : Int) (w_Grid_Cells1 : List Int) (at1 : Int) (z1 : Int) : (Int × Int) → Option (St (Int × Int) Int) :=
  fun (x : (Int × Int)) => match x with | (n2, z2) => if (decide (z2 < 2)) then ((four_well_won_J5 w_Grid_W1 w_Grid_H1 w_Grid_Cells1 at1 z1 n2 z2)) else (some (.done n2))

noncomputable def four_well_won_J2 (w_Grid_W1 : Int) (w_Grid_H1 : Int) (w_Grid_Cells1 : List Int) (w_k1 : Int) (at1 : Int) (z1 : Int) : Option (St Int (Fl Unit Bool)) :=
  asrt (0 ≤ z1 ∧ z1 < 4) <| (loop (four_well_won_L2 w_Grid_W1 w_Grid_H1 w_Grid_Cells1 at1 z1) (1, 0)).bind (four_well_won_K2 w_k1 z1)

noncomputable def four_well_won_J1 : Option Bool :=
  some false

noncomputable def four_well_won_K1 : (Fl Unit Bool) → Option Bool :=
  fun (x : (Fl Unit Bool)) => match x with | .go _ => four_well_won_J1 | .ret x => some x

noncomputable def four_well_won_L1 (w_Grid_W1 : Int) (w_Grid_H1 : Int) (w_Grid_Cells1 : List Int) (w_k1 : Int) (at1 : Int) : Int → Option (St Int (Fl Unit Bool)) :=
  fun (x : Int) => match x with | z1 => if (decide (z1 < 4)) then ((four_well_won_J2 w_Grid_W1 w_Grid_H1 w_Grid_Cells1 w_k1 at1 z1)) else (some (.done (.go ())))

noncomputable def four_well_won_m (w_Grid_W1 : Int) (w_Grid_H1 : Int) (w_Grid_Cells1 : List Int) (w_k1 : Int) (w_moved1 : Int) (at1 : Int) : Option Bool :=
  asrt (0 ≤ at1 ∧ at1 < (w_Grid_Cells1.length : Int)) <| asrt (w_Grid_W1 ≠ (0 : Int)) <| asrt (w_Grid_W1 ≠ (0 : Int)) <| (loop (four_well_won_L1 w_Grid_W1 w_Grid_H1 w_Grid_Cells1 w_k1 at1) 0).bind four_well_won_K1

set_option maxRecDepth 100000 in
set_option maxHeartbeats 4000000 in
theorem four_well_won_w {g1 : Nat} {w_Grid_W1 : Int} {w_Grid_H1 : Int} {A1 : Option Addr} {c1 : Nat} {n1 : Nat} {w_Grid_Cells1 : List Int} {w_k1 : Int} {w_moved1 : Int} {at1 : Int} {r : Bool} {w0 w : World} {B : Nat} {fs : List HP} (hm : four_well_won_m w_Grid_W1 w_Grid_H1 w_Grid_Cells1 w_k1 w_moved1 at1 = some r) (hS : Sep w0 B w (blk g1 95 #[.int .i64 w_Grid_W1, .int .i64 w_Grid_H1, .slice A1 n1 c1, .int .i64 w_k1, .int .i64 w_moved1] :: own 3 (.slice A1 n1 c1) (vI w_Grid_Cells1) :: fs)) :
    Calls Try.prog 78 #[.pointer (some ⟨g1, 0, none⟩), .int .i64 at1] w fun e w' => e = .returned (.bool r) ∧ Sep w0 B w' (blk g1 95 #[.int .i64 w_Grid_W1, .int .i64 w_Grid_H1, .slice A1 n1 c1, .int .i64 w_k1, .int .i64 w_moved1] :: own 3 (.slice A1 n1 c1) (vI w_Grid_Cells1) :: fs) := by
  obtain ⟨i3, hi3, hz3, hs3, hb3⟩ := info_parts Info3
  obtain rfl := (hS.at_ 1 rfl).len1
  unfold four_well_won_m at hm
  replace hm := start_b hm
  refine enter (l := [.pointer (some ⟨g1, 0, none⟩), .int .i64 at1]) (n := 127) Try.func78 rfl rfl (by simp) (fun a hF => ?_)
  refine reg [] [] [0, 1] [pl 0 (.pointer (some ⟨g1, 0, none⟩)), pl 1 (.int .i64 at1)] hF hS Fol (by kernel_rfl) (by kernel_rfl) (by kernel_rfl) ?_ (fun a w hF hS => ?_)
  · exact obs_nil
  obtain ⟨hp1, hm⟩ := asrt_b hm
  refine reg [⟨false, [], vS (Instr.loadAt 22 (.pointer (some ⟨g1, 2, none⟩))), .slice A1 w_Grid_Cells1.length c1⟩, ⟨true, [], vS (Instr.indexAt 22 (.slice A1 w_Grid_Cells1.length c1) (.int .i64 at1)), .pointer (some (sAddr A1 at1))⟩, ⟨false, [], vS (Instr.loadAt 3 (.pointer (some (sAddr A1 at1)))), .int .i64 (geti w_Grid_Cells1 at1)⟩] [none, none, none, none, some (.slice A1 w_Grid_Cells1.length c1), none, some (.pointer (some (sAddr A1 at1))), some (.int .i64 (geti w_Grid_Cells1 at1)), none] [0, 1, 5] [pl 0 (.pointer (some ⟨g1, 0, none⟩)), pl 1 (.int .i64 at1), pl 5 (.int .i64 (geti w_Grid_Cells1 at1))] hF hS Fol (by kernel_rfl) (by kernel_rfl) (by kernel_rfl) ?_ (fun a w hF hS => ?_)
  · exact obs_cons (ob_load Agg22 (fun _ _ hS => (hS.at_ 0 rfl).cell rfl)) <| obs_cons (ob_ix1 (f := (Value.int .i64)) (m := w_Grid_Cells1) Und22 hi3 hs3 (hS.at_ 1 rfl).rd rfl (fun _ => hp1)) <| obs_cons (ob_get1 (n := w_Grid_Cells1.length) (m := w_Grid_Cells1) (Value.int .i64) (0 : Int) Agg3 (fun _ hS => ⟨_, (hS.at_ 1 rfl).rd⟩) (fun _ hS => rfl) (fun _ => hp1)) <| obs_nil
  obtain ⟨hp2, hm⟩ := asrt_b hm
  obtain ⟨hp3, hm⟩ := asrt_b hm
  refine reg [⟨false, [], vS (Instr.loadAt 3 (.pointer (some ⟨g1, 0, none⟩))), .int .i64 w_Grid_W1⟩, ⟨true, [], vS (Op.intDiv .rem .i64 at1 w_Grid_W1), .int .i64 (Int.tmod at1 w_Grid_W1)⟩, ⟨false, [], vS (Instr.loadAt 3 (.pointer (some ⟨g1, 0, none⟩))), .int .i64 w_Grid_W1⟩, ⟨true, [], vS (Op.intDiv .quo .i64 at1 w_Grid_W1), .int .i64 (w64 (Int.tdiv at1 w_Grid_W1))⟩] [none, none, none, none, none, some (.int .i64 w_Grid_W1), some (.int .i64 (Int.tmod at1 w_Grid_W1)), none, none, none, none, none, some (.int .i64 w_Grid_W1), some (.int .i64 (w64 (Int.tdiv at1 w_Grid_W1))), none, none] [0, 5, 6, 7] [pl 0 (.pointer (some ⟨g1, 0, none⟩)), pl 5 (.int .i64 (geti w_Grid_Cells1 at1)), pl 6 (.int .i64 (Int.tmod at1 w_Grid_W1)), pl 7 (.int .i64 (w64 (Int.tdiv at1 w_Grid_W1)))] hF hS Fol (by kernel_rfl) (by kernel_rfl) (by kernel_rfl) ?_ (fun a w hF hS => ?_)
  · exact obs_cons (ob_load Agg3 (fun _ _ hS => (hS.at_ 0 rfl).cell rfl)) <| obs_cons (ob_rem rfl (fun _ => hp2)) <| obs_cons (ob_load Agg3 (fun _ _ hS => (hS.at_ 0 rfl).cell rfl)) <| obs_cons (ob_quo rfl (fun _ => hp3)) <| obs_nil
  refine seq_cut (fun a w => Fr 127 [] a ∧ Sep w0 B w (blk g1 95 #[.int .i64 w_Grid_W1, .int .i64 w_Grid_H1, .slice A1 w_Grid_Cells1.length c1, .int .i64 w_k1, .int .i64 w_moved1] :: own 3 (.slice A1 w_Grid_Cells1.length c1) (vI w_Grid_Cells1) :: fs) ∧ (four_well_won_J1).bind some = some r) ?_ ?_
  · rintro a w ⟨hF, hS, hm⟩
    unfold four_well_won_J1 at hm
    refine reg [] [] [4] [pl 4 (.bool false)] hF hS Fol (by kernel_rfl) (by kernel_rfl) (by kernel_rfl) ?_ (fun a w hF hS => ?_)
    · exact obs_nil
    refine wp_ret ?_
    have hm : some false = some r := hm
    obtain rfl := Option.some.inj hm
    exact retV (rs := [.tmp 4]) (vs := [.bool false]) hF rfl (rv_t (by kernel_rfl) <| rv_nil) rfl ⟨rfl, hS⟩
  · refine reg [] [] [0, 5, 6, 7, 41, 42] [pl 0 (.pointer (some ⟨g1, 0, none⟩)), pl 5 (.int .i64 (geti w_Grid_Cells1 at1)), pl 6 (.int .i64 (Int.tmod at1 w_Grid_W1)), pl 7 (.int .i64 (w64 (Int.tdiv at1 w_Grid_W1))), pl 41 (.agg (List.toArray (([] : List Value) ++ (arr1 (Value.int .i64) (0 : Int) 8 ([1, 0, 0, 1, 1, 1, 1, (-1)] : List Int) ++ ([] : List Value))))), pl 42 (.int .i64 0)] hF hS Fol (by kernel_rfl) (by kernel_rfl) (by kernel_rfl) ?_ (fun a w hF hS => ?_)
    · exact obs_nil
    refine wp_block ?_
    refine wp_loop_model (S := Int) (R := (Fl Unit Bool)) (four_well_won_L1 w_Grid_W1 w_Grid_H1 w_Grid_Cells1 w_k1 at1) (fun x => (four_well_won_K1 x).bind some) r (fun (x : Int) a w => Fr 127 [pl 0 (.pointer (some ⟨g1, 0, none⟩)), pl 5 (.int .i64 (geti w_Grid_Cells1 at1)), pl 6 (.int .i64 (Int.tmod at1 w_Grid_W1)), pl 7 (.int .i64 (w64 (Int.tdiv at1 w_Grid_W1))), pl 41 (.agg (List.toArray (([] : List Value) ++ (arr1 (Value.int .i64) (0 : Int) 8 ([1, 0, 0, 1, 1, 1, 1, (-1)] : List Int) ++ ([] : List Value))))), pl 42 (.int .i64 x)] a ∧ Sep w0 B w (blk g1 95 #[.int .i64 w_Grid_W1, .int .i64 w_Grid_H1, .slice A1 w_Grid_Cells1.length c1, .int .i64 w_k1, .int .i64 w_moved1] :: own 3 (.slice A1 w_Grid_Cells1.length c1) (vI w_Grid_Cells1) :: fs)) (assoc_b hm) ⟨hF.weak [0, 5, 6, 7, 41, 42] (by kernel_rfl), hS⟩ ?_
    clear hF hS hm
    rintro nn1 z1 a w ⟨hF, hS⟩ hm
    generalize hφ1 : stK (four_well_won_L1 w_Grid_W1 w_Grid_H1 w_Grid_Cells1 w_k1 at1) nn1 (fun x => (four_well_won_K1 x).bind some) = φ1 at hm
    unfold four_well_won_L1 at hm
    dsimp only at hm
    refine reg [] [] [0, 5, 6, 7, 41, 42, 43] [pl 0 (.pointer (some ⟨g1, 0, none⟩)), pl 5 (.int .i64 (geti w_Grid_Cells1 at1)), pl 6 (.int .i64 (Int.tmod at1 w_Grid_W1)), pl 7 (.int .i64 (w64 (Int.tdiv at1 w_Grid_W1))), pl 41 (.agg (List.toArray (([] : List Value) ++ (arr1 (Value.int .i64) (0 : Int) 8 ([1, 0, 0, 1, 1, 1, 1, (-1)] : List Int) ++ ([] : List Value))))), pl 42 (.int .i64 z1), pl 43 (.bool (decide (z1 < 4)))] hF hS Fol (by kernel_rfl) (by kernel_rfl) (by kernel_rfl) ?_ (fun a w hF hS => ?_)
    · exact obs_nil
    refine seq_cut (fun a w => Fr 127 [pl 0 (.pointer (some ⟨g1, 0, none⟩)), pl 5 (.int .i64 (geti w_Grid_Cells1 at1)), pl 6 (.int .i64 (Int.tmod at1 w_Grid_W1)), pl 7 (.int .i64 (w64 (Int.tdiv at1 w_Grid_W1))), pl 41 (.agg (List.toArray (([] : List Value) ++ (arr1 (Value.int .i64) (0 : Int) 8 ([1, 0, 0, 1, 1, 1, 1, (-1)] : List Int) ++ ([] : List Value))))), pl 42 (.int .i64 z1)] a ∧ Sep w0 B w (blk g1 95 #[.int .i64 w_Grid_W1, .int .i64 w_Grid_H1, .slice A1 w_Grid_Cells1.length c1, .int .i64 w_k1, .int .i64 w_moved1] :: own 3 (.slice A1 w_Grid_Cells1.length c1) (vI w_Grid_Cells1) :: fs) ∧ ((four_well_won_J2 w_Grid_W1 w_Grid_H1 w_Grid_Cells1 w_k1 at1 z1)).bind φ1 = some r) ?_ ?_
    · rintro a w ⟨hF, hS, hm⟩
      unfold four_well_won_J2 at hm
      refine seq_cut (fun a w => Fr 127 [pl 0 (.pointer (some ⟨g1, 0, none⟩)), pl 5 (.int .i64 (geti w_Grid_Cells1 at1)), pl 6 (.int .i64 (Int.tmod at1 w_Grid_W1)), pl 7 (.int .i64 (w64 (Int.tdiv at1 w_Grid_W1))), pl 41 (.agg (List.toArray (([] : List Value) ++ (arr1 (Value.int .i64) (0 : Int) 8 ([1, 0, 0, 1, 1, 1, 1, (-1)] : List Int) ++ ([] : List Value))))), pl 42 (.int .i64 z1)] a ∧ Sep w0 B w (blk g1 95 #[.int .i64 w_Grid_W1, .int .i64 w_Grid_H1, .slice A1 w_Grid_Cells1.length c1, .int .i64 w_k1, .int .i64 w_moved1] :: own 3 (.slice A1 w_Grid_Cells1.length c1) (vI w_Grid_Cells1) :: fs) ∧ ((four_well_won_J3 z1)).bind φ1 = some r) ?_ ?_
      · rintro a w ⟨hF, hS, hm⟩
        unfold four_well_won_J3 at hm
        refine reg1 [] [] [0, 5, 6, 7, 41, 42] [pl 0 (.pointer (some ⟨g1, 0, none⟩)), pl 5 (.int .i64 (geti w_Grid_Cells1 at1)), pl 6 (.int .i64 (Int.tmod at1 w_Grid_W1)), pl 7 (.int .i64 (w64 (Int.tdiv at1 w_Grid_W1))), pl 41 (.agg (List.toArray (([] : List Value) ++ (arr1 (Value.int .i64) (0 : Int) 8 ([1, 0, 0, 1, 1, 1, 1, (-1)] : List Int) ++ ([] : List Value))))), pl 42 (.int .i64 (w64 (z1 + 1)))] hF hS Fol (by kernel_rfl) (by kernel_rfl) (by kernel_rfl) ?_ (fun a w hF hS => ?_)
        · exact obs_nil
        refine then_n ?_
        rw [← hφ1] at hm
        exact ⟨(w64 (z1 + 1)), ⟨hF.weak [0, 5, 6, 7, 41, 42] (by kernel_rfl), hS⟩, hm⟩
      · refine wp_block ?_
        refine seqR ?_
        obtain ⟨hp4, hm⟩ := asrt_b hm
        refine at_run 1 [⟨true, [], vS (Instr.index 131 (.agg (List.toArray (([] : List Value) ++ (arr1 (Value.int .i64) (0 : Int) 8 ([1, 0, 0, 1, 1, 1, 1, (-1)] : List Int) ++ ([] : List Value))))) (.int .i64 z1)), .agg #[.int .i64 (geti ([1, 0, 0, 1, 1, 1, 1, (-1)] : List Int) (z1 * 2)), .int .i64 (geti ([1, 0, 0, 1, 1, 1, 1, (-1)] : List Int) (z1 * 2 + 1))]⟩] [some (.agg #[.int .i64 (geti ([1, 0, 0, 1, 1, 1, 1, (-1)] : List Int) (z1 * 2)), .int .i64 (geti ([1, 0, 0, 1, 1, 1, 1, (-1)] : List Int) (z1 * 2 + 1))])] [0, 5, 6, 7, 41, 42, 44] [pl 0 (.pointer (some ⟨g1, 0, none⟩)), pl 5 (.int .i64 (geti w_Grid_Cells1 at1)), pl 6 (.int .i64 (Int.tmod at1 w_Grid_W1)), pl 7 (.int .i64 (w64 (Int.tdiv at1 w_Grid_W1))), pl 41 (.agg (List.toArray (([] : List Value) ++ (arr1 (Value.int .i64) (0 : Int) 8 ([1, 0, 0, 1, 1, 1, 1, (-1)] : List Int) ++ ([] : List Value))))), pl 42 (.int .i64 z1), pl 44 (.agg #[.int .i64 (geti ([1, 0, 0, 1, 1, 1, 1, (-1)] : List Int) (z1 * 2)), .int .i64 (geti ([1, 0, 0, 1, 1, 1, 1, (-1)] : List Int) (z1 * 2 + 1))])] hF hS (by kernel_rfl) (by kernel_rfl) ?_ (fun a w hF hS => ?_)
        · exact obs_cons (ob_idxP2 (f := (Value.int .i64)) (z := (0 : Int)) (m := ([1, 0, 0, 1, 1, 1, 1, (-1)] : List Int)) UndA131 (by kernel_rfl) (by kernel_rfl) rfl (fun _ => hp4)) <| obs_nil
        refine at_do (d := 9) (s := vS (Instr.alloc 127 true (.tuple #[]))) (v := .pointer (some ⟨w.heap.size, 0, none⟩)) (w' := w.alloc (.cells #[.int .i64 0, .int .i64 0] 127)) hF (by kernel_rfl) (by kernel_rfl) (by kernel_rfl) (fun a hF => ?_)
        have hS : Sep w0 B (w.alloc (.cells #[.int .i64 0, .int .i64 0] 127)) (blk w.heap.size 127 #[.int .i64 0, .int .i64 0] :: (blk g1 95 #[.int .i64 w_Grid_W1, .int .i64 w_Grid_H1, .slice A1 w_Grid_Cells1.length c1, .int .i64 w_k1, .int .i64 w_moved1] :: own 3 (.slice A1 w_Grid_Cells1.length c1) (vI w_Grid_Cells1) :: fs)) := hS.box 127 #[.int .i64 0, .int .i64 0]
        generalize w.heap.size = g2 at hF hS
        generalize w.alloc (.cells #[.int .i64 0, .int .i64 0] 127) = w at hS ⊢
        obtain ⟨w, hrun, hS⟩ := run_putA (P := Try.prog) (t := 127) (us := #[.int .i64 (geti ([1, 0, 0, 1, 1, 1, 1, (-1)] : List Int) (z1 * 2)), .int .i64 (geti ([1, 0, 0, 1, 1, 1, 1, (-1)] : List Int) (z1 * 2 + 1))]) (o := 0) (hS.at_ 0 rfl) (by kernel_rfl) (all_one (by kernel_rfl)) (Nat.le_of_ble_eq_true (by kernel_rfl))
        refine at_skip hF (by kernel_rfl) hrun ?_
        have hS : Sep w0 B w (blk g2 127 #[.int .i64 (geti ([1, 0, 0, 1, 1, 1, 1, (-1)] : List Int) (z1 * 2)), .int .i64 (geti ([1, 0, 0, 1, 1, 1, 1, (-1)] : List Int) (z1 * 2 + 1))] :: blk g1 95 #[.int .i64 w_Grid_W1, .int .i64 w_Grid_H1, .slice A1 w_Grid_Cells1.length c1, .int .i64 w_k1, .int .i64 w_moved1] :: own 3 (.slice A1 w_Grid_Cells1.length c1) (vI w_Grid_Cells1) :: fs) := hS
        refine at_end [0, 5, 6, 7, 9, 41, 42] [pl 0 (.pointer (some ⟨g1, 0, none⟩)), pl 5 (.int .i64 (geti w_Grid_Cells1 at1)), pl 6 (.int .i64 (Int.tmod at1 w_Grid_W1)), pl 7 (.int .i64 (w64 (Int.tdiv at1 w_Grid_W1))), pl 9 (.pointer (some ⟨g2, 0, none⟩)), pl 41 (.agg (List.toArray (([] : List Value) ++ (arr1 (Value.int .i64) (0 : Int) 8 ([1, 0, 0, 1, 1, 1, 1, (-1)] : List Int) ++ ([] : List Value))))), pl 42 (.int .i64 z1)] hF rfl (by kernel_rfl) (fun hF => ?_)
        refine then_n ?_
        refine reg [] [] [0, 5, 6, 7, 9, 10, 41, 42] [pl 0 (.pointer (some ⟨g1, 0, none⟩)), pl 5 (.int .i64 (geti w_Grid_Cells1 at1)), pl 6 (.int .i64 (Int.tmod at1 w_Grid_W1)), pl 7 (.int .i64 (w64 (Int.tdiv at1 w_Grid_W1))), pl 9 (.pointer (some ⟨g2, 0, none⟩)), pl 10 (.int .i64 1), pl 41 (.agg (List.toArray (([] : List Value) ++ (arr1 (Value.int .i64) (0 : Int) 8 ([1, 0, 0, 1, 1, 1, 1, (-1)] : List Int) ++ ([] : List Value))))), pl 42 (.int .i64 z1)] hF hS Fol (by kernel_rfl) (by kernel_rfl) (by kernel_rfl) ?_ (fun a w hF hS => ?_)
        · exact obs_nil
        refine seq_cut (fun a w => ∃ (n3 : Int), Fr 127 [pl 0 (.pointer (some ⟨g1, 0, none⟩)), pl 5 (.int .i64 (geti w_Grid_Cells1 at1)), pl 6 (.int .i64 (Int.tmod at1 w_Grid_W1)), pl 7 (.int .i64 (w64 (Int.tdiv at1 w_Grid_W1))), pl 10 (.int .i64 n3), pl 41 (.agg (List.toArray (([] : List Value) ++ (arr1 (Value.int .i64) (0 : Int) 8 ([1, 0, 0, 1, 1, 1, 1, (-1)] : List Int) ++ ([] : List Value))))), pl 42 (.int .i64 z1)] a ∧ Sep w0 B w (blk g1 95 #[.int .i64 w_Grid_W1, .int .i64 w_Grid_H1, .slice A1 w_Grid_Cells1.length c1, .int .i64 w_k1, .int .i64 w_moved1] :: own 3 (.slice A1 w_Grid_Cells1.length c1) (vI w_Grid_Cells1) :: fs) ∧ ((four_well_won_J4 w_k1 z1) n3).bind φ1 = some r) ?_ ?_
        · rintro a w ⟨n3, hF, hS, hm⟩
          unfold four_well_won_J4 at hm
          refine reg [⟨false, [], vS (Instr.loadAt 3 (.pointer (some ⟨g1, 3, none⟩))), .int .i64 w_k1⟩] [none, none, none, none, some (.int .i64 w_k1), none] [0, 5, 6, 7, 41, 42, 125] [pl 0 (.pointer (some ⟨g1, 0, none⟩)), pl 5 (.int .i64 (geti w_Grid_Cells1 at1)), pl 6 (.int .i64 (Int.tmod at1 w_Grid_W1)), pl 7 (.int .i64 (w64 (Int.tdiv at1 w_Grid_W1))), pl 41 (.agg (List.toArray (([] : List Value) ++ (arr1 (Value.int .i64) (0 : Int) 8 ([1, 0, 0, 1, 1, 1, 1, (-1)] : List Int) ++ ([] : List Value))))), pl 42 (.int .i64 z1), pl 125 (.bool (decide (w_k1 ≤ n3)))] hF hS Fol (by kernel_rfl) (by kernel_rfl) (by kernel_rfl) ?_ (fun a w hF hS => ?_)
          · exact obs_cons (ob_load Agg3 (fun _ _ hS => (hS.at_ 0 rfl).cell rfl)) <| obs_nil
          refine cond_ev (t := 125) (b := decide (w_k1 ≤ n3)) hF (by kernel_rfl) (fun hb => ?_) (fun hb => ?_)
          · replace hm := if_t hm hb
            refine reg [] [] [4] [pl 4 (.bool true)] hF hS Fol (by kernel_rfl) (by kernel_rfl) (by kernel_rfl) ?_ (fun a w hF hS => ?_)
            · exact obs_nil
            refine wp_ret ?_
            refine block_r (then_r (then_r (block_r (then_r ?_))))
            rw [← hφ1] at hm
            replace hm := done_b hm
            unfold four_well_won_K1 at hm
            try dsimp only at hm
            have hm : some true = some r := hm
            obtain rfl := Option.some.inj hm
            exact retV (rs := [.tmp 4]) (vs := [.bool true]) hF rfl (rv_t (by kernel_rfl) <| rv_nil) rfl ⟨rfl, hS⟩
          · replace hm := if_f hm hb
            refine wp_skip ?_
            refine block_n ?_
            refine then_n ?_
            exact ⟨hF.weak [0, 5, 6, 7, 41, 42] (by kernel_rfl), hS, hm⟩
        · refine reg [] [] [0, 5, 6, 7, 9, 10, 41, 42, 45, 46] [pl 0 (.pointer (some ⟨g1, 0, none⟩)), pl 5 (.int .i64 (geti w_Grid_Cells1 at1)), pl 6 (.int .i64 (Int.tmod at1 w_Grid_W1)), pl 7 (.int .i64 (w64 (Int.tdiv at1 w_Grid_W1))), pl 9 (.pointer (some ⟨g2, 0, none⟩)), pl 10 (.int .i64 1), pl 41 (.agg (List.toArray (([] : List Value) ++ (arr1 (Value.int .i64) (0 : Int) 8 ([1, 0, 0, 1, 1, 1, 1, (-1)] : List Int) ++ ([] : List Value))))), pl 42 (.int .i64 z1), pl 45 (.agg #[.int .i64 1, .int .i64 (-1)]), pl 46 (.int .i64 0)] hF hS Fol (by kernel_rfl) (by kernel_rfl) (by kernel_rfl) ?_ (fun a w hF hS => ?_)
          · exact obs_nil
          refine wp_block ?_
          have hS := hS.pickN 3 [1, 2, 0] (by decide)
          refine wp_loop_model (S := (Int × Int)) (R := Int) (four_well_won_L2 w_Grid_W1 w_Grid_H1 w_Grid_Cells1 at1 z1) (fun x => ((four_well_won_K2 w_k1 z1) x).bind φ1) r (fun (x : (Int × Int)) a w => Fr 127 [pl 0 (.pointer (some ⟨g1, 0, none⟩)), pl 5 (.int .i64 (geti w_Grid_Cells1 at1)), pl 6 (.int .i64 (Int.tmod at1 w_Grid_W1)), pl 7 (.int .i64 (w64 (Int.tdiv at1 w_Grid_W1))), pl 9 (.pointer (some ⟨g2, 0, none⟩)), pl 10 (.int .i64 x.1), pl 41 (.agg (List.toArray (([] : List Value) ++ (arr1 (Value.int .i64) (0 : Int) 8 ([1, 0, 0, 1, 1, 1, 1, (-1)] : List Int) ++ ([] : List Value))))), pl 42 (.int .i64 z1), pl 45 (.agg #[.int .i64 1, .int .i64 (-1)]), pl 46 (.int .i64 x.2)] a ∧ Sep w0 B w (blk g1 95 #[.int .i64 w_Grid_W1, .int .i64 w_Grid_H1, .slice A1 w_Grid_Cells1.length c1, .int .i64 w_k1, .int .i64 w_moved1] :: own 3 (.slice A1 w_Grid_Cells1.length c1) (vI w_Grid_Cells1) :: blk g2 127 #[.int .i64 (geti ([1, 0, 0, 1, 1, 1, 1, (-1)] : List Int) (z1 * 2)), .int .i64 (geti ([1, 0, 0, 1, 1, 1, 1, (-1)] : List Int) (z1 * 2 + 1))] :: fs)) (assoc_b hm) ⟨hF.weak [0, 5, 6, 7, 9, 10, 41, 42, 45, 46] (by kernel_rfl), hS⟩ ?_
          clear hF hS hm
          rintro nn2 ⟨n2, z2⟩ a w ⟨hF, hS⟩ hm
          generalize hφ2 : stK (four_well_won_L2 w_Grid_W1 w_Grid_H1 w_Grid_Cells1 at1 z1) nn2 (fun x => ((four_well_won_K2 w_k1 z1) x).bind φ1) = φ2 at hm
          unfold four_well_won_L2 at hm
          dsimp only at hF hS hm
          refine reg [] [] [0, 5, 6, 7, 9, 10, 41, 42, 45, 46, 47] [pl 0 (.pointer (some ⟨g1, 0, none⟩)), pl 5 (.int .i64 (geti w_Grid_Cells1 at1)), pl 6 (.int .i64 (Int.tmod at1 w_Grid_W1)), pl 7 (.int .i64 (w64 (Int.tdiv at1 w_Grid_W1))), pl 9 (.pointer (some ⟨g2, 0, none⟩)), pl 10 (.int .i64 n2), pl 41 (.agg (List.toArray (([] : List Value) ++ (arr1 (Value.int .i64) (0 : Int) 8 ([1, 0, 0, 1, 1, 1, 1, (-1)] : List Int) ++ ([] : List Value))))), pl 42 (.int .i64 z1), pl 45 (.agg #[.int .i64 1, .int .i64 (-1)]), pl 46 (.int .i64 z2), pl 47 (.bool (decide (z2 < 2)))] hF hS Fol (by kernel_rfl) (by kernel_rfl) (by kernel_rfl) ?_ (fun a w hF hS => ?_)
          · exact obs_nil
          refine seq_cut (fun a w => Fr 127 [pl 0 (.pointer (some ⟨g1, 0, none⟩)), pl 5 (.int .i64 (geti w_Grid_Cells1 at1)), pl 6 (.int .i64 (Int.tmod at1 w_Grid_W1)), pl 7 (.int .i64 (w64 (Int.tdiv at1 w_Grid_W1))), pl 9 (.pointer (some ⟨g2, 0, none⟩)), pl 10 (.int .i64 n2), pl 41 (.agg (List.toArray (([] : List Value) ++ (arr1 (Value.int .i64) (0 : Int) 8 ([1, 0, 0, 1, 1, 1, 1, (-1)] : List Int) ++ ([] : List Value))))), pl 42 (.int .i64 z1), pl 45 (.agg #[.int .i64 1, .int .i64 (-1)]), pl 46 (.int .i64 z2)] a ∧ Sep w0 B w (blk g1 95 #[.int .i64 w_Grid_W1, .int .i64 w_Grid_H1, .slice A1 w_Grid_Cells1.length c1, .int .i64 w_k1, .int .i64 w_moved1] :: own 3 (.slice A1 w_Grid_Cells1.length c1) (vI w_Grid_Cells1) :: blk g2 127 #[.int .i64 (geti ([1, 0, 0, 1, 1, 1, 1, (-1)] : List Int) (z1 * 2)), .int .i64 (geti ([1, 0, 0, 1, 1, 1, 1, (-1)] : List Int) (z1 * 2 + 1))] :: fs) ∧ ((four_well_won_J5 w_Grid_W1 w_Grid_H1 w_Grid_Cells1 at1 z1 n2 z2)).bind φ2 = some r) ?_ ?_
          · rintro a w ⟨hF, hS, hm⟩
            unfold four_well_won_J5 at hm
            refine seq_cut (fun a w => ∃ (n5 : Int), Fr 127 [pl 0 (.pointer (some ⟨g1, 0, none⟩)), pl 5 (.int .i64 (geti w_Grid_Cells1 at1)), pl 6 (.int .i64 (Int.tmod at1 w_Grid_W1)), pl 7 (.int .i64 (w64 (Int.tdiv at1 w_Grid_W1))), pl 9 (.pointer (some ⟨g2, 0, none⟩)), pl 10 (.int .i64 n5), pl 41 (.agg (List.toArray (([] : List Value) ++ (arr1 (Value.int .i64) (0 : Int) 8 ([1, 0, 0, 1, 1, 1, 1, (-1)] : List Int) ++ ([] : List Value))))), pl 42 (.int .i64 z1), pl 45 (.agg #[.int .i64 1, .int .i64 (-1)]), pl 46 (.int .i64 z2)] a ∧ Sep w0 B w (blk g1 95 #[.int .i64 w_Grid_W1, .int .i64 w_Grid_H1, .slice A1 w_Grid_Cells1.length c1, .int .i64 w_k1, .int .i64 w_moved1] :: own 3 (.slice A1 w_Grid_Cells1.length c1) (vI w_Grid_Cells1) :: blk g2 127 #[.int .i64 (geti ([1, 0, 0, 1, 1, 1, 1, (-1)] : List Int) (z1 * 2)), .int .i64 (geti ([1, 0, 0, 1, 1, 1, 1, (-1)] : List Int) (z1 * 2 + 1))] :: fs) ∧ ((four_well_won_J6 z2) n5).bind φ2 = some r) ?_ ?_
            · rintro a w ⟨n5, hF, hS, hm⟩
              unfold four_well_won_J6 at hm
              refine reg1 [] [] [0, 5, 6, 7, 9, 10, 41, 42, 45, 46] [pl 0 (.pointer (some ⟨g1, 0, none⟩)), pl 5 (.int .i64 (geti w_Grid_Cells1 at1)), pl 6 (.int .i64 (Int.tmod at1 w_Grid_W1)), pl 7 (.int .i64 (w64 (Int.tdiv at1 w_Grid_W1))), pl 9 (.pointer (some ⟨g2, 0, none⟩)), pl 10 (.int .i64 n5), pl 41 (.agg (List.toArray (([] : List Value) ++ (arr1 (Value.int .i64) (0 : Int) 8 ([1, 0, 0, 1, 1, 1, 1, (-1)] : List Int) ++ ([] : List Value))))), pl 42 (.int .i64 z1), pl 45 (.agg #[.int .i64 1, .int .i64 (-1)]), pl 46 (.int .i64 (w64 (z2 + 1)))] hF hS Fol (by kernel_rfl) (by kernel_rfl) (by kernel_rfl) ?_ (fun a w hF hS => ?_)
              · exact obs_nil
              refine then_n ?_
              rw [← hφ2] at hm
              exact ⟨(n5, (w64 (z2 + 1))), ⟨hF.weak [0, 5, 6, 7, 9, 10, 41, 42, 45, 46] (by kernel_rfl), hS⟩, hm⟩
            · refine wp_block ?_
              obtain ⟨hp5, hm⟩ := asrt_b hm
              refine reg [⟨true, [], vS (Instr.index 127 (.agg (List.toArray (([] : List Value) ++ (arr1 (Value.int .i64) (0 : Int) 2 ([1, (-1)] : List Int) ++ ([] : List Value))))) (.int .i64 z2)), .int .i64 (geti ([1, (-1)] : List Int) z2)⟩] [some (.int .i64 (geti ([1, (-1)] : List Int) z2)), none] [0, 5, 6, 7, 9, 10, 12, 41, 42, 45, 46] [pl 0 (.pointer (some ⟨g1, 0, none⟩)), pl 5 (.int .i64 (geti w_Grid_Cells1 at1)), pl 6 (.int .i64 (Int.tmod at1 w_Grid_W1)), pl 7 (.int .i64 (w64 (Int.tdiv at1 w_Grid_W1))), pl 9 (.pointer (some ⟨g2, 0, none⟩)), pl 10 (.int .i64 n2), pl 12 (.int .i64 (geti ([1, (-1)] : List Int) z2)), pl 41 (.agg (List.toArray (([] : List Value) ++ (arr1 (Value.int .i64) (0 : Int) 8 ([1, 0, 0, 1, 1, 1, 1, (-1)] : List Int) ++ ([] : List Value))))), pl 42 (.int .i64 z1), pl 45 (.agg #[.int .i64 1, .int .i64 (-1)]), pl 46 (.int .i64 z2)] hF hS Fol (by kernel_rfl) (by kernel_rfl) (by kernel_rfl) ?_ (fun a w hF hS => ?_)
              · exact obs_cons (ob_idx1 (f := (Value.int .i64)) (z := (0 : Int)) (m := ([1, (-1)] : List Int)) UndA127 (by kernel_rfl) (by kernel_rfl) (fun _ => hp5)) <| obs_nil
              refine reg [⟨false, [], vS (Instr.loadAt 3 (.pointer (some ⟨g2, 0, none⟩))), .int .i64 (geti ([1, 0, 0, 1, 1, 1, 1, (-1)] : List Int) (z1 * 2))⟩, ⟨false, [], vS (Instr.loadAt 3 (.pointer (some ⟨g2, 1, none⟩))), .int .i64 (geti ([1, 0, 0, 1, 1, 1, 1, (-1)] : List Int) (z1 * 2 + 1))⟩] [none, none, none, some (.int .i64 (geti ([1, 0, 0, 1, 1, 1, 1, (-1)] : List Int) (z1 * 2))), none, none, none, none, none, some (.int .i64 (geti ([1, 0, 0, 1, 1, 1, 1, (-1)] : List Int) (z1 * 2 + 1))), none, none, none, none] [0, 5, 6, 7, 9, 10, 12, 13, 14, 41, 42, 45, 46] [pl 0 (.pointer (some ⟨g1, 0, none⟩)), pl 5 (.int .i64 (geti w_Grid_Cells1 at1)), pl 6 (.int .i64 (Int.tmod at1 w_Grid_W1)), pl 7 (.int .i64 (w64 (Int.tdiv at1 w_Grid_W1))), pl 9 (.pointer (some ⟨g2, 0, none⟩)), pl 10 (.int .i64 n2), pl 12 (.int .i64 (geti ([1, (-1)] : List Int) z2)), pl 13 (.int .i64 (w64 ((Int.tmod at1 w_Grid_W1) + (w64 ((geti ([1, (-1)] : List Int) z2) * (geti ([1, 0, 0, 1, 1, 1, 1, (-1)] : List Int) (z1 * 2))))))), pl 14 (.int .i64 (w64 ((w64 (Int.tdiv at1 w_Grid_W1)) + (w64 ((geti ([1, (-1)] : List Int) z2) * (geti ([1, 0, 0, 1, 1, 1, 1, (-1)] : List Int) (z1 * 2 + 1))))))), pl 41 (.agg (List.toArray (([] : List Value) ++ (arr1 (Value.int .i64) (0 : Int) 8 ([1, 0, 0, 1, 1, 1, 1, (-1)] : List Int) ++ ([] : List Value))))), pl 42 (.int .i64 z1), pl 45 (.agg #[.int .i64 1, .int .i64 (-1)]), pl 46 (.int .i64 z2)] hF hS Fol (by kernel_rfl) (by kernel_rfl) (by kernel_rfl) ?_ (fun a w hF hS => ?_)
              · exact obs_cons (ob_load Agg3 (fun _ _ hS => (hS.at_ 2 rfl).cell rfl)) <| obs_cons (ob_load Agg3 (fun _ _ hS => (hS.at_ 2 rfl).cell rfl)) <| obs_nil
              refine wp_block ?_
              refine wp_loop_model (S := (Int × Int × Int)) (R := Int) (four_well_won_L3 w_Grid_W1 w_Grid_H1 w_Grid_Cells1 at1 z1 z2) (fun x => ((four_well_won_K3 z2) x).bind φ2) r (fun (x : (Int × Int × Int)) a w => Fr 127 [pl 0 (.pointer (some ⟨g1, 0, none⟩)), pl 5 (.int .i64 (geti w_Grid_Cells1 at1)), pl 6 (.int .i64 (Int.tmod at1 w_Grid_W1)), pl 7 (.int .i64 (w64 (Int.tdiv at1 w_Grid_W1))), pl 9 (.pointer (some ⟨g2, 0, none⟩)), pl 10 (.int .i64 x.1), pl 12 (.int .i64 (geti ([1, (-1)] : List Int) z2)), pl 13 (.int .i64 x.2.1), pl 14 (.int .i64 x.2.2), pl 41 (.agg (List.toArray (([] : List Value) ++ (arr1 (Value.int .i64) (0 : Int) 8 ([1, 0, 0, 1, 1, 1, 1, (-1)] : List Int) ++ ([] : List Value))))), pl 42 (.int .i64 z1), pl 45 (.agg #[.int .i64 1, .int .i64 (-1)]), pl 46 (.int .i64 z2)] a ∧ Sep w0 B w (blk g1 95 #[.int .i64 w_Grid_W1, .int .i64 w_Grid_H1, .slice A1 w_Grid_Cells1.length c1, .int .i64 w_k1, .int .i64 w_moved1] :: own 3 (.slice A1 w_Grid_Cells1.length c1) (vI w_Grid_Cells1) :: blk g2 127 #[.int .i64 (geti ([1, 0, 0, 1, 1, 1, 1, (-1)] : List Int) (z1 * 2)), .int .i64 (geti ([1, 0, 0, 1, 1, 1, 1, (-1)] : List Int) (z1 * 2 + 1))] :: fs)) (assoc_b hm) ⟨hF.weak [0, 5, 6, 7, 9, 10, 12, 13, 14, 41, 42, 45, 46] (by kernel_rfl), hS⟩ ?_
              clear hF hS hm
              rintro nn3 ⟨n4, a1, b1⟩ a w ⟨hF, hS⟩ hm
              generalize hφ3 : stK (four_well_won_L3 w_Grid_W1 w_Grid_H1 w_Grid_Cells1 at1 z1 z2) nn3 (fun x => ((four_well_won_K3 z2) x).bind φ2) = φ3 at hm
              unfold four_well_won_L3 at hm
              dsimp only at hF hS hm
              refine seq_cut (fun a w => Fr 127 [pl 0 (.pointer (some ⟨g1, 0, none⟩)), pl 5 (.int .i64 (geti w_Grid_Cells1 at1)), pl 6 (.int .i64 (Int.tmod at1 w_Grid_W1)), pl 7 (.int .i64 (w64 (Int.tdiv at1 w_Grid_W1))), pl 9 (.pointer (some ⟨g2, 0, none⟩)), pl 10 (.int .i64 n4), pl 12 (.int .i64 (geti ([1, (-1)] : List Int) z2)), pl 13 (.int .i64 a1), pl 14 (.int .i64 b1), pl 41 (.agg (List.toArray (([] : List Value) ++ (arr1 (Value.int .i64) (0 : Int) 8 ([1, 0, 0, 1, 1, 1, 1, (-1)] : List Int) ++ ([] : List Value))))), pl 42 (.int .i64 z1), pl 45 (.agg #[.int .i64 1, .int .i64 (-1)]), pl 46 (.int .i64 z2)] a ∧ Sep w0 B w (blk g1 95 #[.int .i64 w_Grid_W1, .int .i64 w_Grid_H1, .slice A1 w_Grid_Cells1.length c1, .int .i64 w_k1, .int .i64 w_moved1] :: own 3 (.slice A1 w_Grid_Cells1.length c1) (vI w_Grid_Cells1) :: blk g2 127 #[.int .i64 (geti ([1, 0, 0, 1, 1, 1, 1, (-1)] : List Int) (z1 * 2)), .int .i64 (geti ([1, 0, 0, 1, 1, 1, 1, (-1)] : List Int) (z1 * 2 + 1))] :: fs) ∧ ((four_well_won_J7 z1 z2 n4 a1 b1)).bind φ3 = some r) ?_ ?_
              · rintro a w ⟨hF, hS, hm⟩
                unfold four_well_won_J7 at hm
                refine seq_cut (fun a w => Fr 127 [pl 0 (.pointer (some ⟨g1, 0, none⟩)), pl 5 (.int .i64 (geti w_Grid_Cells1 at1)), pl 6 (.int .i64 (Int.tmod at1 w_Grid_W1)), pl 7 (.int .i64 (w64 (Int.tdiv at1 w_Grid_W1))), pl 9 (.pointer (some ⟨g2, 0, none⟩)), pl 10 (.int .i64 (w64 (n4 + 1))), pl 12 (.int .i64 (geti ([1, (-1)] : List Int) z2)), pl 13 (.int .i64 a1), pl 14 (.int .i64 b1), pl 41 (.agg (List.toArray (([] : List Value) ++ (arr1 (Value.int .i64) (0 : Int) 8 ([1, 0, 0, 1, 1, 1, 1, (-1)] : List Int) ++ ([] : List Value))))), pl 42 (.int .i64 z1), pl 45 (.agg #[.int .i64 1, .int .i64 (-1)]), pl 46 (.int .i64 z2)] a ∧ Sep w0 B w (blk g1 95 #[.int .i64 w_Grid_W1, .int .i64 w_Grid_H1, .slice A1 w_Grid_Cells1.length c1, .int .i64 w_k1, .int .i64 w_moved1] :: own 3 (.slice A1 w_Grid_Cells1.length c1) (vI w_Grid_Cells1) :: blk g2 127 #[.int .i64 (geti ([1, 0, 0, 1, 1, 1, 1, (-1)] : List Int) (z1 * 2)), .int .i64 (geti ([1, 0, 0, 1, 1, 1, 1, (-1)] : List Int) (z1 * 2 + 1))] :: fs) ∧ ((four_well_won_J8 z1 z2 n4 a1 b1)).bind φ3 = some r) ?_ ?_
                · rintro a w ⟨hF, hS, hm⟩
                  unfold four_well_won_J8 at hm
                  refine reg1 [⟨false, [], vS (Instr.loadAt 3 (.pointer (some ⟨g2, 0, none⟩))), .int .i64 (geti ([1, 0, 0, 1, 1, 1, 1, (-1)] : List Int) (z1 * 2))⟩, ⟨false, [], vS (Instr.loadAt 3 (.pointer (some ⟨g2, 1, none⟩))), .int .i64 (geti ([1, 0, 0, 1, 1, 1, 1, (-1)] : List Int) (z1 * 2 + 1))⟩] [none, none, none, some (.int .i64 (geti ([1, 0, 0, 1, 1, 1, 1, (-1)] : List Int) (z1 * 2))), none, none, none, none, none, some (.int .i64 (geti ([1, 0, 0, 1, 1, 1, 1, (-1)] : List Int) (z1 * 2 + 1))), none, none, none, none] [0, 5, 6, 7, 9, 10, 12, 13, 14, 41, 42, 45, 46] [pl 0 (.pointer (some ⟨g1, 0, none⟩)), pl 5 (.int .i64 (geti w_Grid_Cells1 at1)), pl 6 (.int .i64 (Int.tmod at1 w_Grid_W1)), pl 7 (.int .i64 (w64 (Int.tdiv at1 w_Grid_W1))), pl 9 (.pointer (some ⟨g2, 0, none⟩)), pl 10 (.int .i64 (w64 (n4 + 1))), pl 12 (.int .i64 (geti ([1, (-1)] : List Int) z2)), pl 13 (.int .i64 (w64 (a1 + (w64 ((geti ([1, (-1)] : List Int) z2) * (geti ([1, 0, 0, 1, 1, 1, 1, (-1)] : List Int) (z1 * 2))))))), pl 14 (.int .i64 (w64 (b1 + (w64 ((geti ([1, (-1)] : List Int) z2) * (geti ([1, 0, 0, 1, 1, 1, 1, (-1)] : List Int) (z1 * 2 + 1))))))), pl 41 (.agg (List.toArray (([] : List Value) ++ (arr1 (Value.int .i64) (0 : Int) 8 ([1, 0, 0, 1, 1, 1, 1, (-1)] : List Int) ++ ([] : List Value))))), pl 42 (.int .i64 z1), pl 45 (.agg #[.int .i64 1, .int .i64 (-1)]), pl 46 (.int .i64 z2)] hF hS Fol (by kernel_rfl) (by kernel_rfl) (by kernel_rfl) ?_ (fun a w hF hS => ?_)
                  · exact obs_cons (ob_load Agg3 (fun _ _ hS => (hS.at_ 2 rfl).cell rfl)) <| obs_cons (ob_load Agg3 (fun _ _ hS => (hS.at_ 2 rfl).cell rfl)) <| obs_nil
                  refine then_n ?_
                  rw [← hφ3] at hm
                  exact ⟨((w64 (n4 + 1)), (w64 (a1 + (w64 ((geti ([1, (-1)] : List Int) z2) * (geti ([1, 0, 0, 1, 1, 1, 1, (-1)] : List Int) (z1 * 2)))))), (w64 (b1 + (w64 ((geti ([1, (-1)] : List Int) z2) * (geti ([1, 0, 0, 1, 1, 1, 1, (-1)] : List Int) (z1 * 2 + 1))))))), ⟨hF.weak [0, 5, 6, 7, 9, 10, 12, 13, 14, 41, 42, 45, 46] (by kernel_rfl), hS⟩, hm⟩
                · refine wp_block ?_
                  refine reg1 [] [] [0, 5, 6, 7, 9, 10, 12, 13, 14, 41, 42, 45, 46] [pl 0 (.pointer (some ⟨g1, 0, none⟩)), pl 5 (.int .i64 (geti w_Grid_Cells1 at1)), pl 6 (.int .i64 (Int.tmod at1 w_Grid_W1)), pl 7 (.int .i64 (w64 (Int.tdiv at1 w_Grid_W1))), pl 9 (.pointer (some ⟨g2, 0, none⟩)), pl 10 (.int .i64 (w64 (n4 + 1))), pl 12 (.int .i64 (geti ([1, (-1)] : List Int) z2)), pl 13 (.int .i64 a1), pl 14 (.int .i64 b1), pl 41 (.agg (List.toArray (([] : List Value) ++ (arr1 (Value.int .i64) (0 : Int) 8 ([1, 0, 0, 1, 1, 1, 1, (-1)] : List Int) ++ ([] : List Value))))), pl 42 (.int .i64 z1), pl 45 (.agg #[.int .i64 1, .int .i64 (-1)]), pl 46 (.int .i64 z2)] hF hS Fol (by kernel_rfl) (by kernel_rfl) (by kernel_rfl) ?_ (fun a w hF hS => ?_)
                  · exact obs_nil
                  refine block_n ?_
                  refine then_n ?_
                  exact ⟨hF.weak [0, 5, 6, 7, 9, 10, 12, 13, 14, 41, 42, 45, 46] (by kernel_rfl), hS, hm⟩
              · obtain ⟨hp6, hm⟩ := asrt_b hm
                refine reg [⟨false, [(decide ((0 : Int) ≤ a1), true)], vS (Instr.loadAt 3 (.pointer (some ⟨g1, 0, none⟩))), .int .i64 w_Grid_W1⟩, ⟨false, [(((decide ((0 : Int) ≤ a1)) && (decide (a1 < w_Grid_W1))) && (decide ((0 : Int) ≤ b1)), true)], vS (Instr.loadAt 3 (.pointer (some ⟨g1, 1, none⟩))), .int .i64 w_Grid_H1⟩, ⟨false, [((((decide ((0 : Int) ≤ a1)) && (decide (a1 < w_Grid_W1))) && (decide ((0 : Int) ≤ b1))) && (decide (b1 < w_Grid_H1)), true)], vS (Instr.loadAt 22 (.pointer (some ⟨g1, 2, none⟩))), .slice A1 w_Grid_Cells1.length c1⟩, ⟨false, [((((decide ((0 : Int) ≤ a1)) && (decide (a1 < w_Grid_W1))) && (decide ((0 : Int) ≤ b1))) && (decide (b1 < w_Grid_H1)), true)], vS (Instr.loadAt 3 (.pointer (some ⟨g1, 0, none⟩))), .int .i64 w_Grid_W1⟩, ⟨true, [((((decide ((0 : Int) ≤ a1)) && (decide (a1 < w_Grid_W1))) && (decide ((0 : Int) ≤ b1))) && (decide (b1 < w_Grid_H1)), true)], vS (Instr.indexAt 22 (.slice A1 w_Grid_Cells1.length c1) (.int .i64 (w64 ((w64 (b1 * w_Grid_W1)) + a1)))), .pointer (some (sAddr A1 (w64 ((w64 (b1 * w_Grid_W1)) + a1))))⟩, ⟨false, [((((decide ((0 : Int) ≤ a1)) && (decide (a1 < w_Grid_W1))) && (decide ((0 : Int) ≤ b1))) && (decide (b1 < w_Grid_H1)), true)], vS (Instr.loadAt 3 (.pointer (some (sAddr A1 (w64 ((w64 (b1 * w_Grid_W1)) + a1)))))), .int .i64 (geti w_Grid_Cells1 (w64 ((w64 (b1 * w_Grid_W1)) + a1)))⟩] [none, none, none, none, none, none, none, none, some (.int .i64 w_Grid_W1), none, none, none, none, none, none, none, none, none, none, none, none, some (.int .i64 w_Grid_H1), none, none, none, none, none, none, none, some (.slice A1 w_Grid_Cells1.length c1), none, none, none, none, none, some (.int .i64 w_Grid_W1), none, none, none, some (.pointer (some (sAddr A1 (w64 ((w64 (b1 * w_Grid_W1)) + a1))))), some (.int .i64 (geti w_Grid_Cells1 (w64 ((w64 (b1 * w_Grid_W1)) + a1)))), none, none, none] [0, 5, 6, 7, 9, 10, 12, 13, 14, 41, 42, 45, 46, 104] [pl 0 (.pointer (some ⟨g1, 0, none⟩)), pl 5 (.int .i64 (geti w_Grid_Cells1 at1)), pl 6 (.int .i64 (Int.tmod at1 w_Grid_W1)), pl 7 (.int .i64 (w64 (Int.tdiv at1 w_Grid_W1))), pl 9 (.pointer (some ⟨g2, 0, none⟩)), pl 10 (.int .i64 n4), pl 12 (.int .i64 (geti ([1, (-1)] : List Int) z2)), pl 13 (.int .i64 a1), pl 14 (.int .i64 b1), pl 41 (.agg (List.toArray (([] : List Value) ++ (arr1 (Value.int .i64) (0 : Int) 8 ([1, 0, 0, 1, 1, 1, 1, (-1)] : List Int) ++ ([] : List Value))))), pl 42 (.int .i64 z1), pl 45 (.agg #[.int .i64 1, .int .i64 (-1)]), pl 46 (.int .i64 z2), pl 104 (.bool (((((decide ((0 : Int) ≤ a1)) && (decide (a1 < w_Grid_W1))) && (decide ((0 : Int) ≤ b1))) && (decide (b1 < w_Grid_H1))) && ((geti w_Grid_Cells1 (w64 ((w64 (b1 * w_Grid_W1)) + a1))) == (geti w_Grid_Cells1 at1))))] hF hS Fol (by kernel_rfl) (by kernel_rfl) (by kernel_rfl) ?_ (fun a w hF hS => ?_)
                · exact obs_cons (ob_load Agg3 (fun _ _ hS => (hS.at_ 0 rfl).cell rfl)) <| obs_cons (ob_load Agg3 (fun _ _ hS => (hS.at_ 0 rfl).cell rfl)) <| obs_cons (ob_load Agg22 (fun _ _ hS => (hS.at_ 0 rfl).cell rfl)) <| obs_cons (ob_load Agg3 (fun _ _ hS => (hS.at_ 0 rfl).cell rfl)) <| obs_cons (ob_ix1 (f := (Value.int .i64)) (m := w_Grid_Cells1) Und22 hi3 hs3 (hS.at_ 1 rfl).rd rfl (fun hy => hp6 (hy ((((decide ((0 : Int) ≤ a1)) && (decide (a1 < w_Grid_W1))) && (decide ((0 : Int) ≤ b1))) && (decide (b1 < w_Grid_H1)), true) (by simp)))) <| obs_cons (ob_get1 (n := w_Grid_Cells1.length) (m := w_Grid_Cells1) (Value.int .i64) (0 : Int) Agg3 (fun _ hS => ⟨_, (hS.at_ 1 rfl).rd⟩) (fun _ hS => rfl) (fun hy => hp6 (hy ((((decide ((0 : Int) ≤ a1)) && (decide (a1 < w_Grid_W1))) && (decide ((0 : Int) ≤ b1))) && (decide (b1 < w_Grid_H1)), true) (by simp)))) <| obs_nil
                refine cond_ev (t := 104) (b := ((((decide ((0 : Int) ≤ a1)) && (decide (a1 < w_Grid_W1))) && (decide ((0 : Int) ≤ b1))) && (decide (b1 < w_Grid_H1))) && ((geti w_Grid_Cells1 (w64 ((w64 (b1 * w_Grid_W1)) + a1))) == (geti w_Grid_Cells1 at1))) hF (by kernel_rfl) (fun hb => ?_) (fun hb => ?_)
                · replace hm := if_t hm hb
                  refine wp_skip ?_
                  refine then_n ?_
                  exact ⟨hF.weak [0, 5, 6, 7, 9, 10, 12, 13, 14, 41, 42, 45, 46] (by kernel_rfl), hS, hm⟩
                · replace hm := if_f hm hb
                  refine wp_exit ?_
                  refine then_e (then_e (block_e (block_n (then_n ?_))))
                  rw [← hφ3] at hm
                  replace hm := done_b hm
                  unfold four_well_won_K3 at hm
                  try dsimp only at hm
                  have hm : ((four_well_won_J6 z2) n4).bind φ2 = some r := hm
                  exact ⟨n4, hF.weak [0, 5, 6, 7, 9, 10, 41, 42, 45, 46] (by kernel_rfl), hS, hm⟩
          · refine cond_ev (t := 47) (b := decide (z2 < 2)) hF (by kernel_rfl) (fun hb => ?_) (fun hb => ?_)
            · replace hm := if_t hm hb
              refine wp_skip ?_
              refine then_n ?_
              exact ⟨hF.weak [0, 5, 6, 7, 9, 10, 41, 42, 45, 46] (by kernel_rfl), hS, hm⟩
            · replace hm := if_f hm hb
              refine wp_exit ?_
              refine then_e (then_e (block_e (then_n ?_)))
              have hS := hS.pickN 3 [0, 1] (by decide)
              rw [← hφ2] at hm
              replace hm := done_b hm
              unfold four_well_won_K2 at hm
              try dsimp only at hm
              have hm : ((four_well_won_J4 w_k1 z1) n2).bind φ1 = some r := hm
              exact ⟨n2, hF.weak [0, 5, 6, 7, 10, 41, 42] (by kernel_rfl), hS, hm⟩
    · refine cond_ev (t := 43) (b := decide (z1 < 4)) hF (by kernel_rfl) (fun hb => ?_) (fun hb => ?_)
      · replace hm := if_t hm hb
        refine wp_skip ?_
        refine then_n ?_
        exact ⟨hF.weak [0, 5, 6, 7, 41, 42] (by kernel_rfl), hS, hm⟩
      · replace hm := if_f hm hb
        refine wp_exit ?_
        refine then_e (then_e (block_e (then_n ?_)))
        rw [← hφ1] at hm
        replace hm := done_b hm
        unfold four_well_won_K1 at hm
        try dsimp only at hm
        have hm : (four_well_won_J1).bind some = some r := hm
        exact ⟨hF.weak [] (by kernel_rfl), hS, hm⟩

noncomputable def four_well_over_J3 (z1 : Int) : Option (St Int (Fl Unit Bool)) :=
  some (.next (w64 (z1 + 1)))

noncomputable def four_well_over_J2 (w_Grid_W1 : Int) (w_Grid_H1 : Int) (w_Grid_Cells1 : List Int) (w_k1 : Int) (w_moved1 : Int) (z1 : Int) : Option (St Int (Fl Unit Bool)) :=
  asrt (0 ≤ z1 ∧ z1 < (w_Grid_Cells1.length : Int)) <| ((if (decide ((0 : Int) < (geti w_Grid_Cells1 z1))) then four_well_won_m w_Grid_W1 w_Grid_H1 w_Grid_Cells1 w_k1 w_moved1 z1 else some false)).bind fun r1 => if ((decide ((0 : Int) < (geti w_Grid_Cells1 z1))) && r1) then (some (.done (.ret true))) else ((four_well_over_J3 z1))

noncomputable def four_well_over_J1 : Option Bool :=
  some false

noncomputable def four_well_over_K1 : (Fl Unit Bool) → Option Bool :=
  fun (x : (Fl Unit Bool)) => match x with | .go _ => four_well_over_J1 | .ret x => some x

noncomputable def four_well_over_L1 (w_Grid_W1 : Int) (w_Grid_H1 : Int) (w_Grid_Cells1 : List Int) (w_k1 : Int) (w_moved1 : Int) : Int → Option (St Int (Fl Unit Bool)) :=
  fun (x : Int) => match x with | z1 => if (decide (z1 < (w_Grid_Cells1.length : Int))) then ((four_well_over_J2 w_Grid_W1 w_Grid_H1 w_Grid_Cells1 w_k1 w_moved1 z1)) else (some (.done (.go ())))

noncomputable def four_well_over_m (w_Grid_W1 : Int) (w_Grid_H1 : Int) (w_Grid_Cells1 : List Int) (w_k1 : Int) (w_moved1 : Int) : Option Bool :=
  (loop (four_well_over_L1 w_Grid_W1 w_Grid_H1 w_Grid_Cells1 w_k1 w_moved1) 0).bind four_well_over_K1

set_option maxRecDepth 100000 in
set_option maxHeartbeats 4000000 in
theorem four_well_over_w {g1 : Nat} {w_Grid_W1 : Int} {w_Grid_H1 : Int} {A1 : Option Addr} {c1 : Nat} {n1 : Nat} {w_Grid_Cells1 : List Int} {w_k1 : Int} {w_moved1 : Int} {r : Bool} {w0 w : World} {B : Nat} {fs : List HP} (hm : four_well_over_m w_Grid_W1 w_Grid_H1 w_Grid_Cells1 w_k1 w_moved1 = some r) (hS : Sep w0 B w (blk g1 95 #[.int .i64 w_Grid_W1, .int .i64 w_Grid_H1, .slice A1 n1 c1, .int .i64 w_k1, .int .i64 w_moved1] :: own 3 (.slice A1 n1 c1) (vI w_Grid_Cells1) :: fs)) :
    Calls Try.prog 76 #[.pointer (some ⟨g1, 0, none⟩)] w fun e w' => e = .returned (.bool r) ∧ Sep w0 B w' (blk g1 95 #[.int .i64 w_Grid_W1, .int .i64 w_Grid_H1, .slice A1 n1 c1, .int .i64 w_k1, .int .i64 w_moved1] :: own 3 (.slice A1 n1 c1) (vI w_Grid_Cells1) :: fs) := by
  obtain ⟨i3, hi3, hz3, hs3, hb3⟩ := info_parts Info3
  obtain rfl := (hS.at_ 1 rfl).len1
  unfold four_well_over_m at hm
  replace hm := start_b hm
  refine enter (l := [.pointer (some ⟨g1, 0, none⟩)]) (n := 24) Try.func76 rfl rfl (by simp) (fun a hF => ?_)
  refine reg [] [] [0] [pl 0 (.pointer (some ⟨g1, 0, none⟩))] hF hS Fol (by kernel_rfl) (by kernel_rfl) (by kernel_rfl) ?_ (fun a w hF hS => ?_)
  · exact obs_nil
  refine seq_cut (fun a w => Fr 24 [] a ∧ Sep w0 B w (blk g1 95 #[.int .i64 w_Grid_W1, .int .i64 w_Grid_H1, .slice A1 w_Grid_Cells1.length c1, .int .i64 w_k1, .int .i64 w_moved1] :: own 3 (.slice A1 w_Grid_Cells1.length c1) (vI w_Grid_Cells1) :: fs) ∧ (four_well_over_J1).bind some = some r) ?_ ?_
  · rintro a w ⟨hF, hS, hm⟩
    unfold four_well_over_J1 at hm
    refine reg [] [] [2] [pl 2 (.bool false)] hF hS Fol (by kernel_rfl) (by kernel_rfl) (by kernel_rfl) ?_ (fun a w hF hS => ?_)
    · exact obs_nil
    refine wp_ret ?_
    have hm : some false = some r := hm
    obtain rfl := Option.some.inj hm
    exact retV (rs := [.tmp 2]) (vs := [.bool false]) hF rfl (rv_t (by kernel_rfl) <| rv_nil) rfl ⟨rfl, hS⟩
  · refine reg [⟨false, [], vS (Instr.loadAt 22 (.pointer (some ⟨g1, 2, none⟩))), .slice A1 w_Grid_Cells1.length c1⟩] [none, none, none, none, some (.slice A1 w_Grid_Cells1.length c1), none, none] [0, 9, 10, 11] [pl 0 (.pointer (some ⟨g1, 0, none⟩)), pl 9 (.slice A1 w_Grid_Cells1.length c1), pl 10 (.int .i64 (w_Grid_Cells1.length : Int)), pl 11 (.int .i64 0)] hF hS Fol (by kernel_rfl) (by kernel_rfl) (by kernel_rfl) ?_ (fun a w hF hS => ?_)
    · exact obs_cons (ob_load Agg22 (fun _ _ hS => (hS.at_ 0 rfl).cell rfl)) <| obs_nil
    refine wp_block ?_
    refine wp_loop_model (S := Int) (R := (Fl Unit Bool)) (four_well_over_L1 w_Grid_W1 w_Grid_H1 w_Grid_Cells1 w_k1 w_moved1) (fun x => (four_well_over_K1 x).bind some) r (fun (x : Int) a w => Fr 24 [pl 0 (.pointer (some ⟨g1, 0, none⟩)), pl 9 (.slice A1 w_Grid_Cells1.length c1), pl 10 (.int .i64 (w_Grid_Cells1.length : Int)), pl 11 (.int .i64 x)] a ∧ Sep w0 B w (blk g1 95 #[.int .i64 w_Grid_W1, .int .i64 w_Grid_H1, .slice A1 w_Grid_Cells1.length c1, .int .i64 w_k1, .int .i64 w_moved1] :: own 3 (.slice A1 w_Grid_Cells1.length c1) (vI w_Grid_Cells1) :: fs)) (assoc_b hm) ⟨hF.weak [0, 9, 10, 11] (by kernel_rfl), hS⟩ ?_
    clear hF hS hm
    rintro nn1 z1 a w ⟨hF, hS⟩ hm
    generalize hφ1 : stK (four_well_over_L1 w_Grid_W1 w_Grid_H1 w_Grid_Cells1 w_k1 w_moved1) nn1 (fun x => (four_well_over_K1 x).bind some) = φ1 at hm
    unfold four_well_over_L1 at hm
    dsimp only at hm
    refine reg [] [] [0, 9, 10, 11, 12] [pl 0 (.pointer (some ⟨g1, 0, none⟩)), pl 9 (.slice A1 w_Grid_Cells1.length c1), pl 10 (.int .i64 (w_Grid_Cells1.length : Int)), pl 11 (.int .i64 z1), pl 12 (.bool (decide (z1 < (w_Grid_Cells1.length : Int))))] hF hS Fol (by kernel_rfl) (by kernel_rfl) (by kernel_rfl) ?_ (fun a w hF hS => ?_)
    · exact obs_nil
    refine seq_cut (fun a w => Fr 24 [pl 0 (.pointer (some ⟨g1, 0, none⟩)), pl 9 (.slice A1 w_Grid_Cells1.length c1), pl 10 (.int .i64 (w_Grid_Cells1.length : Int)), pl 11 (.int .i64 z1)] a ∧ Sep w0 B w (blk g1 95 #[.int .i64 w_Grid_W1, .int .i64 w_Grid_H1, .slice A1 w_Grid_Cells1.length c1, .int .i64 w_k1, .int .i64 w_moved1] :: own 3 (.slice A1 w_Grid_Cells1.length c1) (vI w_Grid_Cells1) :: fs) ∧ ((four_well_over_J2 w_Grid_W1 w_Grid_H1 w_Grid_Cells1 w_k1 w_moved1 z1)).bind φ1 = some r) ?_ ?_
    · rintro a w ⟨hF, hS, hm⟩
      unfold four_well_over_J2 at hm
      refine seq_cut (fun a w => Fr 24 [pl 0 (.pointer (some ⟨g1, 0, none⟩)), pl 9 (.slice A1 w_Grid_Cells1.length c1), pl 10 (.int .i64 (w_Grid_Cells1.length : Int)), pl 11 (.int .i64 z1)] a ∧ Sep w0 B w (blk g1 95 #[.int .i64 w_Grid_W1, .int .i64 w_Grid_H1, .slice A1 w_Grid_Cells1.length c1, .int .i64 w_k1, .int .i64 w_moved1] :: own 3 (.slice A1 w_Grid_Cells1.length c1) (vI w_Grid_Cells1) :: fs) ∧ ((four_well_over_J3 z1)).bind φ1 = some r) ?_ ?_
      · rintro a w ⟨hF, hS, hm⟩
        unfold four_well_over_J3 at hm
        refine reg1 [] [] [0, 9, 10, 11] [pl 0 (.pointer (some ⟨g1, 0, none⟩)), pl 9 (.slice A1 w_Grid_Cells1.length c1), pl 10 (.int .i64 (w_Grid_Cells1.length : Int)), pl 11 (.int .i64 (w64 (z1 + 1)))] hF hS Fol (by kernel_rfl) (by kernel_rfl) (by kernel_rfl) ?_ (fun a w hF hS => ?_)
        · exact obs_nil
        refine then_n ?_
        rw [← hφ1] at hm
        exact ⟨(w64 (z1 + 1)), ⟨hF.weak [0, 9, 10, 11] (by kernel_rfl), hS⟩, hm⟩
      · refine wp_block ?_
        obtain ⟨hp1, hm⟩ := asrt_b hm
        refine reg [⟨true, [], vS (Instr.indexAt 22 (.slice A1 w_Grid_Cells1.length c1) (.int .i64 z1)), .pointer (some (sAddr A1 z1))⟩, ⟨false, [], vS (Instr.loadAt 3 (.pointer (some (sAddr A1 z1)))), .int .i64 (geti w_Grid_Cells1 z1)⟩] [none, some (.pointer (some (sAddr A1 z1))), some (.int .i64 (geti w_Grid_Cells1 z1)), none, none] [0, 3, 4, 9, 10, 11] [pl 0 (.pointer (some ⟨g1, 0, none⟩)), pl 3 (.int .i64 z1), pl 4 (.int .i64 (geti w_Grid_Cells1 z1)), pl 9 (.slice A1 w_Grid_Cells1.length c1), pl 10 (.int .i64 (w_Grid_Cells1.length : Int)), pl 11 (.int .i64 z1)] hF hS Fol (by kernel_rfl) (by kernel_rfl) (by kernel_rfl) ?_ (fun a w hF hS => ?_)
        · exact obs_cons (ob_ix1 (f := (Value.int .i64)) (m := w_Grid_Cells1) Und22 hi3 hs3 (hS.at_ 1 rfl).rd rfl (fun _ => hp1)) <| obs_cons (ob_get1 (n := w_Grid_Cells1.length) (m := w_Grid_Cells1) (Value.int .i64) (0 : Int) Agg3 (fun _ hS => ⟨_, (hS.at_ 1 rfl).rd⟩) (fun _ hS => rfl) (fun _ => hp1)) <| obs_nil
        obtain ⟨r1, hr1, hm⟩ := call_b hm
        refine reg [⟨false, [(decide ((0 : Int) < (geti w_Grid_Cells1 z1)), true)], callFunc 78 #[.pointer (some ⟨g1, 0, none⟩), .int .i64 z1], .bool r1⟩] [none, none, none, none, none, some (.bool r1), none] [0, 9, 10, 11, 22] [pl 0 (.pointer (some ⟨g1, 0, none⟩)), pl 9 (.slice A1 w_Grid_Cells1.length c1), pl 10 (.int .i64 (w_Grid_Cells1.length : Int)), pl 11 (.int .i64 z1), pl 22 (.bool ((decide ((0 : Int) < (geti w_Grid_Cells1 z1))) && r1))] hF hS Fol (by kernel_rfl) (by kernel_rfl) (by kernel_rfl) ?_ (fun a w hF hS => ?_)
        · exact obs_cons (ob_call Try.func78 (by kernel_rfl) rfl (fun hy _ hS => four_well_won_w (ite_some hr1 (by rw [show (decide ((0 : Int) < (geti w_Grid_Cells1 z1))) = true from hy (decide ((0 : Int) < (geti w_Grid_Cells1 z1)), true) (by simp)]; try rfl)) hS )) <| obs_nil
        refine cond_ev (t := 22) (b := (decide ((0 : Int) < (geti w_Grid_Cells1 z1))) && r1) hF (by kernel_rfl) (fun hb => ?_) (fun hb => ?_)
        · replace hm := if_t hm hb
          refine reg [] [] [2] [pl 2 (.bool true)] hF hS Fol (by kernel_rfl) (by kernel_rfl) (by kernel_rfl) ?_ (fun a w hF hS => ?_)
          · exact obs_nil
          refine wp_ret ?_
          refine block_r (then_r (then_r (block_r (then_r ?_))))
          rw [← hφ1] at hm
          replace hm := done_b hm
          unfold four_well_over_K1 at hm
          try dsimp only at hm
          have hm : some true = some r := hm
          obtain rfl := Option.some.inj hm
          exact retV (rs := [.tmp 2]) (vs := [.bool true]) hF rfl (rv_t (by kernel_rfl) <| rv_nil) rfl ⟨rfl, hS⟩
        · replace hm := if_f hm hb
          refine wp_skip ?_
          refine block_n ?_
          refine then_n ?_
          exact ⟨hF.weak [0, 9, 10, 11] (by kernel_rfl), hS, hm⟩
    · refine cond_ev (t := 12) (b := decide (z1 < (w_Grid_Cells1.length : Int))) hF (by kernel_rfl) (fun hb => ?_) (fun hb => ?_)
      · replace hm := if_t hm hb
        refine wp_skip ?_
        refine then_n ?_
        exact ⟨hF.weak [0, 9, 10, 11] (by kernel_rfl), hS, hm⟩
      · replace hm := if_f hm hb
        refine wp_exit ?_
        refine then_e (then_e (block_e (then_n ?_)))
        rw [← hφ1] at hm
        replace hm := done_b hm
        unfold four_well_over_K1 at hm
        try dsimp only at hm
        have hm : (four_well_over_J1).bind some = some r := hm
        exact ⟨hF.weak [] (by kernel_rfl), hS, hm⟩

noncomputable def four_well_fall_J3 (y1 : Int) : Option (St Int (Fl Unit Int)) :=
  some (.next (w64 (y1 - 1)))

noncomputable def four_well_fall_J2 (w_Grid_W1 : Int) (w_Grid_Cells1 : List Int) (column1 : Int) (y1 : Int) : Option (St Int (Fl Unit Int)) :=
  asrt (0 ≤ (w64 ((w64 (y1 * w_Grid_W1)) + column1)) ∧ (w64 ((w64 (y1 * w_Grid_W1)) + column1)) < (w_Grid_Cells1.length : Int)) <| if ((geti w_Grid_Cells1 (w64 ((w64 (y1 * w_Grid_W1)) + column1))) == 0) then (some (.done (.ret (w64 ((w64 (y1 * w_Grid_W1)) + column1))))) else ((four_well_fall_J3 y1))

noncomputable def four_well_fall_J1 : Option Int :=
  some (-1)

noncomputable def four_well_fall_K1 : (Fl Unit Int) → Option Int :=
  fun (x : (Fl Unit Int)) => match x with | .go _ => four_well_fall_J1 | .ret x => some x

noncomputable def four_well_fall_L1 (w_Grid_W1 : Int) (w_Grid_Cells1 : List Int) (column1 : Int) : Int → Option (St Int (Fl Unit Int)) :=
  fun (x : Int) => match x with | y1 => if (decide ((0 : Int) ≤ y1)) then ((four_well_fall_J2 w_Grid_W1 w_Grid_Cells1 column1 y1)) else (some (.done (.go ())))

noncomputable def four_well_fall_m (w_Grid_W1 : Int) (w_Grid_H1 : Int) (w_Grid_Cells1 : List Int) (w_k1 : Int) (w_moved1 : Int) (column1 : Int) : Option Int :=
  (loop (four_well_fall_L1 w_Grid_W1 w_Grid_Cells1 column1) (w64 (w_Grid_H1 - 1))).bind four_well_fall_K1

set_option maxRecDepth 100000 in
set_option maxHeartbeats 4000000 in
theorem four_well_fall_w {g1 : Nat} {w_Grid_W1 : Int} {w_Grid_H1 : Int} {A1 : Option Addr} {c1 : Nat} {n1 : Nat} {w_Grid_Cells1 : List Int} {w_k1 : Int} {w_moved1 : Int} {column1 : Int} {r : Int} {w0 w : World} {B : Nat} {fs : List HP} (hm : four_well_fall_m w_Grid_W1 w_Grid_H1 w_Grid_Cells1 w_k1 w_moved1 column1 = some r) (hS : Sep w0 B w (blk g1 95 #[.int .i64 w_Grid_W1, .int .i64 w_Grid_H1, .slice A1 n1 c1, .int .i64 w_k1, .int .i64 w_moved1] :: own 3 (.slice A1 n1 c1) (vI w_Grid_Cells1) :: fs)) :
    Calls Try.prog 77 #[.pointer (some ⟨g1, 0, none⟩), .int .i64 column1] w fun e w' => e = .returned (.int .i64 r) ∧ Sep w0 B w' (blk g1 95 #[.int .i64 w_Grid_W1, .int .i64 w_Grid_H1, .slice A1 n1 c1, .int .i64 w_k1, .int .i64 w_moved1] :: own 3 (.slice A1 n1 c1) (vI w_Grid_Cells1) :: fs) := by
  obtain ⟨i3, hi3, hz3, hs3, hb3⟩ := info_parts Info3
  obtain rfl := (hS.at_ 1 rfl).len1
  unfold four_well_fall_m at hm
  replace hm := start_b hm
  refine enter (l := [.pointer (some ⟨g1, 0, none⟩), .int .i64 column1]) (n := 36) Try.func77 rfl rfl (by simp) (fun a hF => ?_)
  refine reg [] [] [0, 1] [pl 0 (.pointer (some ⟨g1, 0, none⟩)), pl 1 (.int .i64 column1)] hF hS Fol (by kernel_rfl) (by kernel_rfl) (by kernel_rfl) ?_ (fun a w hF hS => ?_)
  · exact obs_nil
  refine seq_cut (fun a w => Fr 36 [] a ∧ Sep w0 B w (blk g1 95 #[.int .i64 w_Grid_W1, .int .i64 w_Grid_H1, .slice A1 w_Grid_Cells1.length c1, .int .i64 w_k1, .int .i64 w_moved1] :: own 3 (.slice A1 w_Grid_Cells1.length c1) (vI w_Grid_Cells1) :: fs) ∧ (four_well_fall_J1).bind some = some r) ?_ ?_
  · rintro a w ⟨hF, hS, hm⟩
    unfold four_well_fall_J1 at hm
    refine reg [] [] [4] [pl 4 (.int .i64 (-1))] hF hS Fol (by kernel_rfl) (by kernel_rfl) (by kernel_rfl) ?_ (fun a w hF hS => ?_)
    · exact obs_nil
    refine wp_ret ?_
    have hm : some (-1) = some r := hm
    obtain rfl := Option.some.inj hm
    exact retV (rs := [.tmp 4]) (vs := [.int .i64 (-1)]) hF rfl (rv_t (by kernel_rfl) <| rv_nil) rfl ⟨rfl, hS⟩
  · refine reg [⟨false, [], vS (Instr.loadAt 3 (.pointer (some ⟨g1, 1, none⟩))), .int .i64 w_Grid_H1⟩] [none, none, none, none, some (.int .i64 w_Grid_H1), none, none] [0, 1, 5] [pl 0 (.pointer (some ⟨g1, 0, none⟩)), pl 1 (.int .i64 column1), pl 5 (.int .i64 (w64 (w_Grid_H1 - 1)))] hF hS Fol (by kernel_rfl) (by kernel_rfl) (by kernel_rfl) ?_ (fun a w hF hS => ?_)
    · exact obs_cons (ob_load Agg3 (fun _ _ hS => (hS.at_ 0 rfl).cell rfl)) <| obs_nil
    refine wp_block ?_
    refine wp_loop_model (S := Int) (R := (Fl Unit Int)) (four_well_fall_L1 w_Grid_W1 w_Grid_Cells1 column1) (fun x => (four_well_fall_K1 x).bind some) r (fun (x : Int) a w => Fr 36 [pl 0 (.pointer (some ⟨g1, 0, none⟩)), pl 1 (.int .i64 column1), pl 5 (.int .i64 x)] a ∧ Sep w0 B w (blk g1 95 #[.int .i64 w_Grid_W1, .int .i64 w_Grid_H1, .slice A1 w_Grid_Cells1.length c1, .int .i64 w_k1, .int .i64 w_moved1] :: own 3 (.slice A1 w_Grid_Cells1.length c1) (vI w_Grid_Cells1) :: fs)) (assoc_b hm) ⟨hF.weak [0, 1, 5] (by kernel_rfl), hS⟩ ?_
    clear hF hS hm
    rintro nn1 y1 a w ⟨hF, hS⟩ hm
    generalize hφ1 : stK (four_well_fall_L1 w_Grid_W1 w_Grid_Cells1 column1) nn1 (fun x => (four_well_fall_K1 x).bind some) = φ1 at hm
    unfold four_well_fall_L1 at hm
    dsimp only at hm
    refine seq_cut (fun a w => Fr 36 [pl 0 (.pointer (some ⟨g1, 0, none⟩)), pl 1 (.int .i64 column1), pl 5 (.int .i64 y1)] a ∧ Sep w0 B w (blk g1 95 #[.int .i64 w_Grid_W1, .int .i64 w_Grid_H1, .slice A1 w_Grid_Cells1.length c1, .int .i64 w_k1, .int .i64 w_moved1] :: own 3 (.slice A1 w_Grid_Cells1.length c1) (vI w_Grid_Cells1) :: fs) ∧ ((four_well_fall_J2 w_Grid_W1 w_Grid_Cells1 column1 y1)).bind φ1 = some r) ?_ ?_
    · rintro a w ⟨hF, hS, hm⟩
      unfold four_well_fall_J2 at hm
      refine seq_cut (fun a w => Fr 36 [pl 0 (.pointer (some ⟨g1, 0, none⟩)), pl 1 (.int .i64 column1), pl 5 (.int .i64 y1)] a ∧ Sep w0 B w (blk g1 95 #[.int .i64 w_Grid_W1, .int .i64 w_Grid_H1, .slice A1 w_Grid_Cells1.length c1, .int .i64 w_k1, .int .i64 w_moved1] :: own 3 (.slice A1 w_Grid_Cells1.length c1) (vI w_Grid_Cells1) :: fs) ∧ ((four_well_fall_J3 y1)).bind φ1 = some r) ?_ ?_
      · rintro a w ⟨hF, hS, hm⟩
        unfold four_well_fall_J3 at hm
        refine reg1 [] [] [0, 1, 5] [pl 0 (.pointer (some ⟨g1, 0, none⟩)), pl 1 (.int .i64 column1), pl 5 (.int .i64 (w64 (y1 - 1)))] hF hS Fol (by kernel_rfl) (by kernel_rfl) (by kernel_rfl) ?_ (fun a w hF hS => ?_)
        · exact obs_nil
        refine then_n ?_
        rw [← hφ1] at hm
        exact ⟨(w64 (y1 - 1)), ⟨hF.weak [0, 1, 5] (by kernel_rfl), hS⟩, hm⟩
      · refine wp_block ?_
        refine reg [⟨false, [], vS (Instr.loadAt 3 (.pointer (some ⟨g1, 0, none⟩))), .int .i64 w_Grid_W1⟩] [none, none, none, none, none, some (.int .i64 w_Grid_W1), none, none, none, none] [0, 1, 5, 6] [pl 0 (.pointer (some ⟨g1, 0, none⟩)), pl 1 (.int .i64 column1), pl 5 (.int .i64 y1), pl 6 (.int .i64 (w64 ((w64 (y1 * w_Grid_W1)) + column1)))] hF hS Fol (by kernel_rfl) (by kernel_rfl) (by kernel_rfl) ?_ (fun a w hF hS => ?_)
        · exact obs_cons (ob_load Agg3 (fun _ _ hS => (hS.at_ 0 rfl).cell rfl)) <| obs_nil
        obtain ⟨hp1, hm⟩ := asrt_b hm
        refine reg [⟨false, [], vS (Instr.loadAt 22 (.pointer (some ⟨g1, 2, none⟩))), .slice A1 w_Grid_Cells1.length c1⟩, ⟨true, [], vS (Instr.indexAt 22 (.slice A1 w_Grid_Cells1.length c1) (.int .i64 (w64 ((w64 (y1 * w_Grid_W1)) + column1)))), .pointer (some (sAddr A1 (w64 ((w64 (y1 * w_Grid_W1)) + column1))))⟩, ⟨false, [], vS (Instr.loadAt 3 (.pointer (some (sAddr A1 (w64 ((w64 (y1 * w_Grid_W1)) + column1)))))), .int .i64 (geti w_Grid_Cells1 (w64 ((w64 (y1 * w_Grid_W1)) + column1)))⟩] [none, none, none, none, some (.slice A1 w_Grid_Cells1.length c1), none, some (.pointer (some (sAddr A1 (w64 ((w64 (y1 * w_Grid_W1)) + column1))))), some (.int .i64 (geti w_Grid_Cells1 (w64 ((w64 (y1 * w_Grid_W1)) + column1)))), none] [0, 1, 5, 6, 34] [pl 0 (.pointer (some ⟨g1, 0, none⟩)), pl 1 (.int .i64 column1), pl 5 (.int .i64 y1), pl 6 (.int .i64 (w64 ((w64 (y1 * w_Grid_W1)) + column1))), pl 34 (.bool ((geti w_Grid_Cells1 (w64 ((w64 (y1 * w_Grid_W1)) + column1))) == 0))] hF hS Fol (by kernel_rfl) (by kernel_rfl) (by kernel_rfl) ?_ (fun a w hF hS => ?_)
        · exact obs_cons (ob_load Agg22 (fun _ _ hS => (hS.at_ 0 rfl).cell rfl)) <| obs_cons (ob_ix1 (f := (Value.int .i64)) (m := w_Grid_Cells1) Und22 hi3 hs3 (hS.at_ 1 rfl).rd rfl (fun _ => hp1)) <| obs_cons (ob_get1 (n := w_Grid_Cells1.length) (m := w_Grid_Cells1) (Value.int .i64) (0 : Int) Agg3 (fun _ hS => ⟨_, (hS.at_ 1 rfl).rd⟩) (fun _ hS => rfl) (fun _ => hp1)) <| obs_nil
        refine cond_ev (t := 34) (b := ((geti w_Grid_Cells1 (w64 ((w64 (y1 * w_Grid_W1)) + column1))) == 0)) hF (by kernel_rfl) (fun hb => ?_) (fun hb => ?_)
        · replace hm := if_t hm hb
          refine reg [] [] [4] [pl 4 (.int .i64 (w64 ((w64 (y1 * w_Grid_W1)) + column1)))] hF hS Fol (by kernel_rfl) (by kernel_rfl) (by kernel_rfl) ?_ (fun a w hF hS => ?_)
          · exact obs_nil
          refine wp_ret ?_
          refine block_r (then_r (then_r (block_r (then_r ?_))))
          rw [← hφ1] at hm
          replace hm := done_b hm
          unfold four_well_fall_K1 at hm
          try dsimp only at hm
          have hm : some (w64 ((w64 (y1 * w_Grid_W1)) + column1)) = some r := hm
          obtain rfl := Option.some.inj hm
          exact retV (rs := [.tmp 4]) (vs := [.int .i64 (w64 ((w64 (y1 * w_Grid_W1)) + column1))]) hF rfl (rv_t (by kernel_rfl) <| rv_nil) rfl ⟨rfl, hS⟩
        · replace hm := if_f hm hb
          refine wp_skip ?_
          refine block_n ?_
          refine then_n ?_
          exact ⟨hF.weak [0, 1, 5] (by kernel_rfl), hS, hm⟩
    · refine reg [] [] [0, 1, 5, 14] [pl 0 (.pointer (some ⟨g1, 0, none⟩)), pl 1 (.int .i64 column1), pl 5 (.int .i64 y1), pl 14 (.bool (decide ((0 : Int) ≤ y1)))] hF hS Fol (by kernel_rfl) (by kernel_rfl) (by kernel_rfl) ?_ (fun a w hF hS => ?_)
      · exact obs_nil
      refine cond_ev (t := 14) (b := decide ((0 : Int) ≤ y1)) hF (by kernel_rfl) (fun hb => ?_) (fun hb => ?_)
      · replace hm := if_t hm hb
        refine wp_skip ?_
        refine then_n ?_
        exact ⟨hF.weak [0, 1, 5] (by kernel_rfl), hS, hm⟩
      · replace hm := if_f hm hb
        refine wp_exit ?_
        refine then_e (then_e (block_e (then_n ?_)))
        rw [← hφ1] at hm
        replace hm := done_b hm
        unfold four_well_fall_K1 at hm
        try dsimp only at hm
        have hm : (four_well_fall_J1).bind some = some r := hm
        exact ⟨hF.weak [] (by kernel_rfl), hS, hm⟩

noncomputable def four_Drop_J5 (r3 : (Int × Int × List Int × Int)) (w1 : List Int) : Option (Int × Int × List Int × Int) :=
  some (r3.1, r3.2.1, w1, 0)

noncomputable def four_Drop_J4 (k1 : Int) (r3 : (Int × Int × List Int × Int)) (r7 : Int) : Option (Int × Int × List Int × Int) :=
  (four_well_mover_m r3.1 r3.2.1 r3.2.2.1 k1 r3.2.2.2).bind fun r8 => asrt (0 ≤ r7 ∧ r7 < (r3.2.2.1.length : Int)) <| (four_Drop_J5 r3) (r3.2.2.1.set (Int.toNat r7) r8)

noncomputable def four_Drop_J3 (column1 : Int) (k1 : Int) (r3 : (Int × Int × List Int × Int)) : Option (Int × Int × List Int × Int) :=
  (four_well_fall_m r3.1 r3.2.1 r3.2.2.1 k1 r3.2.2.2 column1).bind fun r7 => if (decide (r7 < 0)) then (some (0, 0, ([] : List Int), 11)) else ((four_Drop_J4 k1 r3 r7))

noncomputable def four_Drop_J2 (g1 : Int) (column1 : Int) (k1 : Int) (r3 : (Int × Int × List Int × Int)) : Option (Int × Int × List Int × Int) :=
  (four_far_m k1).bind fun r4 => if r4 then (some (0, 0, ([] : List Int), 3)) else ((four_well_mover_m r3.1 r3.2.1 r3.2.2.1 k1 r3.2.2.2).bind fun r5 => if (r5 == 0) then (some (0, 0, ([] : List Int), 7)) else ((four_well_over_m r3.1 r3.2.1 r3.2.2.1 k1 r3.2.2.2).bind fun r6 => if r6 then (some (0, 0, ([] : List Int), 9)) else (if ((decide (column1 < 0)) || (decide (g1 ≤ column1))) then (some (0, 0, ([] : List Int), 5)) else ((four_Drop_J3 column1 k1 r3)))))

noncomputable def four_Drop_m (g1 : Int) (g2 : Int) (g3 : List Int) (column1 : Int) (k1 : Int) : Option (Int × Int × List Int × Int) :=
  (four_opened_m g1 g2 g3).bind fun r1 => Fl.elim2 r1 (fun (r2 : Unit) => some (0, 0, ([] : List Int), 12)) (fun (r3 : (Int × Int × List Int × Int)) => (four_Drop_J2 g1 column1 k1 r3))

set_option maxRecDepth 100000 in
set_option maxHeartbeats 4000000 in
theorem four_Drop_w {g1 : Int} {g2 : Int} {A1 : Option Addr} {c1 : Nat} {n1 : Nat} {g3 : List Int} {column1 : Int} {k1 : Int} {r : (Int × Int × List Int × Int)} {w0 w : World} {B : Nat} {fs : List HP} (hm : four_Drop_m g1 g2 g3 column1 k1 = some r) (hS : Sep w0 B w (fs)) (hr_g3 : RdF w0 B fs A1 (vI g3)) (_hc_g3 : g3.length ≤ c1) (_hn_g3 : n1 = g3.length) :
    Calls Try.prog 29 #[.agg #[.int .i64 g1, .int .i64 g2, .slice A1 n1 c1], .int .i64 column1, .int .i64 k1] w fun e w' => ∃ v, e = .returned v ∧ ∃ (A3 : Option Addr) (c3 : Nat), v = .tuple #[.agg #[.int .i64 r.1, .int .i64 r.2.1, .slice A3 r.2.2.1.length c3], .int .i64 r.2.2.2] ∧ Sep w0 B w' (own 3 (.slice A3 r.2.2.1.length c3) (vI r.2.2.1) :: fs) := by
  obtain ⟨i3, hi3, hz3, hs3, hb3⟩ := info_parts Info3
  obtain rfl := _hn_g3
  unfold four_Drop_m at hm
  replace hm := start_b hm
  refine enter (l := [.agg #[.int .i64 g1, .int .i64 g2, .slice A1 g3.length c1], .int .i64 column1, .int .i64 k1]) (n := 66) Try.func29 rfl rfl (by simp) (fun a hF => ?_)
  refine seqR ?_
  refine at_do (d := 3) (s := vS (Instr.box 24 (.agg #[.int .i64 g1, .int .i64 g2, .slice A1 g3.length c1]))) (v := .pointer (some ⟨w.heap.size, 0, none⟩)) (w' := w.alloc (.cells #[.int .i64 g1, .int .i64 g2, .slice A1 g3.length c1] 24)) hF (by kernel_rfl) (by kernel_rfl) (by kernel_rfl) (fun a hF => ?_)
  have hS : Sep w0 B (w.alloc (.cells #[.int .i64 g1, .int .i64 g2, .slice A1 g3.length c1] 24)) (blk w.heap.size 24 #[.int .i64 g1, .int .i64 g2, .slice A1 g3.length c1] :: (fs)) := hS.box 24 #[.int .i64 g1, .int .i64 g2, .slice A1 g3.length c1]
  generalize w.heap.size = g4 at hF hS
  generalize w.alloc (.cells #[.int .i64 g1, .int .i64 g2, .slice A1 g3.length c1] 24) = w at hS ⊢
  refine at_do (d := 6) (s := vS (Instr.alloc 24 true (.tuple #[]))) (v := .pointer (some ⟨w.heap.size, 0, none⟩)) (w' := w.alloc (.cells #[.int .i64 0, .int .i64 0, .slice none 0 0] 24)) hF (by kernel_rfl) (by kernel_rfl) (by kernel_rfl) (fun a hF => ?_)
  have hS : Sep w0 B (w.alloc (.cells #[.int .i64 0, .int .i64 0, .slice none 0 0] 24)) (blk w.heap.size 24 #[.int .i64 0, .int .i64 0, .slice none 0 0] :: (blk g4 24 #[.int .i64 g1, .int .i64 g2, .slice A1 g3.length c1] :: fs)) := hS.box 24 #[.int .i64 0, .int .i64 0, .slice none 0 0]
  generalize w.heap.size = g5 at hF hS
  generalize w.alloc (.cells #[.int .i64 0, .int .i64 0, .slice none 0 0] 24) = w at hS ⊢
  refine at_run 1 [] [] [1, 2, 3, 6] [pl 1 (.int .i64 column1), pl 2 (.int .i64 k1), pl 3 (.pointer (some ⟨g4, 0, none⟩)), pl 6 (.pointer (some ⟨g5, 0, none⟩))] hF hS (by kernel_rfl) (by kernel_rfl) ?_ (fun a w hF hS => ?_)
  · exact obs_nil
  refine at_end [1, 2, 3, 6] [pl 1 (.int .i64 column1), pl 2 (.int .i64 k1), pl 3 (.pointer (some ⟨g4, 0, none⟩)), pl 6 (.pointer (some ⟨g5, 0, none⟩))] hF rfl (by kernel_rfl) (fun hF => ?_)
  refine then_n ?_
  refine seqR ?_
  obtain ⟨r1, hr1, hm⟩ := call_b hm
  refine at_run 1 [⟨false, [], vS (Instr.loadAt 24 (.pointer (some ⟨g4, 0, none⟩))), .agg #[.int .i64 g1, .int .i64 g2, .slice A1 g3.length c1]⟩] [some (.agg #[.int .i64 g1, .int .i64 g2, .slice A1 g3.length c1])] [1, 2, 3, 6, 12] [pl 1 (.int .i64 column1), pl 2 (.int .i64 k1), pl 3 (.pointer (some ⟨g4, 0, none⟩)), pl 6 (.pointer (some ⟨g5, 0, none⟩)), pl 12 (.agg #[.int .i64 g1, .int .i64 g2, .slice A1 g3.length c1])] hF hS (by kernel_rfl) (by kernel_rfl) ?_ (fun a w hF hS => ?_)
  · exact obs_cons (ob_loadA (cs := #[.int .i64 g1, .int .i64 g2, .slice A1 g3.length c1]) (by kernel_rfl) (by kernel_rfl) (fun _ _ hS => (hS.at_ 1 rfl).cellsAt 0 (by rfl))) <| obs_nil
  refine at_call (f := 73) (args := #[.agg #[.int .i64 g1, .int .i64 g2, .slice A1 g3.length c1]]) (d := 13) hF (by kernel_rfl) (by kernel_rfl) Try.func73 (by kernel_rfl) rfl (four_opened_w hr1 hS (fun _ hS => (hr_g3 _ (hS.dropN 2))) _hc_g3 rfl) (fun v a w hR hF => ?_)
  clear hS
  rcases r1 with r2 | r3
  · replace hm := fl_go hm
    replace hR := flp_go hR
    obtain ⟨rfl, hS⟩ := hR
    have hS : Sep w0 B w (blk g5 24 #[.int .i64 0, .int .i64 0, .slice none 0 0] :: blk g4 24 #[.int .i64 g1, .int .i64 g2, .slice A1 g3.length c1] :: fs) := hS
    refine at_run 5 [] [] [1, 2, 3, 6, 8, 9] [pl 1 (.int .i64 column1), pl 2 (.int .i64 k1), pl 3 (.pointer (some ⟨g4, 0, none⟩)), pl 6 (.pointer (some ⟨g5, 0, none⟩)), pl 8 (.pointer none), pl 9 (.int .i64 12)] hF hS (by kernel_rfl) (by kernel_rfl) ?_ (fun a w hF hS => ?_)
    · exact obs_nil
    refine at_end [1, 2, 3, 6, 8, 9] [pl 1 (.int .i64 column1), pl 2 (.int .i64 k1), pl 3 (.pointer (some ⟨g4, 0, none⟩)), pl 6 (.pointer (some ⟨g5, 0, none⟩)), pl 8 (.pointer none), pl 9 (.int .i64 12)] hF rfl (by kernel_rfl) (fun hF => ?_)
    refine then_n ?_
    refine seq_cut (fun _ _ => False) (fun _ _ h => h.elim) ?_
    refine reg [] [] [1, 2, 3, 6, 8, 9, 17] [pl 1 (.int .i64 column1), pl 2 (.int .i64 k1), pl 3 (.pointer (some ⟨g4, 0, none⟩)), pl 6 (.pointer (some ⟨g5, 0, none⟩)), pl 8 (.pointer none), pl 9 (.int .i64 12), pl 17 (.bool ((12 : Int) != 0))] hF hS Fol (by kernel_rfl) (by kernel_rfl) (by kernel_rfl) ?_ (fun a w hF hS => ?_)
    · exact obs_nil
    refine cond_ev (t := 17) (b := ((12 : Int) != 0)) hF (by kernel_rfl) (fun hb => ?_) (fun hb => ?_)
    · refine seqR ?_
      refine at_run 2 [] [] [6, 18, 19] [pl 6 (.pointer (some ⟨g5, 0, none⟩)), pl 18 (.agg #[.int .i64 0, .int .i64 0, .slice none 0 0]), pl 19 (.int .i64 12)] hF hS (by kernel_rfl) (by kernel_rfl) ?_ (fun a w hF hS => ?_)
      · exact obs_nil
      obtain ⟨w, hrun, hS⟩ := run_putA (P := Try.prog) (t := 24) (us := #[.int .i64 0, .int .i64 0, .slice none 0 0]) (o := 0) (hS.at_ 0 rfl) (by kernel_rfl) (all_one (by kernel_rfl)) (Nat.le_of_ble_eq_true (by kernel_rfl))
      refine at_skip hF (by kernel_rfl) hrun ?_
      have hS : Sep w0 B w (blk g5 24 #[.int .i64 0, .int .i64 0, .slice none 0 0] :: blk g4 24 #[.int .i64 g1, .int .i64 g2, .slice A1 g3.length c1] :: fs) := hS
      refine at_run 1 [] [] [6, 7] [pl 6 (.pointer (some ⟨g5, 0, none⟩)), pl 7 (.int .i64 12)] hF hS (by kernel_rfl) (by kernel_rfl) ?_ (fun a w hF hS => ?_)
      · exact obs_nil
      refine at_end [6, 7] [pl 6 (.pointer (some ⟨g5, 0, none⟩)), pl 7 (.int .i64 12)] hF rfl (by kernel_rfl) (fun hF => ?_)
      refine then_n ?_
      refine wp_ret ?_
      refine then_r ?_
      have hS : Sep w0 B w (own 3 (.slice none 0 0) (vI ([] : List Int)) :: blk g5 24 #[.int .i64 0, .int .i64 0, .slice none 0 0] :: blk g4 24 #[.int .i64 g1, .int .i64 g2, .slice A1 g3.length c1] :: fs) := hS.nil 3
      have hl1 := (hS.at_ 0 rfl).len1
      have hS := (hS.at_ 0 rfl).reN hl1
      have hS : Sep w0 B w (own 3 (.slice none (([] : List Int).length) 0) (vI ([] : List Int)) :: blk g5 24 #[.int .i64 0, .int .i64 0, .slice none 0 0] :: blk g4 24 #[.int .i64 g1, .int .i64 g2, .slice A1 g3.length c1] :: fs) := hS
      have hld0 := run_loadVarA (P := Try.prog) (t := 24) (cs := #[.int .i64 0, .int .i64 0, .slice none (([] : List Int).length) 0]) (by kernel_rfl) (by kernel_rfl) ((hS.at_ 1 rfl).cellsAt 0 (by rfl))
      have hS := hS.pickN 3 [0] (by decide)
      have hm : some (0, 0, ([] : List Int), 12) = some r := hm
      obtain rfl := Option.some.inj hm
      exact retV (rs := [.cell 6 24, .tmp 7]) (vs := [.agg #[.int .i64 0, .int .i64 0, .slice none (([] : List Int).length) 0], .int .i64 12]) hF rfl (rv_c (by kernel_rfl) hld0 <| rv_t (by kernel_rfl) <| rv_nil) rfl ⟨_, rfl, none, 0, rfl, hS⟩
    · exact absurd hb (by decide)
  · replace hm := fl_ret hm
    replace hR := flp_ret hR
    obtain ⟨g6, A2, c2, rfl, hS⟩ := hR
    have hS : Sep w0 B w (blk g6 95 #[.int .i64 r3.1, .int .i64 r3.2.1, .slice A2 r3.2.2.1.length c2, .int .i64 0, .int .i64 r3.2.2.2] :: own 3 (.slice A2 r3.2.2.1.length c2) (vI r3.2.2.1) :: blk g5 24 #[.int .i64 0, .int .i64 0, .slice none 0 0] :: blk g4 24 #[.int .i64 g1, .int .i64 g2, .slice A1 g3.length c1] :: fs) := hS
    refine at_run 5 [] [] [1, 2, 3, 6, 8, 9] [pl 1 (.int .i64 column1), pl 2 (.int .i64 k1), pl 3 (.pointer (some ⟨g4, 0, none⟩)), pl 6 (.pointer (some ⟨g5, 0, none⟩)), pl 8 (.pointer (some ⟨g6, 0, none⟩)), pl 9 (.int .i64 0)] hF hS (by kernel_rfl) (by kernel_rfl) ?_ (fun a w hF hS => ?_)
    · exact obs_nil
    refine at_end [1, 2, 3, 6, 8, 9] [pl 1 (.int .i64 column1), pl 2 (.int .i64 k1), pl 3 (.pointer (some ⟨g4, 0, none⟩)), pl 6 (.pointer (some ⟨g5, 0, none⟩)), pl 8 (.pointer (some ⟨g6, 0, none⟩)), pl 9 (.int .i64 0)] hF rfl (by kernel_rfl) (fun hF => ?_)
    refine then_n ?_
    refine seq_cut (fun a w => Fr 66 [pl 1 (.int .i64 column1), pl 2 (.int .i64 k1), pl 3 (.pointer (some ⟨g4, 0, none⟩)), pl 6 (.pointer (some ⟨g5, 0, none⟩)), pl 8 (.pointer (some ⟨g6, 0, none⟩))] a ∧ Sep w0 B w (blk g4 24 #[.int .i64 g1, .int .i64 g2, .slice A1 g3.length c1] :: blk g5 24 #[.int .i64 0, .int .i64 0, .slice none 0 0] :: blk g6 95 #[.int .i64 r3.1, .int .i64 r3.2.1, .slice A2 r3.2.2.1.length c2, .int .i64 0, .int .i64 r3.2.2.2] :: own 3 (.slice A2 r3.2.2.1.length c2) (vI r3.2.2.1) :: fs) ∧ ((four_Drop_J2 g1 column1 k1 r3)).bind some = some r) ?_ ?_
    · rintro a w ⟨hF, hS, hm⟩
      unfold four_Drop_J2 at hm
      refine seqR ?_
      refine at_run 4 [] [] [1, 2, 3, 6, 8, 21, 23] [pl 1 (.int .i64 column1), pl 2 (.int .i64 k1), pl 3 (.pointer (some ⟨g4, 0, none⟩)), pl 6 (.pointer (some ⟨g5, 0, none⟩)), pl 8 (.pointer (some ⟨g6, 0, none⟩)), pl 21 (.int .i64 k1), pl 23 (.pointer (some ⟨g6, 3, none⟩))] hF hS (by kernel_rfl) (by kernel_rfl) ?_ (fun a w hF hS => ?_)
      · exact obs_nil
      obtain ⟨w, hrun, hS⟩ := run_put (P := Try.prog) (t := 3) (u := .int .i64 k1) (i := 3) (hS.at_ 2 rfl) hi3 hs3 rfl (Nat.lt_of_lt_of_eq (Nat.lt_of_succ_le (Nat.le_of_ble_eq_true (by kernel_rfl))) rfl)
      refine at_skip hF (by kernel_rfl) hrun ?_
      have hS : Sep w0 B w (blk g4 24 #[.int .i64 g1, .int .i64 g2, .slice A1 g3.length c1] :: blk g5 24 #[.int .i64 0, .int .i64 0, .slice none 0 0] :: blk g6 95 #[.int .i64 r3.1, .int .i64 r3.2.1, .slice A2 r3.2.2.1.length c2, .int .i64 k1, .int .i64 r3.2.2.2] :: own 3 (.slice A2 r3.2.2.1.length c2) (vI r3.2.2.1) :: fs) := hS
      refine at_end [1, 2, 3, 6, 8] [pl 1 (.int .i64 column1), pl 2 (.int .i64 k1), pl 3 (.pointer (some ⟨g4, 0, none⟩)), pl 6 (.pointer (some ⟨g5, 0, none⟩)), pl 8 (.pointer (some ⟨g6, 0, none⟩))] hF rfl (by kernel_rfl) (fun hF => ?_)
      refine then_n ?_
      refine seq_cut (fun a w => Fr 66 [pl 1 (.int .i64 column1), pl 6 (.pointer (some ⟨g5, 0, none⟩)), pl 8 (.pointer (some ⟨g6, 0, none⟩))] a ∧ Sep w0 B w (blk g5 24 #[.int .i64 0, .int .i64 0, .slice none 0 0] :: blk g6 95 #[.int .i64 r3.1, .int .i64 r3.2.1, .slice A2 r3.2.2.1.length c2, .int .i64 k1, .int .i64 r3.2.2.2] :: own 3 (.slice A2 r3.2.2.1.length c2) (vI r3.2.2.1) :: fs) ∧ ((four_Drop_J3 column1 k1 r3)).bind some = some r) ?_ ?_
      · rintro a w ⟨hF, hS, hm⟩
        unfold four_Drop_J3 at hm
        obtain ⟨r7, hr5, hm⟩ := call_b hm
        refine reg [⟨false, [], callFunc 77 #[.pointer (some ⟨g6, 0, none⟩), .int .i64 column1], .int .i64 r7⟩] [none, none, some (.int .i64 r7), none] [6, 8, 10] [pl 6 (.pointer (some ⟨g5, 0, none⟩)), pl 8 (.pointer (some ⟨g6, 0, none⟩)), pl 10 (.int .i64 r7)] hF hS Fol (by kernel_rfl) (by kernel_rfl) (by kernel_rfl) ?_ (fun a w hF hS => ?_)
        · exact obs_cons (ob_call Try.func77 (by kernel_rfl) rfl (fun _ _ hS => quiet_pick hS 3 [1, 2, 0] (by decide) [2, 0, 1] (by decide) (qs := (blk g6 95 #[.int .i64 r3.1, .int .i64 r3.2.1, .slice A2 r3.2.2.1.length c2, .int .i64 k1, .int .i64 r3.2.2.2] :: own 3 (.slice A2 r3.2.2.1.length c2) (vI r3.2.2.1) :: blk g5 24 #[.int .i64 0, .int .i64 0, .slice none 0 0] :: fs)) rfl (fun hS => four_well_fall_w hr5 hS ) 3 rfl)) <| obs_nil
        refine seq_cut (fun a w => Fr 66 [pl 6 (.pointer (some ⟨g5, 0, none⟩)), pl 8 (.pointer (some ⟨g6, 0, none⟩)), pl 10 (.int .i64 r7)] a ∧ Sep w0 B w (blk g5 24 #[.int .i64 0, .int .i64 0, .slice none 0 0] :: blk g6 95 #[.int .i64 r3.1, .int .i64 r3.2.1, .slice A2 r3.2.2.1.length c2, .int .i64 k1, .int .i64 r3.2.2.2] :: own 3 (.slice A2 r3.2.2.1.length c2) (vI r3.2.2.1) :: fs) ∧ ((four_Drop_J4 k1 r3 r7)).bind some = some r) ?_ ?_
        · rintro a w ⟨hF, hS, hm⟩
          unfold four_Drop_J4 at hm
          refine seq_cut (fun a w => ∃ (w1 : List Int), Fr 66 [pl 6 (.pointer (some ⟨g5, 0, none⟩)), pl 8 (.pointer (some ⟨g6, 0, none⟩))] a ∧ Sep w0 B w (blk g5 24 #[.int .i64 0, .int .i64 0, .slice none 0 0] :: blk g6 95 #[.int .i64 r3.1, .int .i64 r3.2.1, .slice A2 r3.2.2.1.length c2, .int .i64 k1, .int .i64 r3.2.2.2] :: own 3 (.slice A2 r3.2.2.1.length c2) (vI w1) :: fs) ∧ ((four_Drop_J5 r3) w1).bind some = some r) ?_ ?_
          · rintro a w ⟨w1, hF, hS, hm⟩
            unfold four_Drop_J5 at hm
            refine seqR ?_
            refine at_run 4 [⟨false, [], vS (Instr.loadAt 24 (.pointer (some ⟨g6, 0, none⟩))), .agg #[.int .i64 r3.1, .int .i64 r3.2.1, .slice A2 r3.2.2.1.length c2]⟩] [none, none, none, some (.agg #[.int .i64 r3.1, .int .i64 r3.2.1, .slice A2 r3.2.2.1.length c2])] [6, 65] [pl 6 (.pointer (some ⟨g5, 0, none⟩)), pl 65 (.agg #[.int .i64 r3.1, .int .i64 r3.2.1, .slice A2 r3.2.2.1.length c2])] hF hS (by kernel_rfl) (by kernel_rfl) ?_ (fun a w hF hS => ?_)
            · exact obs_cons (ob_loadA (cs := #[.int .i64 r3.1, .int .i64 r3.2.1, .slice A2 r3.2.2.1.length c2]) (by kernel_rfl) (by kernel_rfl) (fun _ _ hS => (hS.at_ 1 rfl).cellsAt 0 (by rfl))) <| obs_nil
            obtain ⟨w, hrun, hS⟩ := run_putA (P := Try.prog) (t := 24) (us := #[.int .i64 r3.1, .int .i64 r3.2.1, .slice A2 r3.2.2.1.length c2]) (o := 0) (hS.at_ 0 rfl) (by kernel_rfl) (all_one (by kernel_rfl)) (Nat.le_of_ble_eq_true (by kernel_rfl))
            refine at_skip hF (by kernel_rfl) hrun ?_
            have hS : Sep w0 B w (blk g5 24 #[.int .i64 r3.1, .int .i64 r3.2.1, .slice A2 r3.2.2.1.length c2] :: blk g6 95 #[.int .i64 r3.1, .int .i64 r3.2.1, .slice A2 r3.2.2.1.length c2, .int .i64 k1, .int .i64 r3.2.2.2] :: own 3 (.slice A2 r3.2.2.1.length c2) (vI w1) :: fs) := hS
            refine at_run 1 [] [] [6, 7] [pl 6 (.pointer (some ⟨g5, 0, none⟩)), pl 7 (.int .i64 0)] hF hS (by kernel_rfl) (by kernel_rfl) ?_ (fun a w hF hS => ?_)
            · exact obs_nil
            refine at_end [6, 7] [pl 6 (.pointer (some ⟨g5, 0, none⟩)), pl 7 (.int .i64 0)] hF rfl (by kernel_rfl) (fun hF => ?_)
            refine then_n ?_
            refine wp_ret ?_
            have hl7 := (hS.at_ 2 rfl).len1
            have hS := (hS.at_ 2 rfl).reN hl7
            have hS := (hS.at_ 0 rfl).reBlk (congrArg (fun k9 => (#[.int .i64 r3.1, .int .i64 r3.2.1, .slice A2 k9 c2] : Array Value)) hl7)
            have hS := (hS.at_ 1 rfl).reBlk (congrArg (fun k9 => (#[.int .i64 r3.1, .int .i64 r3.2.1, .slice A2 k9 c2, .int .i64 k1, .int .i64 r3.2.2.2] : Array Value)) hl7)
            have hS : Sep w0 B w (blk g5 24 #[.int .i64 r3.1, .int .i64 r3.2.1, .slice A2 w1.length c2] :: blk g6 95 #[.int .i64 r3.1, .int .i64 r3.2.1, .slice A2 w1.length c2, .int .i64 k1, .int .i64 r3.2.2.2] :: own 3 (.slice A2 w1.length c2) (vI w1) :: fs) := hS
            have hld0 := run_loadVarA (P := Try.prog) (t := 24) (cs := #[.int .i64 r3.1, .int .i64 r3.2.1, .slice A2 w1.length c2]) (by kernel_rfl) (by kernel_rfl) ((hS.at_ 0 rfl).cellsAt 0 (by rfl))
            have hS := hS.pickN 3 [2] (by decide)
            have hm : some (r3.1, r3.2.1, w1, 0) = some r := hm
            obtain rfl := Option.some.inj hm
            exact retV (rs := [.cell 6 24, .tmp 7]) (vs := [.agg #[.int .i64 r3.1, .int .i64 r3.2.1, .slice A2 w1.length c2], .int .i64 0]) hF rfl (rv_c (by kernel_rfl) hld0 <| rv_t (by kernel_rfl) <| rv_nil) rfl ⟨_, rfl, A2, c2, rfl, hS⟩
          · obtain ⟨r8, hr6, hm⟩ := call_b hm
            obtain ⟨hp1, hm⟩ := asrt_b hm
            refine regMix5 [0, 1, 2, 3, 4, 5, 6] [9] 3 #[true, true, true, true, true, true, true, false, false, false] [⟨false, [], vS (Instr.loadAt 22 (.pointer (some ⟨g6, 2, none⟩))), .slice A2 r3.2.2.1.length c2⟩] [none, none, none, none, some (.slice A2 r3.2.2.1.length c2), none, none] [6, 8, 57, 58, 59] [pl 6 (.pointer (some ⟨g5, 0, none⟩)), pl 8 (.pointer (some ⟨g6, 0, none⟩)), pl 57 (.slice A2 r3.2.2.1.length c2), pl 58 (.int .i64 r7), pl 59 (.pointer (some ⟨g6, 0, none⟩))] hF hS Fol (by kernel_rfl) (by kernel_rfl) (by kernel_rfl) (by kernel_rfl) ?_ (fun a w hF hS => ?_)
            · exact obs_cons (ob_load Agg22 (fun _ _ hS => (hS.at_ 1 rfl).cell rfl)) <| obs_nil
            refine any_step [7] (by kernel_rfl) rfl ?_
            refine (all_cons ?_ all_nil)
            · refine any_op (listed' := #[true, true, true, true, true, true, true, true, false, false]) (by kernel_rfl) (by kernel_rfl) ?_
              refine at_run 1 [⟨false, [], callFunc 75 #[.pointer (some ⟨g6, 0, none⟩)], .int .i64 r8⟩] [some (.int .i64 r8)] [6, 8, 57, 58, 60] [pl 6 (.pointer (some ⟨g5, 0, none⟩)), pl 8 (.pointer (some ⟨g6, 0, none⟩)), pl 57 (.slice A2 r3.2.2.1.length c2), pl 58 (.int .i64 r7), pl 60 (.int .i64 r8)] hF hS (by kernel_rfl) (by kernel_rfl) ?_ (fun a w hF hS => ?_)
              · exact obs_cons (ob_call Try.func75 (by kernel_rfl) rfl (fun _ _ hS => quiet_pick hS 3 [1, 2, 0] (by decide) [2, 0, 1] (by decide) (qs := (blk g6 95 #[.int .i64 r3.1, .int .i64 r3.2.1, .slice A2 r3.2.2.1.length c2, .int .i64 k1, .int .i64 r3.2.2.2] :: own 3 (.slice A2 r3.2.2.1.length c2) (vI r3.2.2.1) :: blk g5 24 #[.int .i64 0, .int .i64 0, .slice none 0 0] :: fs)) rfl (fun hS => four_well_mover_w hr6 hS ) 3 rfl)) <| obs_nil
              refine any_fin rfl hS ?_
              refine any_step [8] (by kernel_rfl) rfl ?_
              refine (all_cons ?_ all_nil)
              · refine any_op (listed' := #[true, true, true, true, true, true, true, true, true, false]) (by kernel_rfl) (by kernel_rfl) ?_
                refine at_runW 1 [⟨true, [], vS (Instr.indexAt 22 (.slice A2 r3.2.2.1.length c2) (.int .i64 r7)), .pointer (some (sAddr A2 r7))⟩] [some (.pointer (some (sAddr A2 r7)))] [6, 8, 60, 61] [pl 6 (.pointer (some ⟨g5, 0, none⟩)), pl 8 (.pointer (some ⟨g6, 0, none⟩)), pl 60 (.int .i64 r8), pl 61 (.pointer (some (sAddr A2 r7)))] hF hS (by kernel_rfl) (by kernel_rfl) ?_ (fun a hF => ?_)
                · exact obs_cons (ob_ix1 (f := (Value.int .i64)) (m := r3.2.2.1) Und22 hi3 hs3 (hS.at_ 2 rfl).rd rfl (fun _ => hp1)) <| obs_nil
                refine any_finI rfl (fun h => h) ?_
                refine any_step [9] (by kernel_rfl) rfl ?_
                refine (all_cons ?_ all_nil)
                · refine any_op (listed' := #[true, true, true, true, true, true, true, true, true, true]) (by kernel_rfl) (by kernel_rfl) ?_
                  obtain ⟨w, hrun, hS⟩ := run_set1 (P := Try.prog) (t := 3) (x := r8) (Value.int .i64) (hS.at_ 2 rfl) hi3 hs3 rfl rfl hp1
                  refine at_skip hF (by kernel_rfl) hrun ?_
                  have hS : Sep w0 B w (blk g5 24 #[.int .i64 0, .int .i64 0, .slice none 0 0] :: blk g6 95 #[.int .i64 r3.1, .int .i64 r3.2.1, .slice A2 r3.2.2.1.length c2, .int .i64 k1, .int .i64 r3.2.2.2] :: own 3 (.slice A2 r3.2.2.1.length c2) (vI (r3.2.2.1.set (Int.toNat r7) r8)) :: fs) := hS
                  refine any_finE rfl (by decide) ?_
                  refine any_end (by kernel_rfl) ?_
                  refine np_n ?_
                  refine then_n ?_
                  exact ⟨(r3.2.2.1.set (Int.toNat r7) r8), hF.weak [6, 8] (by kernel_rfl), hS, hm⟩
        · refine reg [] [] [6, 8, 10, 51] [pl 6 (.pointer (some ⟨g5, 0, none⟩)), pl 8 (.pointer (some ⟨g6, 0, none⟩)), pl 10 (.int .i64 r7), pl 51 (.bool (decide (r7 < 0)))] hF hS Fol (by kernel_rfl) (by kernel_rfl) (by kernel_rfl) ?_ (fun a w hF hS => ?_)
          · exact obs_nil
          refine cond_ev (t := 51) (b := decide (r7 < 0)) hF (by kernel_rfl) (fun hb => ?_) (fun hb => ?_)
          · replace hm := if_t hm hb
            refine seqR ?_
            refine at_run 1 [] [] [6, 52] [pl 6 (.pointer (some ⟨g5, 0, none⟩)), pl 52 (.agg #[.int .i64 0, .int .i64 0, .slice none 0 0])] hF hS (by kernel_rfl) (by kernel_rfl) ?_ (fun a w hF hS => ?_)
            · exact obs_nil
            obtain ⟨w, hrun, hS⟩ := run_putA (P := Try.prog) (t := 24) (us := #[.int .i64 0, .int .i64 0, .slice none 0 0]) (o := 0) (hS.at_ 0 rfl) (by kernel_rfl) (all_one (by kernel_rfl)) (Nat.le_of_ble_eq_true (by kernel_rfl))
            refine at_skip hF (by kernel_rfl) hrun ?_
            have hS : Sep w0 B w (blk g5 24 #[.int .i64 0, .int .i64 0, .slice none 0 0] :: blk g6 95 #[.int .i64 r3.1, .int .i64 r3.2.1, .slice A2 r3.2.2.1.length c2, .int .i64 k1, .int .i64 r3.2.2.2] :: own 3 (.slice A2 r3.2.2.1.length c2) (vI r3.2.2.1) :: fs) := hS
            refine at_run 1 [] [] [6, 7] [pl 6 (.pointer (some ⟨g5, 0, none⟩)), pl 7 (.int .i64 11)] hF hS (by kernel_rfl) (by kernel_rfl) ?_ (fun a w hF hS => ?_)
            · exact obs_nil
            refine at_end [6, 7] [pl 6 (.pointer (some ⟨g5, 0, none⟩)), pl 7 (.int .i64 11)] hF rfl (by kernel_rfl) (fun hF => ?_)
            refine then_n ?_
            refine wp_ret ?_
            refine then_r ?_
            have hS : Sep w0 B w (own 3 (.slice none 0 0) (vI ([] : List Int)) :: blk g5 24 #[.int .i64 0, .int .i64 0, .slice none 0 0] :: blk g6 95 #[.int .i64 r3.1, .int .i64 r3.2.1, .slice A2 r3.2.2.1.length c2, .int .i64 k1, .int .i64 r3.2.2.2] :: own 3 (.slice A2 r3.2.2.1.length c2) (vI r3.2.2.1) :: fs) := hS.nil 3
            have hl6 := (hS.at_ 0 rfl).len1
            have hS := (hS.at_ 0 rfl).reN hl6
            have hS : Sep w0 B w (own 3 (.slice none (([] : List Int).length) 0) (vI ([] : List Int)) :: blk g5 24 #[.int .i64 0, .int .i64 0, .slice none 0 0] :: blk g6 95 #[.int .i64 r3.1, .int .i64 r3.2.1, .slice A2 r3.2.2.1.length c2, .int .i64 k1, .int .i64 r3.2.2.2] :: own 3 (.slice A2 r3.2.2.1.length c2) (vI r3.2.2.1) :: fs) := hS
            have hld0 := run_loadVarA (P := Try.prog) (t := 24) (cs := #[.int .i64 0, .int .i64 0, .slice none (([] : List Int).length) 0]) (by kernel_rfl) (by kernel_rfl) ((hS.at_ 1 rfl).cellsAt 0 (by rfl))
            have hS := hS.pickN 4 [0] (by decide)
            have hm : some (0, 0, ([] : List Int), 11) = some r := hm
            obtain rfl := Option.some.inj hm
            exact retV (rs := [.cell 6 24, .tmp 7]) (vs := [.agg #[.int .i64 0, .int .i64 0, .slice none (([] : List Int).length) 0], .int .i64 11]) hF rfl (rv_c (by kernel_rfl) hld0 <| rv_t (by kernel_rfl) <| rv_nil) rfl ⟨_, rfl, none, 0, rfl, hS⟩
          · replace hm := if_f hm hb
            refine wp_skip ?_
            refine then_n ?_
            exact ⟨hF.weak [6, 8, 10] (by kernel_rfl), hS, hm⟩
      · refine wp_block ?_
        obtain ⟨r4, hr2, hm⟩ := call_b hm
        refine reg [⟨false, [], callFunc 74 #[.int .i64 k1], .bool r4⟩] [none, some (.bool r4), none] [1, 3, 6, 8, 24] [pl 1 (.int .i64 column1), pl 3 (.pointer (some ⟨g4, 0, none⟩)), pl 6 (.pointer (some ⟨g5, 0, none⟩)), pl 8 (.pointer (some ⟨g6, 0, none⟩)), pl 24 (.bool r4)] hF hS Fol (by kernel_rfl) (by kernel_rfl) (by kernel_rfl) ?_ (fun a w hF hS => ?_)
        · exact obs_cons (ob_call Try.func74 (by kernel_rfl) rfl (fun _ _ hS => four_far_w hr2 hS )) <| obs_nil
        refine cond_ev (t := 24) (b := r4) hF (by kernel_rfl) (fun hb => ?_) (fun hb => ?_)
        · replace hm := if_t hm hb
          refine seqR ?_
          refine at_run 1 [] [] [6, 27] [pl 6 (.pointer (some ⟨g5, 0, none⟩)), pl 27 (.agg #[.int .i64 0, .int .i64 0, .slice none 0 0])] hF hS (by kernel_rfl) (by kernel_rfl) ?_ (fun a w hF hS => ?_)
          · exact obs_nil
          obtain ⟨w, hrun, hS⟩ := run_putA (P := Try.prog) (t := 24) (us := #[.int .i64 0, .int .i64 0, .slice none 0 0]) (o := 0) (hS.at_ 1 rfl) (by kernel_rfl) (all_one (by kernel_rfl)) (Nat.le_of_ble_eq_true (by kernel_rfl))
          refine at_skip hF (by kernel_rfl) hrun ?_
          have hS : Sep w0 B w (blk g4 24 #[.int .i64 g1, .int .i64 g2, .slice A1 g3.length c1] :: blk g5 24 #[.int .i64 0, .int .i64 0, .slice none 0 0] :: blk g6 95 #[.int .i64 r3.1, .int .i64 r3.2.1, .slice A2 r3.2.2.1.length c2, .int .i64 k1, .int .i64 r3.2.2.2] :: own 3 (.slice A2 r3.2.2.1.length c2) (vI r3.2.2.1) :: fs) := hS
          refine at_run 1 [] [] [6, 7] [pl 6 (.pointer (some ⟨g5, 0, none⟩)), pl 7 (.int .i64 3)] hF hS (by kernel_rfl) (by kernel_rfl) ?_ (fun a w hF hS => ?_)
          · exact obs_nil
          refine at_end [6, 7] [pl 6 (.pointer (some ⟨g5, 0, none⟩)), pl 7 (.int .i64 3)] hF rfl (by kernel_rfl) (fun hF => ?_)
          refine then_n ?_
          refine wp_ret ?_
          refine block_r (then_r ?_)
          have hS : Sep w0 B w (own 3 (.slice none 0 0) (vI ([] : List Int)) :: blk g4 24 #[.int .i64 g1, .int .i64 g2, .slice A1 g3.length c1] :: blk g5 24 #[.int .i64 0, .int .i64 0, .slice none 0 0] :: blk g6 95 #[.int .i64 r3.1, .int .i64 r3.2.1, .slice A2 r3.2.2.1.length c2, .int .i64 k1, .int .i64 r3.2.2.2] :: own 3 (.slice A2 r3.2.2.1.length c2) (vI r3.2.2.1) :: fs) := hS.nil 3
          have hl2 := (hS.at_ 0 rfl).len1
          have hS := (hS.at_ 0 rfl).reN hl2
          have hS : Sep w0 B w (own 3 (.slice none (([] : List Int).length) 0) (vI ([] : List Int)) :: blk g4 24 #[.int .i64 g1, .int .i64 g2, .slice A1 g3.length c1] :: blk g5 24 #[.int .i64 0, .int .i64 0, .slice none 0 0] :: blk g6 95 #[.int .i64 r3.1, .int .i64 r3.2.1, .slice A2 r3.2.2.1.length c2, .int .i64 k1, .int .i64 r3.2.2.2] :: own 3 (.slice A2 r3.2.2.1.length c2) (vI r3.2.2.1) :: fs) := hS
          have hld0 := run_loadVarA (P := Try.prog) (t := 24) (cs := #[.int .i64 0, .int .i64 0, .slice none (([] : List Int).length) 0]) (by kernel_rfl) (by kernel_rfl) ((hS.at_ 2 rfl).cellsAt 0 (by rfl))
          have hS := hS.pickN 5 [0] (by decide)
          have hm : some (0, 0, ([] : List Int), 3) = some r := hm
          obtain rfl := Option.some.inj hm
          exact retV (rs := [.cell 6 24, .tmp 7]) (vs := [.agg #[.int .i64 0, .int .i64 0, .slice none (([] : List Int).length) 0], .int .i64 3]) hF rfl (rv_c (by kernel_rfl) hld0 <| rv_t (by kernel_rfl) <| rv_nil) rfl ⟨_, rfl, none, 0, rfl, hS⟩
        · replace hm := if_f hm hb
          obtain ⟨r5, hr3, hm⟩ := call_b hm
          refine reg [⟨false, [], callFunc 75 #[.pointer (some ⟨g6, 0, none⟩)], .int .i64 r5⟩] [none, some (.int .i64 r5), none, none] [1, 3, 6, 8, 28] [pl 1 (.int .i64 column1), pl 3 (.pointer (some ⟨g4, 0, none⟩)), pl 6 (.pointer (some ⟨g5, 0, none⟩)), pl 8 (.pointer (some ⟨g6, 0, none⟩)), pl 28 (.bool (r5 == 0))] hF hS Fol (by kernel_rfl) (by kernel_rfl) (by kernel_rfl) ?_ (fun a w hF hS => ?_)
          · exact obs_cons (ob_call Try.func75 (by kernel_rfl) rfl (fun _ _ hS => quiet_pick hS 4 [2, 3, 0, 1] (by decide) [2, 3, 0, 1] (by decide) (qs := (blk g6 95 #[.int .i64 r3.1, .int .i64 r3.2.1, .slice A2 r3.2.2.1.length c2, .int .i64 k1, .int .i64 r3.2.2.2] :: own 3 (.slice A2 r3.2.2.1.length c2) (vI r3.2.2.1) :: blk g4 24 #[.int .i64 g1, .int .i64 g2, .slice A1 g3.length c1] :: blk g5 24 #[.int .i64 0, .int .i64 0, .slice none 0 0] :: fs)) rfl (fun hS => four_well_mover_w hr3 hS ) 4 rfl)) <| obs_nil
          refine cond_ev (t := 28) (b := (r5 == 0)) hF (by kernel_rfl) (fun hb => ?_) (fun hb => ?_)
          · replace hm := if_t hm hb
            refine seqR ?_
            refine at_run 1 [] [] [6, 32] [pl 6 (.pointer (some ⟨g5, 0, none⟩)), pl 32 (.agg #[.int .i64 0, .int .i64 0, .slice none 0 0])] hF hS (by kernel_rfl) (by kernel_rfl) ?_ (fun a w hF hS => ?_)
            · exact obs_nil
            obtain ⟨w, hrun, hS⟩ := run_putA (P := Try.prog) (t := 24) (us := #[.int .i64 0, .int .i64 0, .slice none 0 0]) (o := 0) (hS.at_ 1 rfl) (by kernel_rfl) (all_one (by kernel_rfl)) (Nat.le_of_ble_eq_true (by kernel_rfl))
            refine at_skip hF (by kernel_rfl) hrun ?_
            have hS : Sep w0 B w (blk g4 24 #[.int .i64 g1, .int .i64 g2, .slice A1 g3.length c1] :: blk g5 24 #[.int .i64 0, .int .i64 0, .slice none 0 0] :: blk g6 95 #[.int .i64 r3.1, .int .i64 r3.2.1, .slice A2 r3.2.2.1.length c2, .int .i64 k1, .int .i64 r3.2.2.2] :: own 3 (.slice A2 r3.2.2.1.length c2) (vI r3.2.2.1) :: fs) := hS
            refine at_run 1 [] [] [6, 7] [pl 6 (.pointer (some ⟨g5, 0, none⟩)), pl 7 (.int .i64 7)] hF hS (by kernel_rfl) (by kernel_rfl) ?_ (fun a w hF hS => ?_)
            · exact obs_nil
            refine at_end [6, 7] [pl 6 (.pointer (some ⟨g5, 0, none⟩)), pl 7 (.int .i64 7)] hF rfl (by kernel_rfl) (fun hF => ?_)
            refine then_n ?_
            refine wp_ret ?_
            refine block_r (then_r ?_)
            have hS : Sep w0 B w (own 3 (.slice none 0 0) (vI ([] : List Int)) :: blk g4 24 #[.int .i64 g1, .int .i64 g2, .slice A1 g3.length c1] :: blk g5 24 #[.int .i64 0, .int .i64 0, .slice none 0 0] :: blk g6 95 #[.int .i64 r3.1, .int .i64 r3.2.1, .slice A2 r3.2.2.1.length c2, .int .i64 k1, .int .i64 r3.2.2.2] :: own 3 (.slice A2 r3.2.2.1.length c2) (vI r3.2.2.1) :: fs) := hS.nil 3
            have hl3 := (hS.at_ 0 rfl).len1
            have hS := (hS.at_ 0 rfl).reN hl3
            have hS : Sep w0 B w (own 3 (.slice none (([] : List Int).length) 0) (vI ([] : List Int)) :: blk g4 24 #[.int .i64 g1, .int .i64 g2, .slice A1 g3.length c1] :: blk g5 24 #[.int .i64 0, .int .i64 0, .slice none 0 0] :: blk g6 95 #[.int .i64 r3.1, .int .i64 r3.2.1, .slice A2 r3.2.2.1.length c2, .int .i64 k1, .int .i64 r3.2.2.2] :: own 3 (.slice A2 r3.2.2.1.length c2) (vI r3.2.2.1) :: fs) := hS
            have hld0 := run_loadVarA (P := Try.prog) (t := 24) (cs := #[.int .i64 0, .int .i64 0, .slice none (([] : List Int).length) 0]) (by kernel_rfl) (by kernel_rfl) ((hS.at_ 2 rfl).cellsAt 0 (by rfl))
            have hS := hS.pickN 5 [0] (by decide)
            have hm : some (0, 0, ([] : List Int), 7) = some r := hm
            obtain rfl := Option.some.inj hm
            exact retV (rs := [.cell 6 24, .tmp 7]) (vs := [.agg #[.int .i64 0, .int .i64 0, .slice none (([] : List Int).length) 0], .int .i64 7]) hF rfl (rv_c (by kernel_rfl) hld0 <| rv_t (by kernel_rfl) <| rv_nil) rfl ⟨_, rfl, none, 0, rfl, hS⟩
          · replace hm := if_f hm hb
            obtain ⟨r6, hr4, hm⟩ := call_b hm
            refine reg [⟨false, [], callFunc 76 #[.pointer (some ⟨g6, 0, none⟩)], .bool r6⟩] [none, some (.bool r6), none] [1, 3, 6, 8, 33] [pl 1 (.int .i64 column1), pl 3 (.pointer (some ⟨g4, 0, none⟩)), pl 6 (.pointer (some ⟨g5, 0, none⟩)), pl 8 (.pointer (some ⟨g6, 0, none⟩)), pl 33 (.bool r6)] hF hS Fol (by kernel_rfl) (by kernel_rfl) (by kernel_rfl) ?_ (fun a w hF hS => ?_)
            · exact obs_cons (ob_call Try.func76 (by kernel_rfl) rfl (fun _ _ hS => quiet_pick hS 4 [2, 3, 0, 1] (by decide) [2, 3, 0, 1] (by decide) (qs := (blk g6 95 #[.int .i64 r3.1, .int .i64 r3.2.1, .slice A2 r3.2.2.1.length c2, .int .i64 k1, .int .i64 r3.2.2.2] :: own 3 (.slice A2 r3.2.2.1.length c2) (vI r3.2.2.1) :: blk g4 24 #[.int .i64 g1, .int .i64 g2, .slice A1 g3.length c1] :: blk g5 24 #[.int .i64 0, .int .i64 0, .slice none 0 0] :: fs)) rfl (fun hS => four_well_over_w hr4 hS ) 4 rfl)) <| obs_nil
            refine cond_ev (t := 33) (b := r6) hF (by kernel_rfl) (fun hb => ?_) (fun hb => ?_)
            · replace hm := if_t hm hb
              refine seqR ?_
              refine at_run 1 [] [] [6, 36] [pl 6 (.pointer (some ⟨g5, 0, none⟩)), pl 36 (.agg #[.int .i64 0, .int .i64 0, .slice none 0 0])] hF hS (by kernel_rfl) (by kernel_rfl) ?_ (fun a w hF hS => ?_)
              · exact obs_nil
              obtain ⟨w, hrun, hS⟩ := run_putA (P := Try.prog) (t := 24) (us := #[.int .i64 0, .int .i64 0, .slice none 0 0]) (o := 0) (hS.at_ 1 rfl) (by kernel_rfl) (all_one (by kernel_rfl)) (Nat.le_of_ble_eq_true (by kernel_rfl))
              refine at_skip hF (by kernel_rfl) hrun ?_
              have hS : Sep w0 B w (blk g4 24 #[.int .i64 g1, .int .i64 g2, .slice A1 g3.length c1] :: blk g5 24 #[.int .i64 0, .int .i64 0, .slice none 0 0] :: blk g6 95 #[.int .i64 r3.1, .int .i64 r3.2.1, .slice A2 r3.2.2.1.length c2, .int .i64 k1, .int .i64 r3.2.2.2] :: own 3 (.slice A2 r3.2.2.1.length c2) (vI r3.2.2.1) :: fs) := hS
              refine at_run 1 [] [] [6, 7] [pl 6 (.pointer (some ⟨g5, 0, none⟩)), pl 7 (.int .i64 9)] hF hS (by kernel_rfl) (by kernel_rfl) ?_ (fun a w hF hS => ?_)
              · exact obs_nil
              refine at_end [6, 7] [pl 6 (.pointer (some ⟨g5, 0, none⟩)), pl 7 (.int .i64 9)] hF rfl (by kernel_rfl) (fun hF => ?_)
              refine then_n ?_
              refine wp_ret ?_
              refine block_r (then_r ?_)
              have hS : Sep w0 B w (own 3 (.slice none 0 0) (vI ([] : List Int)) :: blk g4 24 #[.int .i64 g1, .int .i64 g2, .slice A1 g3.length c1] :: blk g5 24 #[.int .i64 0, .int .i64 0, .slice none 0 0] :: blk g6 95 #[.int .i64 r3.1, .int .i64 r3.2.1, .slice A2 r3.2.2.1.length c2, .int .i64 k1, .int .i64 r3.2.2.2] :: own 3 (.slice A2 r3.2.2.1.length c2) (vI r3.2.2.1) :: fs) := hS.nil 3
              have hl4 := (hS.at_ 0 rfl).len1
              have hS := (hS.at_ 0 rfl).reN hl4
              have hS : Sep w0 B w (own 3 (.slice none (([] : List Int).length) 0) (vI ([] : List Int)) :: blk g4 24 #[.int .i64 g1, .int .i64 g2, .slice A1 g3.length c1] :: blk g5 24 #[.int .i64 0, .int .i64 0, .slice none 0 0] :: blk g6 95 #[.int .i64 r3.1, .int .i64 r3.2.1, .slice A2 r3.2.2.1.length c2, .int .i64 k1, .int .i64 r3.2.2.2] :: own 3 (.slice A2 r3.2.2.1.length c2) (vI r3.2.2.1) :: fs) := hS
              have hld0 := run_loadVarA (P := Try.prog) (t := 24) (cs := #[.int .i64 0, .int .i64 0, .slice none (([] : List Int).length) 0]) (by kernel_rfl) (by kernel_rfl) ((hS.at_ 2 rfl).cellsAt 0 (by rfl))
              have hS := hS.pickN 5 [0] (by decide)
              have hm : some (0, 0, ([] : List Int), 9) = some r := hm
              obtain rfl := Option.some.inj hm
              exact retV (rs := [.cell 6 24, .tmp 7]) (vs := [.agg #[.int .i64 0, .int .i64 0, .slice none (([] : List Int).length) 0], .int .i64 9]) hF rfl (rv_c (by kernel_rfl) hld0 <| rv_t (by kernel_rfl) <| rv_nil) rfl ⟨_, rfl, none, 0, rfl, hS⟩
            · replace hm := if_f hm hb
              refine reg [⟨false, [(decide (column1 < 0), false)], vS (Instr.loadAt 3 (.pointer (some ⟨g4, 0, none⟩))), .int .i64 g1⟩] [none, none, none, none, none, some (.int .i64 g1), none, none, none] [1, 6, 8, 37] [pl 1 (.int .i64 column1), pl 6 (.pointer (some ⟨g5, 0, none⟩)), pl 8 (.pointer (some ⟨g6, 0, none⟩)), pl 37 (.bool ((decide (column1 < 0)) || (decide (g1 ≤ column1))))] hF hS Fol (by kernel_rfl) (by kernel_rfl) (by kernel_rfl) ?_ (fun a w hF hS => ?_)
              · exact obs_cons (ob_load Agg3 (fun _ _ hS => (hS.at_ 0 rfl).cell rfl)) <| obs_nil
              refine cond_ev (t := 37) (b := (decide (column1 < 0)) || (decide (g1 ≤ column1))) hF (by kernel_rfl) (fun hb => ?_) (fun hb => ?_)
              · replace hm := if_t hm hb
                refine seqR ?_
                refine at_run 1 [] [] [6, 46] [pl 6 (.pointer (some ⟨g5, 0, none⟩)), pl 46 (.agg #[.int .i64 0, .int .i64 0, .slice none 0 0])] hF hS (by kernel_rfl) (by kernel_rfl) ?_ (fun a w hF hS => ?_)
                · exact obs_nil
                obtain ⟨w, hrun, hS⟩ := run_putA (P := Try.prog) (t := 24) (us := #[.int .i64 0, .int .i64 0, .slice none 0 0]) (o := 0) (hS.at_ 1 rfl) (by kernel_rfl) (all_one (by kernel_rfl)) (Nat.le_of_ble_eq_true (by kernel_rfl))
                refine at_skip hF (by kernel_rfl) hrun ?_
                have hS : Sep w0 B w (blk g4 24 #[.int .i64 g1, .int .i64 g2, .slice A1 g3.length c1] :: blk g5 24 #[.int .i64 0, .int .i64 0, .slice none 0 0] :: blk g6 95 #[.int .i64 r3.1, .int .i64 r3.2.1, .slice A2 r3.2.2.1.length c2, .int .i64 k1, .int .i64 r3.2.2.2] :: own 3 (.slice A2 r3.2.2.1.length c2) (vI r3.2.2.1) :: fs) := hS
                refine at_run 1 [] [] [6, 7] [pl 6 (.pointer (some ⟨g5, 0, none⟩)), pl 7 (.int .i64 5)] hF hS (by kernel_rfl) (by kernel_rfl) ?_ (fun a w hF hS => ?_)
                · exact obs_nil
                refine at_end [6, 7] [pl 6 (.pointer (some ⟨g5, 0, none⟩)), pl 7 (.int .i64 5)] hF rfl (by kernel_rfl) (fun hF => ?_)
                refine then_n ?_
                refine wp_ret ?_
                refine block_r (then_r ?_)
                have hS : Sep w0 B w (own 3 (.slice none 0 0) (vI ([] : List Int)) :: blk g4 24 #[.int .i64 g1, .int .i64 g2, .slice A1 g3.length c1] :: blk g5 24 #[.int .i64 0, .int .i64 0, .slice none 0 0] :: blk g6 95 #[.int .i64 r3.1, .int .i64 r3.2.1, .slice A2 r3.2.2.1.length c2, .int .i64 k1, .int .i64 r3.2.2.2] :: own 3 (.slice A2 r3.2.2.1.length c2) (vI r3.2.2.1) :: fs) := hS.nil 3
                have hl5 := (hS.at_ 0 rfl).len1
                have hS := (hS.at_ 0 rfl).reN hl5
                have hS : Sep w0 B w (own 3 (.slice none (([] : List Int).length) 0) (vI ([] : List Int)) :: blk g4 24 #[.int .i64 g1, .int .i64 g2, .slice A1 g3.length c1] :: blk g5 24 #[.int .i64 0, .int .i64 0, .slice none 0 0] :: blk g6 95 #[.int .i64 r3.1, .int .i64 r3.2.1, .slice A2 r3.2.2.1.length c2, .int .i64 k1, .int .i64 r3.2.2.2] :: own 3 (.slice A2 r3.2.2.1.length c2) (vI r3.2.2.1) :: fs) := hS
                have hld0 := run_loadVarA (P := Try.prog) (t := 24) (cs := #[.int .i64 0, .int .i64 0, .slice none (([] : List Int).length) 0]) (by kernel_rfl) (by kernel_rfl) ((hS.at_ 2 rfl).cellsAt 0 (by rfl))
                have hS := hS.pickN 5 [0] (by decide)
                have hm : some (0, 0, ([] : List Int), 5) = some r := hm
                obtain rfl := Option.some.inj hm
                exact retV (rs := [.cell 6 24, .tmp 7]) (vs := [.agg #[.int .i64 0, .int .i64 0, .slice none (([] : List Int).length) 0], .int .i64 5]) hF rfl (rv_c (by kernel_rfl) hld0 <| rv_t (by kernel_rfl) <| rv_nil) rfl ⟨_, rfl, none, 0, rfl, hS⟩
              · replace hm := if_f hm hb
                refine wp_skip ?_
                refine block_n ?_
                refine then_n ?_
                have hS := hS.pickN 4 [1, 2, 3] (by decide)
                exact ⟨hF.weak [1, 6, 8] (by kernel_rfl), hS, hm⟩
    · refine reg [] [] [1, 2, 3, 6, 8, 9, 17] [pl 1 (.int .i64 column1), pl 2 (.int .i64 k1), pl 3 (.pointer (some ⟨g4, 0, none⟩)), pl 6 (.pointer (some ⟨g5, 0, none⟩)), pl 8 (.pointer (some ⟨g6, 0, none⟩)), pl 9 (.int .i64 0), pl 17 (.bool ((0 : Int) != 0))] hF hS Fol (by kernel_rfl) (by kernel_rfl) (by kernel_rfl) ?_ (fun a w hF hS => ?_)
      · exact obs_nil
      refine cond_ev (t := 17) (b := ((0 : Int) != 0)) hF (by kernel_rfl) (fun hb => ?_) (fun hb => ?_)
      · exact absurd hb (by decide)
      · refine wp_skip ?_
        refine then_n ?_
        have hS := hS.pickN 4 [3, 2, 0, 1] (by decide)
        exact ⟨hF.weak [1, 2, 3, 6, 8] (by kernel_rfl), hS, hm⟩

noncomputable def four_Threats_J5 (z1 : Int) (w2 : List Int) (l3 : List Int) : Option (St (List Int × List Int × Int) (List Int)) :=
  some (.next (w2, l3, (w64 (z1 + 1))))

noncomputable def four_Threats_J7 (who1 : Int) (r3 : (Int × Int × List Int × Int)) (w1 : List Int) (z1 : Int) (l4 : List Int) : Option (St (List Int × List Int × Int) (List Int)) :=
  asrt (0 ≤ z1 ∧ z1 < (r3.2.2.1.length : Int)) <| (four_Threats_J5 z1) ((w1.set (Int.toNat z1) who1).set (Int.toNat z1) 0) l4

noncomputable def four_Threats_J6 (who1 : Int) (k1 : Int) (r3 : (Int × Int × List Int × Int)) (w1 : List Int) (l1 : List Int) (z1 : Int) : Option (St (List Int × List Int × Int) (List Int)) :=
  asrt (0 ≤ z1 ∧ z1 < (r3.2.2.1.length : Int)) <| (four_well_won_m r3.1 r3.2.1 (w1.set (Int.toNat z1) who1) k1 r3.2.2.2 z1).bind fun r5 => if r5 then (asrt ((l1.length : Int) + 1 ≤ bigN) <| (four_Threats_J7 who1 r3 w1 z1) (l1 ++ ([z1] : List Int))) else ((four_Threats_J7 who1 r3 w1 z1) l1)

noncomputable def four_Threats_J4 (who1 : Int) (k1 : Int) (r3 : (Int × Int × List Int × Int)) (w1 : List Int) (l1 : List Int) (z1 : Int) : Option (St (List Int × List Int × Int) (List Int)) :=
  asrt (0 ≤ z1 ∧ z1 < (r3.2.2.1.length : Int)) <| if ((geti w1 z1) != 0) then ((four_Threats_J5 z1) w1 l1) else ((four_Threats_J6 who1 k1 r3 w1 l1 z1))

noncomputable def four_Threats_J3 (l2 : List Int) : Option (List Int × Int) :=
  some (l2, 0)

noncomputable def four_Threats_K1 : (List Int) → Option (List Int × Int) :=
  fun (x : (List Int)) => match x with | l2 => four_Threats_J3 l2

noncomputable def four_Threats_L1 (who1 : Int) (k1 : Int) (r3 : (Int × Int × List Int × Int)) : (List Int × List Int × Int) → Option (St (List Int × List Int × Int) (List Int)) :=
  fun (x : (List Int × List Int × Int)) => match x with | (w1, l1, z1) => if (decide (z1 < (r3.2.2.1.length : Int))) then ((four_Threats_J4 who1 k1 r3 w1 l1 z1)) else (some (.done l1))

noncomputable def four_Threats_J2 (who1 : Int) (k1 : Int) (r3 : (Int × Int × List Int × Int)) : Option (List Int × Int) :=
  (loop (four_Threats_L1 who1 k1 r3) (r3.2.2.1, ([] : List Int), 0)).bind four_Threats_K1

noncomputable def four_Threats_m (g1 : Int) (g2 : Int) (g3 : List Int) (who1 : Int) (k1 : Int) : Option (List Int × Int) :=
  (four_opened_m g1 g2 g3).bind fun r1 => Fl.elim2 r1 (fun (r2 : Unit) => some (([] : List Int), 12)) (fun (r3 : (Int × Int × List Int × Int)) => (four_far_m k1).bind fun r4 => if r4 then (some (([] : List Int), 3)) else (if ((who1 != 1) && (who1 != 2)) then (some (([] : List Int), 4)) else ((four_Threats_J2 who1 k1 r3))))

set_option maxRecDepth 100000 in
set_option maxHeartbeats 4000000 in
theorem four_Threats_w {g1 : Int} {g2 : Int} {A1 : Option Addr} {c1 : Nat} {n1 : Nat} {g3 : List Int} {who1 : Int} {k1 : Int} {r : (List Int × Int)} {w0 w : World} {B : Nat} {fs : List HP} (hm : four_Threats_m g1 g2 g3 who1 k1 = some r) (hS : Sep w0 B w (fs)) (hr_g3 : RdF w0 B fs A1 (vI g3)) (_hc_g3 : g3.length ≤ c1) (_hn_g3 : n1 = g3.length) :
    Calls Try.prog 30 #[.agg #[.int .i64 g1, .int .i64 g2, .slice A1 n1 c1], .int .i64 who1, .int .i64 k1] w fun e w' => ∃ v, e = .returned v ∧ ∃ (A8 : Option Addr) (c8 : Nat), v = .tuple #[.slice A8 r.1.length c8, .int .i64 r.2] ∧ Sep w0 B w' (own 3 (.slice A8 r.1.length c8) (vI r.1) :: fs) := by
  obtain ⟨i3, hi3, hz3, hs3, hb3⟩ := info_parts Info3
  obtain rfl := _hn_g3
  unfold four_Threats_m at hm
  replace hm := start_b hm
  refine enter (l := [.agg #[.int .i64 g1, .int .i64 g2, .slice A1 g3.length c1], .int .i64 who1, .int .i64 k1]) (n := 73) Try.func30 rfl rfl (by simp) (fun a hF => ?_)
  refine seqR ?_
  refine at_do (d := 3) (s := vS (Instr.box 24 (.agg #[.int .i64 g1, .int .i64 g2, .slice A1 g3.length c1]))) (v := .pointer (some ⟨w.heap.size, 0, none⟩)) (w' := w.alloc (.cells #[.int .i64 g1, .int .i64 g2, .slice A1 g3.length c1] 24)) hF (by kernel_rfl) (by kernel_rfl) (by kernel_rfl) (fun a hF => ?_)
  have hS : Sep w0 B (w.alloc (.cells #[.int .i64 g1, .int .i64 g2, .slice A1 g3.length c1] 24)) (blk w.heap.size 24 #[.int .i64 g1, .int .i64 g2, .slice A1 g3.length c1] :: (fs)) := hS.box 24 #[.int .i64 g1, .int .i64 g2, .slice A1 g3.length c1]
  generalize w.heap.size = g4 at hF hS
  generalize w.alloc (.cells #[.int .i64 g1, .int .i64 g2, .slice A1 g3.length c1] 24) = w at hS ⊢
  refine at_run 2 [] [] [1, 2, 3] [pl 1 (.int .i64 who1), pl 2 (.int .i64 k1), pl 3 (.pointer (some ⟨g4, 0, none⟩))] hF hS (by kernel_rfl) (by kernel_rfl) ?_ (fun a w hF hS => ?_)
  · exact obs_nil
  refine at_end [1, 2, 3] [pl 1 (.int .i64 who1), pl 2 (.int .i64 k1), pl 3 (.pointer (some ⟨g4, 0, none⟩))] hF rfl (by kernel_rfl) (fun hF => ?_)
  refine then_n ?_
  refine seqR ?_
  obtain ⟨r1, hr1, hm⟩ := call_b hm
  refine at_run 1 [⟨false, [], vS (Instr.loadAt 24 (.pointer (some ⟨g4, 0, none⟩))), .agg #[.int .i64 g1, .int .i64 g2, .slice A1 g3.length c1]⟩] [some (.agg #[.int .i64 g1, .int .i64 g2, .slice A1 g3.length c1])] [1, 2, 14] [pl 1 (.int .i64 who1), pl 2 (.int .i64 k1), pl 14 (.agg #[.int .i64 g1, .int .i64 g2, .slice A1 g3.length c1])] hF hS (by kernel_rfl) (by kernel_rfl) ?_ (fun a w hF hS => ?_)
  · exact obs_cons (ob_loadA (cs := #[.int .i64 g1, .int .i64 g2, .slice A1 g3.length c1]) (by kernel_rfl) (by kernel_rfl) (fun _ _ hS => (hS.at_ 0 rfl).cellsAt 0 (by rfl))) <| obs_nil
  refine at_call (f := 73) (args := #[.agg #[.int .i64 g1, .int .i64 g2, .slice A1 g3.length c1]]) (d := 15) hF (by kernel_rfl) (by kernel_rfl) Try.func73 (by kernel_rfl) rfl (four_opened_w hr1 hS (fun _ hS => (hr_g3 _ (hS.dropN 1))) _hc_g3 rfl) (fun v a w hR hF => ?_)
  clear hS
  rcases r1 with r2 | r3
  · replace hm := fl_go hm
    replace hR := flp_go hR
    obtain ⟨rfl, hS⟩ := hR
    have hS : Sep w0 B w (blk g4 24 #[.int .i64 g1, .int .i64 g2, .slice A1 g3.length c1] :: fs) := hS
    refine at_run 5 [] [] [1, 2, 8, 9] [pl 1 (.int .i64 who1), pl 2 (.int .i64 k1), pl 8 (.pointer none), pl 9 (.int .i64 12)] hF hS (by kernel_rfl) (by kernel_rfl) ?_ (fun a w hF hS => ?_)
    · exact obs_nil
    refine at_end [1, 2, 8, 9] [pl 1 (.int .i64 who1), pl 2 (.int .i64 k1), pl 8 (.pointer none), pl 9 (.int .i64 12)] hF rfl (by kernel_rfl) (fun hF => ?_)
    refine then_n ?_
    refine seq_cut (fun _ _ => False) (fun _ _ h => h.elim) ?_
    refine wp_block ?_
    refine reg [] [] [1, 2, 8, 9, 18] [pl 1 (.int .i64 who1), pl 2 (.int .i64 k1), pl 8 (.pointer none), pl 9 (.int .i64 12), pl 18 (.bool ((12 : Int) != 0))] hF hS Fol (by kernel_rfl) (by kernel_rfl) (by kernel_rfl) ?_ (fun a w hF hS => ?_)
    · exact obs_nil
    refine cond_ev (t := 18) (b := ((12 : Int) != 0)) hF (by kernel_rfl) (fun hb => ?_) (fun hb => ?_)
    · refine reg [] [] [6, 7] [pl 6 (.slice none 0 0), pl 7 (.int .i64 12)] hF hS Fol (by kernel_rfl) (by kernel_rfl) (by kernel_rfl) ?_ (fun a w hF hS => ?_)
      · exact obs_nil
      refine wp_ret ?_
      refine block_r (then_r ?_)
      have hS : Sep w0 B w (own 3 (.slice none 0 0) (vI ([] : List Int)) :: blk g4 24 #[.int .i64 g1, .int .i64 g2, .slice A1 g3.length c1] :: fs) := hS.nil 3
      have hl1 := (hS.at_ 0 rfl).len1
      have hS := (hS.at_ 0 rfl).reN hl1
      have hS : Sep w0 B w (own 3 (.slice none (([] : List Int).length) 0) (vI ([] : List Int)) :: blk g4 24 #[.int .i64 g1, .int .i64 g2, .slice A1 g3.length c1] :: fs) := hS
      have hS := hS.pickN 2 [0] (by decide)
      have hm : some (([] : List Int), 12) = some r := hm
      obtain rfl := Option.some.inj hm
      exact retV (rs := [.tmp 6, .tmp 7]) (vs := [.slice none (([] : List Int).length) 0, .int .i64 12]) hF rfl (rv_t (by kernel_rfl) <| rv_t (by kernel_rfl) <| rv_nil) rfl ⟨_, rfl, none, 0, rfl, hS⟩
    · exact absurd hb (by decide)
  · replace hm := fl_ret hm
    replace hR := flp_ret hR
    obtain ⟨g5, A2, c2, rfl, hS⟩ := hR
    have hS : Sep w0 B w (blk g5 95 #[.int .i64 r3.1, .int .i64 r3.2.1, .slice A2 r3.2.2.1.length c2, .int .i64 0, .int .i64 r3.2.2.2] :: own 3 (.slice A2 r3.2.2.1.length c2) (vI r3.2.2.1) :: blk g4 24 #[.int .i64 g1, .int .i64 g2, .slice A1 g3.length c1] :: fs) := hS
    refine at_run 5 [] [] [1, 2, 8, 9] [pl 1 (.int .i64 who1), pl 2 (.int .i64 k1), pl 8 (.pointer (some ⟨g5, 0, none⟩)), pl 9 (.int .i64 0)] hF hS (by kernel_rfl) (by kernel_rfl) ?_ (fun a w hF hS => ?_)
    · exact obs_nil
    refine at_end [1, 2, 8, 9] [pl 1 (.int .i64 who1), pl 2 (.int .i64 k1), pl 8 (.pointer (some ⟨g5, 0, none⟩)), pl 9 (.int .i64 0)] hF rfl (by kernel_rfl) (fun hF => ?_)
    refine then_n ?_
    refine seq_cut (fun a w => Fr 73 [pl 1 (.int .i64 who1), pl 2 (.int .i64 k1), pl 8 (.pointer (some ⟨g5, 0, none⟩))] a ∧ Sep w0 B w (blk g5 95 #[.int .i64 r3.1, .int .i64 r3.2.1, .slice A2 r3.2.2.1.length c2, .int .i64 0, .int .i64 r3.2.2.2] :: own 3 (.slice A2 r3.2.2.1.length c2) (vI r3.2.2.1) :: fs) ∧ ((four_Threats_J2 who1 k1 r3)).bind some = some r) ?_ ?_
    · rintro a w ⟨hF, hS, hm⟩
      unfold four_Threats_J2 at hm
      refine seqR ?_
      refine at_run 4 [] [] [1, 8, 33, 35] [pl 1 (.int .i64 who1), pl 8 (.pointer (some ⟨g5, 0, none⟩)), pl 33 (.int .i64 k1), pl 35 (.pointer (some ⟨g5, 3, none⟩))] hF hS (by kernel_rfl) (by kernel_rfl) ?_ (fun a w hF hS => ?_)
      · exact obs_nil
      obtain ⟨w, hrun, hS⟩ := run_put (P := Try.prog) (t := 3) (u := .int .i64 k1) (i := 3) (hS.at_ 0 rfl) hi3 hs3 rfl (Nat.lt_of_lt_of_eq (Nat.lt_of_succ_le (Nat.le_of_ble_eq_true (by kernel_rfl))) rfl)
      refine at_skip hF (by kernel_rfl) hrun ?_
      have hS : Sep w0 B w (blk g5 95 #[.int .i64 r3.1, .int .i64 r3.2.1, .slice A2 r3.2.2.1.length c2, .int .i64 k1, .int .i64 r3.2.2.2] :: own 3 (.slice A2 r3.2.2.1.length c2) (vI r3.2.2.1) :: fs) := hS
      refine at_end [1, 8] [pl 1 (.int .i64 who1), pl 8 (.pointer (some ⟨g5, 0, none⟩))] hF rfl (by kernel_rfl) (fun hF => ?_)
      refine then_n ?_
      refine reg [] [] [1, 8, 10] [pl 1 (.int .i64 who1), pl 8 (.pointer (some ⟨g5, 0, none⟩)), pl 10 (.slice none 0 0)] hF hS Fol (by kernel_rfl) (by kernel_rfl) (by kernel_rfl) ?_ (fun a w hF hS => ?_)
      · exact obs_nil
      refine seq_cut (fun a w => ∃ (l2 : List Int) (A4 : Option Addr) (c4 : Nat), Fr 73 [pl 10 (.slice A4 l2.length c4)] a ∧ Sep w0 B w (own 3 (.slice A4 l2.length c4) (vI l2) :: fs) ∧ (four_Threats_J3 l2).bind some = some r) ?_ ?_
      · rintro a w ⟨l2, A4, c4, hF, hS, hm⟩
        unfold four_Threats_J3 at hm
        refine reg [] [] [6, 7] [pl 6 (.slice A4 l2.length c4), pl 7 (.int .i64 0)] hF hS Fol (by kernel_rfl) (by kernel_rfl) (by kernel_rfl) ?_ (fun a w hF hS => ?_)
        · exact obs_nil
        refine wp_ret ?_
        have hm : some (l2, 0) = some r := hm
        obtain rfl := Option.some.inj hm
        exact retV (rs := [.tmp 6, .tmp 7]) (vs := [.slice A4 l2.length c4, .int .i64 0]) hF rfl (rv_t (by kernel_rfl) <| rv_t (by kernel_rfl) <| rv_nil) rfl ⟨_, rfl, A4, c4, rfl, hS⟩
      · refine reg [⟨false, [], vS (Instr.loadAt 22 (.pointer (some ⟨g5, 2, none⟩))), .slice A2 r3.2.2.1.length c2⟩] [none, none, none, none, some (.slice A2 r3.2.2.1.length c2), none, none] [1, 8, 10, 40, 41, 42] [pl 1 (.int .i64 who1), pl 8 (.pointer (some ⟨g5, 0, none⟩)), pl 10 (.slice none 0 0), pl 40 (.slice A2 r3.2.2.1.length c2), pl 41 (.int .i64 (r3.2.2.1.length : Int)), pl 42 (.int .i64 0)] hF hS Fol (by kernel_rfl) (by kernel_rfl) (by kernel_rfl) ?_ (fun a w hF hS => ?_)
        · exact obs_cons (ob_load Agg22 (fun _ _ hS => (hS.at_ 0 rfl).cell rfl)) <| obs_nil
        refine wp_block ?_
        have hS : Sep w0 B w (own 3 (.slice none 0 0) (vI ([] : List Int)) :: blk g5 95 #[.int .i64 r3.1, .int .i64 r3.2.1, .slice A2 r3.2.2.1.length c2, .int .i64 k1, .int .i64 r3.2.2.2] :: own 3 (.slice A2 r3.2.2.1.length c2) (vI r3.2.2.1) :: fs) := hS.nil 3
        have hl4 := (hS.at_ 0 rfl).len1
        have hS := (hS.at_ 0 rfl).reN hl4
        have hS : Sep w0 B w (own 3 (.slice none (([] : List Int).length) 0) (vI ([] : List Int)) :: blk g5 95 #[.int .i64 r3.1, .int .i64 r3.2.1, .slice A2 r3.2.2.1.length c2, .int .i64 k1, .int .i64 r3.2.2.2] :: own 3 (.slice A2 r3.2.2.1.length c2) (vI r3.2.2.1) :: fs) := hS
        have hF := hF.cast (t := 10) (v := .slice none 0 0) (v' := .slice none (([] : List Int).length) 0) rfl rfl (congrArg (fun k => Value.slice none k 0) hl4)
        have hS := hS.pickN 3 [1, 2, 0] (by decide)
        refine wp_loop_model (S := (List Int × List Int × Int)) (R := (List Int)) (four_Threats_L1 who1 k1 r3) (fun x => (four_Threats_K1 x).bind some) r (fun (x : (List Int × List Int × Int)) a w => ∃ (A3 : Option Addr) (c3 : Nat), Fr 73 [pl 1 (.int .i64 who1), pl 8 (.pointer (some ⟨g5, 0, none⟩)), pl 10 (.slice A3 x.2.1.length c3), pl 40 (.slice A2 r3.2.2.1.length c2), pl 41 (.int .i64 (r3.2.2.1.length : Int)), pl 42 (.int .i64 x.2.2)] a ∧ Sep w0 B w (blk g5 95 #[.int .i64 r3.1, .int .i64 r3.2.1, .slice A2 r3.2.2.1.length c2, .int .i64 k1, .int .i64 r3.2.2.2] :: own 3 (.slice A2 r3.2.2.1.length c2) (vI x.1) :: own 3 (.slice A3 x.2.1.length c3) (vI x.2.1) :: fs)) (assoc_b hm) ⟨none, 0, hF.weak [1, 8, 10, 40, 41, 42] (by kernel_rfl), hS⟩ ?_
        clear hF hS hm
        rintro nn1 ⟨w1, l1, z1⟩ a w ⟨A3, c3, hF, hS⟩ hm
        generalize hφ1 : stK (four_Threats_L1 who1 k1 r3) nn1 (fun x => (four_Threats_K1 x).bind some) = φ1 at hm
        unfold four_Threats_L1 at hm
        dsimp only at hF hS hm
        refine reg [] [] [1, 8, 10, 40, 41, 42, 43] [pl 1 (.int .i64 who1), pl 8 (.pointer (some ⟨g5, 0, none⟩)), pl 10 (.slice A3 l1.length c3), pl 40 (.slice A2 r3.2.2.1.length c2), pl 41 (.int .i64 (r3.2.2.1.length : Int)), pl 42 (.int .i64 z1), pl 43 (.bool (decide (z1 < (r3.2.2.1.length : Int))))] hF hS Fol (by kernel_rfl) (by kernel_rfl) (by kernel_rfl) ?_ (fun a w hF hS => ?_)
        · exact obs_nil
        refine seq_cut (fun a w => Fr 73 [pl 1 (.int .i64 who1), pl 8 (.pointer (some ⟨g5, 0, none⟩)), pl 10 (.slice A3 l1.length c3), pl 40 (.slice A2 r3.2.2.1.length c2), pl 41 (.int .i64 (r3.2.2.1.length : Int)), pl 42 (.int .i64 z1)] a ∧ Sep w0 B w (blk g5 95 #[.int .i64 r3.1, .int .i64 r3.2.1, .slice A2 r3.2.2.1.length c2, .int .i64 k1, .int .i64 r3.2.2.2] :: own 3 (.slice A2 r3.2.2.1.length c2) (vI w1) :: own 3 (.slice A3 l1.length c3) (vI l1) :: fs) ∧ ((four_Threats_J4 who1 k1 r3 w1 l1 z1)).bind φ1 = some r) ?_ ?_
        · rintro a w ⟨hF, hS, hm⟩
          unfold four_Threats_J4 at hm
          refine seq_cut (fun a w => ∃ (w2 : List Int) (l3 : List Int) (A5 : Option Addr) (c5 : Nat), Fr 73 [pl 1 (.int .i64 who1), pl 8 (.pointer (some ⟨g5, 0, none⟩)), pl 10 (.slice A5 l3.length c5), pl 40 (.slice A2 r3.2.2.1.length c2), pl 41 (.int .i64 (r3.2.2.1.length : Int)), pl 42 (.int .i64 z1)] a ∧ Sep w0 B w (blk g5 95 #[.int .i64 r3.1, .int .i64 r3.2.1, .slice A2 r3.2.2.1.length c2, .int .i64 k1, .int .i64 r3.2.2.2] :: own 3 (.slice A2 r3.2.2.1.length c2) (vI w2) :: own 3 (.slice A5 l3.length c5) (vI l3) :: fs) ∧ ((four_Threats_J5 z1) w2 l3).bind φ1 = some r) ?_ ?_
          · rintro a w ⟨w2, l3, A5, c5, hF, hS, hm⟩
            unfold four_Threats_J5 at hm
            refine reg1 [] [] [1, 8, 10, 40, 41, 42] [pl 1 (.int .i64 who1), pl 8 (.pointer (some ⟨g5, 0, none⟩)), pl 10 (.slice A5 l3.length c5), pl 40 (.slice A2 r3.2.2.1.length c2), pl 41 (.int .i64 (r3.2.2.1.length : Int)), pl 42 (.int .i64 (w64 (z1 + 1)))] hF hS Fol (by kernel_rfl) (by kernel_rfl) (by kernel_rfl) ?_ (fun a w hF hS => ?_)
            · exact obs_nil
            refine then_n ?_
            rw [← hφ1] at hm
            exact ⟨(w2, l3, (w64 (z1 + 1))), ⟨A5, c5, hF.weak [1, 8, 10, 40, 41, 42] (by kernel_rfl), hS⟩, hm⟩
          · refine wp_block ?_
            obtain ⟨hp1, hm⟩ := asrt_b hm
            refine reg [⟨true, [], vS (Instr.indexAt 22 (.slice A2 r3.2.2.1.length c2) (.int .i64 z1)), .pointer (some (sAddr A2 z1))⟩, ⟨false, [], vS (Instr.loadAt 3 (.pointer (some (sAddr A2 z1)))), .int .i64 (geti w1 z1)⟩] [none, some (.pointer (some (sAddr A2 z1))), some (.int .i64 (geti w1 z1)), none, none] [1, 8, 10, 11, 12, 40, 41, 42] [pl 1 (.int .i64 who1), pl 8 (.pointer (some ⟨g5, 0, none⟩)), pl 10 (.slice A3 l1.length c3), pl 11 (.int .i64 z1), pl 12 (.int .i64 (geti w1 z1)), pl 40 (.slice A2 r3.2.2.1.length c2), pl 41 (.int .i64 (r3.2.2.1.length : Int)), pl 42 (.int .i64 z1)] hF hS Fol (by kernel_rfl) (by kernel_rfl) (by kernel_rfl) ?_ (fun a w hF hS => ?_)
            · exact obs_cons (ob_ix1 (f := (Value.int .i64)) (m := w1) Und22 hi3 hs3 (hS.at_ 1 rfl).rd ((hS.at_ 1 rfl).len1) (fun _ => hp1)) <| obs_cons (ob_get1 (n := r3.2.2.1.length) (m := w1) (Value.int .i64) (0 : Int) Agg3 (fun _ hS => ⟨_, (hS.at_ 1 rfl).rd⟩) (fun _ hS => ((hS.at_ 1 rfl).len1)) (fun _ => hp1)) <| obs_nil
            refine seq_cut (fun a w => Fr 73 [pl 1 (.int .i64 who1), pl 8 (.pointer (some ⟨g5, 0, none⟩)), pl 10 (.slice A3 l1.length c3), pl 11 (.int .i64 z1), pl 40 (.slice A2 r3.2.2.1.length c2), pl 41 (.int .i64 (r3.2.2.1.length : Int)), pl 42 (.int .i64 z1)] a ∧ Sep w0 B w (blk g5 95 #[.int .i64 r3.1, .int .i64 r3.2.1, .slice A2 r3.2.2.1.length c2, .int .i64 k1, .int .i64 r3.2.2.2] :: own 3 (.slice A2 r3.2.2.1.length c2) (vI w1) :: own 3 (.slice A3 l1.length c3) (vI l1) :: fs) ∧ ((four_Threats_J6 who1 k1 r3 w1 l1 z1)).bind φ1 = some r) ?_ ?_
            · rintro a w ⟨hF, hS, hm⟩
              unfold four_Threats_J6 at hm
              refine seqR ?_
              obtain ⟨hp2, hm⟩ := asrt_b hm
              refine at_run 8 [⟨false, [], vS (Instr.loadAt 22 (.pointer (some ⟨g5, 2, none⟩))), .slice A2 r3.2.2.1.length c2⟩, ⟨true, [], vS (Instr.indexAt 22 (.slice A2 r3.2.2.1.length c2) (.int .i64 z1)), .pointer (some (sAddr A2 z1))⟩] [none, none, none, none, some (.slice A2 r3.2.2.1.length c2), none, none, some (.pointer (some (sAddr A2 z1)))] [1, 8, 10, 11, 40, 41, 42, 55, 56] [pl 1 (.int .i64 who1), pl 8 (.pointer (some ⟨g5, 0, none⟩)), pl 10 (.slice A3 l1.length c3), pl 11 (.int .i64 z1), pl 40 (.slice A2 r3.2.2.1.length c2), pl 41 (.int .i64 (r3.2.2.1.length : Int)), pl 42 (.int .i64 z1), pl 55 (.int .i64 who1), pl 56 (.pointer (some (sAddr A2 z1)))] hF hS (by kernel_rfl) (by kernel_rfl) ?_ (fun a w hF hS => ?_)
              · exact obs_cons (ob_load Agg22 (fun _ _ hS => (hS.at_ 0 rfl).cell rfl)) <| obs_cons (ob_ix1 (f := (Value.int .i64)) (m := w1) Und22 hi3 hs3 (hS.at_ 1 rfl).rd ((hS.at_ 1 rfl).len1) (fun _ => hp2)) <| obs_nil
              obtain ⟨w, hrun, hS⟩ := run_set1 (P := Try.prog) (t := 3) (x := who1) (Value.int .i64) (hS.at_ 1 rfl) hi3 hs3 rfl rfl hp2
              refine at_skip hF (by kernel_rfl) hrun ?_
              have hS : Sep w0 B w (blk g5 95 #[.int .i64 r3.1, .int .i64 r3.2.1, .slice A2 r3.2.2.1.length c2, .int .i64 k1, .int .i64 r3.2.2.2] :: own 3 (.slice A2 r3.2.2.1.length c2) (vI (w1.set (Int.toNat z1) who1)) :: own 3 (.slice A3 l1.length c3) (vI l1) :: fs) := hS
              refine at_end [1, 8, 10, 11, 40, 41, 42] [pl 1 (.int .i64 who1), pl 8 (.pointer (some ⟨g5, 0, none⟩)), pl 10 (.slice A3 l1.length c3), pl 11 (.int .i64 z1), pl 40 (.slice A2 r3.2.2.1.length c2), pl 41 (.int .i64 (r3.2.2.1.length : Int)), pl 42 (.int .i64 z1)] hF rfl (by kernel_rfl) (fun hF => ?_)
              refine then_n ?_
              refine seq_cut (fun a w => ∃ (l4 : List Int) (A7 : Option Addr) (c7 : Nat), Fr 73 [pl 1 (.int .i64 who1), pl 8 (.pointer (some ⟨g5, 0, none⟩)), pl 10 (.slice A7 l4.length c7), pl 11 (.int .i64 z1), pl 40 (.slice A2 r3.2.2.1.length c2), pl 41 (.int .i64 (r3.2.2.1.length : Int)), pl 42 (.int .i64 z1)] a ∧ Sep w0 B w (blk g5 95 #[.int .i64 r3.1, .int .i64 r3.2.1, .slice A2 r3.2.2.1.length c2, .int .i64 k1, .int .i64 r3.2.2.2] :: own 3 (.slice A2 r3.2.2.1.length c2) (vI (w1.set (Int.toNat z1) who1)) :: own 3 (.slice A7 l4.length c7) (vI l4) :: fs) ∧ ((four_Threats_J7 who1 r3 w1 z1) l4).bind φ1 = some r) ?_ ?_
              · rintro a w ⟨l4, A7, c7, hF, hS, hm⟩
                unfold four_Threats_J7 at hm
                refine oneR ?_
                obtain ⟨hp4, hm⟩ := asrt_b hm
                refine at_run 7 [⟨false, [], vS (Instr.loadAt 22 (.pointer (some ⟨g5, 2, none⟩))), .slice A2 r3.2.2.1.length c2⟩, ⟨true, [], vS (Instr.indexAt 22 (.slice A2 r3.2.2.1.length c2) (.int .i64 z1)), .pointer (some (sAddr A2 z1))⟩] [none, none, none, none, some (.slice A2 r3.2.2.1.length c2), none, some (.pointer (some (sAddr A2 z1)))] [1, 8, 10, 40, 41, 42, 70] [pl 1 (.int .i64 who1), pl 8 (.pointer (some ⟨g5, 0, none⟩)), pl 10 (.slice A7 l4.length c7), pl 40 (.slice A2 r3.2.2.1.length c2), pl 41 (.int .i64 (r3.2.2.1.length : Int)), pl 42 (.int .i64 z1), pl 70 (.pointer (some (sAddr A2 z1)))] hF hS (by kernel_rfl) (by kernel_rfl) ?_ (fun a w hF hS => ?_)
                · exact obs_cons (ob_load Agg22 (fun _ _ hS => (hS.at_ 0 rfl).cell rfl)) <| obs_cons (ob_ix1 (f := (Value.int .i64)) (m := (w1.set (Int.toNat z1) who1)) Und22 hi3 hs3 (hS.at_ 1 rfl).rd ((hS.at_ 1 rfl).len1) (fun _ => hp4)) <| obs_nil
                obtain ⟨w, hrun, hS⟩ := run_set1 (P := Try.prog) (t := 3) (x := 0) (Value.int .i64) (hS.at_ 1 rfl) hi3 hs3 rfl rfl hp4
                refine at_skip hF (by kernel_rfl) hrun ?_
                have hS : Sep w0 B w (blk g5 95 #[.int .i64 r3.1, .int .i64 r3.2.1, .slice A2 r3.2.2.1.length c2, .int .i64 k1, .int .i64 r3.2.2.2] :: own 3 (.slice A2 r3.2.2.1.length c2) (vI ((w1.set (Int.toNat z1) who1).set (Int.toNat z1) 0)) :: own 3 (.slice A7 l4.length c7) (vI l4) :: fs) := hS
                refine at_end [1, 8, 10, 40, 41, 42] [pl 1 (.int .i64 who1), pl 8 (.pointer (some ⟨g5, 0, none⟩)), pl 10 (.slice A7 l4.length c7), pl 40 (.slice A2 r3.2.2.1.length c2), pl 41 (.int .i64 (r3.2.2.1.length : Int)), pl 42 (.int .i64 z1)] hF rfl (by kernel_rfl) (fun hF => ?_)
                refine block_n ?_
                refine then_n ?_
                exact ⟨((w1.set (Int.toNat z1) who1).set (Int.toNat z1) 0), l4, A7, c7, hF.weak [1, 8, 10, 40, 41, 42] (by kernel_rfl), hS, hm⟩
              · obtain ⟨r5, hr3, hm⟩ := call_b hm
                refine reg [⟨false, [], callFunc 78 #[.pointer (some ⟨g5, 0, none⟩), .int .i64 z1], .bool r5⟩] [none, none, some (.bool r5)] [1, 8, 10, 11, 40, 41, 42, 59] [pl 1 (.int .i64 who1), pl 8 (.pointer (some ⟨g5, 0, none⟩)), pl 10 (.slice A3 l1.length c3), pl 11 (.int .i64 z1), pl 40 (.slice A2 r3.2.2.1.length c2), pl 41 (.int .i64 (r3.2.2.1.length : Int)), pl 42 (.int .i64 z1), pl 59 (.bool r5)] hF hS Fol (by kernel_rfl) (by kernel_rfl) (by kernel_rfl) ?_ (fun a w hF hS => ?_)
                · exact obs_cons (ob_call Try.func78 (by kernel_rfl) rfl (fun _ _ hS => four_well_won_w hr3 hS )) <| obs_nil
                refine cond_ev (t := 59) (b := r5) hF (by kernel_rfl) (fun hb => ?_) (fun hb => ?_)
                · replace hm := if_t hm hb
                  refine oneR ?_
                  obtain ⟨hp3, hm⟩ := asrt_b hm
                  refine at_run 2 [] [] [1, 8, 11, 40, 41, 42, 60, 61] [pl 1 (.int .i64 who1), pl 8 (.pointer (some ⟨g5, 0, none⟩)), pl 11 (.int .i64 z1), pl 40 (.slice A2 r3.2.2.1.length c2), pl 41 (.int .i64 (r3.2.2.1.length : Int)), pl 42 (.int .i64 z1), pl 60 (.slice A3 l1.length c3), pl 61 (.int .i64 z1)] hF hS (by kernel_rfl) (by kernel_rfl) ?_ (fun a w hF hS => ?_)
                  · exact obs_nil
                  refine at_do (d := 62) (s := vS (Instr.buildSlice 22 1 #[(0, .int .i64 z1)])) (v := .slice (some ⟨w.heap.size, 0, none⟩) 1 1) (w' := w.alloc (.cells #[.int .i64 z1] 3)) hF (by kernel_rfl) (by kernel_rfl) (by kernel_rfl) (fun a hF => ?_)
                  have hS : Sep w0 B (w.alloc (.cells #[.int .i64 z1] 3)) (own 3 (.slice (some (⟨w.heap.size, 0, none⟩ : Addr)) 1 1) (vI ([z1] : List Int)) :: (blk g5 95 #[.int .i64 r3.1, .int .i64 r3.2.1, .slice A2 r3.2.2.1.length c2, .int .i64 k1, .int .i64 r3.2.2.2] :: own 3 (.slice A2 r3.2.2.1.length c2) (vI (w1.set (Int.toNat z1) who1)) :: own 3 (.slice A3 l1.length c3) (vI l1) :: fs)) := hS.lit 3 #[.int .i64 z1] 1 rfl (by omega)
                  generalize (some (⟨w.heap.size, 0, none⟩ : Addr)) = g6 at hF hS
                  generalize w.alloc (.cells #[.int .i64 z1] 3) = w at hS ⊢
                  obtain ⟨A6, c6, w, hrun, hS⟩ := run_app1 (P := Try.prog) (t := 22) (m := l1) (ys := ([z1] : List Int)) (A2 := g6) (m2 := 1) (c2 := 1) (Value.int .i64) (0 : Int) (hS.at_ 3 rfl) (hS.at_ 0 rfl).rd ((hS.at_ 0 rfl).len1) 22 Und22 hi3 hz3 hs3 (by omega) rfl (fun _ => rfl) hp3
                  have hS : Sep w0 B w (own 3 (.slice g6 1 1) (vI ([z1] : List Int)) :: blk g5 95 #[.int .i64 r3.1, .int .i64 r3.2.1, .slice A2 r3.2.2.1.length c2, .int .i64 k1, .int .i64 r3.2.2.2] :: own 3 (.slice A2 r3.2.2.1.length c2) (vI (w1.set (Int.toNat z1) who1)) :: own 3 (.slice A6 ((l1 ++ ([z1] : List Int)).length) c6) (vI (l1 ++ ([z1] : List Int))) :: fs) := hS
                  refine at_do (d := 63) hF (by kernel_rfl) (by kernel_rfl) hrun (fun a hF => ?_)
                  refine at_run 1 [] [] [1, 8, 10, 11, 40, 41, 42] [pl 1 (.int .i64 who1), pl 8 (.pointer (some ⟨g5, 0, none⟩)), pl 10 (.slice A6 ((l1 ++ ([z1] : List Int)).length) c6), pl 11 (.int .i64 z1), pl 40 (.slice A2 r3.2.2.1.length c2), pl 41 (.int .i64 (r3.2.2.1.length : Int)), pl 42 (.int .i64 z1)] hF hS (by kernel_rfl) (by kernel_rfl) ?_ (fun a w hF hS => ?_)
                  · exact obs_nil
                  refine at_end [1, 8, 10, 11, 40, 41, 42] [pl 1 (.int .i64 who1), pl 8 (.pointer (some ⟨g5, 0, none⟩)), pl 10 (.slice A6 ((l1 ++ ([z1] : List Int)).length) c6), pl 11 (.int .i64 z1), pl 40 (.slice A2 r3.2.2.1.length c2), pl 41 (.int .i64 (r3.2.2.1.length : Int)), pl 42 (.int .i64 z1)] hF rfl (by kernel_rfl) (fun hF => ?_)
                  refine then_n ?_
                  have hS := hS.pickN 4 [1, 2, 3] (by decide)
                  exact ⟨(l1 ++ ([z1] : List Int)), A6, c6, hF.weak [1, 8, 10, 11, 40, 41, 42] (by kernel_rfl), hS, hm⟩
                · replace hm := if_f hm hb
                  refine wp_skip ?_
                  refine then_n ?_
                  exact ⟨l1, A3, c3, hF.weak [1, 8, 10, 11, 40, 41, 42] (by kernel_rfl), hS, hm⟩
            · refine reg [] [] [1, 8, 10, 11, 40, 41, 42, 48] [pl 1 (.int .i64 who1), pl 8 (.pointer (some ⟨g5, 0, none⟩)), pl 10 (.slice A3 l1.length c3), pl 11 (.int .i64 z1), pl 40 (.slice A2 r3.2.2.1.length c2), pl 41 (.int .i64 (r3.2.2.1.length : Int)), pl 42 (.int .i64 z1), pl 48 (.bool ((geti w1 z1) != 0))] hF hS Fol (by kernel_rfl) (by kernel_rfl) (by kernel_rfl) ?_ (fun a w hF hS => ?_)
              · exact obs_nil
              refine cond_ev (t := 48) (b := ((geti w1 z1) != 0)) hF (by kernel_rfl) (fun hb => ?_) (fun hb => ?_)
              · replace hm := if_t hm hb
                refine wp_exit ?_
                refine then_e (block_e (then_n ?_))
                exact ⟨w1, l1, A3, c3, hF.weak [1, 8, 10, 40, 41, 42] (by kernel_rfl), hS, hm⟩
              · replace hm := if_f hm hb
                refine wp_skip ?_
                refine then_n ?_
                exact ⟨hF.weak [1, 8, 10, 11, 40, 41, 42] (by kernel_rfl), hS, hm⟩
        · refine cond_ev (t := 43) (b := decide (z1 < (r3.2.2.1.length : Int))) hF (by kernel_rfl) (fun hb => ?_) (fun hb => ?_)
          · replace hm := if_t hm hb
            refine wp_skip ?_
            refine then_n ?_
            exact ⟨hF.weak [1, 8, 10, 40, 41, 42] (by kernel_rfl), hS, hm⟩
          · replace hm := if_f hm hb
            refine wp_exit ?_
            refine then_e (then_e (block_e (then_n ?_)))
            have hS := hS.pickN 3 [2] (by decide)
            rw [← hφ1] at hm
            replace hm := done_b hm
            unfold four_Threats_K1 at hm
            try dsimp only at hm
            have hm : (four_Threats_J3 l1).bind some = some r := hm
            exact ⟨l1, A3, c3, hF.weak [10] (by kernel_rfl), hS, hm⟩
    · refine wp_block ?_
      refine reg [] [] [1, 2, 8, 9, 18] [pl 1 (.int .i64 who1), pl 2 (.int .i64 k1), pl 8 (.pointer (some ⟨g5, 0, none⟩)), pl 9 (.int .i64 0), pl 18 (.bool ((0 : Int) != 0))] hF hS Fol (by kernel_rfl) (by kernel_rfl) (by kernel_rfl) ?_ (fun a w hF hS => ?_)
      · exact obs_nil
      refine cond_ev (t := 18) (b := ((0 : Int) != 0)) hF (by kernel_rfl) (fun hb => ?_) (fun hb => ?_)
      · exact absurd hb (by decide)
      · obtain ⟨r4, hr2, hm⟩ := call_b hm
        refine reg [⟨false, [], callFunc 74 #[.int .i64 k1], .bool r4⟩] [none, some (.bool r4), none] [1, 2, 8, 22] [pl 1 (.int .i64 who1), pl 2 (.int .i64 k1), pl 8 (.pointer (some ⟨g5, 0, none⟩)), pl 22 (.bool r4)] hF hS Fol (by kernel_rfl) (by kernel_rfl) (by kernel_rfl) ?_ (fun a w hF hS => ?_)
        · exact obs_cons (ob_call Try.func74 (by kernel_rfl) rfl (fun _ _ hS => four_far_w hr2 hS )) <| obs_nil
        refine cond_ev (t := 22) (b := r4) hF (by kernel_rfl) (fun hb => ?_) (fun hb => ?_)
        · replace hm := if_t hm hb
          refine reg [] [] [6, 7] [pl 6 (.slice none 0 0), pl 7 (.int .i64 3)] hF hS Fol (by kernel_rfl) (by kernel_rfl) (by kernel_rfl) ?_ (fun a w hF hS => ?_)
          · exact obs_nil
          refine wp_ret ?_
          refine block_r (then_r ?_)
          have hS : Sep w0 B w (own 3 (.slice none 0 0) (vI ([] : List Int)) :: blk g5 95 #[.int .i64 r3.1, .int .i64 r3.2.1, .slice A2 r3.2.2.1.length c2, .int .i64 0, .int .i64 r3.2.2.2] :: own 3 (.slice A2 r3.2.2.1.length c2) (vI r3.2.2.1) :: blk g4 24 #[.int .i64 g1, .int .i64 g2, .slice A1 g3.length c1] :: fs) := hS.nil 3
          have hl2 := (hS.at_ 0 rfl).len1
          have hS := (hS.at_ 0 rfl).reN hl2
          have hS : Sep w0 B w (own 3 (.slice none (([] : List Int).length) 0) (vI ([] : List Int)) :: blk g5 95 #[.int .i64 r3.1, .int .i64 r3.2.1, .slice A2 r3.2.2.1.length c2, .int .i64 0, .int .i64 r3.2.2.2] :: own 3 (.slice A2 r3.2.2.1.length c2) (vI r3.2.2.1) :: blk g4 24 #[.int .i64 g1, .int .i64 g2, .slice A1 g3.length c1] :: fs) := hS
          have hS := hS.pickN 4 [0] (by decide)
          have hm : some (([] : List Int), 3) = some r := hm
          obtain rfl := Option.some.inj hm
          exact retV (rs := [.tmp 6, .tmp 7]) (vs := [.slice none (([] : List Int).length) 0, .int .i64 3]) hF rfl (rv_t (by kernel_rfl) <| rv_t (by kernel_rfl) <| rv_nil) rfl ⟨_, rfl, none, 0, rfl, hS⟩
        · replace hm := if_f hm hb
          refine reg [] [] [1, 2, 8, 25] [pl 1 (.int .i64 who1), pl 2 (.int .i64 k1), pl 8 (.pointer (some ⟨g5, 0, none⟩)), pl 25 (.bool ((who1 != 1) && (who1 != 2)))] hF hS Fol (by kernel_rfl) (by kernel_rfl) (by kernel_rfl) ?_ (fun a w hF hS => ?_)
          · exact obs_nil
          refine cond_ev (t := 25) (b := (who1 != 1) && (who1 != 2)) hF (by kernel_rfl) (fun hb => ?_) (fun hb => ?_)
          · replace hm := if_t hm hb
            refine reg [] [] [6, 7] [pl 6 (.slice none 0 0), pl 7 (.int .i64 4)] hF hS Fol (by kernel_rfl) (by kernel_rfl) (by kernel_rfl) ?_ (fun a w hF hS => ?_)
            · exact obs_nil
            refine wp_ret ?_
            refine block_r (then_r ?_)
            have hS : Sep w0 B w (own 3 (.slice none 0 0) (vI ([] : List Int)) :: blk g5 95 #[.int .i64 r3.1, .int .i64 r3.2.1, .slice A2 r3.2.2.1.length c2, .int .i64 0, .int .i64 r3.2.2.2] :: own 3 (.slice A2 r3.2.2.1.length c2) (vI r3.2.2.1) :: blk g4 24 #[.int .i64 g1, .int .i64 g2, .slice A1 g3.length c1] :: fs) := hS.nil 3
            have hl3 := (hS.at_ 0 rfl).len1
            have hS := (hS.at_ 0 rfl).reN hl3
            have hS : Sep w0 B w (own 3 (.slice none (([] : List Int).length) 0) (vI ([] : List Int)) :: blk g5 95 #[.int .i64 r3.1, .int .i64 r3.2.1, .slice A2 r3.2.2.1.length c2, .int .i64 0, .int .i64 r3.2.2.2] :: own 3 (.slice A2 r3.2.2.1.length c2) (vI r3.2.2.1) :: blk g4 24 #[.int .i64 g1, .int .i64 g2, .slice A1 g3.length c1] :: fs) := hS
            have hS := hS.pickN 4 [0] (by decide)
            have hm : some (([] : List Int), 4) = some r := hm
            obtain rfl := Option.some.inj hm
            exact retV (rs := [.tmp 6, .tmp 7]) (vs := [.slice none (([] : List Int).length) 0, .int .i64 4]) hF rfl (rv_t (by kernel_rfl) <| rv_t (by kernel_rfl) <| rv_nil) rfl ⟨_, rfl, none, 0, rfl, hS⟩
          · replace hm := if_f hm hb
            refine wp_skip ?_
            refine block_n ?_
            refine then_n ?_
            have hS := hS.pickN 3 [0, 1] (by decide)
            exact ⟨hF.weak [1, 2, 8] (by kernel_rfl), hS, hm⟩

noncomputable def gameroomref_within_m (n1 : Int) (low1 : Int) (high1 : Int) : Option Bool :=
  some ((decide (low1 ≤ n1)) && (decide (n1 ≤ high1)))

set_option maxRecDepth 100000 in
set_option maxHeartbeats 4000000 in
theorem gameroomref_within_w {n1 : Int} {low1 : Int} {high1 : Int} {r : Bool} {w0 w : World} {B : Nat} {fs : List HP} (hm : gameroomref_within_m n1 low1 high1 = some r) (hS : Sep w0 B w (fs)) :
    Calls Try.prog 64 #[.int .i64 n1, .int .i64 low1, .int .i64 high1] w fun e w' => e = .returned (.bool r) ∧ Sep w0 B w' (fs) := by
  unfold gameroomref_within_m at hm
  replace hm := start_b hm
  refine enter (l := [.int .i64 n1, .int .i64 low1, .int .i64 high1]) (n := 15) Try.func64 rfl rfl (by simp) (fun a hF => ?_)
  refine reg [] [] [0, 1, 2] [pl 0 (.int .i64 n1), pl 1 (.int .i64 low1), pl 2 (.int .i64 high1)] hF hS Fol (by kernel_rfl) (by kernel_rfl) (by kernel_rfl) ?_ (fun a w hF hS => ?_)
  · exact obs_nil
  refine reg [] [] [6] [pl 6 (.bool ((decide (low1 ≤ n1)) && (decide (n1 ≤ high1))))] hF hS Fol (by kernel_rfl) (by kernel_rfl) (by kernel_rfl) ?_ (fun a w hF hS => ?_)
  · exact obs_nil
  refine wp_ret ?_
  have hm : some ((decide (low1 ≤ n1)) && (decide (n1 ≤ high1))) = some r := hm
  obtain rfl := Option.some.inj hm
  exact retV (rs := [.tmp 6]) (vs := [.bool ((decide (low1 ≤ n1)) && (decide (n1 ≤ high1)))]) hF rfl (rv_t (by kernel_rfl) <| rv_nil) rfl ⟨rfl, hS⟩

noncomputable def gameroomref_GridMay_J4 (i1 : Int) : Option (St Int (Fl Unit Bool)) :=
  some (.next (w64 (i1 + 1)))

noncomputable def gameroomref_GridMay_J3 (g3 : List Int) (i1 : Int) : Option (St Int (Fl Unit Bool)) :=
  asrt (0 ≤ i1 ∧ i1 < (g3.length : Int)) <| (gameroomref_within_m (geti g3 i1) 0 2).bind fun r3 => if (!r3) then (some (.done (.ret false))) else ((gameroomref_GridMay_J4 i1))

noncomputable def gameroomref_GridMay_J2 : Option Bool :=
  some true

noncomputable def gameroomref_GridMay_K1 : (Fl Unit Bool) → Option Bool :=
  fun (x : (Fl Unit Bool)) => match x with | .go _ => gameroomref_GridMay_J2 | .ret x => some x

noncomputable def gameroomref_GridMay_L1 (g3 : List Int) : Int → Option (St Int (Fl Unit Bool)) :=
  fun (x : Int) => match x with | i1 => if (decide (i1 < (g3.length : Int))) then ((gameroomref_GridMay_J3 g3 i1)) else (some (.done (.go ())))

noncomputable def gameroomref_GridMay_J1 (g3 : List Int) : Option Bool :=
  (loop (gameroomref_GridMay_L1 g3) 0).bind gameroomref_GridMay_K1

noncomputable def gameroomref_GridMay_m (g1 : Int) (g2 : Int) (g3 : List Int) : Option Bool :=
  (gameroomref_within_m g1 1 10).bind fun r1 => ((if (!(!r1)) then gameroomref_within_m g2 1 10 else some false)).bind fun r2 => if (((!r1) || (!r2)) || ((g3.length : Int) != (w64 (g1 * g2)))) then (some false) else ((gameroomref_GridMay_J1 g3))

set_option maxRecDepth 100000 in
set_option maxHeartbeats 4000000 in
theorem gameroomref_GridMay_w {g1 : Int} {g2 : Int} {A1 : Option Addr} {c1 : Nat} {n1 : Nat} {g3 : List Int} {r : Bool} {w0 w : World} {B : Nat} {fs : List HP} (hm : gameroomref_GridMay_m g1 g2 g3 = some r) (hS : Sep w0 B w (fs)) (hr_g3 : RdF w0 B fs A1 (vI g3)) (_hc_g3 : g3.length ≤ c1) (_hn_g3 : n1 = g3.length) :
    Calls Try.prog 63 #[.agg #[.int .i64 g1, .int .i64 g2, .slice A1 n1 c1]] w fun e w' => e = .returned (.bool r) ∧ Sep w0 B w' (fs) := by
  obtain ⟨i3, hi3, hz3, hs3, hb3⟩ := info_parts Info3
  obtain rfl := _hn_g3
  unfold gameroomref_GridMay_m at hm
  replace hm := start_b hm
  refine enter (l := [.agg #[.int .i64 g1, .int .i64 g2, .slice A1 g3.length c1]]) (n := 39) Try.func63 rfl rfl (by simp) (fun a hF => ?_)
  refine seqR ?_
  refine at_do (d := 1) (s := vS (Instr.box 24 (.agg #[.int .i64 g1, .int .i64 g2, .slice A1 g3.length c1]))) (v := .pointer (some ⟨w.heap.size, 0, none⟩)) (w' := w.alloc (.cells #[.int .i64 g1, .int .i64 g2, .slice A1 g3.length c1] 24)) hF (by kernel_rfl) (by kernel_rfl) (by kernel_rfl) (fun a hF => ?_)
  have hS : Sep w0 B (w.alloc (.cells #[.int .i64 g1, .int .i64 g2, .slice A1 g3.length c1] 24)) (blk w.heap.size 24 #[.int .i64 g1, .int .i64 g2, .slice A1 g3.length c1] :: (fs)) := hS.box 24 #[.int .i64 g1, .int .i64 g2, .slice A1 g3.length c1]
  generalize w.heap.size = g4 at hF hS
  generalize w.alloc (.cells #[.int .i64 g1, .int .i64 g2, .slice A1 g3.length c1] 24) = w at hS ⊢
  refine at_run 1 [] [] [1] [pl 1 (.pointer (some ⟨g4, 0, none⟩))] hF hS (by kernel_rfl) (by kernel_rfl) ?_ (fun a w hF hS => ?_)
  · exact obs_nil
  refine at_end [1] [pl 1 (.pointer (some ⟨g4, 0, none⟩))] hF rfl (by kernel_rfl) (fun hF => ?_)
  refine then_n ?_
  refine seq_cut (fun a w => Fr 39 [pl 1 (.pointer (some ⟨g4, 0, none⟩))] a ∧ Sep w0 B w (blk g4 24 #[.int .i64 g1, .int .i64 g2, .slice A1 g3.length c1] :: fs) ∧ ((gameroomref_GridMay_J1 g3)).bind some = some r) ?_ ?_
  · rintro a w ⟨hF, hS, hm⟩
    unfold gameroomref_GridMay_J1 at hm
    refine seq_cut (fun a w => Fr 39 [] a ∧ Sep w0 B w (fs) ∧ (gameroomref_GridMay_J2).bind some = some r) ?_ ?_
    · rintro a w ⟨hF, hS, hm⟩
      unfold gameroomref_GridMay_J2 at hm
      refine reg [] [] [2] [pl 2 (.bool true)] hF hS Fol (by kernel_rfl) (by kernel_rfl) (by kernel_rfl) ?_ (fun a w hF hS => ?_)
      · exact obs_nil
      refine wp_ret ?_
      have hm : some true = some r := hm
      obtain rfl := Option.some.inj hm
      exact retV (rs := [.tmp 2]) (vs := [.bool true]) hF rfl (rv_t (by kernel_rfl) <| rv_nil) rfl ⟨rfl, hS⟩
    · refine reg [] [] [1, 3] [pl 1 (.pointer (some ⟨g4, 0, none⟩)), pl 3 (.int .i64 0)] hF hS Fol (by kernel_rfl) (by kernel_rfl) (by kernel_rfl) ?_ (fun a w hF hS => ?_)
      · exact obs_nil
      refine wp_block ?_
      refine wp_loop_model (S := Int) (R := (Fl Unit Bool)) (gameroomref_GridMay_L1 g3) (fun x => (gameroomref_GridMay_K1 x).bind some) r (fun (x : Int) a w => Fr 39 [pl 1 (.pointer (some ⟨g4, 0, none⟩)), pl 3 (.int .i64 x)] a ∧ Sep w0 B w (blk g4 24 #[.int .i64 g1, .int .i64 g2, .slice A1 g3.length c1] :: fs)) (assoc_b hm) ⟨hF.weak [1, 3] (by kernel_rfl), hS⟩ ?_
      clear hF hS hm
      rintro nn1 i1 a w ⟨hF, hS⟩ hm
      generalize hφ1 : stK (gameroomref_GridMay_L1 g3) nn1 (fun x => (gameroomref_GridMay_K1 x).bind some) = φ1 at hm
      unfold gameroomref_GridMay_L1 at hm
      dsimp only at hm
      refine seq_cut (fun a w => Fr 39 [pl 1 (.pointer (some ⟨g4, 0, none⟩)), pl 3 (.int .i64 i1)] a ∧ Sep w0 B w (blk g4 24 #[.int .i64 g1, .int .i64 g2, .slice A1 g3.length c1] :: fs) ∧ ((gameroomref_GridMay_J3 g3 i1)).bind φ1 = some r) ?_ ?_
      · rintro a w ⟨hF, hS, hm⟩
        unfold gameroomref_GridMay_J3 at hm
        refine seq_cut (fun a w => Fr 39 [pl 1 (.pointer (some ⟨g4, 0, none⟩)), pl 3 (.int .i64 i1)] a ∧ Sep w0 B w (blk g4 24 #[.int .i64 g1, .int .i64 g2, .slice A1 g3.length c1] :: fs) ∧ ((gameroomref_GridMay_J4 i1)).bind φ1 = some r) ?_ ?_
        · rintro a w ⟨hF, hS, hm⟩
          unfold gameroomref_GridMay_J4 at hm
          refine reg1 [] [] [1, 3] [pl 1 (.pointer (some ⟨g4, 0, none⟩)), pl 3 (.int .i64 (w64 (i1 + 1)))] hF hS Fol (by kernel_rfl) (by kernel_rfl) (by kernel_rfl) ?_ (fun a w hF hS => ?_)
          · exact obs_nil
          refine then_n ?_
          rw [← hφ1] at hm
          exact ⟨(w64 (i1 + 1)), ⟨hF.weak [1, 3] (by kernel_rfl), hS⟩, hm⟩
        · refine wp_block ?_
          obtain ⟨hp1, hm⟩ := asrt_b hm
          obtain ⟨r3, hr3, hm⟩ := call_b hm
          refine reg [⟨false, [], vS (Instr.loadAt 22 (.pointer (some ⟨g4, 2, none⟩))), .slice A1 g3.length c1⟩, ⟨true, [], vS (Instr.indexAt 22 (.slice A1 g3.length c1) (.int .i64 i1)), .pointer (some (sAddr A1 i1))⟩, ⟨false, [], vS (Instr.loadAt 3 (.pointer (some (sAddr A1 i1)))), .int .i64 (geti g3 i1)⟩, ⟨false, [], callFunc 64 #[.int .i64 (geti g3 i1), .int .i64 0, .int .i64 2], .bool r3⟩] [none, some (.slice A1 g3.length c1), none, some (.pointer (some (sAddr A1 i1))), some (.int .i64 (geti g3 i1)), some (.bool r3), none] [1, 3, 38] [pl 1 (.pointer (some ⟨g4, 0, none⟩)), pl 3 (.int .i64 i1), pl 38 (.bool (!r3))] hF hS Fol (by kernel_rfl) (by kernel_rfl) (by kernel_rfl) ?_ (fun a w hF hS => ?_)
          · exact obs_cons (ob_load Agg22 (fun _ _ hS => (hS.at_ 0 rfl).cell rfl)) <| obs_cons (ob_ix1 (f := (Value.int .i64)) (m := g3) Und22 hi3 hs3 (hr_g3 _ (hS.dropN 1)) rfl (fun _ => hp1)) <| obs_cons (ob_get1 (n := g3.length) (m := g3) (Value.int .i64) (0 : Int) Agg3 (fun _ hS => ⟨_, (hr_g3 _ (hS.dropN 1))⟩) (fun _ hS => rfl) (fun _ => hp1)) <| obs_cons (ob_call Try.func64 (by kernel_rfl) rfl (fun _ _ hS => gameroomref_within_w hr3 hS )) <| obs_nil
          refine cond_ev (t := 38) (b := !r3) hF (by kernel_rfl) (fun hb => ?_) (fun hb => ?_)
          · replace hm := if_t hm hb
            refine reg [] [] [2] [pl 2 (.bool false)] hF hS Fol (by kernel_rfl) (by kernel_rfl) (by kernel_rfl) ?_ (fun a w hF hS => ?_)
            · exact obs_nil
            refine wp_ret ?_
            refine block_r (then_r (then_r (block_r (then_r ?_))))
            rw [← hφ1] at hm
            replace hm := done_b hm
            unfold gameroomref_GridMay_K1 at hm
            try dsimp only at hm
            have hS := hS.pickN 1 [] (by decide)
            have hm : some false = some r := hm
            obtain rfl := Option.some.inj hm
            exact retV (rs := [.tmp 2]) (vs := [.bool false]) hF rfl (rv_t (by kernel_rfl) <| rv_nil) rfl ⟨rfl, hS⟩
          · replace hm := if_f hm hb
            refine wp_skip ?_
            refine block_n ?_
            refine then_n ?_
            exact ⟨hF.weak [1, 3] (by kernel_rfl), hS, hm⟩
      · refine reg [⟨false, [], vS (Instr.loadAt 22 (.pointer (some ⟨g4, 2, none⟩))), .slice A1 g3.length c1⟩] [none, none, some (.slice A1 g3.length c1), none, none] [1, 3, 29] [pl 1 (.pointer (some ⟨g4, 0, none⟩)), pl 3 (.int .i64 i1), pl 29 (.bool (decide (i1 < (g3.length : Int))))] hF hS Fol (by kernel_rfl) (by kernel_rfl) (by kernel_rfl) ?_ (fun a w hF hS => ?_)
        · exact obs_cons (ob_load Agg22 (fun _ _ hS => (hS.at_ 0 rfl).cell rfl)) <| obs_nil
        refine cond_ev (t := 29) (b := decide (i1 < (g3.length : Int))) hF (by kernel_rfl) (fun hb => ?_) (fun hb => ?_)
        · replace hm := if_t hm hb
          refine wp_skip ?_
          refine then_n ?_
          exact ⟨hF.weak [1, 3] (by kernel_rfl), hS, hm⟩
        · replace hm := if_f hm hb
          refine wp_exit ?_
          refine then_e (then_e (block_e (then_n ?_)))
          have hS := hS.pickN 1 [] (by decide)
          rw [← hφ1] at hm
          replace hm := done_b hm
          unfold gameroomref_GridMay_K1 at hm
          try dsimp only at hm
          have hm : (gameroomref_GridMay_J2).bind some = some r := hm
          exact ⟨hF.weak [] (by kernel_rfl), hS, hm⟩
  · obtain ⟨r1, hr1, hm⟩ := call_b hm
    obtain ⟨r2, hr2, hm⟩ := call_b hm
    refine reg [⟨false, [], vS (Instr.loadAt 3 (.pointer (some ⟨g4, 0, none⟩))), .int .i64 g1⟩, ⟨false, [], callFunc 64 #[.int .i64 g1, .int .i64 1, .int .i64 10], .bool r1⟩, ⟨false, [(!r1, false)], vS (Instr.loadAt 3 (.pointer (some ⟨g4, 1, none⟩))), .int .i64 g2⟩, ⟨false, [(!r1, false)], callFunc 64 #[.int .i64 g2, .int .i64 1, .int .i64 10], .bool r2⟩, ⟨false, [((!r1) || (!r2), false)], vS (Instr.loadAt 22 (.pointer (some ⟨g4, 2, none⟩))), .slice A1 g3.length c1⟩, ⟨false, [((!r1) || (!r2), false)], vS (Instr.loadAt 3 (.pointer (some ⟨g4, 0, none⟩))), .int .i64 g1⟩, ⟨false, [((!r1) || (!r2), false)], vS (Instr.loadAt 3 (.pointer (some ⟨g4, 1, none⟩))), .int .i64 g2⟩] [none, some (.int .i64 g1), some (.bool r1), none, none, none, some (.int .i64 g2), some (.bool r2), none, none, none, none, some (.slice A1 g3.length c1), none, none, some (.int .i64 g1), none, some (.int .i64 g2), none, none, none] [1, 24] [pl 1 (.pointer (some ⟨g4, 0, none⟩)), pl 24 (.bool (((!r1) || (!r2)) || ((g3.length : Int) != (w64 (g1 * g2)))))] hF hS Fol (by kernel_rfl) (by kernel_rfl) (by kernel_rfl) ?_ (fun a w hF hS => ?_)
    · exact obs_cons (ob_load Agg3 (fun _ _ hS => (hS.at_ 0 rfl).cell rfl)) <| obs_cons (ob_call Try.func64 (by kernel_rfl) rfl (fun _ _ hS => gameroomref_within_w hr1 hS )) <| obs_cons (ob_load Agg3 (fun _ _ hS => (hS.at_ 0 rfl).cell rfl)) <| obs_cons (ob_call Try.func64 (by kernel_rfl) rfl (fun hy _ hS => gameroomref_within_w (ite_some hr2 (by rw [show (!r1) = false from hy (!r1, false) (by simp)]; try rfl)) hS )) <| obs_cons (ob_load Agg22 (fun _ _ hS => (hS.at_ 0 rfl).cell rfl)) <| obs_cons (ob_load Agg3 (fun _ _ hS => (hS.at_ 0 rfl).cell rfl)) <| obs_cons (ob_load Agg3 (fun _ _ hS => (hS.at_ 0 rfl).cell rfl)) <| obs_nil
    refine cond_ev (t := 24) (b := ((!r1) || (!r2)) || ((g3.length : Int) != (w64 (g1 * g2)))) hF (by kernel_rfl) (fun hb => ?_) (fun hb => ?_)
    · replace hm := if_t hm hb
      refine reg [] [] [2] [pl 2 (.bool false)] hF hS Fol (by kernel_rfl) (by kernel_rfl) (by kernel_rfl) ?_ (fun a w hF hS => ?_)
      · exact obs_nil
      refine wp_ret ?_
      refine then_r ?_
      have hS := hS.pickN 1 [] (by decide)
      have hm : some false = some r := hm
      obtain rfl := Option.some.inj hm
      exact retV (rs := [.tmp 2]) (vs := [.bool false]) hF rfl (rv_t (by kernel_rfl) <| rv_nil) rfl ⟨rfl, hS⟩
    · replace hm := if_f hm hb
      refine wp_skip ?_
      refine then_n ?_
      exact ⟨hF.weak [1] (by kernel_rfl), hS, hm⟩

noncomputable def gameroomref_WellMay_J4 (i1 : Int) : Option (St Int (Fl Unit Bool)) :=
  some (.next (w64 (i1 + 1)))

noncomputable def gameroomref_WellMay_J3 (g1 : Int) (g3 : List Int) (i1 : Int) : Option (St Int (Fl Unit Bool)) :=
  asrt (0 ≤ i1 ∧ i1 < (g3.length : Int)) <| asrt (((geti g3 i1) != 0) = true → 0 ≤ (w64 (i1 + g1)) ∧ (w64 (i1 + g1)) < (g3.length : Int)) <| if (((geti g3 i1) != 0) && ((geti g3 (w64 (i1 + g1))) == 0)) then (some (.done (.ret false))) else ((gameroomref_WellMay_J4 i1))

noncomputable def gameroomref_WellMay_J2 : Option Bool :=
  some true

noncomputable def gameroomref_WellMay_K1 : (Fl Unit Bool) → Option Bool :=
  fun (x : (Fl Unit Bool)) => match x with | .go _ => gameroomref_WellMay_J2 | .ret x => some x

noncomputable def gameroomref_WellMay_L1 (g1 : Int) (g3 : List Int) : Int → Option (St Int (Fl Unit Bool)) :=
  fun (x : Int) => match x with | i1 => if (decide ((w64 (i1 + g1)) < (g3.length : Int))) then ((gameroomref_WellMay_J3 g1 g3 i1)) else (some (.done (.go ())))

noncomputable def gameroomref_WellMay_J1 (g1 : Int) (g3 : List Int) : Option Bool :=
  (loop (gameroomref_WellMay_L1 g1 g3) 0).bind gameroomref_WellMay_K1

noncomputable def gameroomref_WellMay_m (g1 : Int) (g2 : Int) (g3 : List Int) : Option Bool :=
  (gameroomref_GridMay_m g1 g2 g3).bind fun r1 => if (!r1) then (some false) else ((gameroomref_WellMay_J1 g1 g3))

set_option maxRecDepth 100000 in
set_option maxHeartbeats 4000000 in
theorem gameroomref_WellMay_w {g1 : Int} {g2 : Int} {A1 : Option Addr} {c1 : Nat} {n1 : Nat} {g3 : List Int} {r : Bool} {w0 w : World} {B : Nat} {fs : List HP} (hm : gameroomref_WellMay_m g1 g2 g3 = some r) (hS : Sep w0 B w (fs)) (hr_g3 : RdF w0 B fs A1 (vI g3)) (_hc_g3 : g3.length ≤ c1) (_hn_g3 : n1 = g3.length) :
    Calls Try.prog 31 #[.agg #[.int .i64 g1, .int .i64 g2, .slice A1 n1 c1]] w fun e w' => e = .returned (.bool r) ∧ Sep w0 B w' (fs) := by
  obtain ⟨i3, hi3, hz3, hs3, hb3⟩ := info_parts Info3
  obtain rfl := _hn_g3
  unfold gameroomref_WellMay_m at hm
  replace hm := start_b hm
  refine enter (l := [.agg #[.int .i64 g1, .int .i64 g2, .slice A1 g3.length c1]]) (n := 34) Try.func31 rfl rfl (by simp) (fun a hF => ?_)
  refine seqR ?_
  refine at_do (d := 1) (s := vS (Instr.box 24 (.agg #[.int .i64 g1, .int .i64 g2, .slice A1 g3.length c1]))) (v := .pointer (some ⟨w.heap.size, 0, none⟩)) (w' := w.alloc (.cells #[.int .i64 g1, .int .i64 g2, .slice A1 g3.length c1] 24)) hF (by kernel_rfl) (by kernel_rfl) (by kernel_rfl) (fun a hF => ?_)
  have hS : Sep w0 B (w.alloc (.cells #[.int .i64 g1, .int .i64 g2, .slice A1 g3.length c1] 24)) (blk w.heap.size 24 #[.int .i64 g1, .int .i64 g2, .slice A1 g3.length c1] :: (fs)) := hS.box 24 #[.int .i64 g1, .int .i64 g2, .slice A1 g3.length c1]
  generalize w.heap.size = g4 at hF hS
  generalize w.alloc (.cells #[.int .i64 g1, .int .i64 g2, .slice A1 g3.length c1] 24) = w at hS ⊢
  refine at_run 1 [] [] [1] [pl 1 (.pointer (some ⟨g4, 0, none⟩))] hF hS (by kernel_rfl) (by kernel_rfl) ?_ (fun a w hF hS => ?_)
  · exact obs_nil
  refine at_end [1] [pl 1 (.pointer (some ⟨g4, 0, none⟩))] hF rfl (by kernel_rfl) (fun hF => ?_)
  refine then_n ?_
  refine seq_cut (fun a w => Fr 34 [pl 1 (.pointer (some ⟨g4, 0, none⟩))] a ∧ Sep w0 B w (blk g4 24 #[.int .i64 g1, .int .i64 g2, .slice A1 g3.length c1] :: fs) ∧ ((gameroomref_WellMay_J1 g1 g3)).bind some = some r) ?_ ?_
  · rintro a w ⟨hF, hS, hm⟩
    unfold gameroomref_WellMay_J1 at hm
    refine seq_cut (fun a w => Fr 34 [] a ∧ Sep w0 B w (fs) ∧ (gameroomref_WellMay_J2).bind some = some r) ?_ ?_
    · rintro a w ⟨hF, hS, hm⟩
      unfold gameroomref_WellMay_J2 at hm
      refine reg [] [] [2] [pl 2 (.bool true)] hF hS Fol (by kernel_rfl) (by kernel_rfl) (by kernel_rfl) ?_ (fun a w hF hS => ?_)
      · exact obs_nil
      refine wp_ret ?_
      have hm : some true = some r := hm
      obtain rfl := Option.some.inj hm
      exact retV (rs := [.tmp 2]) (vs := [.bool true]) hF rfl (rv_t (by kernel_rfl) <| rv_nil) rfl ⟨rfl, hS⟩
    · refine reg [] [] [1, 3] [pl 1 (.pointer (some ⟨g4, 0, none⟩)), pl 3 (.int .i64 0)] hF hS Fol (by kernel_rfl) (by kernel_rfl) (by kernel_rfl) ?_ (fun a w hF hS => ?_)
      · exact obs_nil
      refine wp_block ?_
      refine wp_loop_model (S := Int) (R := (Fl Unit Bool)) (gameroomref_WellMay_L1 g1 g3) (fun x => (gameroomref_WellMay_K1 x).bind some) r (fun (x : Int) a w => Fr 34 [pl 1 (.pointer (some ⟨g4, 0, none⟩)), pl 3 (.int .i64 x)] a ∧ Sep w0 B w (blk g4 24 #[.int .i64 g1, .int .i64 g2, .slice A1 g3.length c1] :: fs)) (assoc_b hm) ⟨hF.weak [1, 3] (by kernel_rfl), hS⟩ ?_
      clear hF hS hm
      rintro nn1 i1 a w ⟨hF, hS⟩ hm
      generalize hφ1 : stK (gameroomref_WellMay_L1 g1 g3) nn1 (fun x => (gameroomref_WellMay_K1 x).bind some) = φ1 at hm
      unfold gameroomref_WellMay_L1 at hm
      dsimp only at hm
      refine seq_cut (fun a w => Fr 34 [pl 1 (.pointer (some ⟨g4, 0, none⟩)), pl 3 (.int .i64 i1)] a ∧ Sep w0 B w (blk g4 24 #[.int .i64 g1, .int .i64 g2, .slice A1 g3.length c1] :: fs) ∧ ((gameroomref_WellMay_J3 g1 g3 i1)).bind φ1 = some r) ?_ ?_
      · rintro a w ⟨hF, hS, hm⟩
        unfold gameroomref_WellMay_J3 at hm
        refine seq_cut (fun a w => Fr 34 [pl 1 (.pointer (some ⟨g4, 0, none⟩)), pl 3 (.int .i64 i1)] a ∧ Sep w0 B w (blk g4 24 #[.int .i64 g1, .int .i64 g2, .slice A1 g3.length c1] :: fs) ∧ ((gameroomref_WellMay_J4 i1)).bind φ1 = some r) ?_ ?_
        · rintro a w ⟨hF, hS, hm⟩
          unfold gameroomref_WellMay_J4 at hm
          refine reg1 [] [] [1, 3] [pl 1 (.pointer (some ⟨g4, 0, none⟩)), pl 3 (.int .i64 (w64 (i1 + 1)))] hF hS Fol (by kernel_rfl) (by kernel_rfl) (by kernel_rfl) ?_ (fun a w hF hS => ?_)
          · exact obs_nil
          refine then_n ?_
          rw [← hφ1] at hm
          exact ⟨(w64 (i1 + 1)), ⟨hF.weak [1, 3] (by kernel_rfl), hS⟩, hm⟩
        · refine wp_block ?_
          obtain ⟨hp1, hm⟩ := asrt_b hm
          obtain ⟨hp2, hm⟩ := asrt_b hm
          refine reg [⟨false, [], vS (Instr.loadAt 22 (.pointer (some ⟨g4, 2, none⟩))), .slice A1 g3.length c1⟩, ⟨true, [], vS (Instr.indexAt 22 (.slice A1 g3.length c1) (.int .i64 i1)), .pointer (some (sAddr A1 i1))⟩, ⟨false, [], vS (Instr.loadAt 3 (.pointer (some (sAddr A1 i1)))), .int .i64 (geti g3 i1)⟩, ⟨false, [(((geti g3 i1) != 0), true)], vS (Instr.loadAt 22 (.pointer (some ⟨g4, 2, none⟩))), .slice A1 g3.length c1⟩, ⟨false, [(((geti g3 i1) != 0), true)], vS (Instr.loadAt 3 (.pointer (some ⟨g4, 0, none⟩))), .int .i64 g1⟩, ⟨true, [(((geti g3 i1) != 0), true)], vS (Instr.indexAt 22 (.slice A1 g3.length c1) (.int .i64 (w64 (i1 + g1)))), .pointer (some (sAddr A1 (w64 (i1 + g1))))⟩, ⟨false, [(((geti g3 i1) != 0), true)], vS (Instr.loadAt 3 (.pointer (some (sAddr A1 (w64 (i1 + g1)))))), .int .i64 (geti g3 (w64 (i1 + g1)))⟩] [none, some (.slice A1 g3.length c1), none, some (.pointer (some (sAddr A1 i1))), some (.int .i64 (geti g3 i1)), none, none, none, some (.slice A1 g3.length c1), none, none, some (.int .i64 g1), none, some (.pointer (some (sAddr A1 (w64 (i1 + g1))))), some (.int .i64 (geti g3 (w64 (i1 + g1)))), none, none] [1, 3, 33] [pl 1 (.pointer (some ⟨g4, 0, none⟩)), pl 3 (.int .i64 i1), pl 33 (.bool (((geti g3 i1) != 0) && ((geti g3 (w64 (i1 + g1))) == 0)))] hF hS Fol (by kernel_rfl) (by kernel_rfl) (by kernel_rfl) ?_ (fun a w hF hS => ?_)
          · exact obs_cons (ob_load Agg22 (fun _ _ hS => (hS.at_ 0 rfl).cell rfl)) <| obs_cons (ob_ix1 (f := (Value.int .i64)) (m := g3) Und22 hi3 hs3 (hr_g3 _ (hS.dropN 1)) rfl (fun _ => hp1)) <| obs_cons (ob_get1 (n := g3.length) (m := g3) (Value.int .i64) (0 : Int) Agg3 (fun _ hS => ⟨_, (hr_g3 _ (hS.dropN 1))⟩) (fun _ hS => rfl) (fun _ => hp1)) <| obs_cons (ob_load Agg22 (fun _ _ hS => (hS.at_ 0 rfl).cell rfl)) <| obs_cons (ob_load Agg3 (fun _ _ hS => (hS.at_ 0 rfl).cell rfl)) <| obs_cons (ob_ix1 (f := (Value.int .i64)) (m := g3) Und22 hi3 hs3 (hr_g3 _ (hS.dropN 1)) rfl (fun hy => hp2 (hy (((geti g3 i1) != 0), true) (by simp)))) <| obs_cons (ob_get1 (n := g3.length) (m := g3) (Value.int .i64) (0 : Int) Agg3 (fun _ hS => ⟨_, (hr_g3 _ (hS.dropN 1))⟩) (fun _ hS => rfl) (fun hy => hp2 (hy (((geti g3 i1) != 0), true) (by simp)))) <| obs_nil
          refine cond_ev (t := 33) (b := ((geti g3 i1) != 0) && ((geti g3 (w64 (i1 + g1))) == 0)) hF (by kernel_rfl) (fun hb => ?_) (fun hb => ?_)
          · replace hm := if_t hm hb
            refine reg [] [] [2] [pl 2 (.bool false)] hF hS Fol (by kernel_rfl) (by kernel_rfl) (by kernel_rfl) ?_ (fun a w hF hS => ?_)
            · exact obs_nil
            refine wp_ret ?_
            refine block_r (then_r (then_r (block_r (then_r ?_))))
            rw [← hφ1] at hm
            replace hm := done_b hm
            unfold gameroomref_WellMay_K1 at hm
            try dsimp only at hm
            have hS := hS.pickN 1 [] (by decide)
            have hm : some false = some r := hm
            obtain rfl := Option.some.inj hm
            exact retV (rs := [.tmp 2]) (vs := [.bool false]) hF rfl (rv_t (by kernel_rfl) <| rv_nil) rfl ⟨rfl, hS⟩
          · replace hm := if_f hm hb
            refine wp_skip ?_
            refine block_n ?_
            refine then_n ?_
            exact ⟨hF.weak [1, 3] (by kernel_rfl), hS, hm⟩
      · refine reg [⟨false, [], vS (Instr.loadAt 3 (.pointer (some ⟨g4, 0, none⟩))), .int .i64 g1⟩, ⟨false, [], vS (Instr.loadAt 22 (.pointer (some ⟨g4, 2, none⟩))), .slice A1 g3.length c1⟩] [none, none, some (.int .i64 g1), none, none, some (.slice A1 g3.length c1), none, none] [1, 3, 14] [pl 1 (.pointer (some ⟨g4, 0, none⟩)), pl 3 (.int .i64 i1), pl 14 (.bool (decide ((w64 (i1 + g1)) < (g3.length : Int))))] hF hS Fol (by kernel_rfl) (by kernel_rfl) (by kernel_rfl) ?_ (fun a w hF hS => ?_)
        · exact obs_cons (ob_load Agg3 (fun _ _ hS => (hS.at_ 0 rfl).cell rfl)) <| obs_cons (ob_load Agg22 (fun _ _ hS => (hS.at_ 0 rfl).cell rfl)) <| obs_nil
        refine cond_ev (t := 14) (b := decide ((w64 (i1 + g1)) < (g3.length : Int))) hF (by kernel_rfl) (fun hb => ?_) (fun hb => ?_)
        · replace hm := if_t hm hb
          refine wp_skip ?_
          refine then_n ?_
          exact ⟨hF.weak [1, 3] (by kernel_rfl), hS, hm⟩
        · replace hm := if_f hm hb
          refine wp_exit ?_
          refine then_e (then_e (block_e (then_n ?_)))
          have hS := hS.pickN 1 [] (by decide)
          rw [← hφ1] at hm
          replace hm := done_b hm
          unfold gameroomref_WellMay_K1 at hm
          try dsimp only at hm
          have hm : (gameroomref_WellMay_J2).bind some = some r := hm
          exact ⟨hF.weak [] (by kernel_rfl), hS, hm⟩
  · obtain ⟨r1, hr1, hm⟩ := call_b hm
    refine reg [⟨false, [], vS (Instr.loadAt 24 (.pointer (some ⟨g4, 0, none⟩))), .agg #[.int .i64 g1, .int .i64 g2, .slice A1 g3.length c1]⟩, ⟨false, [], callFunc 63 #[.agg #[.int .i64 g1, .int .i64 g2, .slice A1 g3.length c1]], .bool r1⟩] [some (.agg #[.int .i64 g1, .int .i64 g2, .slice A1 g3.length c1]), some (.bool r1), none] [1, 6] [pl 1 (.pointer (some ⟨g4, 0, none⟩)), pl 6 (.bool (!r1))] hF hS Fol (by kernel_rfl) (by kernel_rfl) (by kernel_rfl) ?_ (fun a w hF hS => ?_)
    · exact obs_cons (ob_loadA (cs := #[.int .i64 g1, .int .i64 g2, .slice A1 g3.length c1]) (by kernel_rfl) (by kernel_rfl) (fun _ _ hS => (hS.at_ 0 rfl).cellsAt 0 (by rfl))) <| obs_cons (ob_call Try.func63 (by kernel_rfl) rfl (fun _ _ hS => gameroomref_GridMay_w hr1 hS (fun _ hS => (hr_g3 _ (hS.dropN 1))) _hc_g3 rfl)) <| obs_nil
    refine cond_ev (t := 6) (b := !r1) hF (by kernel_rfl) (fun hb => ?_) (fun hb => ?_)
    · replace hm := if_t hm hb
      refine reg [] [] [2] [pl 2 (.bool false)] hF hS Fol (by kernel_rfl) (by kernel_rfl) (by kernel_rfl) ?_ (fun a w hF hS => ?_)
      · exact obs_nil
      refine wp_ret ?_
      refine then_r ?_
      have hS := hS.pickN 1 [] (by decide)
      have hm : some false = some r := hm
      obtain rfl := Option.some.inj hm
      exact retV (rs := [.tmp 2]) (vs := [.bool false]) hF rfl (rv_t (by kernel_rfl) <| rv_nil) rfl ⟨rfl, hS⟩
    · replace hm := if_f hm hb
      refine wp_skip ?_
      refine then_n ?_
      exact ⟨hF.weak [1] (by kernel_rfl), hS, hm⟩

noncomputable def gameroomlaw_noGrid_m (g1 : Int) (g2 : Int) (g3 : List Int) : Option Bool :=
  some (((g1 == 0) && (g2 == 0)) && ((g3.length : Int) == 0))

set_option maxRecDepth 100000 in
set_option maxHeartbeats 4000000 in
theorem gameroomlaw_noGrid_w {g1 : Int} {g2 : Int} {A1 : Option Addr} {c1 : Nat} {n1 : Nat} {g3 : List Int} {r : Bool} {w0 w : World} {B : Nat} {fs : List HP} (hm : gameroomlaw_noGrid_m g1 g2 g3 = some r) (hS : Sep w0 B w (fs)) (hr_g3 : RdF w0 B fs A1 (vI g3)) (_hc_g3 : g3.length ≤ c1) (_hn_g3 : n1 = g3.length) :
    Calls Try.prog 16 #[.agg #[.int .i64 g1, .int .i64 g2, .slice A1 n1 c1]] w fun e w' => e = .returned (.bool r) ∧ Sep w0 B w' (fs) := by
  obtain ⟨i3, hi3, hz3, hs3, hb3⟩ := info_parts Info3
  obtain rfl := _hn_g3
  unfold gameroomlaw_noGrid_m at hm
  replace hm := start_b hm
  refine enter (l := [.agg #[.int .i64 g1, .int .i64 g2, .slice A1 g3.length c1]]) (n := 17) Try.func16 rfl rfl (by simp) (fun a hF => ?_)
  refine seqR ?_
  refine at_do (d := 1) (s := vS (Instr.box 24 (.agg #[.int .i64 g1, .int .i64 g2, .slice A1 g3.length c1]))) (v := .pointer (some ⟨w.heap.size, 0, none⟩)) (w' := w.alloc (.cells #[.int .i64 g1, .int .i64 g2, .slice A1 g3.length c1] 24)) hF (by kernel_rfl) (by kernel_rfl) (by kernel_rfl) (fun a hF => ?_)
  have hS : Sep w0 B (w.alloc (.cells #[.int .i64 g1, .int .i64 g2, .slice A1 g3.length c1] 24)) (blk w.heap.size 24 #[.int .i64 g1, .int .i64 g2, .slice A1 g3.length c1] :: (fs)) := hS.box 24 #[.int .i64 g1, .int .i64 g2, .slice A1 g3.length c1]
  generalize w.heap.size = g4 at hF hS
  generalize w.alloc (.cells #[.int .i64 g1, .int .i64 g2, .slice A1 g3.length c1] 24) = w at hS ⊢
  refine at_run 1 [] [] [1] [pl 1 (.pointer (some ⟨g4, 0, none⟩))] hF hS (by kernel_rfl) (by kernel_rfl) ?_ (fun a w hF hS => ?_)
  · exact obs_nil
  refine at_end [1] [pl 1 (.pointer (some ⟨g4, 0, none⟩))] hF rfl (by kernel_rfl) (fun hF => ?_)
  refine then_n ?_
  refine reg [⟨false, [], vS (Instr.loadAt 3 (.pointer (some ⟨g4, 0, none⟩))), .int .i64 g1⟩, ⟨false, [((g1 == 0), true)], vS (Instr.loadAt 3 (.pointer (some ⟨g4, 1, none⟩))), .int .i64 g2⟩, ⟨false, [((g1 == 0) && (g2 == 0), true)], vS (Instr.loadAt 22 (.pointer (some ⟨g4, 2, none⟩))), .slice A1 g3.length c1⟩] [none, some (.int .i64 g1), none, none, none, some (.int .i64 g2), none, none, none, none, some (.slice A1 g3.length c1), none, none, none, none] [2] [pl 2 (.bool (((g1 == 0) && (g2 == 0)) && ((g3.length : Int) == 0)))] hF hS Fol (by kernel_rfl) (by kernel_rfl) (by kernel_rfl) ?_ (fun a w hF hS => ?_)
  · exact obs_cons (ob_load Agg3 (fun _ _ hS => (hS.at_ 0 rfl).cell rfl)) <| obs_cons (ob_load Agg3 (fun _ _ hS => (hS.at_ 0 rfl).cell rfl)) <| obs_cons (ob_load Agg22 (fun _ _ hS => (hS.at_ 0 rfl).cell rfl)) <| obs_nil
  refine wp_ret ?_
  have hS := hS.pickN 1 [] (by decide)
  have hm : some (((g1 == 0) && (g2 == 0)) && ((g3.length : Int) == 0)) = some r := hm
  obtain rfl := Option.some.inj hm
  exact retV (rs := [.tmp 2]) (vs := [.bool (((g1 == 0) && (g2 == 0)) && ((g3.length : Int) == 0))]) hF rfl (rv_t (by kernel_rfl) <| rv_nil) rfl ⟨rfl, hS⟩

noncomputable def gameroomref_GridMover_J3 (i1 : Int) (n5 : Int) : Option (St (Int × Int) Int) :=
  some (.next (n5, (w64 (i1 + 1))))

noncomputable def gameroomref_GridMover_J4 (g3 : List Int) (i1 : Int) (n4 : Int) : Option (St (Int × Int) Int) :=
  asrt (0 ≤ i1 ∧ i1 < (g3.length : Int)) <| if ((geti g3 i1) == 2) then ((gameroomref_GridMover_J3 i1) (w64 (n4 - 1))) else ((gameroomref_GridMover_J3 i1) n4)

noncomputable def gameroomref_GridMover_J2 (g3 : List Int) (n2 : Int) (i1 : Int) : Option (St (Int × Int) Int) :=
  asrt (0 ≤ i1 ∧ i1 < (g3.length : Int)) <| if ((geti g3 i1) == 1) then ((gameroomref_GridMover_J4 g3 i1) (w64 (n2 + 1))) else ((gameroomref_GridMover_J4 g3 i1) n2)

noncomputable def gameroomref_GridMover_J6 : Option Int :=
  some 0

noncomputable def gameroomref_GridMover_J5 (n3 : Int) : Option Int :=
  if (n3 == 1) then (some 2) else (gameroomref_GridMover_J6)

noncomputable def gameroomref_GridMover_J1 (n3 : Int) : Option Int :=
  if (n3 == 0) then (some 1) else ((gameroomref_GridMover_J5 n3))

noncomputable def gameroomref_GridMover_K1 : Int → Option Int :=
  fun (x : Int) => match x with | n3 => gameroomref_GridMover_J1 n3

noncomputable def gameroomref_GridMover_L1 (g3 : List Int) : (Int × Int) → Option (St (Int × Int) Int) :=
  fun (x : (Int × Int)) => match x with | (n2, i1) => if (decide (i1 < (g3.length : Int))) then ((gameroomref_GridMover_J2 g3 n2 i1)) else (some (.done n2))
end Go.Proofs.Ytogecbgngnjhgaa
