/-
  Models and walks, printed by our own program (wip/gen).
-/
import Derived.Test.YtogecbgngnjhgaaFB
namespace Go.Proofs.Ytogecbgngnjhgaa
open Go Go.GL Go.RowKit




noncomputable def gameroomref_Ints_m (l1 : List Int) : Option (List Int) :=
  asrt ((0 : Int) + (l1.length : Int) ≤ bigN) <| some ([] ++ l1)

set_option maxRecDepth 100000 in
set_option maxHeartbeats 4000000 in
theorem gameroomref_Ints_w {A1 : Option Addr} {c1 : Nat} {n1 : Nat} {l1 : List Int} {r : (List Int)} {w0 w : World} {B : Nat} {fs : List HP} (hm : gameroomref_Ints_m l1 = some r) (hS : Sep w0 B w (fs)) (hr_l1 : RdF w0 B fs A1 (vI l1)) (_hc_l1 : l1.length ≤ c1) (_hn_l1 : n1 = l1.length) :
    Calls Try.prog 58 #[.slice A1 n1 c1] w fun e w' => ∃ v, e = .returned v ∧ ∃ (A3 : Option Addr) (c3 : Nat), v = .slice A3 r.length c3 ∧ Sep w0 B w' (own 3 (.slice A3 r.length c3) (vI r) :: fs) := by
  obtain ⟨i3, hi3, hz3, hs3, hb3⟩ := info_parts Info3
  obtain rfl := _hn_l1
  unfold gameroomref_Ints_m at hm
  replace hm := start_b hm
  refine enter (l := [.slice A1 l1.length c1]) (n := 5) Try.func58 rfl rfl (by simp) (fun a hF => ?_)
  refine reg [] [] [0] [pl 0 (.slice A1 l1.length c1)] hF hS Fol (by kernel_rfl) (by kernel_rfl) (by kernel_rfl) ?_ (fun a w hF hS => ?_)
  · exact obs_nil
  refine seqR ?_
  obtain ⟨hp1, hm⟩ := asrt_b hm
  refine at_run 1 [] [] [3] [pl 3 (.slice A1 l1.length c1)] hF hS (by kernel_rfl) (by kernel_rfl) ?_ (fun a w hF hS => ?_)
  · exact obs_nil
  have hS : Sep w0 B w (own 3 (.slice none 0 0) (vI ([] : List Int)) :: fs) := hS.nil 3
  obtain ⟨A2, c2, w, hrun, hS⟩ := run_app1 (P := Try.prog) (t := 22) (m := ([] : List Int)) (ys := l1) (A2 := A1) (m2 := l1.length) (c2 := c1) (Value.int .i64) (0 : Int) (hS.at_ 0 rfl) (hr_l1 _ (hS.dropN 1)) rfl 22 Und22 hi3 hz3 hs3 (by omega) rfl (fun _ => rfl) hp1
  have hS : Sep w0 B w (own 3 (.slice A2 (([] ++ l1).length) c2) (vI ([] ++ l1)) :: fs) := hS
  refine at_do (d := 4) hF (by kernel_rfl) (by kernel_rfl) hrun (fun a hF => ?_)
  refine at_run 1 [] [] [2] [pl 2 (.slice A2 (([] ++ l1).length) c2)] hF hS (by kernel_rfl) (by kernel_rfl) ?_ (fun a w hF hS => ?_)
  · exact obs_nil
  refine at_end [2] [pl 2 (.slice A2 (([] ++ l1).length) c2)] hF rfl (by kernel_rfl) (fun hF => ?_)
  refine then_n ?_
  refine wp_ret ?_
  have hm : some ([] ++ l1) = some r := hm
  obtain rfl := Option.some.inj hm
  exact retV (rs := [.tmp 2]) (vs := [.slice A2 (([] ++ l1).length) c2]) hF rfl (rv_t (by kernel_rfl) <| rv_nil) rfl ⟨_, rfl, A2, c2, rfl, hS⟩

noncomputable def gameroomref_GridOf_m (g1 : Int) (g2 : Int) (g3 : List Int) : Option (Int × Int × List Int) :=
  (gameroomref_Ints_m g3).bind fun r1 => some (g1, g2, r1)

set_option maxRecDepth 100000 in
set_option maxHeartbeats 4000000 in
theorem gameroomref_GridOf_w {g1 : Int} {g2 : Int} {A1 : Option Addr} {c1 : Nat} {n1 : Nat} {g3 : List Int} {r : (Int × Int × List Int)} {w0 w : World} {B : Nat} {fs : List HP} (hm : gameroomref_GridOf_m g1 g2 g3 = some r) (hS : Sep w0 B w (fs)) (hr_g3 : RdF w0 B fs A1 (vI g3)) (_hc_g3 : g3.length ≤ c1) (_hn_g3 : n1 = g3.length) :
    Calls Try.prog 13 #[.agg #[.int .i64 g1, .int .i64 g2, .slice A1 n1 c1]] w fun e w' => ∃ v, e = .returned v ∧ ∃ (A3 : Option Addr) (c3 : Nat), v = .agg #[.int .i64 r.1, .int .i64 r.2.1, .slice A3 r.2.2.length c3] ∧ Sep w0 B w' (own 3 (.slice A3 r.2.2.length c3) (vI r.2.2) :: fs) := by
  obtain ⟨i3, hi3, hz3, hs3, hb3⟩ := info_parts Info3
  obtain ⟨i22, hi22, hz22, hs22, hb22⟩ := info_parts Info22
  obtain rfl := _hn_g3
  unfold gameroomref_GridOf_m at hm
  replace hm := start_b hm
  refine enter (l := [.agg #[.int .i64 g1, .int .i64 g2, .slice A1 g3.length c1]]) (n := 8) Try.func13 rfl rfl (by simp) (fun a hF => ?_)
  refine seqR ?_
  refine at_do (d := 1) (s := vS (Instr.box 24 (.agg #[.int .i64 g1, .int .i64 g2, .slice A1 g3.length c1]))) (v := .pointer (some ⟨w.heap.size, 0, none⟩)) (w' := w.alloc (.cells #[.int .i64 g1, .int .i64 g2, .slice A1 g3.length c1] 24)) hF (by kernel_rfl) (by kernel_rfl) (by kernel_rfl) (fun a hF => ?_)
  have hS : Sep w0 B (w.alloc (.cells #[.int .i64 g1, .int .i64 g2, .slice A1 g3.length c1] 24)) (blk w.heap.size 24 #[.int .i64 g1, .int .i64 g2, .slice A1 g3.length c1] :: (fs)) := hS.box 24 #[.int .i64 g1, .int .i64 g2, .slice A1 g3.length c1]
  generalize w.heap.size = g4 at hF hS
  generalize w.alloc (.cells #[.int .i64 g1, .int .i64 g2, .slice A1 g3.length c1] 24) = w at hS ⊢
  refine at_do (d := 2) (s := vS (Instr.alloc 24 true (.tuple #[]))) (v := .pointer (some ⟨w.heap.size, 0, none⟩)) (w' := w.alloc (.cells #[.int .i64 0, .int .i64 0, .slice none 0 0] 24)) hF (by kernel_rfl) (by kernel_rfl) (by kernel_rfl) (fun a hF => ?_)
  have hS : Sep w0 B (w.alloc (.cells #[.int .i64 0, .int .i64 0, .slice none 0 0] 24)) (blk w.heap.size 24 #[.int .i64 0, .int .i64 0, .slice none 0 0] :: (blk g4 24 #[.int .i64 g1, .int .i64 g2, .slice A1 g3.length c1] :: fs)) := hS.box 24 #[.int .i64 0, .int .i64 0, .slice none 0 0]
  generalize w.heap.size = g5 at hF hS
  generalize w.alloc (.cells #[.int .i64 0, .int .i64 0, .slice none 0 0] 24) = w at hS ⊢
  refine at_end [1, 2] [pl 1 (.pointer (some ⟨g4, 0, none⟩)), pl 2 (.pointer (some ⟨g5, 0, none⟩))] hF rfl (by kernel_rfl) (fun hF => ?_)
  refine then_n ?_
  refine seqR ?_
  obtain ⟨r1, hr1, hm⟩ := call_b hm
  refine at_run 2 [⟨false, [], vS (Instr.loadAt 22 (.pointer (some ⟨g4, 2, none⟩))), .slice A1 g3.length c1⟩] [none, some (.slice A1 g3.length c1)] [1, 2, 4] [pl 1 (.pointer (some ⟨g4, 0, none⟩)), pl 2 (.pointer (some ⟨g5, 0, none⟩)), pl 4 (.slice A1 g3.length c1)] hF hS (by kernel_rfl) (by kernel_rfl) ?_ (fun a w hF hS => ?_)
  · exact obs_cons (ob_load Agg22 (fun _ _ hS => (hS.at_ 1 rfl).cell rfl)) <| obs_nil
  refine at_call (f := 58) (args := #[.slice A1 g3.length c1]) (d := 5) hF (by kernel_rfl) (by kernel_rfl) Try.func58 (by kernel_rfl) rfl (gameroomref_Ints_w hr1 hS (fun _ hS => (hr_g3 _ (hS.dropN 2))) _hc_g3 rfl) (fun v a w hR hF => ?_)
  clear hS
  obtain ⟨A2, c2, rfl, hS⟩ := hR
  have hS : Sep w0 B w (own 3 (.slice A2 r1.length c2) (vI r1) :: blk g5 24 #[.int .i64 0, .int .i64 0, .slice none 0 0] :: blk g4 24 #[.int .i64 g1, .int .i64 g2, .slice A1 g3.length c1] :: fs) := hS
  refine at_run 1 [] [] [1, 2, 5, 6] [pl 1 (.pointer (some ⟨g4, 0, none⟩)), pl 2 (.pointer (some ⟨g5, 0, none⟩)), pl 5 (.slice A2 r1.length c2), pl 6 (.pointer (some ⟨g4, 2, none⟩))] hF hS (by kernel_rfl) (by kernel_rfl) ?_ (fun a w hF hS => ?_)
  · exact obs_nil
  obtain ⟨w, hrun, hS⟩ := run_put (P := Try.prog) (t := 22) (u := .slice A2 r1.length c2) (i := 2) (hS.at_ 2 rfl) hi22 hs22 rfl (Nat.lt_of_lt_of_eq (Nat.lt_of_succ_le (Nat.le_of_ble_eq_true (by kernel_rfl))) rfl)
  refine at_skip hF (by kernel_rfl) hrun ?_
  have hS : Sep w0 B w (own 3 (.slice A2 r1.length c2) (vI r1) :: blk g5 24 #[.int .i64 0, .int .i64 0, .slice none 0 0] :: blk g4 24 #[.int .i64 g1, .int .i64 g2, .slice A2 r1.length c2] :: fs) := hS
  refine at_end [1, 2] [pl 1 (.pointer (some ⟨g4, 0, none⟩)), pl 2 (.pointer (some ⟨g5, 0, none⟩))] hF rfl (by kernel_rfl) (fun hF => ?_)
  refine then_n ?_
  refine seqR ?_
  refine at_run 1 [⟨false, [], vS (Instr.loadAt 24 (.pointer (some ⟨g4, 0, none⟩))), .agg #[.int .i64 g1, .int .i64 g2, .slice A2 r1.length c2]⟩] [some (.agg #[.int .i64 g1, .int .i64 g2, .slice A2 r1.length c2])] [2, 7] [pl 2 (.pointer (some ⟨g5, 0, none⟩)), pl 7 (.agg #[.int .i64 g1, .int .i64 g2, .slice A2 r1.length c2])] hF hS (by kernel_rfl) (by kernel_rfl) ?_ (fun a w hF hS => ?_)
  · exact obs_cons (ob_loadA (cs := #[.int .i64 g1, .int .i64 g2, .slice A2 r1.length c2]) (by kernel_rfl) (by kernel_rfl) (fun _ _ hS => (hS.at_ 2 rfl).cellsAt 0 (by rfl))) <| obs_nil
  obtain ⟨w, hrun, hS⟩ := run_putA (P := Try.prog) (t := 24) (us := #[.int .i64 g1, .int .i64 g2, .slice A2 r1.length c2]) (o := 0) (hS.at_ 1 rfl) (by kernel_rfl) (all_one (by kernel_rfl)) (Nat.le_of_ble_eq_true (by kernel_rfl))
  refine at_skip hF (by kernel_rfl) hrun ?_
  have hS : Sep w0 B w (own 3 (.slice A2 r1.length c2) (vI r1) :: blk g5 24 #[.int .i64 g1, .int .i64 g2, .slice A2 r1.length c2] :: blk g4 24 #[.int .i64 g1, .int .i64 g2, .slice A2 r1.length c2] :: fs) := hS
  refine at_end [2] [pl 2 (.pointer (some ⟨g5, 0, none⟩))] hF rfl (by kernel_rfl) (fun hF => ?_)
  refine then_n ?_
  refine wp_ret ?_
  have hld0 := run_loadVarA (P := Try.prog) (t := 24) (cs := #[.int .i64 g1, .int .i64 g2, .slice A2 r1.length c2]) (by kernel_rfl) (by kernel_rfl) ((hS.at_ 1 rfl).cellsAt 0 (by rfl))
  have hS := hS.pickN 3 [0] (by decide)
  have hm : some (g1, g2, r1) = some r := hm
  obtain rfl := Option.some.inj hm
  exact retV (rs := [.cell 2 24]) (vs := [.agg #[.int .i64 g1, .int .i64 g2, .slice A2 r1.length c2]]) hF rfl (rv_c (by kernel_rfl) hld0 <| rv_nil) rfl ⟨_, rfl, A2, c2, rfl, hS⟩

noncomputable def rows_May_1_m (c1 : Int) : Option Bool :=
  some ((decide (c1 < 0)) || (decide ((2 : Int) < c1)))

set_option maxRecDepth 100000 in
set_option maxHeartbeats 4000000 in
theorem rows_May_1_w {c1 : Int} {r : Bool} {w0 w : World} {B : Nat} {fs : List HP} (hm : rows_May_1_m c1 = some r) (hS : Sep w0 B w (fs)) :
    Calls Try.prog 132 #[.int .i64 c1] w fun e w' => e = .returned (.bool r) ∧ Sep w0 B w' (fs) := by
  unfold rows_May_1_m at hm
  replace hm := start_b hm
  refine enter (l := [.int .i64 c1]) (n := 9) Try.func132 rfl rfl (by simp) (fun a hF => ?_)
  refine reg [] [] [0] [pl 0 (.int .i64 c1)] hF hS Fol (by kernel_rfl) (by kernel_rfl) (by kernel_rfl) ?_ (fun a w hF hS => ?_)
  · exact obs_nil
  refine reg [] [] [2] [pl 2 (.bool ((decide (c1 < 0)) || (decide ((2 : Int) < c1))))] hF hS Fol (by kernel_rfl) (by kernel_rfl) (by kernel_rfl) ?_ (fun a w hF hS => ?_)
  · exact obs_nil
  refine wp_ret ?_
  have hm : some ((decide (c1 < 0)) || (decide ((2 : Int) < c1))) = some r := hm
  obtain rfl := Option.some.inj hm
  exact retV (rs := [.tmp 2]) (vs := [.bool ((decide (c1 < 0)) || (decide ((2 : Int) < c1)))]) hF rfl (rv_t (by kernel_rfl) <| rv_nil) rfl ⟨rfl, hS⟩

noncomputable def slices_IndexFunc_J3 (z1 : Int) : Option (St Int (Fl Unit Int)) :=
  some (.next (w64 (z1 + 1)))

noncomputable def slices_IndexFunc_J2 (s1 : List Int) (z1 : Int) : Option (St Int (Fl Unit Int)) :=
  asrt (0 ≤ z1 ∧ z1 < (s1.length : Int)) <| (rows_May_1_m (geti s1 z1)).bind fun r1 => if r1 then (some (.done (.ret z1))) else ((slices_IndexFunc_J3 z1))

noncomputable def slices_IndexFunc_J1 : Option Int :=
  some (-1)

noncomputable def slices_IndexFunc_K1 : (Fl Unit Int) → Option Int :=
  fun (x : (Fl Unit Int)) => match x with | .go _ => slices_IndexFunc_J1 | .ret x => some x

noncomputable def slices_IndexFunc_L1 (s1 : List Int) : Int → Option (St Int (Fl Unit Int)) :=
  fun (x : Int) => match x with | z1 => if (decide (z1 < (s1.length : Int))) then ((slices_IndexFunc_J2 s1 z1)) else (some (.done (.go ())))

noncomputable def slices_IndexFunc_m (s1 : List Int) : Option Int :=
  (loop (slices_IndexFunc_L1 s1) 0).bind slices_IndexFunc_K1

set_option maxRecDepth 100000 in
set_option maxHeartbeats 4000000 in
theorem slices_IndexFunc_w {A1 : Option Addr} {c1 : Nat} {n1 : Nat} {s1 : List Int} {r : Int} {w0 w : World} {B : Nat} {fs : List HP} (hm : slices_IndexFunc_m s1 = some r) (hS : Sep w0 B w (fs)) (hr_s1 : RdF w0 B fs A1 (vI s1)) (_hc_s1 : s1.length ≤ c1) (_hn_s1 : n1 = s1.length) :
    Calls Try.prog 123 #[.slice A1 n1 c1, .func (.func 132) #[] #[]] w fun e w' => e = .returned (.int .i64 r) ∧ Sep w0 B w' (fs) := by
  obtain ⟨i3, hi3, hz3, hs3, hb3⟩ := info_parts Info3
  obtain rfl := _hn_s1
  unfold slices_IndexFunc_m at hm
  replace hm := start_b hm
  refine enter (l := [.slice A1 s1.length c1, .func (.func 132) #[] #[]]) (n := 19) Try.func123 rfl rfl (by simp) (fun a hF => ?_)
  refine reg [] [] [0, 1] [pl 0 (.slice A1 s1.length c1), pl 1 (.func (.func 132) #[] #[])] hF hS Fol (by kernel_rfl) (by kernel_rfl) (by kernel_rfl) ?_ (fun a w hF hS => ?_)
  · exact obs_nil
  refine seq_cut (fun a w => Fr 19 [] a ∧ Sep w0 B w (fs) ∧ (slices_IndexFunc_J1).bind some = some r) ?_ ?_
  · rintro a w ⟨hF, hS, hm⟩
    unfold slices_IndexFunc_J1 at hm
    refine reg [] [] [4] [pl 4 (.int .i64 (-1))] hF hS Fol (by kernel_rfl) (by kernel_rfl) (by kernel_rfl) ?_ (fun a w hF hS => ?_)
    · exact obs_nil
    refine wp_ret ?_
    have hm : some (-1) = some r := hm
    obtain rfl := Option.some.inj hm
    exact retV (rs := [.tmp 4]) (vs := [.int .i64 (-1)]) hF rfl (rv_t (by kernel_rfl) <| rv_nil) rfl ⟨rfl, hS⟩
  · refine reg [] [] [0, 1, 7, 8] [pl 0 (.slice A1 s1.length c1), pl 1 (.func (.func 132) #[] #[]), pl 7 (.int .i64 (s1.length : Int)), pl 8 (.int .i64 0)] hF hS Fol (by kernel_rfl) (by kernel_rfl) (by kernel_rfl) ?_ (fun a w hF hS => ?_)
    · exact obs_nil
    refine wp_block ?_
    refine wp_loop_model (S := Int) (R := (Fl Unit Int)) (slices_IndexFunc_L1 s1) (fun x => (slices_IndexFunc_K1 x).bind some) r (fun (x : Int) a w => Fr 19 [pl 0 (.slice A1 s1.length c1), pl 1 (.func (.func 132) #[] #[]), pl 7 (.int .i64 (s1.length : Int)), pl 8 (.int .i64 x)] a ∧ Sep w0 B w (fs)) (assoc_b hm) ⟨hF.weak [0, 1, 7, 8] (by kernel_rfl), hS⟩ ?_
    clear hF hS hm
    rintro nn1 z1 a w ⟨hF, hS⟩ hm
    generalize hφ1 : stK (slices_IndexFunc_L1 s1) nn1 (fun x => (slices_IndexFunc_K1 x).bind some) = φ1 at hm
    unfold slices_IndexFunc_L1 at hm
    dsimp only at hm
    refine reg [] [] [0, 1, 7, 8, 9] [pl 0 (.slice A1 s1.length c1), pl 1 (.func (.func 132) #[] #[]), pl 7 (.int .i64 (s1.length : Int)), pl 8 (.int .i64 z1), pl 9 (.bool (decide (z1 < (s1.length : Int))))] hF hS Fol (by kernel_rfl) (by kernel_rfl) (by kernel_rfl) ?_ (fun a w hF hS => ?_)
    · exact obs_nil
    refine seq_cut (fun a w => Fr 19 [pl 0 (.slice A1 s1.length c1), pl 1 (.func (.func 132) #[] #[]), pl 7 (.int .i64 (s1.length : Int)), pl 8 (.int .i64 z1)] a ∧ Sep w0 B w (fs) ∧ ((slices_IndexFunc_J2 s1 z1)).bind φ1 = some r) ?_ ?_
    · rintro a w ⟨hF, hS, hm⟩
      unfold slices_IndexFunc_J2 at hm
      refine seq_cut (fun a w => Fr 19 [pl 0 (.slice A1 s1.length c1), pl 1 (.func (.func 132) #[] #[]), pl 7 (.int .i64 (s1.length : Int)), pl 8 (.int .i64 z1)] a ∧ Sep w0 B w (fs) ∧ ((slices_IndexFunc_J3 z1)).bind φ1 = some r) ?_ ?_
      · rintro a w ⟨hF, hS, hm⟩
        unfold slices_IndexFunc_J3 at hm
        refine reg1 [] [] [0, 1, 7, 8] [pl 0 (.slice A1 s1.length c1), pl 1 (.func (.func 132) #[] #[]), pl 7 (.int .i64 (s1.length : Int)), pl 8 (.int .i64 (w64 (z1 + 1)))] hF hS Fol (by kernel_rfl) (by kernel_rfl) (by kernel_rfl) ?_ (fun a w hF hS => ?_)
        · exact obs_nil
        refine then_n ?_
        rw [← hφ1] at hm
        exact ⟨(w64 (z1 + 1)), ⟨hF.weak [0, 1, 7, 8] (by kernel_rfl), hS⟩, hm⟩
      · refine wp_block ?_
        refine reg [] [] [0, 1, 5, 7, 8] [pl 0 (.slice A1 s1.length c1), pl 1 (.func (.func 132) #[] #[]), pl 5 (.int .i64 z1), pl 7 (.int .i64 (s1.length : Int)), pl 8 (.int .i64 z1)] hF hS Fol (by kernel_rfl) (by kernel_rfl) (by kernel_rfl) ?_ (fun a w hF hS => ?_)
        · exact obs_nil
        obtain ⟨hp1, hm⟩ := asrt_b hm
        obtain ⟨r1, hr1, hm⟩ := call_b hm
        refine reg [⟨true, [], vS (Instr.indexAt 22 (.slice A1 s1.length c1) (.int .i64 z1)), .pointer (some (sAddr A1 z1))⟩, ⟨false, [], vS (Instr.loadAt 3 (.pointer (some (sAddr A1 z1)))), .int .i64 (geti s1 z1)⟩, ⟨false, [], callFunc 132 #[.int .i64 (geti s1 z1)], .bool r1⟩] [none, none, none, some (.pointer (some (sAddr A1 z1))), some (.int .i64 (geti s1 z1)), some (.bool r1)] [0, 1, 5, 7, 8, 16] [pl 0 (.slice A1 s1.length c1), pl 1 (.func (.func 132) #[] #[]), pl 5 (.int .i64 z1), pl 7 (.int .i64 (s1.length : Int)), pl 8 (.int .i64 z1), pl 16 (.bool r1)] hF hS Fol (by kernel_rfl) (by kernel_rfl) (by kernel_rfl) ?_ (fun a w hF hS => ?_)
        · exact obs_cons (ob_ix1 (f := (Value.int .i64)) (m := s1) Und22 hi3 hs3 (hr_s1 _ (hS.dropN 0)) rfl (fun _ => hp1)) <| obs_cons (ob_get1 (n := s1.length) (m := s1) (Value.int .i64) (0 : Int) Agg3 (fun _ hS => ⟨_, (hr_s1 _ (hS.dropN 0))⟩) (fun _ hS => rfl) (fun _ => hp1)) <| obs_cons (ob_call Try.func132 (by kernel_rfl) rfl (fun _ _ hS => rows_May_1_w hr1 hS )) <| obs_nil
        refine cond_ev (t := 16) (b := r1) hF (by kernel_rfl) (fun hb => ?_) (fun hb => ?_)
        · replace hm := if_t hm hb
          refine reg [] [] [4] [pl 4 (.int .i64 z1)] hF hS Fol (by kernel_rfl) (by kernel_rfl) (by kernel_rfl) ?_ (fun a w hF hS => ?_)
          · exact obs_nil
          refine wp_ret ?_
          refine block_r (then_r (then_r (block_r (then_r ?_))))
          rw [← hφ1] at hm
          replace hm := done_b hm
          unfold slices_IndexFunc_K1 at hm
          try dsimp only at hm
          have hm : some z1 = some r := hm
          obtain rfl := Option.some.inj hm
          exact retV (rs := [.tmp 4]) (vs := [.int .i64 z1]) hF rfl (rv_t (by kernel_rfl) <| rv_nil) rfl ⟨rfl, hS⟩
        · replace hm := if_f hm hb
          refine wp_skip ?_
          refine block_n ?_
          refine then_n ?_
          exact ⟨hF.weak [0, 1, 7, 8] (by kernel_rfl), hS, hm⟩
    · refine cond_ev (t := 9) (b := decide (z1 < (s1.length : Int))) hF (by kernel_rfl) (fun hb => ?_) (fun hb => ?_)
      · replace hm := if_t hm hb
        refine wp_skip ?_
        refine then_n ?_
        exact ⟨hF.weak [0, 1, 7, 8] (by kernel_rfl), hS, hm⟩
      · replace hm := if_f hm hb
        refine wp_exit ?_
        refine then_e (then_e (block_e (then_n ?_)))
        rw [← hφ1] at hm
        replace hm := done_b hm
        unfold slices_IndexFunc_K1 at hm
        try dsimp only at hm
        have hm : (slices_IndexFunc_J1).bind some = some r := hm
        exact ⟨hF.weak [] (by kernel_rfl), hS, hm⟩

noncomputable def slices_ContainsFunc_m (s1 : List Int) : Option Bool :=
  (slices_IndexFunc_m s1).bind fun r1 => some (decide ((0 : Int) ≤ r1))

set_option maxRecDepth 100000 in
set_option maxHeartbeats 4000000 in
theorem slices_ContainsFunc_w {A1 : Option Addr} {c1 : Nat} {n1 : Nat} {s1 : List Int} {r : Bool} {w0 w : World} {B : Nat} {fs : List HP} (hm : slices_ContainsFunc_m s1 = some r) (hS : Sep w0 B w (fs)) (hr_s1 : RdF w0 B fs A1 (vI s1)) (_hc_s1 : s1.length ≤ c1) (_hn_s1 : n1 = s1.length) :
    Calls Try.prog 94 #[.slice A1 n1 c1, .func (.func 132) #[] #[]] w fun e w' => e = .returned (.bool r) ∧ Sep w0 B w' (fs) := by
  obtain ⟨i3, hi3, hz3, hs3, hb3⟩ := info_parts Info3
  obtain rfl := _hn_s1
  unfold slices_ContainsFunc_m at hm
  replace hm := start_b hm
  refine enter (l := [.slice A1 s1.length c1, .func (.func 132) #[] #[]]) (n := 9) Try.func94 rfl rfl (by simp) (fun a hF => ?_)
  refine reg [] [] [0, 1] [pl 0 (.slice A1 s1.length c1), pl 1 (.func (.func 132) #[] #[])] hF hS Fol (by kernel_rfl) (by kernel_rfl) (by kernel_rfl) ?_ (fun a w hF hS => ?_)
  · exact obs_nil
  obtain ⟨r1, hr1, hm⟩ := call_b hm
  refine reg [⟨false, [], callFunc 123 #[.slice A1 s1.length c1, .func (.func 132) #[] #[]], .int .i64 r1⟩] [none, none, some (.int .i64 r1), none, none] [4] [pl 4 (.bool (decide ((0 : Int) ≤ r1)))] hF hS Fol (by kernel_rfl) (by kernel_rfl) (by kernel_rfl) ?_ (fun a w hF hS => ?_)
  · exact obs_cons (ob_call Try.func123 (by kernel_rfl) rfl (fun _ _ hS => slices_IndexFunc_w hr1 hS (fun _ hS => (hr_s1 _ (hS.dropN 0))) _hc_s1 rfl)) <| obs_nil
  refine wp_ret ?_
  have hm : some (decide ((0 : Int) ≤ r1)) = some r := hm
  obtain rfl := Option.some.inj hm
  exact retV (rs := [.tmp 4]) (vs := [.bool (decide ((0 : Int) ≤ r1))]) hF rfl (rv_t (by kernel_rfl) <| rv_nil) rfl ⟨rfl, hS⟩

noncomputable def rows_May_m (g1 : Int) (g2 : Int) (g3 : List Int) : Option Bool :=
  ((if (((((decide ((1 : Int) ≤ g1)) && (decide (g1 ≤ 10))) && (decide ((1 : Int) ≤ g2))) && (decide (g2 ≤ 10))) && ((g3.length : Int) == (w64 (g1 * g2)))) then slices_ContainsFunc_m g3 else some false)).bind fun r1 => some ((((((decide ((1 : Int) ≤ g1)) && (decide (g1 ≤ 10))) && (decide ((1 : Int) ≤ g2))) && (decide (g2 ≤ 10))) && ((g3.length : Int) == (w64 (g1 * g2)))) && (!r1))

set_option maxRecDepth 100000 in
set_option maxHeartbeats 4000000 in
theorem rows_May_w {g1 : Int} {g2 : Int} {A1 : Option Addr} {c1 : Nat} {n1 : Nat} {g3 : List Int} {r : Bool} {w0 w : World} {B : Nat} {fs : List HP} (hm : rows_May_m g1 g2 g3 = some r) (hS : Sep w0 B w (fs)) (hr_g3 : RdF w0 B fs A1 (vI g3)) (_hc_g3 : g3.length ≤ c1) (_hn_g3 : n1 = g3.length) :
    Calls Try.prog 111 #[.agg #[.int .i64 g1, .int .i64 g2, .slice A1 n1 c1]] w fun e w' => e = .returned (.bool r) ∧ Sep w0 B w' (fs) := by
  obtain ⟨i3, hi3, hz3, hs3, hb3⟩ := info_parts Info3
  obtain rfl := _hn_g3
  unfold rows_May_m at hm
  replace hm := start_b hm
  refine enter (l := [.agg #[.int .i64 g1, .int .i64 g2, .slice A1 g3.length c1]]) (n := 38) Try.func111 rfl rfl (by simp) (fun a hF => ?_)
  refine seqR ?_
  refine at_do (d := 1) (s := vS (Instr.box 24 (.agg #[.int .i64 g1, .int .i64 g2, .slice A1 g3.length c1]))) (v := .pointer (some ⟨w.heap.size, 0, none⟩)) (w' := w.alloc (.cells #[.int .i64 g1, .int .i64 g2, .slice A1 g3.length c1] 24)) hF (by kernel_rfl) (by kernel_rfl) (by kernel_rfl) (fun a hF => ?_)
  have hS : Sep w0 B (w.alloc (.cells #[.int .i64 g1, .int .i64 g2, .slice A1 g3.length c1] 24)) (blk w.heap.size 24 #[.int .i64 g1, .int .i64 g2, .slice A1 g3.length c1] :: (fs)) := hS.box 24 #[.int .i64 g1, .int .i64 g2, .slice A1 g3.length c1]
  generalize w.heap.size = g4 at hF hS
  generalize w.alloc (.cells #[.int .i64 g1, .int .i64 g2, .slice A1 g3.length c1] 24) = w at hS ⊢
  refine at_run 1 [] [] [1] [pl 1 (.pointer (some ⟨g4, 0, none⟩))] hF hS (by kernel_rfl) (by kernel_rfl) ?_ (fun a w hF hS => ?_)
  · exact obs_nil
  refine at_end [1] [pl 1 (.pointer (some ⟨g4, 0, none⟩))] hF rfl (by kernel_rfl) (fun hF => ?_)
  refine then_n ?_
  obtain ⟨r1, hr1, hm⟩ := call_b hm
  refine reg [⟨false, [], vS (Instr.loadAt 3 (.pointer (some ⟨g4, 0, none⟩))), .int .i64 g1⟩, ⟨false, [(decide ((1 : Int) ≤ g1), true)], vS (Instr.loadAt 3 (.pointer (some ⟨g4, 0, none⟩))), .int .i64 g1⟩, ⟨false, [((decide ((1 : Int) ≤ g1)) && (decide (g1 ≤ 10)), true)], vS (Instr.loadAt 3 (.pointer (some ⟨g4, 1, none⟩))), .int .i64 g2⟩, ⟨false, [(((decide ((1 : Int) ≤ g1)) && (decide (g1 ≤ 10))) && (decide ((1 : Int) ≤ g2)), true)], vS (Instr.loadAt 3 (.pointer (some ⟨g4, 1, none⟩))), .int .i64 g2⟩, ⟨false, [((((decide ((1 : Int) ≤ g1)) && (decide (g1 ≤ 10))) && (decide ((1 : Int) ≤ g2))) && (decide (g2 ≤ 10)), true)], vS (Instr.loadAt 22 (.pointer (some ⟨g4, 2, none⟩))), .slice A1 g3.length c1⟩, ⟨false, [((((decide ((1 : Int) ≤ g1)) && (decide (g1 ≤ 10))) && (decide ((1 : Int) ≤ g2))) && (decide (g2 ≤ 10)), true)], vS (Instr.loadAt 3 (.pointer (some ⟨g4, 0, none⟩))), .int .i64 g1⟩, ⟨false, [((((decide ((1 : Int) ≤ g1)) && (decide (g1 ≤ 10))) && (decide ((1 : Int) ≤ g2))) && (decide (g2 ≤ 10)), true)], vS (Instr.loadAt 3 (.pointer (some ⟨g4, 1, none⟩))), .int .i64 g2⟩, ⟨false, [(((((decide ((1 : Int) ≤ g1)) && (decide (g1 ≤ 10))) && (decide ((1 : Int) ≤ g2))) && (decide (g2 ≤ 10))) && ((g3.length : Int) == (w64 (g1 * g2))), true)], vS (Instr.loadAt 22 (.pointer (some ⟨g4, 2, none⟩))), .slice A1 g3.length c1⟩, ⟨false, [(((((decide ((1 : Int) ≤ g1)) && (decide (g1 ≤ 10))) && (decide ((1 : Int) ≤ g2))) && (decide (g2 ≤ 10))) && ((g3.length : Int) == (w64 (g1 * g2))), true)], callFunc 94 #[.slice A1 g3.length c1, .func (.func 132) #[] #[]], .bool r1⟩] [none, some (.int .i64 g1), none, none, none, some (.int .i64 g1), none, none, none, none, some (.int .i64 g2), none, none, none, none, some (.int .i64 g2), none, none, none, none, some (.slice A1 g3.length c1), none, none, some (.int .i64 g1), none, some (.int .i64 g2), none, none, none, none, none, some (.slice A1 g3.length c1), some (.bool r1), none, none, none] [2] [pl 2 (.bool ((((((decide ((1 : Int) ≤ g1)) && (decide (g1 ≤ 10))) && (decide ((1 : Int) ≤ g2))) && (decide (g2 ≤ 10))) && ((g3.length : Int) == (w64 (g1 * g2)))) && (!r1)))] hF hS Fol (by kernel_rfl) (by kernel_rfl) (by kernel_rfl) ?_ (fun a w hF hS => ?_)
  · exact obs_cons (ob_load Agg3 (fun _ _ hS => (hS.at_ 0 rfl).cell rfl)) <| obs_cons (ob_load Agg3 (fun _ _ hS => (hS.at_ 0 rfl).cell rfl)) <| obs_cons (ob_load Agg3 (fun _ _ hS => (hS.at_ 0 rfl).cell rfl)) <| obs_cons (ob_load Agg3 (fun _ _ hS => (hS.at_ 0 rfl).cell rfl)) <| obs_cons (ob_load Agg22 (fun _ _ hS => (hS.at_ 0 rfl).cell rfl)) <| obs_cons (ob_load Agg3 (fun _ _ hS => (hS.at_ 0 rfl).cell rfl)) <| obs_cons (ob_load Agg3 (fun _ _ hS => (hS.at_ 0 rfl).cell rfl)) <| obs_cons (ob_load Agg22 (fun _ _ hS => (hS.at_ 0 rfl).cell rfl)) <| obs_cons (ob_call Try.func94 (by kernel_rfl) rfl (fun hy _ hS => slices_ContainsFunc_w (ite_some hr1 (by rw [show (((((decide ((1 : Int) ≤ g1)) && (decide (g1 ≤ 10))) && (decide ((1 : Int) ≤ g2))) && (decide (g2 ≤ 10))) && ((g3.length : Int) == (w64 (g1 * g2)))) = true from hy (((((decide ((1 : Int) ≤ g1)) && (decide (g1 ≤ 10))) && (decide ((1 : Int) ≤ g2))) && (decide (g2 ≤ 10))) && ((g3.length : Int) == (w64 (g1 * g2))), true) (by simp)]; try rfl)) hS (fun _ hS => (hr_g3 _ (hS.dropN 1))) _hc_g3 rfl)) <| obs_nil
  refine wp_ret ?_
  have hS := hS.pickN 1 [] (by decide)
  have hm : some ((((((decide ((1 : Int) ≤ g1)) && (decide (g1 ≤ 10))) && (decide ((1 : Int) ≤ g2))) && (decide (g2 ≤ 10))) && ((g3.length : Int) == (w64 (g1 * g2)))) && (!r1)) = some r := hm
  obtain rfl := Option.some.inj hm
  exact retV (rs := [.tmp 2]) (vs := [.bool ((((((decide ((1 : Int) ≤ g1)) && (decide (g1 ≤ 10))) && (decide ((1 : Int) ≤ g2))) && (decide (g2 ≤ 10))) && ((g3.length : Int) == (w64 (g1 * g2)))) && (!r1))]) hF rfl (rv_t (by kernel_rfl) <| rv_nil) rfl ⟨rfl, hS⟩

noncomputable def othello_odd_m (n1 : Int) : Option Bool :=
  some (((decide (n1 < 4)) || (decide ((8 : Int) < n1))) || ((bAnd n1 1) == 1))

set_option maxRecDepth 100000 in
set_option maxHeartbeats 4000000 in
theorem othello_odd_w {n1 : Int} {r : Bool} {w0 w : World} {B : Nat} {fs : List HP} (hm : othello_odd_m n1 = some r) (hS : Sep w0 B w (fs)) :
    Calls Try.prog 55 #[.int .i64 n1] w fun e w' => e = .returned (.bool r) ∧ Sep w0 B w' (fs) := by
  unfold othello_odd_m at hm
  replace hm := start_b hm
  refine enter (l := [.int .i64 n1]) (n := 14) Try.func55 rfl rfl (by simp) (fun a hF => ?_)
  refine reg [] [] [0] [pl 0 (.int .i64 n1)] hF hS Fol (by kernel_rfl) (by kernel_rfl) (by kernel_rfl) ?_ (fun a w hF hS => ?_)
  · exact obs_nil
  refine reg [] [] [2] [pl 2 (.bool (((decide (n1 < 4)) || (decide ((8 : Int) < n1))) || ((bAnd n1 1) == 1)))] hF hS Fol (by kernel_rfl) (by kernel_rfl) (by kernel_rfl) ?_ (fun a w hF hS => ?_)
  · exact obs_nil
  refine wp_ret ?_
  have hm : some (((decide (n1 < 4)) || (decide ((8 : Int) < n1))) || ((bAnd n1 1) == 1)) = some r := hm
  obtain rfl := Option.some.inj hm
  exact retV (rs := [.tmp 2]) (vs := [.bool (((decide (n1 < 4)) || (decide ((8 : Int) < n1))) || ((bAnd n1 1) == 1))]) hF rfl (rv_t (by kernel_rfl) <| rv_nil) rfl ⟨rfl, hS⟩

noncomputable def othello_check_J1 : Option Int :=
  some 0

noncomputable def othello_check_m (g1 : Int) (g2 : Int) (g3 : List Int) (who1 : Int) : Option Int :=
  (rows_May_m g1 g2 g3).bind fun r1 => ((if (!(!r1)) then othello_odd_m g1 else some false)).bind fun r2 => ((if (!((!r1) || r2)) then othello_odd_m g2 else some false)).bind fun r3 => if (((!r1) || r2) || r3) then (some 12) else (if ((who1 != 1) && (who1 != 2)) then (some 4) else (othello_check_J1))

set_option maxRecDepth 100000 in
set_option maxHeartbeats 4000000 in
theorem othello_check_w {g1 : Int} {g2 : Int} {A1 : Option Addr} {c1 : Nat} {n1 : Nat} {g3 : List Int} {who1 : Int} {r : Int} {w0 w : World} {B : Nat} {fs : List HP} (hm : othello_check_m g1 g2 g3 who1 = some r) (hS : Sep w0 B w (fs)) (hr_g3 : RdF w0 B fs A1 (vI g3)) (_hc_g3 : g3.length ≤ c1) (_hn_g3 : n1 = g3.length) :
    Calls Try.prog 56 #[.agg #[.int .i64 g1, .int .i64 g2, .slice A1 n1 c1], .int .i64 who1] w fun e w' => e = .returned (.int .i64 r) ∧ Sep w0 B w' (fs) := by
  obtain ⟨i3, hi3, hz3, hs3, hb3⟩ := info_parts Info3
  obtain rfl := _hn_g3
  unfold othello_check_m at hm
  replace hm := start_b hm
  refine enter (l := [.agg #[.int .i64 g1, .int .i64 g2, .slice A1 g3.length c1], .int .i64 who1]) (n := 26) Try.func56 rfl rfl (by simp) (fun a hF => ?_)
  refine seqR ?_
  refine at_do (d := 2) (s := vS (Instr.box 24 (.agg #[.int .i64 g1, .int .i64 g2, .slice A1 g3.length c1]))) (v := .pointer (some ⟨w.heap.size, 0, none⟩)) (w' := w.alloc (.cells #[.int .i64 g1, .int .i64 g2, .slice A1 g3.length c1] 24)) hF (by kernel_rfl) (by kernel_rfl) (by kernel_rfl) (fun a hF => ?_)
  have hS : Sep w0 B (w.alloc (.cells #[.int .i64 g1, .int .i64 g2, .slice A1 g3.length c1] 24)) (blk w.heap.size 24 #[.int .i64 g1, .int .i64 g2, .slice A1 g3.length c1] :: (fs)) := hS.box 24 #[.int .i64 g1, .int .i64 g2, .slice A1 g3.length c1]
  generalize w.heap.size = g4 at hF hS
  generalize w.alloc (.cells #[.int .i64 g1, .int .i64 g2, .slice A1 g3.length c1] 24) = w at hS ⊢
  refine at_run 1 [] [] [1, 2] [pl 1 (.int .i64 who1), pl 2 (.pointer (some ⟨g4, 0, none⟩))] hF hS (by kernel_rfl) (by kernel_rfl) ?_ (fun a w hF hS => ?_)
  · exact obs_nil
  refine at_end [1, 2] [pl 1 (.int .i64 who1), pl 2 (.pointer (some ⟨g4, 0, none⟩))] hF rfl (by kernel_rfl) (fun hF => ?_)
  refine then_n ?_
  refine seq_cut (fun a w => Fr 26 [] a ∧ Sep w0 B w (fs) ∧ (othello_check_J1).bind some = some r) ?_ ?_
  · rintro a w ⟨hF, hS, hm⟩
    unfold othello_check_J1 at hm
    refine reg [] [] [4] [pl 4 (.int .i64 0)] hF hS Fol (by kernel_rfl) (by kernel_rfl) (by kernel_rfl) ?_ (fun a w hF hS => ?_)
    · exact obs_nil
    refine wp_ret ?_
    have hm : some 0 = some r := hm
    obtain rfl := Option.some.inj hm
    exact retV (rs := [.tmp 4]) (vs := [.int .i64 0]) hF rfl (rv_t (by kernel_rfl) <| rv_nil) rfl ⟨rfl, hS⟩
  · refine wp_block ?_
    obtain ⟨r1, hr1, hm⟩ := call_b hm
    obtain ⟨r2, hr2, hm⟩ := call_b hm
    obtain ⟨r3, hr3, hm⟩ := call_b hm
    refine reg [⟨false, [], vS (Instr.loadAt 24 (.pointer (some ⟨g4, 0, none⟩))), .agg #[.int .i64 g1, .int .i64 g2, .slice A1 g3.length c1]⟩, ⟨false, [], callFunc 111 #[.agg #[.int .i64 g1, .int .i64 g2, .slice A1 g3.length c1]], .bool r1⟩, ⟨false, [(!r1, false)], vS (Instr.loadAt 3 (.pointer (some ⟨g4, 0, none⟩))), .int .i64 g1⟩, ⟨false, [(!r1, false)], callFunc 55 #[.int .i64 g1], .bool r2⟩, ⟨false, [((!r1) || r2, false)], vS (Instr.loadAt 3 (.pointer (some ⟨g4, 1, none⟩))), .int .i64 g2⟩, ⟨false, [((!r1) || r2, false)], callFunc 55 #[.int .i64 g2], .bool r3⟩] [some (.agg #[.int .i64 g1, .int .i64 g2, .slice A1 g3.length c1]), some (.bool r1), none, none, none, some (.int .i64 g1), some (.bool r2), none, none, none, some (.int .i64 g2), some (.bool r3), none, none] [1, 5] [pl 1 (.int .i64 who1), pl 5 (.bool (((!r1) || r2) || r3))] hF hS Fol (by kernel_rfl) (by kernel_rfl) (by kernel_rfl) ?_ (fun a w hF hS => ?_)
    · exact obs_cons (ob_loadA (cs := #[.int .i64 g1, .int .i64 g2, .slice A1 g3.length c1]) (by kernel_rfl) (by kernel_rfl) (fun _ _ hS => (hS.at_ 0 rfl).cellsAt 0 (by rfl))) <| obs_cons (ob_call Try.func111 (by kernel_rfl) rfl (fun _ _ hS => rows_May_w hr1 hS (fun _ hS => (hr_g3 _ (hS.dropN 1))) _hc_g3 rfl)) <| obs_cons (ob_load Agg3 (fun _ _ hS => (hS.at_ 0 rfl).cell rfl)) <| obs_cons (ob_call Try.func55 (by kernel_rfl) rfl (fun hy _ hS => othello_odd_w (ite_some hr2 (by rw [show (!r1) = false from hy (!r1, false) (by simp)]; try rfl)) hS )) <| obs_cons (ob_load Agg3 (fun _ _ hS => (hS.at_ 0 rfl).cell rfl)) <| obs_cons (ob_call Try.func55 (by kernel_rfl) rfl (fun hy _ hS => othello_odd_w (ite_some hr3 (by rw [show ((!r1) || r2) = false from hy ((!r1) || r2, false) (by simp)]; try rfl)) hS )) <| obs_nil
    refine cond_ev (t := 5) (b := ((!r1) || r2) || r3) hF (by kernel_rfl) (fun hb => ?_) (fun hb => ?_)
    · replace hm := if_t hm hb
      refine reg [] [] [4] [pl 4 (.int .i64 12)] hF hS Fol (by kernel_rfl) (by kernel_rfl) (by kernel_rfl) ?_ (fun a w hF hS => ?_)
      · exact obs_nil
      refine wp_ret ?_
      refine block_r (then_r ?_)
      have hS := hS.pickN 1 [] (by decide)
      have hm : some 12 = some r := hm
      obtain rfl := Option.some.inj hm
      exact retV (rs := [.tmp 4]) (vs := [.int .i64 12]) hF rfl (rv_t (by kernel_rfl) <| rv_nil) rfl ⟨rfl, hS⟩
    · replace hm := if_f hm hb
      refine reg [] [] [19] [pl 19 (.bool ((who1 != 1) && (who1 != 2)))] hF hS Fol (by kernel_rfl) (by kernel_rfl) (by kernel_rfl) ?_ (fun a w hF hS => ?_)
      · exact obs_nil
      refine cond_ev (t := 19) (b := (who1 != 1) && (who1 != 2)) hF (by kernel_rfl) (fun hb => ?_) (fun hb => ?_)
      · replace hm := if_t hm hb
        refine reg [] [] [4] [pl 4 (.int .i64 4)] hF hS Fol (by kernel_rfl) (by kernel_rfl) (by kernel_rfl) ?_ (fun a w hF hS => ?_)
        · exact obs_nil
        refine wp_ret ?_
        refine block_r (then_r ?_)
        have hS := hS.pickN 1 [] (by decide)
        have hm : some 4 = some r := hm
        obtain rfl := Option.some.inj hm
        exact retV (rs := [.tmp 4]) (vs := [.int .i64 4]) hF rfl (rv_t (by kernel_rfl) <| rv_nil) rfl ⟨rfl, hS⟩
      · replace hm := if_f hm hb
        refine wp_skip ?_
        refine block_n ?_
        refine then_n ?_
        have hS := hS.pickN 1 [] (by decide)
        exact ⟨hF.weak [] (by kernel_rfl), hS, hm⟩

noncomputable def othello_ways_m : Option (List Int) :=
  some ([1, 0, 1, 1, 0, 1, (-1), 1, (-1), 0, (-1), (-1), 0, (-1), 1, (-1)] : List Int)

set_option maxRecDepth 100000 in
set_option maxHeartbeats 4000000 in
theorem othello_ways_w  {r : (List Int)} {w0 w : World} {B : Nat} {fs : List HP} (hm : othello_ways_m = some r) (hS : Sep w0 B w (fs)) :
    Calls Try.prog 112 #[] w fun e w' => e = .returned (.agg (List.toArray (([] : List Value) ++ (arr1 (Value.int .i64) (0 : Int) 16 r ++ ([] : List Value))))) ∧ Sep w0 B w' (fs) := by
  unfold othello_ways_m at hm
  replace hm := start_b hm
  refine enter (l := []) (n := 10) Try.func112 rfl rfl (by simp) (fun a hF => ?_)
  refine seqR ?_
  refine at_do (d := 0) (s := vS (Instr.alloc 125 true (.tuple #[]))) (v := .pointer (some ⟨w.heap.size, 0, none⟩)) (w' := w.alloc (.cells (List.toArray (([] : List Value) ++ (arr1 (Value.int .i64) (0 : Int) 16 (List.replicate 16 (0 : Int)) ++ ([] : List Value)))) 125)) hF (by kernel_rfl) (by kernel_rfl) (by kernel_rfl) (fun a hF => ?_)
  have hS : Sep w0 B (w.alloc (.cells (List.toArray (([] : List Value) ++ (arr1 (Value.int .i64) (0 : Int) 16 (List.replicate 16 (0 : Int)) ++ ([] : List Value)))) 125)) (blk w.heap.size 125 (List.toArray (([] : List Value) ++ (arr1 (Value.int .i64) (0 : Int) 16 (List.replicate 16 (0 : Int)) ++ ([] : List Value)))) :: (fs)) := hS.box 125 (List.toArray (([] : List Value) ++ (arr1 (Value.int .i64) (0 : Int) 16 (List.replicate 16 (0 : Int)) ++ ([] : List Value))))
  generalize w.heap.size = g1 at hF hS
  generalize w.alloc (.cells (List.toArray (([] : List Value) ++ (arr1 (Value.int .i64) (0 : Int) 16 (List.replicate 16 (0 : Int)) ++ ([] : List Value)))) 125) = w at hS ⊢
  refine at_end [0] [pl 0 (.pointer (some ⟨g1, 0, none⟩))] hF rfl (by kernel_rfl) (fun hF => ?_)
  refine then_n ?_
  refine seqR ?_
  refine at_run 9 [] [] [0, 9] [pl 0 (.pointer (some ⟨g1, 0, none⟩)), pl 9 (.agg (List.toArray (([] : List Value) ++ (arr1 (Value.int .i64) (0 : Int) 16 ([1, 0, 1, 1, 0, 1, (-1), 1, (-1), 0, (-1), (-1), 0, (-1), 1, (-1)] : List Int) ++ ([] : List Value)))))] hF hS (by kernel_rfl) (by kernel_rfl) ?_ (fun a w hF hS => ?_)
  · exact obs_nil
  obtain ⟨w, hrun, hS⟩ := run_putA (P := Try.prog) (t := 125) (us := (List.toArray (([] : List Value) ++ (arr1 (Value.int .i64) (0 : Int) 16 ([1, 0, 1, 1, 0, 1, (-1), 1, (-1), 0, (-1), (-1), 0, (-1), 1, (-1)] : List Int) ++ ([] : List Value))))) (o := 0) (hS.at_ 0 rfl) (by kernel_rfl) (all_one (by kernel_rfl)) (Nat.le_of_ble_eq_true (by kernel_rfl))
  refine at_skip hF (by kernel_rfl) hrun ?_
  have hS : Sep w0 B w (blk g1 125 (List.toArray (([] : List Value) ++ (arr1 (Value.int .i64) (0 : Int) 16 ([1, 0, 1, 1, 0, 1, (-1), 1, (-1), 0, (-1), (-1), 0, (-1), 1, (-1)] : List Int) ++ ([] : List Value)))) :: fs) := hS
  refine at_end [0] [pl 0 (.pointer (some ⟨g1, 0, none⟩))] hF rfl (by kernel_rfl) (fun hF => ?_)
  refine then_n ?_
  refine wp_ret ?_
  have hld0 := run_loadVarA (P := Try.prog) (t := 125) (cs := (List.toArray (([] : List Value) ++ (arr1 (Value.int .i64) (0 : Int) 16 ([1, 0, 1, 1, 0, 1, (-1), 1, (-1), 0, (-1), (-1), 0, (-1), 1, (-1)] : List Int) ++ ([] : List Value))))) (by kernel_rfl) (by kernel_rfl) ((hS.at_ 0 rfl).cellsAt 0 (by rfl))
  have hS := hS.pickN 1 [] (by decide)
  have hm : some ([1, 0, 1, 1, 0, 1, (-1), 1, (-1), 0, (-1), (-1), 0, (-1), 1, (-1)] : List Int) = some r := hm
  obtain rfl := Option.some.inj hm
  exact retV (rs := [.cell 0 125]) (vs := [.agg (List.toArray (([] : List Value) ++ (arr1 (Value.int .i64) (0 : Int) 16 ([1, 0, 1, 1, 0, 1, (-1), 1, (-1), 0, (-1), (-1), 0, (-1), 1, (-1)] : List Int) ++ ([] : List Value))))]) hF rfl (rv_c (by kernel_rfl) hld0 <| rv_nil) rfl ⟨rfl, hS⟩

noncomputable def othello_turned_J7 (l4 : List Int) : Option (St (List Int × Int × Int) (List Int)) :=
  some (.done l4)

noncomputable def othello_turned_J6 (g1 : Int) (g3 : List Int) (who1 : Int) (r1 : (List Int)) (l1 : List Int) (z1 : Int) (line1 : List Int) (x1 : Int) (y1 : Int) : Option (St (List Int × Int × Int) (List Int)) :=
  asrt (0 ≤ (w64 ((w64 ((w64 (y1 + (geti r1 (z1 * 2 + 1)))) * g1)) + (w64 (x1 + (geti r1 (z1 * 2)))))) ∧ (w64 ((w64 ((w64 (y1 + (geti r1 (z1 * 2 + 1)))) * g1)) + (w64 (x1 + (geti r1 (z1 * 2)))))) < (g3.length : Int)) <| if ((geti g3 (w64 ((w64 ((w64 (y1 + (geti r1 (z1 * 2 + 1)))) * g1)) + (w64 (x1 + (geti r1 (z1 * 2))))))) == who1) then (asrt ((l1.length : Int) + (line1.length : Int) ≤ bigN) <| othello_turned_J7 (l1 ++ line1)) else (othello_turned_J7 l1)

noncomputable def othello_turned_J5 (g1 : Int) (g3 : List Int) (who1 : Int) (r1 : (List Int)) (l1 : List Int) (z1 : Int) (line1 : List Int) (x1 : Int) (y1 : Int) : Option (St (List Int × Int × Int) (List Int)) :=
  asrt (0 ≤ (w64 ((w64 ((w64 (y1 + (geti r1 (z1 * 2 + 1)))) * g1)) + (w64 (x1 + (geti r1 (z1 * 2)))))) ∧ (w64 ((w64 ((w64 (y1 + (geti r1 (z1 * 2 + 1)))) * g1)) + (w64 (x1 + (geti r1 (z1 * 2)))))) < (g3.length : Int)) <| if ((geti g3 (w64 ((w64 ((w64 (y1 + (geti r1 (z1 * 2 + 1)))) * g1)) + (w64 (x1 + (geti r1 (z1 * 2))))))) == (w64 (3 - who1))) then (asrt ((line1.length : Int) + 1 ≤ bigN) <| some (.next ((line1 ++ ([w64 ((w64 ((w64 (y1 + (geti r1 (z1 * 2 + 1)))) * g1)) + (w64 (x1 + (geti r1 (z1 * 2)))))] : List Int)), (w64 (x1 + (geti r1 (z1 * 2)))), (w64 (y1 + (geti r1 (z1 * 2 + 1))))))) else ((othello_turned_J6 g1 g3 who1 r1 l1 z1 line1 x1 y1))

noncomputable def othello_turned_J4 (z1 : Int) (l3 : List Int) : Option (St (List Int × Int) (List Int)) :=
  some (.next (l3, (w64 (z1 + 1))))

noncomputable def othello_turned_K2 (z1 : Int) : (List Int) → Option (St (List Int × Int) (List Int)) :=
  fun (x : (List Int)) => match x with | l3 => (othello_turned_J4 z1) l3

noncomputable def othello_turned_L2 (g1 : Int) (g2 : Int) (g3 : List Int) (who1 : Int) (r1 : (List Int)) (l1 : List Int) (z1 : Int) : (List Int × Int × Int) → Option (St (List Int × Int × Int) (List Int)) :=
  fun (x : (List Int × Int × Int)) => match x with | (line1, x1, y1) => if ((((decide ((w64 (x1 + (geti r1 (z1 * 2)))) < 0)) || (decide (g1 ≤ (w64 (x1 + (geti r1 (z1 * 2))))))) || (decide ((w64 (y1 + (geti r1 (z1 * 2 + 1)))) < 0))) || (decide (g2 ≤ (w64 (y1 + (geti r1 (z1 * 2 + 1))))))) then (some (.done l1)) else ((othello_turned_J5 g1 g3 who1 r1 l1 z1 line1 x1 y1))

noncomputable def othello_turned_J3 (g1 : Int) (g2 : Int) (g3 : List Int) (who1 : Int) (at1 : Int) (r1 : (List Int)) (l1 : List Int) (z1 : Int) : Option (St (List Int × Int) (List Int)) :=
  asrt (0 ≤ z1 ∧ z1 < 8) <| asrt (g1 ≠ (0 : Int)) <| asrt (g1 ≠ (0 : Int)) <| (loop (othello_turned_L2 g1 g2 g3 who1 r1 l1 z1) (([] : List Int), (Int.tmod at1 g1), (w64 (Int.tdiv at1 g1)))).bind (othello_turned_K2 z1)

noncomputable def othello_turned_J2 (l2 : List Int) : Option (List Int) :=
  some l2

noncomputable def othello_turned_K1 : (List Int) → Option (List Int) :=
  fun (x : (List Int)) => match x with | l2 => othello_turned_J2 l2

noncomputable def othello_turned_L1 (g1 : Int) (g2 : Int) (g3 : List Int) (who1 : Int) (at1 : Int) (r1 : (List Int)) : (List Int × Int) → Option (St (List Int × Int) (List Int)) :=
  fun (x : (List Int × Int)) => match x with | (l1, z1) => if (decide (z1 < 8)) then ((othello_turned_J3 g1 g2 g3 who1 at1 r1 l1 z1)) else (some (.done l1))

noncomputable def othello_turned_J1 (g1 : Int) (g2 : Int) (g3 : List Int) (who1 : Int) (at1 : Int) : Option (List Int) :=
  (othello_ways_m).bind fun r1 => (loop (othello_turned_L1 g1 g2 g3 who1 at1 r1) (([] : List Int), 0)).bind othello_turned_K1

noncomputable def othello_turned_m (g1 : Int) (g2 : Int) (g3 : List Int) (who1 : Int) (at1 : Int) : Option (List Int) :=
  asrt (0 ≤ at1 ∧ at1 < (g3.length : Int)) <| if ((geti g3 at1) != 0) then (some ([] : List Int)) else ((othello_turned_J1 g1 g2 g3 who1 at1))

set_option maxRecDepth 100000 in
set_option maxHeartbeats 4000000 in
theorem othello_turned_w {g1 : Int} {g2 : Int} {A1 : Option Addr} {c1 : Nat} {n1 : Nat} {g3 : List Int} {who1 : Int} {at1 : Int} {r : (List Int)} {w0 w : World} {B : Nat} {fs : List HP} (hm : othello_turned_m g1 g2 g3 who1 at1 = some r) (hS : Sep w0 B w (fs)) (hr_g3 : RdF w0 B fs A1 (vI g3)) (_hc_g3 : g3.length ≤ c1) (_hn_g3 : n1 = g3.length) :
    Calls Try.prog 59 #[.agg #[.int .i64 g1, .int .i64 g2, .slice A1 n1 c1], .int .i64 who1, .int .i64 at1] w fun e w' => ∃ v, e = .returned v ∧ ∃ (A9 : Option Addr) (c9 : Nat), v = .slice A9 r.length c9 ∧ Sep w0 B w' (own 3 (.slice A9 r.length c9) (vI r) :: fs) := by
  obtain ⟨i3, hi3, hz3, hs3, hb3⟩ := info_parts Info3
  obtain rfl := _hn_g3
  unfold othello_turned_m at hm
  replace hm := start_b hm
  refine enter (l := [.agg #[.int .i64 g1, .int .i64 g2, .slice A1 g3.length c1], .int .i64 who1, .int .i64 at1]) (n := 88) Try.func59 rfl rfl (by simp) (fun a hF => ?_)
  refine seqR ?_
  refine at_do (d := 3) (s := vS (Instr.box 24 (.agg #[.int .i64 g1, .int .i64 g2, .slice A1 g3.length c1]))) (v := .pointer (some ⟨w.heap.size, 0, none⟩)) (w' := w.alloc (.cells #[.int .i64 g1, .int .i64 g2, .slice A1 g3.length c1] 24)) hF (by kernel_rfl) (by kernel_rfl) (by kernel_rfl) (fun a hF => ?_)
  have hS : Sep w0 B (w.alloc (.cells #[.int .i64 g1, .int .i64 g2, .slice A1 g3.length c1] 24)) (blk w.heap.size 24 #[.int .i64 g1, .int .i64 g2, .slice A1 g3.length c1] :: (fs)) := hS.box 24 #[.int .i64 g1, .int .i64 g2, .slice A1 g3.length c1]
  generalize w.heap.size = g4 at hF hS
  generalize w.alloc (.cells #[.int .i64 g1, .int .i64 g2, .slice A1 g3.length c1] 24) = w at hS ⊢
  refine at_run 1 [] [] [1, 2, 3] [pl 1 (.int .i64 who1), pl 2 (.int .i64 at1), pl 3 (.pointer (some ⟨g4, 0, none⟩))] hF hS (by kernel_rfl) (by kernel_rfl) ?_ (fun a w hF hS => ?_)
  · exact obs_nil
  refine at_end [1, 2, 3] [pl 1 (.int .i64 who1), pl 2 (.int .i64 at1), pl 3 (.pointer (some ⟨g4, 0, none⟩))] hF rfl (by kernel_rfl) (fun hF => ?_)
  refine then_n ?_
  refine reg [] [] [1, 2, 3, 7] [pl 1 (.int .i64 who1), pl 2 (.int .i64 at1), pl 3 (.pointer (some ⟨g4, 0, none⟩)), pl 7 (.slice none 0 0)] hF hS Fol (by kernel_rfl) (by kernel_rfl) (by kernel_rfl) ?_ (fun a w hF hS => ?_)
  · exact obs_nil
  refine seq_cut (fun a w => Fr 88 [pl 1 (.int .i64 who1), pl 2 (.int .i64 at1), pl 3 (.pointer (some ⟨g4, 0, none⟩)), pl 7 (.slice none 0 0)] a ∧ Sep w0 B w (blk g4 24 #[.int .i64 g1, .int .i64 g2, .slice A1 g3.length c1] :: fs) ∧ ((othello_turned_J1 g1 g2 g3 who1 at1)).bind some = some r) ?_ ?_
  · rintro a w ⟨hF, hS, hm⟩
    unfold othello_turned_J1 at hm
    refine seq_cut (fun a w => ∃ (l2 : List Int) (A3 : Option Addr) (c3 : Nat), Fr 88 [pl 7 (.slice A3 l2.length c3)] a ∧ Sep w0 B w (own 3 (.slice A3 l2.length c3) (vI l2) :: fs) ∧ (othello_turned_J2 l2).bind some = some r) ?_ ?_
    · rintro a w ⟨l2, A3, c3, hF, hS, hm⟩
      unfold othello_turned_J2 at hm
      refine reg [] [] [6] [pl 6 (.slice A3 l2.length c3)] hF hS Fol (by kernel_rfl) (by kernel_rfl) (by kernel_rfl) ?_ (fun a w hF hS => ?_)
      · exact obs_nil
      refine wp_ret ?_
      have hm : some l2 = some r := hm
      obtain rfl := Option.some.inj hm
      exact retV (rs := [.tmp 6]) (vs := [.slice A3 l2.length c3]) hF rfl (rv_t (by kernel_rfl) <| rv_nil) rfl ⟨_, rfl, A3, c3, rfl, hS⟩
    · obtain ⟨r1, hr1, hm⟩ := call_b hm
      refine reg [⟨false, [], callFunc 112 #[], .agg (List.toArray (([] : List Value) ++ (arr1 (Value.int .i64) (0 : Int) 16 r1 ++ ([] : List Value))))⟩] [some (.agg (List.toArray (([] : List Value) ++ (arr1 (Value.int .i64) (0 : Int) 16 r1 ++ ([] : List Value))))), none] [1, 2, 3, 7, 20, 21] [pl 1 (.int .i64 who1), pl 2 (.int .i64 at1), pl 3 (.pointer (some ⟨g4, 0, none⟩)), pl 7 (.slice none 0 0), pl 20 (.agg (List.toArray (([] : List Value) ++ (arr1 (Value.int .i64) (0 : Int) 16 r1 ++ ([] : List Value))))), pl 21 (.int .i64 0)] hF hS Fol (by kernel_rfl) (by kernel_rfl) (by kernel_rfl) ?_ (fun a w hF hS => ?_)
      · exact obs_cons (ob_call Try.func112 (by kernel_rfl) rfl (fun _ _ hS => othello_ways_w hr1 hS )) <| obs_nil
      refine wp_block ?_
      have hS : Sep w0 B w (own 3 (.slice none 0 0) (vI ([] : List Int)) :: blk g4 24 #[.int .i64 g1, .int .i64 g2, .slice A1 g3.length c1] :: fs) := hS.nil 3
      have hl2 := (hS.at_ 0 rfl).len1
      have hS := (hS.at_ 0 rfl).reN hl2
      have hS : Sep w0 B w (own 3 (.slice none (([] : List Int).length) 0) (vI ([] : List Int)) :: blk g4 24 #[.int .i64 g1, .int .i64 g2, .slice A1 g3.length c1] :: fs) := hS
      have hF := hF.cast (t := 7) (v := .slice none 0 0) (v' := .slice none (([] : List Int).length) 0) rfl rfl (congrArg (fun k => Value.slice none k 0) hl2)
      have hS := hS.pickN 2 [1, 0] (by decide)
      refine wp_loop_model (S := (List Int × Int)) (R := (List Int)) (othello_turned_L1 g1 g2 g3 who1 at1 r1) (fun x => (othello_turned_K1 x).bind some) r (fun (x : (List Int × Int)) a w => ∃ (A2 : Option Addr) (c2 : Nat), Fr 88 [pl 1 (.int .i64 who1), pl 2 (.int .i64 at1), pl 3 (.pointer (some ⟨g4, 0, none⟩)), pl 7 (.slice A2 x.1.length c2), pl 20 (.agg (List.toArray (([] : List Value) ++ (arr1 (Value.int .i64) (0 : Int) 16 r1 ++ ([] : List Value))))), pl 21 (.int .i64 x.2)] a ∧ Sep w0 B w (blk g4 24 #[.int .i64 g1, .int .i64 g2, .slice A1 g3.length c1] :: own 3 (.slice A2 x.1.length c2) (vI x.1) :: fs)) (assoc_b hm) ⟨none, 0, hF.weak [1, 2, 3, 7, 20, 21] (by kernel_rfl), hS⟩ ?_
      clear hF hS hm
      rintro nn1 ⟨l1, z1⟩ a w ⟨A2, c2, hF, hS⟩ hm
      generalize hφ1 : stK (othello_turned_L1 g1 g2 g3 who1 at1 r1) nn1 (fun x => (othello_turned_K1 x).bind some) = φ1 at hm
      unfold othello_turned_L1 at hm
      dsimp only at hF hS hm
      refine reg [] [] [1, 2, 3, 7, 20, 21, 22] [pl 1 (.int .i64 who1), pl 2 (.int .i64 at1), pl 3 (.pointer (some ⟨g4, 0, none⟩)), pl 7 (.slice A2 l1.length c2), pl 20 (.agg (List.toArray (([] : List Value) ++ (arr1 (Value.int .i64) (0 : Int) 16 r1 ++ ([] : List Value))))), pl 21 (.int .i64 z1), pl 22 (.bool (decide (z1 < 8)))] hF hS Fol (by kernel_rfl) (by kernel_rfl) (by kernel_rfl) ?_ (fun a w hF hS => ?_)
      · exact obs_nil
      refine seq_cut (fun a w => Fr 88 [pl 1 (.int .i64 who1), pl 2 (.int .i64 at1), pl 3 (.pointer (some ⟨g4, 0, none⟩)), pl 7 (.slice A2 l1.length c2), pl 20 (.agg (List.toArray (([] : List Value) ++ (arr1 (Value.int .i64) (0 : Int) 16 r1 ++ ([] : List Value))))), pl 21 (.int .i64 z1)] a ∧ Sep w0 B w (blk g4 24 #[.int .i64 g1, .int .i64 g2, .slice A1 g3.length c1] :: own 3 (.slice A2 l1.length c2) (vI l1) :: fs) ∧ ((othello_turned_J3 g1 g2 g3 who1 at1 r1 l1 z1)).bind φ1 = some r) ?_ ?_
      · rintro a w ⟨hF, hS, hm⟩
        unfold othello_turned_J3 at hm
        refine seq_cut (fun a w => ∃ (l3 : List Int) (A5 : Option Addr) (c5 : Nat), Fr 88 [pl 1 (.int .i64 who1), pl 2 (.int .i64 at1), pl 3 (.pointer (some ⟨g4, 0, none⟩)), pl 7 (.slice A5 l3.length c5), pl 20 (.agg (List.toArray (([] : List Value) ++ (arr1 (Value.int .i64) (0 : Int) 16 r1 ++ ([] : List Value))))), pl 21 (.int .i64 z1)] a ∧ Sep w0 B w (blk g4 24 #[.int .i64 g1, .int .i64 g2, .slice A1 g3.length c1] :: own 3 (.slice A5 l3.length c5) (vI l3) :: fs) ∧ ((othello_turned_J4 z1) l3).bind φ1 = some r) ?_ ?_
        · rintro a w ⟨l3, A5, c5, hF, hS, hm⟩
          unfold othello_turned_J4 at hm
          refine reg1 [] [] [1, 2, 3, 7, 20, 21] [pl 1 (.int .i64 who1), pl 2 (.int .i64 at1), pl 3 (.pointer (some ⟨g4, 0, none⟩)), pl 7 (.slice A5 l3.length c5), pl 20 (.agg (List.toArray (([] : List Value) ++ (arr1 (Value.int .i64) (0 : Int) 16 r1 ++ ([] : List Value))))), pl 21 (.int .i64 (w64 (z1 + 1)))] hF hS Fol (by kernel_rfl) (by kernel_rfl) (by kernel_rfl) ?_ (fun a w hF hS => ?_)
          · exact obs_nil
          refine then_n ?_
          rw [← hφ1] at hm
          exact ⟨(l3, (w64 (z1 + 1))), ⟨A5, c5, hF.weak [1, 2, 3, 7, 20, 21] (by kernel_rfl), hS⟩, hm⟩
        · refine wp_block ?_
          refine seqR ?_
          obtain ⟨hp2, hm⟩ := asrt_b hm
          refine at_run 1 [⟨true, [], vS (Instr.index 125 (.agg (List.toArray (([] : List Value) ++ (arr1 (Value.int .i64) (0 : Int) 16 r1 ++ ([] : List Value))))) (.int .i64 z1)), .agg #[.int .i64 (geti r1 (z1 * 2)), .int .i64 (geti r1 (z1 * 2 + 1))]⟩] [some (.agg #[.int .i64 (geti r1 (z1 * 2)), .int .i64 (geti r1 (z1 * 2 + 1))])] [1, 2, 3, 7, 20, 21, 23] [pl 1 (.int .i64 who1), pl 2 (.int .i64 at1), pl 3 (.pointer (some ⟨g4, 0, none⟩)), pl 7 (.slice A2 l1.length c2), pl 20 (.agg (List.toArray (([] : List Value) ++ (arr1 (Value.int .i64) (0 : Int) 16 r1 ++ ([] : List Value))))), pl 21 (.int .i64 z1), pl 23 (.agg #[.int .i64 (geti r1 (z1 * 2)), .int .i64 (geti r1 (z1 * 2 + 1))])] hF hS (by kernel_rfl) (by kernel_rfl) ?_ (fun a w hF hS => ?_)
          · exact obs_cons (ob_idxP2 (f := (Value.int .i64)) (z := (0 : Int)) (m := r1) UndA125 (by kernel_rfl) (by kernel_rfl) rfl (fun _ => hp2)) <| obs_nil
          refine at_do (d := 9) (s := vS (Instr.alloc 124 true (.tuple #[]))) (v := .pointer (some ⟨w.heap.size, 0, none⟩)) (w' := w.alloc (.cells #[.int .i64 0, .int .i64 0] 124)) hF (by kernel_rfl) (by kernel_rfl) (by kernel_rfl) (fun a hF => ?_)
          have hS : Sep w0 B (w.alloc (.cells #[.int .i64 0, .int .i64 0] 124)) (blk w.heap.size 124 #[.int .i64 0, .int .i64 0] :: (blk g4 24 #[.int .i64 g1, .int .i64 g2, .slice A1 g3.length c1] :: own 3 (.slice A2 l1.length c2) (vI l1) :: fs)) := hS.box 124 #[.int .i64 0, .int .i64 0]
          generalize w.heap.size = g5 at hF hS
          generalize w.alloc (.cells #[.int .i64 0, .int .i64 0] 124) = w at hS ⊢
          obtain ⟨w, hrun, hS⟩ := run_putA (P := Try.prog) (t := 124) (us := #[.int .i64 (geti r1 (z1 * 2)), .int .i64 (geti r1 (z1 * 2 + 1))]) (o := 0) (hS.at_ 0 rfl) (by kernel_rfl) (all_one (by kernel_rfl)) (Nat.le_of_ble_eq_true (by kernel_rfl))
          refine at_skip hF (by kernel_rfl) hrun ?_
          have hS : Sep w0 B w (blk g5 124 #[.int .i64 (geti r1 (z1 * 2)), .int .i64 (geti r1 (z1 * 2 + 1))] :: blk g4 24 #[.int .i64 g1, .int .i64 g2, .slice A1 g3.length c1] :: own 3 (.slice A2 l1.length c2) (vI l1) :: fs) := hS
          refine at_end [1, 2, 3, 7, 9, 20, 21] [pl 1 (.int .i64 who1), pl 2 (.int .i64 at1), pl 3 (.pointer (some ⟨g4, 0, none⟩)), pl 7 (.slice A2 l1.length c2), pl 9 (.pointer (some ⟨g5, 0, none⟩)), pl 20 (.agg (List.toArray (([] : List Value) ++ (arr1 (Value.int .i64) (0 : Int) 16 r1 ++ ([] : List Value))))), pl 21 (.int .i64 z1)] hF rfl (by kernel_rfl) (fun hF => ?_)
          refine then_n ?_
          refine reg [] [] [1, 2, 3, 7, 9, 10, 20, 21] [pl 1 (.int .i64 who1), pl 2 (.int .i64 at1), pl 3 (.pointer (some ⟨g4, 0, none⟩)), pl 7 (.slice A2 l1.length c2), pl 9 (.pointer (some ⟨g5, 0, none⟩)), pl 10 (.slice none 0 0), pl 20 (.agg (List.toArray (([] : List Value) ++ (arr1 (Value.int .i64) (0 : Int) 16 r1 ++ ([] : List Value))))), pl 21 (.int .i64 z1)] hF hS Fol (by kernel_rfl) (by kernel_rfl) (by kernel_rfl) ?_ (fun a w hF hS => ?_)
          · exact obs_nil
          obtain ⟨hp3, hm⟩ := asrt_b hm
          obtain ⟨hp4, hm⟩ := asrt_b hm
          refine reg [⟨false, [], vS (Instr.loadAt 3 (.pointer (some ⟨g4, 0, none⟩))), .int .i64 g1⟩, ⟨true, [], vS (Op.intDiv .rem .i64 at1 g1), .int .i64 (Int.tmod at1 g1)⟩, ⟨false, [], vS (Instr.loadAt 3 (.pointer (some ⟨g4, 0, none⟩))), .int .i64 g1⟩, ⟨true, [], vS (Op.intDiv .quo .i64 at1 g1), .int .i64 (w64 (Int.tdiv at1 g1))⟩] [none, none, some (.int .i64 g1), some (.int .i64 (Int.tmod at1 g1)), none, none, some (.int .i64 g1), some (.int .i64 (w64 (Int.tdiv at1 g1))), none, none] [1, 2, 3, 7, 9, 10, 11, 12, 20, 21] [pl 1 (.int .i64 who1), pl 2 (.int .i64 at1), pl 3 (.pointer (some ⟨g4, 0, none⟩)), pl 7 (.slice A2 l1.length c2), pl 9 (.pointer (some ⟨g5, 0, none⟩)), pl 10 (.slice none 0 0), pl 11 (.int .i64 (Int.tmod at1 g1)), pl 12 (.int .i64 (w64 (Int.tdiv at1 g1))), pl 20 (.agg (List.toArray (([] : List Value) ++ (arr1 (Value.int .i64) (0 : Int) 16 r1 ++ ([] : List Value))))), pl 21 (.int .i64 z1)] hF hS Fol (by kernel_rfl) (by kernel_rfl) (by kernel_rfl) ?_ (fun a w hF hS => ?_)
          · exact obs_cons (ob_load Agg3 (fun _ _ hS => (hS.at_ 1 rfl).cell rfl)) <| obs_cons (ob_rem rfl (fun _ => hp3)) <| obs_cons (ob_load Agg3 (fun _ _ hS => (hS.at_ 1 rfl).cell rfl)) <| obs_cons (ob_quo rfl (fun _ => hp4)) <| obs_nil
          refine wp_block ?_
          have hS : Sep w0 B w (own 3 (.slice none 0 0) (vI ([] : List Int)) :: blk g5 124 #[.int .i64 (geti r1 (z1 * 2)), .int .i64 (geti r1 (z1 * 2 + 1))] :: blk g4 24 #[.int .i64 g1, .int .i64 g2, .slice A1 g3.length c1] :: own 3 (.slice A2 l1.length c2) (vI l1) :: fs) := hS.nil 3
          have hl3 := (hS.at_ 0 rfl).len1
          have hS := (hS.at_ 0 rfl).reN hl3
          have hS : Sep w0 B w (own 3 (.slice none (([] : List Int).length) 0) (vI ([] : List Int)) :: blk g5 124 #[.int .i64 (geti r1 (z1 * 2)), .int .i64 (geti r1 (z1 * 2 + 1))] :: blk g4 24 #[.int .i64 g1, .int .i64 g2, .slice A1 g3.length c1] :: own 3 (.slice A2 l1.length c2) (vI l1) :: fs) := hS
          have hF := hF.cast (t := 10) (v := .slice none 0 0) (v' := .slice none (([] : List Int).length) 0) rfl rfl (congrArg (fun k => Value.slice none k 0) hl3)
          have hS := hS.pickN 4 [2, 3, 1, 0] (by decide)
          refine wp_loop_model (S := (List Int × Int × Int)) (R := (List Int)) (othello_turned_L2 g1 g2 g3 who1 r1 l1 z1) (fun x => ((othello_turned_K2 z1) x).bind φ1) r (fun (x : (List Int × Int × Int)) a w => ∃ (A4 : Option Addr) (c4 : Nat), Fr 88 [pl 1 (.int .i64 who1), pl 2 (.int .i64 at1), pl 3 (.pointer (some ⟨g4, 0, none⟩)), pl 7 (.slice A2 l1.length c2), pl 9 (.pointer (some ⟨g5, 0, none⟩)), pl 10 (.slice A4 x.1.length c4), pl 11 (.int .i64 x.2.1), pl 12 (.int .i64 x.2.2), pl 20 (.agg (List.toArray (([] : List Value) ++ (arr1 (Value.int .i64) (0 : Int) 16 r1 ++ ([] : List Value))))), pl 21 (.int .i64 z1)] a ∧ Sep w0 B w (blk g4 24 #[.int .i64 g1, .int .i64 g2, .slice A1 g3.length c1] :: own 3 (.slice A2 l1.length c2) (vI l1) :: blk g5 124 #[.int .i64 (geti r1 (z1 * 2)), .int .i64 (geti r1 (z1 * 2 + 1))] :: own 3 (.slice A4 x.1.length c4) (vI x.1) :: fs)) (assoc_b hm) ⟨none, 0, hF.weak [1, 2, 3, 7, 9, 10, 11, 12, 20, 21] (by kernel_rfl), hS⟩ ?_
          clear hF hS hm
          rintro nn2 ⟨line1, x1, y1⟩ a w ⟨A4, c4, hF, hS⟩ hm
          generalize hφ2 : stK (othello_turned_L2 g1 g2 g3 who1 r1 l1 z1) nn2 (fun x => ((othello_turned_K2 z1) x).bind φ1) = φ2 at hm
          unfold othello_turned_L2 at hm
          dsimp only at hF hS hm
          refine wp_block ?_
          refine reg [⟨false, [], vS (Instr.loadAt 3 (.pointer (some ⟨g5, 0, none⟩))), .int .i64 (geti r1 (z1 * 2))⟩, ⟨false, [], vS (Instr.loadAt 3 (.pointer (some ⟨g5, 1, none⟩))), .int .i64 (geti r1 (z1 * 2 + 1))⟩] [none, none, some (.int .i64 (geti r1 (z1 * 2))), none, none, none, some (.int .i64 (geti r1 (z1 * 2 + 1))), none, none, none] [1, 2, 3, 7, 9, 10, 11, 12, 20, 21] [pl 1 (.int .i64 who1), pl 2 (.int .i64 at1), pl 3 (.pointer (some ⟨g4, 0, none⟩)), pl 7 (.slice A2 l1.length c2), pl 9 (.pointer (some ⟨g5, 0, none⟩)), pl 10 (.slice A4 line1.length c4), pl 11 (.int .i64 (w64 (x1 + (geti r1 (z1 * 2))))), pl 12 (.int .i64 (w64 (y1 + (geti r1 (z1 * 2 + 1))))), pl 20 (.agg (List.toArray (([] : List Value) ++ (arr1 (Value.int .i64) (0 : Int) 16 r1 ++ ([] : List Value))))), pl 21 (.int .i64 z1)] hF hS Fol (by kernel_rfl) (by kernel_rfl) (by kernel_rfl) ?_ (fun a w hF hS => ?_)
          · exact obs_cons (ob_load Agg3 (fun _ _ hS => (hS.at_ 2 rfl).cell rfl)) <| obs_cons (ob_load Agg3 (fun _ _ hS => (hS.at_ 2 rfl).cell rfl)) <| obs_nil
          refine seq_cut (fun a w => Fr 88 [pl 1 (.int .i64 who1), pl 2 (.int .i64 at1), pl 3 (.pointer (some ⟨g4, 0, none⟩)), pl 7 (.slice A2 l1.length c2), pl 9 (.pointer (some ⟨g5, 0, none⟩)), pl 10 (.slice A4 line1.length c4), pl 11 (.int .i64 (w64 (x1 + (geti r1 (z1 * 2))))), pl 12 (.int .i64 (w64 (y1 + (geti r1 (z1 * 2 + 1))))), pl 20 (.agg (List.toArray (([] : List Value) ++ (arr1 (Value.int .i64) (0 : Int) 16 r1 ++ ([] : List Value))))), pl 21 (.int .i64 z1)] a ∧ Sep w0 B w (blk g4 24 #[.int .i64 g1, .int .i64 g2, .slice A1 g3.length c1] :: own 3 (.slice A2 l1.length c2) (vI l1) :: blk g5 124 #[.int .i64 (geti r1 (z1 * 2)), .int .i64 (geti r1 (z1 * 2 + 1))] :: own 3 (.slice A4 line1.length c4) (vI line1) :: fs) ∧ ((othello_turned_J5 g1 g3 who1 r1 l1 z1 line1 x1 y1)).bind φ2 = some r) ?_ ?_
          · rintro a w ⟨hF, hS, hm⟩
            unfold othello_turned_J5 at hm
            refine reg [⟨false, [], vS (Instr.loadAt 3 (.pointer (some ⟨g4, 0, none⟩))), .int .i64 g1⟩] [none, none, some (.int .i64 g1), none, none, none, none] [1, 2, 3, 7, 9, 10, 11, 12, 13, 20, 21] [pl 1 (.int .i64 who1), pl 2 (.int .i64 at1), pl 3 (.pointer (some ⟨g4, 0, none⟩)), pl 7 (.slice A2 l1.length c2), pl 9 (.pointer (some ⟨g5, 0, none⟩)), pl 10 (.slice A4 line1.length c4), pl 11 (.int .i64 (w64 (x1 + (geti r1 (z1 * 2))))), pl 12 (.int .i64 (w64 (y1 + (geti r1 (z1 * 2 + 1))))), pl 13 (.int .i64 (w64 ((w64 ((w64 (y1 + (geti r1 (z1 * 2 + 1)))) * g1)) + (w64 (x1 + (geti r1 (z1 * 2))))))), pl 20 (.agg (List.toArray (([] : List Value) ++ (arr1 (Value.int .i64) (0 : Int) 16 r1 ++ ([] : List Value))))), pl 21 (.int .i64 z1)] hF hS Fol (by kernel_rfl) (by kernel_rfl) (by kernel_rfl) ?_ (fun a w hF hS => ?_)
            · exact obs_cons (ob_load Agg3 (fun _ _ hS => (hS.at_ 0 rfl).cell rfl)) <| obs_nil
            refine seq_cut (fun a w => Fr 88 [pl 1 (.int .i64 who1), pl 2 (.int .i64 at1), pl 3 (.pointer (some ⟨g4, 0, none⟩)), pl 7 (.slice A2 l1.length c2), pl 10 (.slice A4 line1.length c4), pl 13 (.int .i64 (w64 ((w64 ((w64 (y1 + (geti r1 (z1 * 2 + 1)))) * g1)) + (w64 (x1 + (geti r1 (z1 * 2))))))), pl 20 (.agg (List.toArray (([] : List Value) ++ (arr1 (Value.int .i64) (0 : Int) 16 r1 ++ ([] : List Value))))), pl 21 (.int .i64 z1)] a ∧ Sep w0 B w (blk g4 24 #[.int .i64 g1, .int .i64 g2, .slice A1 g3.length c1] :: own 3 (.slice A2 l1.length c2) (vI l1) :: own 3 (.slice A4 line1.length c4) (vI line1) :: fs) ∧ ((othello_turned_J6 g1 g3 who1 r1 l1 z1 line1 x1 y1)).bind φ2 = some r) ?_ ?_
            · rintro a w ⟨hF, hS, hm⟩
              unfold othello_turned_J6 at hm
              refine seq_cut (fun a w => ∃ (l4 : List Int) (A8 : Option Addr) (c8 : Nat), Fr 88 [pl 1 (.int .i64 who1), pl 2 (.int .i64 at1), pl 3 (.pointer (some ⟨g4, 0, none⟩)), pl 7 (.slice A8 l4.length c8), pl 20 (.agg (List.toArray (([] : List Value) ++ (arr1 (Value.int .i64) (0 : Int) 16 r1 ++ ([] : List Value))))), pl 21 (.int .i64 z1)] a ∧ Sep w0 B w (blk g4 24 #[.int .i64 g1, .int .i64 g2, .slice A1 g3.length c1] :: own 3 (.slice A8 l4.length c8) (vI l4) :: fs) ∧ (othello_turned_J7 l4).bind φ2 = some r) ?_ ?_
              · rintro a w ⟨l4, A8, c8, hF, hS, hm⟩
                unfold othello_turned_J7 at hm
                refine wp_exit ?_
                refine block_o rfl (then_e (block_e (block_n (then_n ?_))))
                rw [← hφ2] at hm
                replace hm := done_b hm
                unfold othello_turned_K2 at hm
                try dsimp only at hm
                have hm : ((othello_turned_J4 z1) l4).bind φ1 = some r := hm
                exact ⟨l4, A8, c8, hF.weak [1, 2, 3, 7, 20, 21] (by kernel_rfl), hS, hm⟩
              · obtain ⟨hp7, hm⟩ := asrt_b hm
                refine reg [⟨false, [], vS (Instr.loadAt 22 (.pointer (some ⟨g4, 2, none⟩))), .slice A1 g3.length c1⟩, ⟨true, [], vS (Instr.indexAt 22 (.slice A1 g3.length c1) (.int .i64 (w64 ((w64 ((w64 (y1 + (geti r1 (z1 * 2 + 1)))) * g1)) + (w64 (x1 + (geti r1 (z1 * 2)))))))), .pointer (some (sAddr A1 (w64 ((w64 ((w64 (y1 + (geti r1 (z1 * 2 + 1)))) * g1)) + (w64 (x1 + (geti r1 (z1 * 2))))))))⟩, ⟨false, [], vS (Instr.loadAt 3 (.pointer (some (sAddr A1 (w64 ((w64 ((w64 (y1 + (geti r1 (z1 * 2 + 1)))) * g1)) + (w64 (x1 + (geti r1 (z1 * 2)))))))))), .int .i64 (geti g3 (w64 ((w64 ((w64 (y1 + (geti r1 (z1 * 2 + 1)))) * g1)) + (w64 (x1 + (geti r1 (z1 * 2)))))))⟩] [none, some (.slice A1 g3.length c1), none, some (.pointer (some (sAddr A1 (w64 ((w64 ((w64 (y1 + (geti r1 (z1 * 2 + 1)))) * g1)) + (w64 (x1 + (geti r1 (z1 * 2))))))))), some (.int .i64 (geti g3 (w64 ((w64 ((w64 (y1 + (geti r1 (z1 * 2 + 1)))) * g1)) + (w64 (x1 + (geti r1 (z1 * 2)))))))), none, none] [1, 2, 3, 7, 10, 20, 21, 82] [pl 1 (.int .i64 who1), pl 2 (.int .i64 at1), pl 3 (.pointer (some ⟨g4, 0, none⟩)), pl 7 (.slice A2 l1.length c2), pl 10 (.slice A4 line1.length c4), pl 20 (.agg (List.toArray (([] : List Value) ++ (arr1 (Value.int .i64) (0 : Int) 16 r1 ++ ([] : List Value))))), pl 21 (.int .i64 z1), pl 82 (.bool ((geti g3 (w64 ((w64 ((w64 (y1 + (geti r1 (z1 * 2 + 1)))) * g1)) + (w64 (x1 + (geti r1 (z1 * 2))))))) == who1))] hF hS Fol (by kernel_rfl) (by kernel_rfl) (by kernel_rfl) ?_ (fun a w hF hS => ?_)
                · exact obs_cons (ob_load Agg22 (fun _ _ hS => (hS.at_ 0 rfl).cell rfl)) <| obs_cons (ob_ix1 (f := (Value.int .i64)) (m := g3) Und22 hi3 hs3 (hr_g3 _ (hS.dropN 3)) rfl (fun _ => hp7)) <| obs_cons (ob_get1 (n := g3.length) (m := g3) (Value.int .i64) (0 : Int) Agg3 (fun _ hS => ⟨_, (hr_g3 _ (hS.dropN 3))⟩) (fun _ hS => rfl) (fun _ => hp7)) <| obs_nil
                refine cond_ev (t := 82) (b := ((geti g3 (w64 ((w64 ((w64 (y1 + (geti r1 (z1 * 2 + 1)))) * g1)) + (w64 (x1 + (geti r1 (z1 * 2))))))) == who1)) hF (by kernel_rfl) (fun hb => ?_) (fun hb => ?_)
                · replace hm := if_t hm hb
                  refine oneR ?_
                  obtain ⟨hp8, hm⟩ := asrt_b hm
                  refine at_run 2 [] [] [1, 2, 3, 20, 21, 83, 84] [pl 1 (.int .i64 who1), pl 2 (.int .i64 at1), pl 3 (.pointer (some ⟨g4, 0, none⟩)), pl 20 (.agg (List.toArray (([] : List Value) ++ (arr1 (Value.int .i64) (0 : Int) 16 r1 ++ ([] : List Value))))), pl 21 (.int .i64 z1), pl 83 (.slice A2 l1.length c2), pl 84 (.slice A4 line1.length c4)] hF hS (by kernel_rfl) (by kernel_rfl) ?_ (fun a w hF hS => ?_)
                  · exact obs_nil
                  obtain ⟨A7, c7, w, hrun, hS⟩ := run_app1 (P := Try.prog) (t := 22) (m := l1) (ys := line1) (A2 := A4) (m2 := line1.length) (c2 := c4) (Value.int .i64) (0 : Int) (hS.at_ 1 rfl) (hS.at_ 2 rfl).rd rfl 22 Und22 hi3 hz3 hs3 (by omega) rfl (fun _ => rfl) hp8
                  have hS : Sep w0 B w (blk g4 24 #[.int .i64 g1, .int .i64 g2, .slice A1 g3.length c1] :: own 3 (.slice A7 ((l1 ++ line1).length) c7) (vI (l1 ++ line1)) :: own 3 (.slice A4 line1.length c4) (vI line1) :: fs) := hS
                  refine at_do (d := 85) hF (by kernel_rfl) (by kernel_rfl) hrun (fun a hF => ?_)
                  refine at_run 1 [] [] [1, 2, 3, 7, 20, 21] [pl 1 (.int .i64 who1), pl 2 (.int .i64 at1), pl 3 (.pointer (some ⟨g4, 0, none⟩)), pl 7 (.slice A7 ((l1 ++ line1).length) c7), pl 20 (.agg (List.toArray (([] : List Value) ++ (arr1 (Value.int .i64) (0 : Int) 16 r1 ++ ([] : List Value))))), pl 21 (.int .i64 z1)] hF hS (by kernel_rfl) (by kernel_rfl) ?_ (fun a w hF hS => ?_)
                  · exact obs_nil
                  refine at_end [1, 2, 3, 7, 20, 21] [pl 1 (.int .i64 who1), pl 2 (.int .i64 at1), pl 3 (.pointer (some ⟨g4, 0, none⟩)), pl 7 (.slice A7 ((l1 ++ line1).length) c7), pl 20 (.agg (List.toArray (([] : List Value) ++ (arr1 (Value.int .i64) (0 : Int) 16 r1 ++ ([] : List Value))))), pl 21 (.int .i64 z1)] hF rfl (by kernel_rfl) (fun hF => ?_)
                  refine then_n ?_
                  have hS := hS.pickN 3 [0, 1] (by decide)
                  exact ⟨(l1 ++ line1), A7, c7, hF.weak [1, 2, 3, 7, 20, 21] (by kernel_rfl), hS, hm⟩
                · replace hm := if_f hm hb
                  refine wp_skip ?_
                  refine then_n ?_
                  have hS := hS.pickN 3 [0, 1] (by decide)
                  exact ⟨l1, A2, c2, hF.weak [1, 2, 3, 7, 20, 21] (by kernel_rfl), hS, hm⟩
            · obtain ⟨hp5, hm⟩ := asrt_b hm
              refine reg [⟨false, [], vS (Instr.loadAt 22 (.pointer (some ⟨g4, 2, none⟩))), .slice A1 g3.length c1⟩, ⟨true, [], vS (Instr.indexAt 22 (.slice A1 g3.length c1) (.int .i64 (w64 ((w64 ((w64 (y1 + (geti r1 (z1 * 2 + 1)))) * g1)) + (w64 (x1 + (geti r1 (z1 * 2)))))))), .pointer (some (sAddr A1 (w64 ((w64 ((w64 (y1 + (geti r1 (z1 * 2 + 1)))) * g1)) + (w64 (x1 + (geti r1 (z1 * 2))))))))⟩, ⟨false, [], vS (Instr.loadAt 3 (.pointer (some (sAddr A1 (w64 ((w64 ((w64 (y1 + (geti r1 (z1 * 2 + 1)))) * g1)) + (w64 (x1 + (geti r1 (z1 * 2)))))))))), .int .i64 (geti g3 (w64 ((w64 ((w64 (y1 + (geti r1 (z1 * 2 + 1)))) * g1)) + (w64 (x1 + (geti r1 (z1 * 2)))))))⟩] [none, some (.slice A1 g3.length c1), none, some (.pointer (some (sAddr A1 (w64 ((w64 ((w64 (y1 + (geti r1 (z1 * 2 + 1)))) * g1)) + (w64 (x1 + (geti r1 (z1 * 2))))))))), some (.int .i64 (geti g3 (w64 ((w64 ((w64 (y1 + (geti r1 (z1 * 2 + 1)))) * g1)) + (w64 (x1 + (geti r1 (z1 * 2)))))))), none, none, none] [1, 2, 3, 7, 9, 10, 11, 12, 13, 20, 21, 71] [pl 1 (.int .i64 who1), pl 2 (.int .i64 at1), pl 3 (.pointer (some ⟨g4, 0, none⟩)), pl 7 (.slice A2 l1.length c2), pl 9 (.pointer (some ⟨g5, 0, none⟩)), pl 10 (.slice A4 line1.length c4), pl 11 (.int .i64 (w64 (x1 + (geti r1 (z1 * 2))))), pl 12 (.int .i64 (w64 (y1 + (geti r1 (z1 * 2 + 1))))), pl 13 (.int .i64 (w64 ((w64 ((w64 (y1 + (geti r1 (z1 * 2 + 1)))) * g1)) + (w64 (x1 + (geti r1 (z1 * 2))))))), pl 20 (.agg (List.toArray (([] : List Value) ++ (arr1 (Value.int .i64) (0 : Int) 16 r1 ++ ([] : List Value))))), pl 21 (.int .i64 z1), pl 71 (.bool ((geti g3 (w64 ((w64 ((w64 (y1 + (geti r1 (z1 * 2 + 1)))) * g1)) + (w64 (x1 + (geti r1 (z1 * 2))))))) == (w64 (3 - who1))))] hF hS Fol (by kernel_rfl) (by kernel_rfl) (by kernel_rfl) ?_ (fun a w hF hS => ?_)
              · exact obs_cons (ob_load Agg22 (fun _ _ hS => (hS.at_ 0 rfl).cell rfl)) <| obs_cons (ob_ix1 (f := (Value.int .i64)) (m := g3) Und22 hi3 hs3 (hr_g3 _ (hS.dropN 4)) rfl (fun _ => hp5)) <| obs_cons (ob_get1 (n := g3.length) (m := g3) (Value.int .i64) (0 : Int) Agg3 (fun _ hS => ⟨_, (hr_g3 _ (hS.dropN 4))⟩) (fun _ hS => rfl) (fun _ => hp5)) <| obs_nil
              refine cond_ev (t := 71) (b := ((geti g3 (w64 ((w64 ((w64 (y1 + (geti r1 (z1 * 2 + 1)))) * g1)) + (w64 (x1 + (geti r1 (z1 * 2))))))) == (w64 (3 - who1)))) hF (by kernel_rfl) (fun hb => ?_) (fun hb => ?_)
              · replace hm := if_t hm hb
                refine seqR ?_
                obtain ⟨hp6, hm⟩ := asrt_b hm
                refine at_run 2 [] [] [1, 2, 3, 7, 9, 11, 12, 20, 21, 72, 73] [pl 1 (.int .i64 who1), pl 2 (.int .i64 at1), pl 3 (.pointer (some ⟨g4, 0, none⟩)), pl 7 (.slice A2 l1.length c2), pl 9 (.pointer (some ⟨g5, 0, none⟩)), pl 11 (.int .i64 (w64 (x1 + (geti r1 (z1 * 2))))), pl 12 (.int .i64 (w64 (y1 + (geti r1 (z1 * 2 + 1))))), pl 20 (.agg (List.toArray (([] : List Value) ++ (arr1 (Value.int .i64) (0 : Int) 16 r1 ++ ([] : List Value))))), pl 21 (.int .i64 z1), pl 72 (.slice A4 line1.length c4), pl 73 (.int .i64 (w64 ((w64 ((w64 (y1 + (geti r1 (z1 * 2 + 1)))) * g1)) + (w64 (x1 + (geti r1 (z1 * 2)))))))] hF hS (by kernel_rfl) (by kernel_rfl) ?_ (fun a w hF hS => ?_)
                · exact obs_nil
                refine at_do (d := 74) (s := vS (Instr.buildSlice 22 1 #[(0, .int .i64 (w64 ((w64 ((w64 (y1 + (geti r1 (z1 * 2 + 1)))) * g1)) + (w64 (x1 + (geti r1 (z1 * 2)))))))])) (v := .slice (some ⟨w.heap.size, 0, none⟩) 1 1) (w' := w.alloc (.cells #[.int .i64 (w64 ((w64 ((w64 (y1 + (geti r1 (z1 * 2 + 1)))) * g1)) + (w64 (x1 + (geti r1 (z1 * 2))))))] 3)) hF (by kernel_rfl) (by kernel_rfl) (by kernel_rfl) (fun a hF => ?_)
                have hS : Sep w0 B (w.alloc (.cells #[.int .i64 (w64 ((w64 ((w64 (y1 + (geti r1 (z1 * 2 + 1)))) * g1)) + (w64 (x1 + (geti r1 (z1 * 2))))))] 3)) (own 3 (.slice (some (⟨w.heap.size, 0, none⟩ : Addr)) 1 1) (vI ([w64 ((w64 ((w64 (y1 + (geti r1 (z1 * 2 + 1)))) * g1)) + (w64 (x1 + (geti r1 (z1 * 2)))))] : List Int)) :: (blk g4 24 #[.int .i64 g1, .int .i64 g2, .slice A1 g3.length c1] :: own 3 (.slice A2 l1.length c2) (vI l1) :: blk g5 124 #[.int .i64 (geti r1 (z1 * 2)), .int .i64 (geti r1 (z1 * 2 + 1))] :: own 3 (.slice A4 line1.length c4) (vI line1) :: fs)) := hS.lit 3 #[.int .i64 (w64 ((w64 ((w64 (y1 + (geti r1 (z1 * 2 + 1)))) * g1)) + (w64 (x1 + (geti r1 (z1 * 2))))))] 1 rfl (by omega)
                generalize (some (⟨w.heap.size, 0, none⟩ : Addr)) = g6 at hF hS
                generalize w.alloc (.cells #[.int .i64 (w64 ((w64 ((w64 (y1 + (geti r1 (z1 * 2 + 1)))) * g1)) + (w64 (x1 + (geti r1 (z1 * 2))))))] 3) = w at hS ⊢
                obtain ⟨A6, c6, w, hrun, hS⟩ := run_app1 (P := Try.prog) (t := 22) (m := line1) (ys := ([w64 ((w64 ((w64 (y1 + (geti r1 (z1 * 2 + 1)))) * g1)) + (w64 (x1 + (geti r1 (z1 * 2)))))] : List Int)) (A2 := g6) (m2 := 1) (c2 := 1) (Value.int .i64) (0 : Int) (hS.at_ 4 rfl) (hS.at_ 0 rfl).rd ((hS.at_ 0 rfl).len1) 22 Und22 hi3 hz3 hs3 (by omega) rfl (fun _ => rfl) hp6
                have hS : Sep w0 B w (own 3 (.slice g6 1 1) (vI ([w64 ((w64 ((w64 (y1 + (geti r1 (z1 * 2 + 1)))) * g1)) + (w64 (x1 + (geti r1 (z1 * 2)))))] : List Int)) :: blk g4 24 #[.int .i64 g1, .int .i64 g2, .slice A1 g3.length c1] :: own 3 (.slice A2 l1.length c2) (vI l1) :: blk g5 124 #[.int .i64 (geti r1 (z1 * 2)), .int .i64 (geti r1 (z1 * 2 + 1))] :: own 3 (.slice A6 ((line1 ++ ([w64 ((w64 ((w64 (y1 + (geti r1 (z1 * 2 + 1)))) * g1)) + (w64 (x1 + (geti r1 (z1 * 2)))))] : List Int)).length) c6) (vI (line1 ++ ([w64 ((w64 ((w64 (y1 + (geti r1 (z1 * 2 + 1)))) * g1)) + (w64 (x1 + (geti r1 (z1 * 2)))))] : List Int))) :: fs) := hS
                refine at_do (d := 75) hF (by kernel_rfl) (by kernel_rfl) hrun (fun a hF => ?_)
                refine at_run 1 [] [] [1, 2, 3, 7, 9, 10, 11, 12, 20, 21] [pl 1 (.int .i64 who1), pl 2 (.int .i64 at1), pl 3 (.pointer (some ⟨g4, 0, none⟩)), pl 7 (.slice A2 l1.length c2), pl 9 (.pointer (some ⟨g5, 0, none⟩)), pl 10 (.slice A6 ((line1 ++ ([w64 ((w64 ((w64 (y1 + (geti r1 (z1 * 2 + 1)))) * g1)) + (w64 (x1 + (geti r1 (z1 * 2)))))] : List Int)).length) c6), pl 11 (.int .i64 (w64 (x1 + (geti r1 (z1 * 2))))), pl 12 (.int .i64 (w64 (y1 + (geti r1 (z1 * 2 + 1))))), pl 20 (.agg (List.toArray (([] : List Value) ++ (arr1 (Value.int .i64) (0 : Int) 16 r1 ++ ([] : List Value))))), pl 21 (.int .i64 z1)] hF hS (by kernel_rfl) (by kernel_rfl) ?_ (fun a w hF hS => ?_)
                · exact obs_nil
                refine at_end [1, 2, 3, 7, 9, 10, 11, 12, 20, 21] [pl 1 (.int .i64 who1), pl 2 (.int .i64 at1), pl 3 (.pointer (some ⟨g4, 0, none⟩)), pl 7 (.slice A2 l1.length c2), pl 9 (.pointer (some ⟨g5, 0, none⟩)), pl 10 (.slice A6 ((line1 ++ ([w64 ((w64 ((w64 (y1 + (geti r1 (z1 * 2 + 1)))) * g1)) + (w64 (x1 + (geti r1 (z1 * 2)))))] : List Int)).length) c6), pl 11 (.int .i64 (w64 (x1 + (geti r1 (z1 * 2))))), pl 12 (.int .i64 (w64 (y1 + (geti r1 (z1 * 2 + 1))))), pl 20 (.agg (List.toArray (([] : List Value) ++ (arr1 (Value.int .i64) (0 : Int) 16 r1 ++ ([] : List Value))))), pl 21 (.int .i64 z1)] hF rfl (by kernel_rfl) (fun hF => ?_)
                refine then_n ?_
                refine wp_exit ?_
                refine then_e (block_e (then_n ?_))
                have hS := hS.pickN 5 [1, 2, 3, 4] (by decide)
                rw [← hφ2] at hm
                exact ⟨((line1 ++ ([w64 ((w64 ((w64 (y1 + (geti r1 (z1 * 2 + 1)))) * g1)) + (w64 (x1 + (geti r1 (z1 * 2)))))] : List Int)), (w64 (x1 + (geti r1 (z1 * 2)))), (w64 (y1 + (geti r1 (z1 * 2 + 1))))), ⟨A6, c6, hF.weak [1, 2, 3, 7, 9, 10, 11, 12, 20, 21] (by kernel_rfl), hS⟩, hm⟩
              · replace hm := if_f hm hb
                refine wp_skip ?_
                refine then_n ?_
                have hS := hS.pickN 4 [0, 1, 3] (by decide)
                exact ⟨hF.weak [1, 2, 3, 7, 10, 13, 20, 21] (by kernel_rfl), hS, hm⟩
          · refine reg [⟨false, [(decide ((w64 (x1 + (geti r1 (z1 * 2)))) < 0), false)], vS (Instr.loadAt 3 (.pointer (some ⟨g4, 0, none⟩))), .int .i64 g1⟩, ⟨false, [(((decide ((w64 (x1 + (geti r1 (z1 * 2)))) < 0)) || (decide (g1 ≤ (w64 (x1 + (geti r1 (z1 * 2))))))) || (decide ((w64 (y1 + (geti r1 (z1 * 2 + 1)))) < 0)), false)], vS (Instr.loadAt 3 (.pointer (some ⟨g4, 1, none⟩))), .int .i64 g2⟩] [none, none, none, none, none, some (.int .i64 g1), none, none, none, none, none, none, none, none, none, some (.int .i64 g2), none, none] [1, 2, 3, 7, 9, 10, 11, 12, 20, 21, 57] [pl 1 (.int .i64 who1), pl 2 (.int .i64 at1), pl 3 (.pointer (some ⟨g4, 0, none⟩)), pl 7 (.slice A2 l1.length c2), pl 9 (.pointer (some ⟨g5, 0, none⟩)), pl 10 (.slice A4 line1.length c4), pl 11 (.int .i64 (w64 (x1 + (geti r1 (z1 * 2))))), pl 12 (.int .i64 (w64 (y1 + (geti r1 (z1 * 2 + 1))))), pl 20 (.agg (List.toArray (([] : List Value) ++ (arr1 (Value.int .i64) (0 : Int) 16 r1 ++ ([] : List Value))))), pl 21 (.int .i64 z1), pl 57 (.bool ((((decide ((w64 (x1 + (geti r1 (z1 * 2)))) < 0)) || (decide (g1 ≤ (w64 (x1 + (geti r1 (z1 * 2))))))) || (decide ((w64 (y1 + (geti r1 (z1 * 2 + 1)))) < 0))) || (decide (g2 ≤ (w64 (y1 + (geti r1 (z1 * 2 + 1))))))))] hF hS Fol (by kernel_rfl) (by kernel_rfl) (by kernel_rfl) ?_ (fun a w hF hS => ?_)
            · exact obs_cons (ob_load Agg3 (fun _ _ hS => (hS.at_ 0 rfl).cell rfl)) <| obs_cons (ob_load Agg3 (fun _ _ hS => (hS.at_ 0 rfl).cell rfl)) <| obs_nil
            refine cond_ev (t := 57) (b := (((decide ((w64 (x1 + (geti r1 (z1 * 2)))) < 0)) || (decide (g1 ≤ (w64 (x1 + (geti r1 (z1 * 2))))))) || (decide ((w64 (y1 + (geti r1 (z1 * 2 + 1)))) < 0))) || (decide (g2 ≤ (w64 (y1 + (geti r1 (z1 * 2 + 1))))))) hF (by kernel_rfl) (fun hb => ?_) (fun hb => ?_)
            · replace hm := if_t hm hb
              refine wp_exit ?_
              refine then_e (block_o rfl (then_e (block_e (block_n (then_n ?_)))))
              have hS := hS.pickN 4 [0, 1] (by decide)
              rw [← hφ2] at hm
              replace hm := done_b hm
              unfold othello_turned_K2 at hm
              try dsimp only at hm
              have hm : ((othello_turned_J4 z1) l1).bind φ1 = some r := hm
              exact ⟨l1, A2, c2, hF.weak [1, 2, 3, 7, 20, 21] (by kernel_rfl), hS, hm⟩
            · replace hm := if_f hm hb
              refine wp_skip ?_
              refine then_n ?_
              exact ⟨hF.weak [1, 2, 3, 7, 9, 10, 11, 12, 20, 21] (by kernel_rfl), hS, hm⟩
      · refine cond_ev (t := 22) (b := decide (z1 < 8)) hF (by kernel_rfl) (fun hb => ?_) (fun hb => ?_)
        · replace hm := if_t hm hb
          refine wp_skip ?_
          refine then_n ?_
          exact ⟨hF.weak [1, 2, 3, 7, 20, 21] (by kernel_rfl), hS, hm⟩
        · replace hm := if_f hm hb
          refine wp_exit ?_
          refine then_e (then_e (block_e (then_n ?_)))
          have hS := hS.pickN 2 [1] (by decide)
          rw [← hφ1] at hm
          replace hm := done_b hm
          unfold othello_turned_K1 at hm
          try dsimp only at hm
          have hm : (othello_turned_J2 l1).bind some = some r := hm
          exact ⟨l1, A2, c2, hF.weak [7] (by kernel_rfl), hS, hm⟩
  · obtain ⟨hp1, hm⟩ := asrt_b hm
    refine reg [⟨false, [], vS (Instr.loadAt 22 (.pointer (some ⟨g4, 2, none⟩))), .slice A1 g3.length c1⟩, ⟨true, [], vS (Instr.indexAt 22 (.slice A1 g3.length c1) (.int .i64 at1)), .pointer (some (sAddr A1 at1))⟩, ⟨false, [], vS (Instr.loadAt 3 (.pointer (some (sAddr A1 at1)))), .int .i64 (geti g3 at1)⟩] [none, some (.slice A1 g3.length c1), none, some (.pointer (some (sAddr A1 at1))), some (.int .i64 (geti g3 at1)), none] [1, 2, 3, 7, 19] [pl 1 (.int .i64 who1), pl 2 (.int .i64 at1), pl 3 (.pointer (some ⟨g4, 0, none⟩)), pl 7 (.slice none 0 0), pl 19 (.bool ((geti g3 at1) != 0))] hF hS Fol (by kernel_rfl) (by kernel_rfl) (by kernel_rfl) ?_ (fun a w hF hS => ?_)
    · exact obs_cons (ob_load Agg22 (fun _ _ hS => (hS.at_ 0 rfl).cell rfl)) <| obs_cons (ob_ix1 (f := (Value.int .i64)) (m := g3) Und22 hi3 hs3 (hr_g3 _ (hS.dropN 1)) rfl (fun _ => hp1)) <| obs_cons (ob_get1 (n := g3.length) (m := g3) (Value.int .i64) (0 : Int) Agg3 (fun _ hS => ⟨_, (hr_g3 _ (hS.dropN 1))⟩) (fun _ hS => rfl) (fun _ => hp1)) <| obs_nil
    refine cond_ev (t := 19) (b := ((geti g3 at1) != 0)) hF (by kernel_rfl) (fun hb => ?_) (fun hb => ?_)
    · replace hm := if_t hm hb
      refine reg [] [] [6] [pl 6 (.slice none 0 0)] hF hS Fol (by kernel_rfl) (by kernel_rfl) (by kernel_rfl) ?_ (fun a w hF hS => ?_)
      · exact obs_nil
      refine wp_ret ?_
      refine then_r ?_
      have hS : Sep w0 B w (own 3 (.slice none 0 0) (vI ([] : List Int)) :: blk g4 24 #[.int .i64 g1, .int .i64 g2, .slice A1 g3.length c1] :: fs) := hS.nil 3
      have hl1 := (hS.at_ 0 rfl).len1
      have hS := (hS.at_ 0 rfl).reN hl1
      have hS : Sep w0 B w (own 3 (.slice none (([] : List Int).length) 0) (vI ([] : List Int)) :: blk g4 24 #[.int .i64 g1, .int .i64 g2, .slice A1 g3.length c1] :: fs) := hS
      have hS := hS.pickN 2 [0] (by decide)
      have hm : some ([] : List Int) = some r := hm
      obtain rfl := Option.some.inj hm
      exact retV (rs := [.tmp 6]) (vs := [.slice none (([] : List Int).length) 0]) hF rfl (rv_t (by kernel_rfl) <| rv_nil) rfl ⟨_, rfl, none, 0, rfl, hS⟩
    · replace hm := if_f hm hb
      refine wp_skip ?_
      refine then_n ?_
      exact ⟨hF.weak [1, 2, 3, 7] (by kernel_rfl), hS, hm⟩

noncomputable def othello_places_J3 (z1 : Int) (l3 : List Int) : Option (St (List Int × Int) (List Int)) :=
  some (.next (l3, (w64 (z1 + 1))))

noncomputable def othello_places_J2 (g1 : Int) (g2 : Int) (g3 : List Int) (who1 : Int) (l1 : List Int) (z1 : Int) : Option (St (List Int × Int) (List Int)) :=
  (othello_turned_m g1 g2 g3 who1 z1).bind fun r1 => if (decide ((0 : Int) < (r1.length : Int))) then (asrt ((l1.length : Int) + 1 ≤ bigN) <| (othello_places_J3 z1) (l1 ++ ([z1] : List Int))) else ((othello_places_J3 z1) l1)

noncomputable def othello_places_J1 (l2 : List Int) : Option (List Int) :=
  some l2

noncomputable def othello_places_K1 : (List Int) → Option (List Int) :=
  fun (x : (List Int)) => match x with | l2 => othello_places_J1 l2

noncomputable def othello_places_L1 (g1 : Int) (g2 : Int) (g3 : List Int) (who1 : Int) : (List Int × Int) → Option (St (List Int × Int) (List Int)) :=
  fun (x : (List Int × Int)) => match x with | (l1, z1) => if (decide (z1 < (g3.length : Int))) then ((othello_places_J2 g1 g2 g3 who1 l1 z1)) else (some (.done l1))

noncomputable def othello_places_m (g1 : Int) (g2 : Int) (g3 : List Int) (who1 : Int) : Option (List Int) :=
  (loop (othello_places_L1 g1 g2 g3 who1) (([] : List Int), 0)).bind othello_places_K1

set_option maxRecDepth 100000 in
set_option maxHeartbeats 4000000 in
theorem othello_places_w {g1 : Int} {g2 : Int} {A1 : Option Addr} {c1 : Nat} {n1 : Nat} {g3 : List Int} {who1 : Int} {r : (List Int)} {w0 w : World} {B : Nat} {fs : List HP} (hm : othello_places_m g1 g2 g3 who1 = some r) (hS : Sep w0 B w (fs)) (hr_g3 : RdF w0 B fs A1 (vI g3)) (_hc_g3 : g3.length ≤ c1) (_hn_g3 : n1 = g3.length) :
    Calls Try.prog 57 #[.agg #[.int .i64 g1, .int .i64 g2, .slice A1 n1 c1], .int .i64 who1] w fun e w' => ∃ v, e = .returned v ∧ ∃ (A7 : Option Addr) (c7 : Nat), v = .slice A7 r.length c7 ∧ Sep w0 B w' (own 3 (.slice A7 r.length c7) (vI r) :: fs) := by
  obtain ⟨i3, hi3, hz3, hs3, hb3⟩ := info_parts Info3
  obtain rfl := _hn_g3
  unfold othello_places_m at hm
  replace hm := start_b hm
  refine enter (l := [.agg #[.int .i64 g1, .int .i64 g2, .slice A1 g3.length c1], .int .i64 who1]) (n := 25) Try.func57 rfl rfl (by simp) (fun a hF => ?_)
  refine seqR ?_
  refine at_do (d := 2) (s := vS (Instr.box 24 (.agg #[.int .i64 g1, .int .i64 g2, .slice A1 g3.length c1]))) (v := .pointer (some ⟨w.heap.size, 0, none⟩)) (w' := w.alloc (.cells #[.int .i64 g1, .int .i64 g2, .slice A1 g3.length c1] 24)) hF (by kernel_rfl) (by kernel_rfl) (by kernel_rfl) (fun a hF => ?_)
  have hS : Sep w0 B (w.alloc (.cells #[.int .i64 g1, .int .i64 g2, .slice A1 g3.length c1] 24)) (blk w.heap.size 24 #[.int .i64 g1, .int .i64 g2, .slice A1 g3.length c1] :: (fs)) := hS.box 24 #[.int .i64 g1, .int .i64 g2, .slice A1 g3.length c1]
  generalize w.heap.size = g4 at hF hS
  generalize w.alloc (.cells #[.int .i64 g1, .int .i64 g2, .slice A1 g3.length c1] 24) = w at hS ⊢
  refine at_run 1 [] [] [1, 2] [pl 1 (.int .i64 who1), pl 2 (.pointer (some ⟨g4, 0, none⟩))] hF hS (by kernel_rfl) (by kernel_rfl) ?_ (fun a w hF hS => ?_)
  · exact obs_nil
  refine at_end [1, 2] [pl 1 (.int .i64 who1), pl 2 (.pointer (some ⟨g4, 0, none⟩))] hF rfl (by kernel_rfl) (fun hF => ?_)
  refine then_n ?_
  refine reg [] [] [1, 2, 5] [pl 1 (.int .i64 who1), pl 2 (.pointer (some ⟨g4, 0, none⟩)), pl 5 (.slice none 0 0)] hF hS Fol (by kernel_rfl) (by kernel_rfl) (by kernel_rfl) ?_ (fun a w hF hS => ?_)
  · exact obs_nil
  refine seq_cut (fun a w => ∃ (l2 : List Int) (A3 : Option Addr) (c3 : Nat), Fr 25 [pl 5 (.slice A3 l2.length c3)] a ∧ Sep w0 B w (own 3 (.slice A3 l2.length c3) (vI l2) :: fs) ∧ (othello_places_J1 l2).bind some = some r) ?_ ?_
  · rintro a w ⟨l2, A3, c3, hF, hS, hm⟩
    unfold othello_places_J1 at hm
    refine reg [] [] [4] [pl 4 (.slice A3 l2.length c3)] hF hS Fol (by kernel_rfl) (by kernel_rfl) (by kernel_rfl) ?_ (fun a w hF hS => ?_)
    · exact obs_nil
    refine wp_ret ?_
    have hm : some l2 = some r := hm
    obtain rfl := Option.some.inj hm
    exact retV (rs := [.tmp 4]) (vs := [.slice A3 l2.length c3]) hF rfl (rv_t (by kernel_rfl) <| rv_nil) rfl ⟨_, rfl, A3, c3, rfl, hS⟩
  · refine reg [⟨false, [], vS (Instr.loadAt 22 (.pointer (some ⟨g4, 2, none⟩))), .slice A1 g3.length c1⟩] [none, some (.slice A1 g3.length c1), none, none] [1, 2, 5, 9, 10] [pl 1 (.int .i64 who1), pl 2 (.pointer (some ⟨g4, 0, none⟩)), pl 5 (.slice none 0 0), pl 9 (.int .i64 (g3.length : Int)), pl 10 (.int .i64 0)] hF hS Fol (by kernel_rfl) (by kernel_rfl) (by kernel_rfl) ?_ (fun a w hF hS => ?_)
    · exact obs_cons (ob_load Agg22 (fun _ _ hS => (hS.at_ 0 rfl).cell rfl)) <| obs_nil
    refine wp_block ?_
    have hS : Sep w0 B w (own 3 (.slice none 0 0) (vI ([] : List Int)) :: blk g4 24 #[.int .i64 g1, .int .i64 g2, .slice A1 g3.length c1] :: fs) := hS.nil 3
    have hl1 := (hS.at_ 0 rfl).len1
    have hS := (hS.at_ 0 rfl).reN hl1
    have hS : Sep w0 B w (own 3 (.slice none (([] : List Int).length) 0) (vI ([] : List Int)) :: blk g4 24 #[.int .i64 g1, .int .i64 g2, .slice A1 g3.length c1] :: fs) := hS
    have hF := hF.cast (t := 5) (v := .slice none 0 0) (v' := .slice none (([] : List Int).length) 0) rfl rfl (congrArg (fun k => Value.slice none k 0) hl1)
    have hS := hS.pickN 2 [1, 0] (by decide)
    refine wp_loop_model (S := (List Int × Int)) (R := (List Int)) (othello_places_L1 g1 g2 g3 who1) (fun x => (othello_places_K1 x).bind some) r (fun (x : (List Int × Int)) a w => ∃ (A2 : Option Addr) (c2 : Nat), Fr 25 [pl 1 (.int .i64 who1), pl 2 (.pointer (some ⟨g4, 0, none⟩)), pl 5 (.slice A2 x.1.length c2), pl 9 (.int .i64 (g3.length : Int)), pl 10 (.int .i64 x.2)] a ∧ Sep w0 B w (blk g4 24 #[.int .i64 g1, .int .i64 g2, .slice A1 g3.length c1] :: own 3 (.slice A2 x.1.length c2) (vI x.1) :: fs)) (assoc_b hm) ⟨none, 0, hF.weak [1, 2, 5, 9, 10] (by kernel_rfl), hS⟩ ?_
    clear hF hS hm
    rintro nn1 ⟨l1, z1⟩ a w ⟨A2, c2, hF, hS⟩ hm
    generalize hφ1 : stK (othello_places_L1 g1 g2 g3 who1) nn1 (fun x => (othello_places_K1 x).bind some) = φ1 at hm
    unfold othello_places_L1 at hm
    dsimp only at hF hS hm
    refine reg [] [] [1, 2, 5, 9, 10, 11] [pl 1 (.int .i64 who1), pl 2 (.pointer (some ⟨g4, 0, none⟩)), pl 5 (.slice A2 l1.length c2), pl 9 (.int .i64 (g3.length : Int)), pl 10 (.int .i64 z1), pl 11 (.bool (decide (z1 < (g3.length : Int))))] hF hS Fol (by kernel_rfl) (by kernel_rfl) (by kernel_rfl) ?_ (fun a w hF hS => ?_)
    · exact obs_nil
    refine seq_cut (fun a w => Fr 25 [pl 1 (.int .i64 who1), pl 2 (.pointer (some ⟨g4, 0, none⟩)), pl 5 (.slice A2 l1.length c2), pl 9 (.int .i64 (g3.length : Int)), pl 10 (.int .i64 z1)] a ∧ Sep w0 B w (blk g4 24 #[.int .i64 g1, .int .i64 g2, .slice A1 g3.length c1] :: own 3 (.slice A2 l1.length c2) (vI l1) :: fs) ∧ ((othello_places_J2 g1 g2 g3 who1 l1 z1)).bind φ1 = some r) ?_ ?_
    · rintro a w ⟨hF, hS, hm⟩
      unfold othello_places_J2 at hm
      refine seq_cut (fun a w => ∃ (l3 : List Int) (A6 : Option Addr) (c6 : Nat), Fr 25 [pl 1 (.int .i64 who1), pl 2 (.pointer (some ⟨g4, 0, none⟩)), pl 5 (.slice A6 l3.length c6), pl 9 (.int .i64 (g3.length : Int)), pl 10 (.int .i64 z1)] a ∧ Sep w0 B w (blk g4 24 #[.int .i64 g1, .int .i64 g2, .slice A1 g3.length c1] :: own 3 (.slice A6 l3.length c6) (vI l3) :: fs) ∧ ((othello_places_J3 z1) l3).bind φ1 = some r) ?_ ?_
      · rintro a w ⟨l3, A6, c6, hF, hS, hm⟩
        unfold othello_places_J3 at hm
        refine reg1 [] [] [1, 2, 5, 9, 10] [pl 1 (.int .i64 who1), pl 2 (.pointer (some ⟨g4, 0, none⟩)), pl 5 (.slice A6 l3.length c6), pl 9 (.int .i64 (g3.length : Int)), pl 10 (.int .i64 (w64 (z1 + 1)))] hF hS Fol (by kernel_rfl) (by kernel_rfl) (by kernel_rfl) ?_ (fun a w hF hS => ?_)
        · exact obs_nil
        refine then_n ?_
        rw [← hφ1] at hm
        exact ⟨(l3, (w64 (z1 + 1))), ⟨A6, c6, hF.weak [1, 2, 5, 9, 10] (by kernel_rfl), hS⟩, hm⟩
      · refine wp_block ?_
        refine reg [] [] [1, 2, 5, 6, 9, 10] [pl 1 (.int .i64 who1), pl 2 (.pointer (some ⟨g4, 0, none⟩)), pl 5 (.slice A2 l1.length c2), pl 6 (.int .i64 z1), pl 9 (.int .i64 (g3.length : Int)), pl 10 (.int .i64 z1)] hF hS Fol (by kernel_rfl) (by kernel_rfl) (by kernel_rfl) ?_ (fun a w hF hS => ?_)
        · exact obs_nil
        refine seqR ?_
        obtain ⟨r1, hr1, hm⟩ := call_b hm
        refine at_run 3 [⟨false, [], vS (Instr.loadAt 24 (.pointer (some ⟨g4, 0, none⟩))), .agg #[.int .i64 g1, .int .i64 g2, .slice A1 g3.length c1]⟩] [some (.agg #[.int .i64 g1, .int .i64 g2, .slice A1 g3.length c1]), none, none] [1, 2, 5, 6, 9, 10, 13, 14, 15] [pl 1 (.int .i64 who1), pl 2 (.pointer (some ⟨g4, 0, none⟩)), pl 5 (.slice A2 l1.length c2), pl 6 (.int .i64 z1), pl 9 (.int .i64 (g3.length : Int)), pl 10 (.int .i64 z1), pl 13 (.agg #[.int .i64 g1, .int .i64 g2, .slice A1 g3.length c1]), pl 14 (.int .i64 who1), pl 15 (.int .i64 z1)] hF hS (by kernel_rfl) (by kernel_rfl) ?_ (fun a w hF hS => ?_)
        · exact obs_cons (ob_loadA (cs := #[.int .i64 g1, .int .i64 g2, .slice A1 g3.length c1]) (by kernel_rfl) (by kernel_rfl) (fun _ _ hS => (hS.at_ 0 rfl).cellsAt 0 (by rfl))) <| obs_nil
        refine at_call (f := 59) (args := #[.agg #[.int .i64 g1, .int .i64 g2, .slice A1 g3.length c1], .int .i64 who1, .int .i64 z1]) (d := 16) hF (by kernel_rfl) (by kernel_rfl) Try.func59 (by kernel_rfl) rfl (othello_turned_w hr1 hS (fun _ hS => (hr_g3 _ (hS.dropN 2))) _hc_g3 rfl) (fun v a w hR hF => ?_)
        clear hS
        obtain ⟨A4, c4, rfl, hS⟩ := hR
        have hS : Sep w0 B w (own 3 (.slice A4 r1.length c4) (vI r1) :: blk g4 24 #[.int .i64 g1, .int .i64 g2, .slice A1 g3.length c1] :: own 3 (.slice A2 l1.length c2) (vI l1) :: fs) := hS
        refine at_run 2 [] [] [1, 2, 5, 6, 9, 10, 18] [pl 1 (.int .i64 who1), pl 2 (.pointer (some ⟨g4, 0, none⟩)), pl 5 (.slice A2 l1.length c2), pl 6 (.int .i64 z1), pl 9 (.int .i64 (g3.length : Int)), pl 10 (.int .i64 z1), pl 18 (.bool (decide ((0 : Int) < (r1.length : Int))))] hF hS (by kernel_rfl) (by kernel_rfl) ?_ (fun a w hF hS => ?_)
        · exact obs_nil
        refine at_end [1, 2, 5, 6, 9, 10, 18] [pl 1 (.int .i64 who1), pl 2 (.pointer (some ⟨g4, 0, none⟩)), pl 5 (.slice A2 l1.length c2), pl 6 (.int .i64 z1), pl 9 (.int .i64 (g3.length : Int)), pl 10 (.int .i64 z1), pl 18 (.bool (decide ((0 : Int) < (r1.length : Int))))] hF rfl (by kernel_rfl) (fun hF => ?_)
        refine then_n ?_
        refine cond_ev (t := 18) (b := decide ((0 : Int) < (r1.length : Int))) hF (by kernel_rfl) (fun hb => ?_) (fun hb => ?_)
        · replace hm := if_t hm hb
          refine oneR ?_
          obtain ⟨hp1, hm⟩ := asrt_b hm
          refine at_run 2 [] [] [1, 2, 9, 10, 19, 20] [pl 1 (.int .i64 who1), pl 2 (.pointer (some ⟨g4, 0, none⟩)), pl 9 (.int .i64 (g3.length : Int)), pl 10 (.int .i64 z1), pl 19 (.slice A2 l1.length c2), pl 20 (.int .i64 z1)] hF hS (by kernel_rfl) (by kernel_rfl) ?_ (fun a w hF hS => ?_)
          · exact obs_nil
          refine at_do (d := 21) (s := vS (Instr.buildSlice 22 1 #[(0, .int .i64 z1)])) (v := .slice (some ⟨w.heap.size, 0, none⟩) 1 1) (w' := w.alloc (.cells #[.int .i64 z1] 3)) hF (by kernel_rfl) (by kernel_rfl) (by kernel_rfl) (fun a hF => ?_)
          have hS : Sep w0 B (w.alloc (.cells #[.int .i64 z1] 3)) (own 3 (.slice (some (⟨w.heap.size, 0, none⟩ : Addr)) 1 1) (vI ([z1] : List Int)) :: (own 3 (.slice A4 r1.length c4) (vI r1) :: blk g4 24 #[.int .i64 g1, .int .i64 g2, .slice A1 g3.length c1] :: own 3 (.slice A2 l1.length c2) (vI l1) :: fs)) := hS.lit 3 #[.int .i64 z1] 1 rfl (by omega)
          generalize (some (⟨w.heap.size, 0, none⟩ : Addr)) = g5 at hF hS
          generalize w.alloc (.cells #[.int .i64 z1] 3) = w at hS ⊢
          obtain ⟨A5, c5, w, hrun, hS⟩ := run_app1 (P := Try.prog) (t := 22) (m := l1) (ys := ([z1] : List Int)) (A2 := g5) (m2 := 1) (c2 := 1) (Value.int .i64) (0 : Int) (hS.at_ 3 rfl) (hS.at_ 0 rfl).rd ((hS.at_ 0 rfl).len1) 22 Und22 hi3 hz3 hs3 (by omega) rfl (fun _ => rfl) hp1
          have hS : Sep w0 B w (own 3 (.slice g5 1 1) (vI ([z1] : List Int)) :: own 3 (.slice A4 r1.length c4) (vI r1) :: blk g4 24 #[.int .i64 g1, .int .i64 g2, .slice A1 g3.length c1] :: own 3 (.slice A5 ((l1 ++ ([z1] : List Int)).length) c5) (vI (l1 ++ ([z1] : List Int))) :: fs) := hS
          refine at_do (d := 22) hF (by kernel_rfl) (by kernel_rfl) hrun (fun a hF => ?_)
          refine at_run 1 [] [] [1, 2, 5, 9, 10] [pl 1 (.int .i64 who1), pl 2 (.pointer (some ⟨g4, 0, none⟩)), pl 5 (.slice A5 ((l1 ++ ([z1] : List Int)).length) c5), pl 9 (.int .i64 (g3.length : Int)), pl 10 (.int .i64 z1)] hF hS (by kernel_rfl) (by kernel_rfl) ?_ (fun a w hF hS => ?_)
          · exact obs_nil
          refine at_end [1, 2, 5, 9, 10] [pl 1 (.int .i64 who1), pl 2 (.pointer (some ⟨g4, 0, none⟩)), pl 5 (.slice A5 ((l1 ++ ([z1] : List Int)).length) c5), pl 9 (.int .i64 (g3.length : Int)), pl 10 (.int .i64 z1)] hF rfl (by kernel_rfl) (fun hF => ?_)
          refine block_n ?_
          refine then_n ?_
          have hS := hS.pickN 4 [2, 3] (by decide)
          exact ⟨(l1 ++ ([z1] : List Int)), A5, c5, hF.weak [1, 2, 5, 9, 10] (by kernel_rfl), hS, hm⟩
        · replace hm := if_f hm hb
          refine wp_skip ?_
          refine block_n ?_
          refine then_n ?_
          have hS := hS.pickN 3 [1, 2] (by decide)
          exact ⟨l1, A2, c2, hF.weak [1, 2, 5, 9, 10] (by kernel_rfl), hS, hm⟩
    · refine cond_ev (t := 11) (b := decide (z1 < (g3.length : Int))) hF (by kernel_rfl) (fun hb => ?_) (fun hb => ?_)
      · replace hm := if_t hm hb
        refine wp_skip ?_
        refine then_n ?_
        exact ⟨hF.weak [1, 2, 5, 9, 10] (by kernel_rfl), hS, hm⟩
      · replace hm := if_f hm hb
        refine wp_exit ?_
        refine then_e (then_e (block_e (then_n ?_)))
        have hS := hS.pickN 2 [1] (by decide)
        rw [← hφ1] at hm
        replace hm := done_b hm
        unfold othello_places_K1 at hm
        try dsimp only at hm
        have hm : (othello_places_J1 l1).bind some = some r := hm
        exact ⟨l1, A2, c2, hF.weak [5] (by kernel_rfl), hS, hm⟩

noncomputable def othello_mover_J3 (z1 : Int) : Option (St Int (Fl Unit Int)) :=
  some (.next (w64 (z1 + 1)))

noncomputable def othello_mover_J2 (g1 : Int) (g2 : Int) (g3 : List Int) (first1 : Int) (z1 : Int) : Option (St Int (Fl Unit Int)) :=
  asrt (0 ≤ z1 ∧ z1 < 2) <| (othello_places_m g1 g2 g3 (geti ([first1, w64 (3 - first1)] : List Int) z1)).bind fun r1 => if (decide ((0 : Int) < (r1.length : Int))) then (some (.done (.ret (geti ([first1, w64 (3 - first1)] : List Int) z1)))) else ((othello_mover_J3 z1))

noncomputable def othello_mover_J1 : Option Int :=
  some 0

noncomputable def othello_mover_K1 : (Fl Unit Int) → Option Int :=
  fun (x : (Fl Unit Int)) => match x with | .go _ => othello_mover_J1 | .ret x => some x

noncomputable def othello_mover_L1 (g1 : Int) (g2 : Int) (g3 : List Int) (first1 : Int) : Int → Option (St Int (Fl Unit Int)) :=
  fun (x : Int) => match x with | z1 => if (decide (z1 < 2)) then ((othello_mover_J2 g1 g2 g3 first1 z1)) else (some (.done (.go ())))

noncomputable def othello_mover_m (g1 : Int) (g2 : Int) (g3 : List Int) (first1 : Int) : Option Int :=
  (loop (othello_mover_L1 g1 g2 g3 first1) 0).bind othello_mover_K1

set_option maxRecDepth 100000 in
set_option maxHeartbeats 4000000 in
theorem othello_mover_w {g1 : Int} {g2 : Int} {A1 : Option Addr} {c1 : Nat} {n1 : Nat} {g3 : List Int} {first1 : Int} {r : Int} {w0 w : World} {B : Nat} {fs : List HP} (hm : othello_mover_m g1 g2 g3 first1 = some r) (hS : Sep w0 B w (fs)) (hr_g3 : RdF w0 B fs A1 (vI g3)) (_hc_g3 : g3.length ≤ c1) (_hn_g3 : n1 = g3.length) :
    Calls Try.prog 61 #[.agg #[.int .i64 g1, .int .i64 g2, .slice A1 n1 c1], .int .i64 first1] w fun e w' => e = .returned (.int .i64 r) ∧ Sep w0 B w' (fs) := by
  obtain ⟨i3, hi3, hz3, hs3, hb3⟩ := info_parts Info3
  obtain rfl := _hn_g3
  unfold othello_mover_m at hm
  replace hm := start_b hm
  refine enter (l := [.agg #[.int .i64 g1, .int .i64 g2, .slice A1 g3.length c1], .int .i64 first1]) (n := 21) Try.func61 rfl rfl (by simp) (fun a hF => ?_)
  refine seqR ?_
  refine at_do (d := 2) (s := vS (Instr.box 24 (.agg #[.int .i64 g1, .int .i64 g2, .slice A1 g3.length c1]))) (v := .pointer (some ⟨w.heap.size, 0, none⟩)) (w' := w.alloc (.cells #[.int .i64 g1, .int .i64 g2, .slice A1 g3.length c1] 24)) hF (by kernel_rfl) (by kernel_rfl) (by kernel_rfl) (fun a hF => ?_)
  have hS : Sep w0 B (w.alloc (.cells #[.int .i64 g1, .int .i64 g2, .slice A1 g3.length c1] 24)) (blk w.heap.size 24 #[.int .i64 g1, .int .i64 g2, .slice A1 g3.length c1] :: (fs)) := hS.box 24 #[.int .i64 g1, .int .i64 g2, .slice A1 g3.length c1]
  generalize w.heap.size = g4 at hF hS
  generalize w.alloc (.cells #[.int .i64 g1, .int .i64 g2, .slice A1 g3.length c1] 24) = w at hS ⊢
  refine at_run 1 [] [] [1, 2] [pl 1 (.int .i64 first1), pl 2 (.pointer (some ⟨g4, 0, none⟩))] hF hS (by kernel_rfl) (by kernel_rfl) ?_ (fun a w hF hS => ?_)
  · exact obs_nil
  refine at_end [1, 2] [pl 1 (.int .i64 first1), pl 2 (.pointer (some ⟨g4, 0, none⟩))] hF rfl (by kernel_rfl) (fun hF => ?_)
  refine then_n ?_
  refine seq_cut (fun a w => Fr 21 [] a ∧ Sep w0 B w (fs) ∧ (othello_mover_J1).bind some = some r) ?_ ?_
  · rintro a w ⟨hF, hS, hm⟩
    unfold othello_mover_J1 at hm
    refine reg [] [] [4] [pl 4 (.int .i64 0)] hF hS Fol (by kernel_rfl) (by kernel_rfl) (by kernel_rfl) ?_ (fun a w hF hS => ?_)
    · exact obs_nil
    refine wp_ret ?_
    have hm : some 0 = some r := hm
    obtain rfl := Option.some.inj hm
    exact retV (rs := [.tmp 4]) (vs := [.int .i64 0]) hF rfl (rv_t (by kernel_rfl) <| rv_nil) rfl ⟨rfl, hS⟩
  · refine reg [] [] [2, 10, 11] [pl 2 (.pointer (some ⟨g4, 0, none⟩)), pl 10 (.agg #[.int .i64 first1, .int .i64 (w64 (3 - first1))]), pl 11 (.int .i64 0)] hF hS Fol (by kernel_rfl) (by kernel_rfl) (by kernel_rfl) ?_ (fun a w hF hS => ?_)
    · exact obs_nil
    refine wp_block ?_
    refine wp_loop_model (S := Int) (R := (Fl Unit Int)) (othello_mover_L1 g1 g2 g3 first1) (fun x => (othello_mover_K1 x).bind some) r (fun (x : Int) a w => Fr 21 [pl 2 (.pointer (some ⟨g4, 0, none⟩)), pl 10 (.agg #[.int .i64 first1, .int .i64 (w64 (3 - first1))]), pl 11 (.int .i64 x)] a ∧ Sep w0 B w (blk g4 24 #[.int .i64 g1, .int .i64 g2, .slice A1 g3.length c1] :: fs)) (assoc_b hm) ⟨hF.weak [2, 10, 11] (by kernel_rfl), hS⟩ ?_
    clear hF hS hm
    rintro nn1 z1 a w ⟨hF, hS⟩ hm
    generalize hφ1 : stK (othello_mover_L1 g1 g2 g3 first1) nn1 (fun x => (othello_mover_K1 x).bind some) = φ1 at hm
    unfold othello_mover_L1 at hm
    dsimp only at hm
    refine reg [] [] [2, 10, 11, 12] [pl 2 (.pointer (some ⟨g4, 0, none⟩)), pl 10 (.agg #[.int .i64 first1, .int .i64 (w64 (3 - first1))]), pl 11 (.int .i64 z1), pl 12 (.bool (decide (z1 < 2)))] hF hS Fol (by kernel_rfl) (by kernel_rfl) (by kernel_rfl) ?_ (fun a w hF hS => ?_)
    · exact obs_nil
    refine seq_cut (fun a w => Fr 21 [pl 2 (.pointer (some ⟨g4, 0, none⟩)), pl 10 (.agg #[.int .i64 first1, .int .i64 (w64 (3 - first1))]), pl 11 (.int .i64 z1)] a ∧ Sep w0 B w (blk g4 24 #[.int .i64 g1, .int .i64 g2, .slice A1 g3.length c1] :: fs) ∧ ((othello_mover_J2 g1 g2 g3 first1 z1)).bind φ1 = some r) ?_ ?_
    · rintro a w ⟨hF, hS, hm⟩
      unfold othello_mover_J2 at hm
      refine seq_cut (fun a w => Fr 21 [pl 2 (.pointer (some ⟨g4, 0, none⟩)), pl 10 (.agg #[.int .i64 first1, .int .i64 (w64 (3 - first1))]), pl 11 (.int .i64 z1)] a ∧ Sep w0 B w (blk g4 24 #[.int .i64 g1, .int .i64 g2, .slice A1 g3.length c1] :: fs) ∧ ((othello_mover_J3 z1)).bind φ1 = some r) ?_ ?_
      · rintro a w ⟨hF, hS, hm⟩
        unfold othello_mover_J3 at hm
        refine reg1 [] [] [2, 10, 11] [pl 2 (.pointer (some ⟨g4, 0, none⟩)), pl 10 (.agg #[.int .i64 first1, .int .i64 (w64 (3 - first1))]), pl 11 (.int .i64 (w64 (z1 + 1)))] hF hS Fol (by kernel_rfl) (by kernel_rfl) (by kernel_rfl) ?_ (fun a w hF hS => ?_)
        · exact obs_nil
        refine then_n ?_
        rw [← hφ1] at hm
        exact ⟨(w64 (z1 + 1)), ⟨hF.weak [2, 10, 11] (by kernel_rfl), hS⟩, hm⟩
      · refine wp_block ?_
        obtain ⟨hp1, hm⟩ := asrt_b hm
        refine reg [⟨true, [], vS (Instr.index 127 (.agg (List.toArray (([] : List Value) ++ (arr1 (Value.int .i64) (0 : Int) 2 ([first1, w64 (3 - first1)] : List Int) ++ ([] : List Value))))) (.int .i64 z1)), .int .i64 (geti ([first1, w64 (3 - first1)] : List Int) z1)⟩] [some (.int .i64 (geti ([first1, w64 (3 - first1)] : List Int) z1)), none] [2, 6, 10, 11] [pl 2 (.pointer (some ⟨g4, 0, none⟩)), pl 6 (.int .i64 (geti ([first1, w64 (3 - first1)] : List Int) z1)), pl 10 (.agg #[.int .i64 first1, .int .i64 (w64 (3 - first1))]), pl 11 (.int .i64 z1)] hF hS Fol (by kernel_rfl) (by kernel_rfl) (by kernel_rfl) ?_ (fun a w hF hS => ?_)
        · exact obs_cons (ob_idx1 (f := (Value.int .i64)) (z := (0 : Int)) (m := ([first1, w64 (3 - first1)] : List Int)) UndA127 (by kernel_rfl) (by kernel_rfl) (fun _ => hp1)) <| obs_nil
        refine seqR ?_
        obtain ⟨r1, hr1, hm⟩ := call_b hm
        refine at_run 2 [⟨false, [], vS (Instr.loadAt 24 (.pointer (some ⟨g4, 0, none⟩))), .agg #[.int .i64 g1, .int .i64 g2, .slice A1 g3.length c1]⟩] [some (.agg #[.int .i64 g1, .int .i64 g2, .slice A1 g3.length c1]), none] [2, 6, 10, 11, 14, 15] [pl 2 (.pointer (some ⟨g4, 0, none⟩)), pl 6 (.int .i64 (geti ([first1, w64 (3 - first1)] : List Int) z1)), pl 10 (.agg #[.int .i64 first1, .int .i64 (w64 (3 - first1))]), pl 11 (.int .i64 z1), pl 14 (.agg #[.int .i64 g1, .int .i64 g2, .slice A1 g3.length c1]), pl 15 (.int .i64 (geti ([first1, w64 (3 - first1)] : List Int) z1))] hF hS (by kernel_rfl) (by kernel_rfl) ?_ (fun a w hF hS => ?_)
        · exact obs_cons (ob_loadA (cs := #[.int .i64 g1, .int .i64 g2, .slice A1 g3.length c1]) (by kernel_rfl) (by kernel_rfl) (fun _ _ hS => (hS.at_ 0 rfl).cellsAt 0 (by rfl))) <| obs_nil
        refine at_call (f := 57) (args := #[.agg #[.int .i64 g1, .int .i64 g2, .slice A1 g3.length c1], .int .i64 (geti ([first1, w64 (3 - first1)] : List Int) z1)]) (d := 16) hF (by kernel_rfl) (by kernel_rfl) Try.func57 (by kernel_rfl) rfl (othello_places_w hr1 hS (fun _ hS => (hr_g3 _ (hS.dropN 1))) _hc_g3 rfl) (fun v a w hR hF => ?_)
        clear hS
        obtain ⟨A2, c2, rfl, hS⟩ := hR
        have hS : Sep w0 B w (own 3 (.slice A2 r1.length c2) (vI r1) :: blk g4 24 #[.int .i64 g1, .int .i64 g2, .slice A1 g3.length c1] :: fs) := hS
        refine at_run 2 [] [] [2, 6, 10, 11, 18] [pl 2 (.pointer (some ⟨g4, 0, none⟩)), pl 6 (.int .i64 (geti ([first1, w64 (3 - first1)] : List Int) z1)), pl 10 (.agg #[.int .i64 first1, .int .i64 (w64 (3 - first1))]), pl 11 (.int .i64 z1), pl 18 (.bool (decide ((0 : Int) < (r1.length : Int))))] hF hS (by kernel_rfl) (by kernel_rfl) ?_ (fun a w hF hS => ?_)
        · exact obs_nil
        refine at_end [2, 6, 10, 11, 18] [pl 2 (.pointer (some ⟨g4, 0, none⟩)), pl 6 (.int .i64 (geti ([first1, w64 (3 - first1)] : List Int) z1)), pl 10 (.agg #[.int .i64 first1, .int .i64 (w64 (3 - first1))]), pl 11 (.int .i64 z1), pl 18 (.bool (decide ((0 : Int) < (r1.length : Int))))] hF rfl (by kernel_rfl) (fun hF => ?_)
        refine then_n ?_
        refine cond_ev (t := 18) (b := decide ((0 : Int) < (r1.length : Int))) hF (by kernel_rfl) (fun hb => ?_) (fun hb => ?_)
        · replace hm := if_t hm hb
          refine reg [] [] [4] [pl 4 (.int .i64 (geti ([first1, w64 (3 - first1)] : List Int) z1))] hF hS Fol (by kernel_rfl) (by kernel_rfl) (by kernel_rfl) ?_ (fun a w hF hS => ?_)
          · exact obs_nil
          refine wp_ret ?_
          refine block_r (then_r (then_r (block_r (then_r ?_))))
          rw [← hφ1] at hm
          replace hm := done_b hm
          unfold othello_mover_K1 at hm
          try dsimp only at hm
          have hS := hS.pickN 2 [] (by decide)
          have hm : some (geti ([first1, w64 (3 - first1)] : List Int) z1) = some r := hm
          obtain rfl := Option.some.inj hm
          exact retV (rs := [.tmp 4]) (vs := [.int .i64 (geti ([first1, w64 (3 - first1)] : List Int) z1)]) hF rfl (rv_t (by kernel_rfl) <| rv_nil) rfl ⟨rfl, hS⟩
        · replace hm := if_f hm hb
          refine wp_skip ?_
          refine block_n ?_
          refine then_n ?_
          have hS := hS.pickN 2 [1] (by decide)
          exact ⟨hF.weak [2, 10, 11] (by kernel_rfl), hS, hm⟩
    · refine cond_ev (t := 12) (b := decide (z1 < 2)) hF (by kernel_rfl) (fun hb => ?_) (fun hb => ?_)
      · replace hm := if_t hm hb
        refine wp_skip ?_
        refine then_n ?_
        exact ⟨hF.weak [2, 10, 11] (by kernel_rfl), hS, hm⟩
      · replace hm := if_f hm hb
        refine wp_exit ?_
        refine then_e (then_e (block_e (then_n ?_)))
        have hS := hS.pickN 1 [] (by decide)
        rw [← hφ1] at hm
        replace hm := done_b hm
        unfold othello_mover_K1 at hm
        try dsimp only at hm
        have hm : (othello_mover_J1).bind some = some r := hm
        exact ⟨hF.weak [] (by kernel_rfl), hS, hm⟩

noncomputable def othello_lead_J3 (z1 : Int) (n4 : Int) : Option (St (Int × Int) Int) :=
  some (.next (n4, (w64 (z1 + 1))))

noncomputable def othello_lead_J2 (g3 : List Int) (who1 : Int) (n2 : Int) (z1 : Int) : Option (St (Int × Int) Int) :=
  asrt (0 ≤ z1 ∧ z1 < (g3.length : Int)) <| if ((geti g3 z1) == who1) then ((othello_lead_J3 z1) (w64 (n2 + 1))) else (if ((geti g3 z1) == (w64 (3 - who1))) then ((othello_lead_J3 z1) (w64 (n2 - 1))) else ((othello_lead_J3 z1) n2))

noncomputable def othello_lead_J1 (n3 : Int) : Option Int :=
  some n3

noncomputable def othello_lead_K1 : Int → Option Int :=
  fun (x : Int) => match x with | n3 => othello_lead_J1 n3

noncomputable def othello_lead_L1 (g3 : List Int) (who1 : Int) : (Int × Int) → Option (St (Int × Int) Int) :=
  fun (x : (Int × Int)) => match x with | (n2, z1) => if (decide (z1 < (g3.length : Int))) then ((othello_lead_J2 g3 who1 n2 z1)) else (some (.done n2))

noncomputable def othello_lead_m (g1 : Int) (g2 : Int) (g3 : List Int) (who1 : Int) : Option Int :=
  (loop (othello_lead_L1 g3 who1) (0, 0)).bind othello_lead_K1

set_option maxRecDepth 100000 in
set_option maxHeartbeats 4000000 in
theorem othello_lead_w {g1 : Int} {g2 : Int} {A1 : Option Addr} {c1 : Nat} {n1 : Nat} {g3 : List Int} {who1 : Int} {r : Int} {w0 w : World} {B : Nat} {fs : List HP} (hm : othello_lead_m g1 g2 g3 who1 = some r) (hS : Sep w0 B w (fs)) (hr_g3 : RdF w0 B fs A1 (vI g3)) (_hc_g3 : g3.length ≤ c1) (_hn_g3 : n1 = g3.length) :
    Calls Try.prog 119 #[.agg #[.int .i64 g1, .int .i64 g2, .slice A1 n1 c1], .int .i64 who1] w fun e w' => e = .returned (.int .i64 r) ∧ Sep w0 B w' (fs) := by
  obtain ⟨i3, hi3, hz3, hs3, hb3⟩ := info_parts Info3
  obtain rfl := _hn_g3
  unfold othello_lead_m at hm
  replace hm := start_b hm
  refine enter (l := [.agg #[.int .i64 g1, .int .i64 g2, .slice A1 g3.length c1], .int .i64 who1]) (n := 29) Try.func119 rfl rfl (by simp) (fun a hF => ?_)
  refine seqR ?_
  refine at_do (d := 2) (s := vS (Instr.box 24 (.agg #[.int .i64 g1, .int .i64 g2, .slice A1 g3.length c1]))) (v := .pointer (some ⟨w.heap.size, 0, none⟩)) (w' := w.alloc (.cells #[.int .i64 g1, .int .i64 g2, .slice A1 g3.length c1] 24)) hF (by kernel_rfl) (by kernel_rfl) (by kernel_rfl) (fun a hF => ?_)
  have hS : Sep w0 B (w.alloc (.cells #[.int .i64 g1, .int .i64 g2, .slice A1 g3.length c1] 24)) (blk w.heap.size 24 #[.int .i64 g1, .int .i64 g2, .slice A1 g3.length c1] :: (fs)) := hS.box 24 #[.int .i64 g1, .int .i64 g2, .slice A1 g3.length c1]
  generalize w.heap.size = g4 at hF hS
  generalize w.alloc (.cells #[.int .i64 g1, .int .i64 g2, .slice A1 g3.length c1] 24) = w at hS ⊢
  refine at_run 1 [] [] [1, 2] [pl 1 (.int .i64 who1), pl 2 (.pointer (some ⟨g4, 0, none⟩))] hF hS (by kernel_rfl) (by kernel_rfl) ?_ (fun a w hF hS => ?_)
  · exact obs_nil
  refine at_end [1, 2] [pl 1 (.int .i64 who1), pl 2 (.pointer (some ⟨g4, 0, none⟩))] hF rfl (by kernel_rfl) (fun hF => ?_)
  refine then_n ?_
  refine reg [] [] [1, 2, 5] [pl 1 (.int .i64 who1), pl 2 (.pointer (some ⟨g4, 0, none⟩)), pl 5 (.int .i64 0)] hF hS Fol (by kernel_rfl) (by kernel_rfl) (by kernel_rfl) ?_ (fun a w hF hS => ?_)
  · exact obs_nil
  refine seq_cut (fun a w => ∃ (n3 : Int), Fr 29 [pl 5 (.int .i64 n3)] a ∧ Sep w0 B w (fs) ∧ (othello_lead_J1 n3).bind some = some r) ?_ ?_
  · rintro a w ⟨n3, hF, hS, hm⟩
    unfold othello_lead_J1 at hm
    refine reg [] [] [4] [pl 4 (.int .i64 n3)] hF hS Fol (by kernel_rfl) (by kernel_rfl) (by kernel_rfl) ?_ (fun a w hF hS => ?_)
    · exact obs_nil
    refine wp_ret ?_
    have hm : some n3 = some r := hm
    obtain rfl := Option.some.inj hm
    exact retV (rs := [.tmp 4]) (vs := [.int .i64 n3]) hF rfl (rv_t (by kernel_rfl) <| rv_nil) rfl ⟨rfl, hS⟩
  · refine reg [⟨false, [], vS (Instr.loadAt 22 (.pointer (some ⟨g4, 2, none⟩))), .slice A1 g3.length c1⟩] [none, some (.slice A1 g3.length c1), none, none] [1, 5, 9, 10, 11] [pl 1 (.int .i64 who1), pl 5 (.int .i64 0), pl 9 (.slice A1 g3.length c1), pl 10 (.int .i64 (g3.length : Int)), pl 11 (.int .i64 0)] hF hS Fol (by kernel_rfl) (by kernel_rfl) (by kernel_rfl) ?_ (fun a w hF hS => ?_)
    · exact obs_cons (ob_load Agg22 (fun _ _ hS => (hS.at_ 0 rfl).cell rfl)) <| obs_nil
    refine wp_block ?_
    have hS := hS.pickN 1 [] (by decide)
    refine wp_loop_model (S := (Int × Int)) (R := Int) (othello_lead_L1 g3 who1) (fun x => (othello_lead_K1 x).bind some) r (fun (x : (Int × Int)) a w => Fr 29 [pl 1 (.int .i64 who1), pl 5 (.int .i64 x.1), pl 9 (.slice A1 g3.length c1), pl 10 (.int .i64 (g3.length : Int)), pl 11 (.int .i64 x.2)] a ∧ Sep w0 B w (fs)) (assoc_b hm) ⟨hF.weak [1, 5, 9, 10, 11] (by kernel_rfl), hS⟩ ?_
    clear hF hS hm
    rintro nn1 ⟨n2, z1⟩ a w ⟨hF, hS⟩ hm
    generalize hφ1 : stK (othello_lead_L1 g3 who1) nn1 (fun x => (othello_lead_K1 x).bind some) = φ1 at hm
    unfold othello_lead_L1 at hm
    dsimp only at hF hS hm
    refine reg [] [] [1, 5, 9, 10, 11, 12] [pl 1 (.int .i64 who1), pl 5 (.int .i64 n2), pl 9 (.slice A1 g3.length c1), pl 10 (.int .i64 (g3.length : Int)), pl 11 (.int .i64 z1), pl 12 (.bool (decide (z1 < (g3.length : Int))))] hF hS Fol (by kernel_rfl) (by kernel_rfl) (by kernel_rfl) ?_ (fun a w hF hS => ?_)
    · exact obs_nil
    refine seq_cut (fun a w => Fr 29 [pl 1 (.int .i64 who1), pl 5 (.int .i64 n2), pl 9 (.slice A1 g3.length c1), pl 10 (.int .i64 (g3.length : Int)), pl 11 (.int .i64 z1)] a ∧ Sep w0 B w (fs) ∧ ((othello_lead_J2 g3 who1 n2 z1)).bind φ1 = some r) ?_ ?_
    · rintro a w ⟨hF, hS, hm⟩
      unfold othello_lead_J2 at hm
      refine seq_cut (fun a w => ∃ (n4 : Int), Fr 29 [pl 1 (.int .i64 who1), pl 5 (.int .i64 n4), pl 9 (.slice A1 g3.length c1), pl 10 (.int .i64 (g3.length : Int)), pl 11 (.int .i64 z1)] a ∧ Sep w0 B w (fs) ∧ ((othello_lead_J3 z1) n4).bind φ1 = some r) ?_ ?_
      · rintro a w ⟨n4, hF, hS, hm⟩
        unfold othello_lead_J3 at hm
        refine reg1 [] [] [1, 5, 9, 10, 11] [pl 1 (.int .i64 who1), pl 5 (.int .i64 n4), pl 9 (.slice A1 g3.length c1), pl 10 (.int .i64 (g3.length : Int)), pl 11 (.int .i64 (w64 (z1 + 1)))] hF hS Fol (by kernel_rfl) (by kernel_rfl) (by kernel_rfl) ?_ (fun a w hF hS => ?_)
        · exact obs_nil
        refine then_n ?_
        rw [← hφ1] at hm
        exact ⟨(n4, (w64 (z1 + 1))), ⟨hF.weak [1, 5, 9, 10, 11] (by kernel_rfl), hS⟩, hm⟩
      · refine wp_block ?_
        obtain ⟨hp1, hm⟩ := asrt_b hm
        refine reg [⟨true, [], vS (Instr.indexAt 22 (.slice A1 g3.length c1) (.int .i64 z1)), .pointer (some (sAddr A1 z1))⟩, ⟨false, [], vS (Instr.loadAt 3 (.pointer (some (sAddr A1 z1)))), .int .i64 (geti g3 z1)⟩] [some (.pointer (some (sAddr A1 z1))), some (.int .i64 (geti g3 z1)), none] [1, 5, 7, 9, 10, 11] [pl 1 (.int .i64 who1), pl 5 (.int .i64 n2), pl 7 (.int .i64 (geti g3 z1)), pl 9 (.slice A1 g3.length c1), pl 10 (.int .i64 (g3.length : Int)), pl 11 (.int .i64 z1)] hF hS Fol (by kernel_rfl) (by kernel_rfl) (by kernel_rfl) ?_ (fun a w hF hS => ?_)
        · exact obs_cons (ob_ix1 (f := (Value.int .i64)) (m := g3) Und22 hi3 hs3 (hr_g3 _ (hS.dropN 0)) rfl (fun _ => hp1)) <| obs_cons (ob_get1 (n := g3.length) (m := g3) (Value.int .i64) (0 : Int) Agg3 (fun _ hS => ⟨_, (hr_g3 _ (hS.dropN 0))⟩) (fun _ hS => rfl) (fun _ => hp1)) <| obs_nil
        refine reg [] [] [1, 5, 9, 10, 11, 15] [pl 1 (.int .i64 who1), pl 5 (.int .i64 n2), pl 9 (.slice A1 g3.length c1), pl 10 (.int .i64 (g3.length : Int)), pl 11 (.int .i64 z1), pl 15 (.int .i64 (geti g3 z1))] hF hS Fol (by kernel_rfl) (by kernel_rfl) (by kernel_rfl) ?_ (fun a w hF hS => ?_)
        · exact obs_nil
        refine wp_block ?_
        refine reg [] [] [1, 5, 9, 10, 11, 15, 16] [pl 1 (.int .i64 who1), pl 5 (.int .i64 n2), pl 9 (.slice A1 g3.length c1), pl 10 (.int .i64 (g3.length : Int)), pl 11 (.int .i64 z1), pl 15 (.int .i64 (geti g3 z1)), pl 16 (.bool ((geti g3 z1) == who1))] hF hS Fol (by kernel_rfl) (by kernel_rfl) (by kernel_rfl) ?_ (fun a w hF hS => ?_)
        · exact obs_nil
        refine cond_ev (t := 16) (b := ((geti g3 z1) == who1)) hF (by kernel_rfl) (fun hb => ?_) (fun hb => ?_)
        · replace hm := if_t hm hb
          refine reg1 [] [] [1, 5, 9, 10, 11] [pl 1 (.int .i64 who1), pl 5 (.int .i64 (w64 (n2 + 1))), pl 9 (.slice A1 g3.length c1), pl 10 (.int .i64 (g3.length : Int)), pl 11 (.int .i64 z1)] hF hS Fol (by kernel_rfl) (by kernel_rfl) (by kernel_rfl) ?_ (fun a w hF hS => ?_)
          · exact obs_nil
          refine block_n ?_
          refine block_n ?_
          refine then_n ?_
          exact ⟨(w64 (n2 + 1)), hF.weak [1, 5, 9, 10, 11] (by kernel_rfl), hS, hm⟩
        · replace hm := if_f hm hb
          refine reg [] [] [1, 5, 9, 10, 11, 21] [pl 1 (.int .i64 who1), pl 5 (.int .i64 n2), pl 9 (.slice A1 g3.length c1), pl 10 (.int .i64 (g3.length : Int)), pl 11 (.int .i64 z1), pl 21 (.bool ((geti g3 z1) == (w64 (3 - who1))))] hF hS Fol (by kernel_rfl) (by kernel_rfl) (by kernel_rfl) ?_ (fun a w hF hS => ?_)
          · exact obs_nil
          refine cond_ev (t := 21) (b := ((geti g3 z1) == (w64 (3 - who1)))) hF (by kernel_rfl) (fun hb => ?_) (fun hb => ?_)
          · replace hm := if_t hm hb
            refine reg1 [] [] [1, 5, 9, 10, 11] [pl 1 (.int .i64 who1), pl 5 (.int .i64 (w64 (n2 - 1))), pl 9 (.slice A1 g3.length c1), pl 10 (.int .i64 (g3.length : Int)), pl 11 (.int .i64 z1)] hF hS Fol (by kernel_rfl) (by kernel_rfl) (by kernel_rfl) ?_ (fun a w hF hS => ?_)
            · exact obs_nil
            refine block_n ?_
            refine block_n ?_
            refine then_n ?_
            exact ⟨(w64 (n2 - 1)), hF.weak [1, 5, 9, 10, 11] (by kernel_rfl), hS, hm⟩
          · replace hm := if_f hm hb
            refine wp_skip ?_
            refine block_n ?_
            refine block_n ?_
            refine then_n ?_
            exact ⟨n2, hF.weak [1, 5, 9, 10, 11] (by kernel_rfl), hS, hm⟩
    · refine cond_ev (t := 12) (b := decide (z1 < (g3.length : Int))) hF (by kernel_rfl) (fun hb => ?_) (fun hb => ?_)
      · replace hm := if_t hm hb
        refine wp_skip ?_
        refine then_n ?_
        exact ⟨hF.weak [1, 5, 9, 10, 11] (by kernel_rfl), hS, hm⟩
      · replace hm := if_f hm hb
        refine wp_exit ?_
        refine then_e (then_e (block_e (then_n ?_)))
        rw [← hφ1] at hm
        replace hm := done_b hm
        unfold othello_lead_K1 at hm
        try dsimp only at hm
        have hm : (othello_lead_J1 n2).bind some = some r := hm
        exact ⟨n2, hF.weak [5] (by kernel_rfl), hS, hm⟩

noncomputable def slices_Clone_J1 (s1 : List Int) : Option (List Int) :=
  asrt ((0 : Int) + (s1.length : Int) ≤ bigN) <| some (([] : List Int) ++ s1)

noncomputable def slices_Clone_m (s1 : List Int) : Option (List Int) :=
  (slices_Clone_J1 s1)

set_option maxRecDepth 100000 in
set_option maxHeartbeats 4000000 in
theorem slices_Clone_w {A1 : Option Addr} {c1 : Nat} {n1 : Nat} {s1 : List Int} {r : (List Int)} {w0 w : World} {B : Nat} {fs : List HP} (hm : slices_Clone_m s1 = some r) (hS : Sep w0 B w (fs)) (hr_s1 : RdF w0 B fs A1 (vI s1)) (_hc_s1 : s1.length ≤ c1) (_hn_s1 : n1 = s1.length) :
    Calls Try.prog 113 #[.slice A1 n1 c1] w fun e w' => ∃ v, e = .returned v ∧ ∃ (A3 : Option Addr) (c3 : Nat), v = .slice A3 r.length c3 ∧ Sep w0 B w' (own 3 (.slice A3 r.length c3) (vI r) :: fs) := by
  obtain ⟨i3, hi3, hz3, hs3, hb3⟩ := info_parts Info3
  obtain rfl := _hn_s1
  unfold slices_Clone_m at hm
  replace hm := start_b hm
  refine enter (l := [.slice A1 s1.length c1]) (n := 8) Try.func113 rfl rfl (by simp) (fun a hF => ?_)
  refine reg [] [] [0] [pl 0 (.slice A1 s1.length c1)] hF hS Fol (by kernel_rfl) (by kernel_rfl) (by kernel_rfl) ?_ (fun a w hF hS => ?_)
  · exact obs_nil
  refine seq_cut (fun a w => Fr 8 [pl 0 (.slice A1 s1.length c1)] a ∧ Sep w0 B w (fs) ∧ ((slices_Clone_J1 s1)).bind some = some r) ?_ ?_
  · rintro a w ⟨hF, hS, hm⟩
    unfold slices_Clone_J1 at hm
    refine seqR ?_
    obtain ⟨hp1, hm⟩ := asrt_b hm
    refine at_do (d := 5) (s := vS (Instr.buildSlice 22 0 #[])) (v := .slice (some ⟨w.heap.size, 0, none⟩) 0 0) (w' := w.alloc (.cells #[] 3)) hF (by kernel_rfl) (by kernel_rfl) (by kernel_rfl) (fun a hF => ?_)
    have hS : Sep w0 B (w.alloc (.cells #[] 3)) (own 3 (.slice (some (⟨w.heap.size, 0, none⟩ : Addr)) 0 0) (vI ([] : List Int)) :: (fs)) := hS.lit 3 #[] 0 rfl (by omega)
    generalize (some (⟨w.heap.size, 0, none⟩ : Addr)) = g1 at hF hS
    generalize w.alloc (.cells #[] 3) = w at hS ⊢
    refine at_run 1 [] [] [5, 6] [pl 5 (.slice g1 0 0), pl 6 (.slice A1 s1.length c1)] hF hS (by kernel_rfl) (by kernel_rfl) ?_ (fun a w hF hS => ?_)
    · exact obs_nil
    obtain ⟨A2, c2, w, hrun, hS⟩ := run_app1 (P := Try.prog) (t := 22) (m := ([] : List Int)) (ys := s1) (A2 := A1) (m2 := s1.length) (c2 := c1) (Value.int .i64) (0 : Int) (hS.at_ 0 rfl) (hr_s1 _ (hS.dropN 1)) rfl 22 Und22 hi3 hz3 hs3 (by omega) rfl (fun _ => rfl) hp1
    have hS : Sep w0 B w (own 3 (.slice A2 ((([] : List Int) ++ s1).length) c2) (vI (([] : List Int) ++ s1)) :: fs) := hS
    refine at_do (d := 7) hF (by kernel_rfl) (by kernel_rfl) hrun (fun a hF => ?_)
    refine at_run 1 [] [] [2] [pl 2 (.slice A2 ((([] : List Int) ++ s1).length) c2)] hF hS (by kernel_rfl) (by kernel_rfl) ?_ (fun a w hF hS => ?_)
    · exact obs_nil
    refine at_end [2] [pl 2 (.slice A2 ((([] : List Int) ++ s1).length) c2)] hF rfl (by kernel_rfl) (fun hF => ?_)
    refine then_n ?_
    refine wp_ret ?_
    have hm : some (([] : List Int) ++ s1) = some r := hm
    obtain rfl := Option.some.inj hm
    exact retV (rs := [.tmp 2]) (vs := [.slice A2 ((([] : List Int) ++ s1).length) c2]) hF rfl (rv_t (by kernel_rfl) <| rv_nil) rfl ⟨_, rfl, A2, c2, rfl, hS⟩
  · refine reg [⟨true, [], vS (binOp .eql 22 (.slice A1 s1.length c1) (.slice none 0 0)), .bool A1.isNone⟩] [none, some (.bool A1.isNone)] [0, 4] [pl 0 (.slice A1 s1.length c1), pl 4 (.bool A1.isNone)] hF hS Fol (by kernel_rfl) (by kernel_rfl) (by kernel_rfl) ?_ (fun a w hF hS => ?_)
    · exact obs_cons (ob_isnil Und22 rfl) <| obs_nil
    refine cond_ev (t := 4) (b := A1.isNone) hF (by kernel_rfl) (fun hb => ?_) (fun hb => ?_)
    · have hA9 := Option.isNone_iff_eq_none.1 hb
      have hnil9 : s1 = [] := by have h9 := (hr_s1 _ (hS.dropN 0)); rw [hA9] at h9; exact h9.none_nil
      have hm : (some ([] : List Int)).bind some = some r := by rw [hnil9] at hm; simpa [asrt, bigN, slices_Clone_J1] using hm
      refine reg [] [] [2] [pl 2 (.slice none 0 0)] hF hS Fol (by kernel_rfl) (by kernel_rfl) (by kernel_rfl) ?_ (fun a w hF hS => ?_)
      · exact obs_nil
      refine wp_ret ?_
      refine then_r ?_
      have hS : Sep w0 B w (own 3 (.slice none 0 0) (vI ([] : List Int)) :: fs) := hS.nil 3
      have hl1 := (hS.at_ 0 rfl).len1
      have hS := (hS.at_ 0 rfl).reN hl1
      have hS : Sep w0 B w (own 3 (.slice none (([] : List Int).length) 0) (vI ([] : List Int)) :: fs) := hS
      have hm : some ([] : List Int) = some r := hm
      obtain rfl := Option.some.inj hm
      exact retV (rs := [.tmp 2]) (vs := [.slice none (([] : List Int).length) 0]) hF rfl (rv_t (by kernel_rfl) <| rv_nil) rfl ⟨_, rfl, none, 0, rfl, hS⟩
    · refine wp_skip ?_
      refine then_n ?_
      exact ⟨hF.weak [0] (by kernel_rfl), hS, hm⟩

noncomputable def othello_put_J3 (who1 : Int) (r1 : (List Int)) (g6 : List Int) (z1 : Int) : Option (St (List Int × Int) (List Int)) :=
  some (.next ((g6.set (Int.toNat (geti r1 z1)) who1), (w64 (z1 + 1))))

noncomputable def othello_put_J2 (who1 : Int) (r1 : (List Int)) (r2 : (List Int)) (g6 : List Int) (z1 : Int) : Option (St (List Int × Int) (List Int)) :=
  asrt (0 ≤ z1 ∧ z1 < (r1.length : Int)) <| asrt (0 ≤ (geti r1 z1) ∧ (geti r1 z1) < (r2.length : Int)) <| (othello_put_J3 who1 r1 g6 z1)

noncomputable def othello_put_J1 (g1 : Int) (g2 : Int) (g7 : List Int) : Option (Int × Int × List Int) :=
  some (g1, g2, g7)

noncomputable def othello_put_K1 (g1 : Int) (g2 : Int) : (List Int) → Option (Int × Int × List Int) :=
  fun (x : (List Int)) => match x with | g7 => (othello_put_J1 g1 g2) g7

noncomputable def othello_put_L1 (who1 : Int) (r1 : (List Int)) (r2 : (List Int)) : (List Int × Int) → Option (St (List Int × Int) (List Int)) :=
  fun (x : (List Int × Int)) => match x with | (g6, z1) => if (decide (z1 < (r1.length : Int))) then ((othello_put_J2 who1 r1 r2 g6 z1)) else (some (.done g6))

noncomputable def othello_put_m (g1 : Int) (g2 : Int) (g3 : List Int) (who1 : Int) (at1 : Int) : Option (Int × Int × List Int) :=
  (othello_turned_m g1 g2 g3 who1 at1).bind fun r1 => (slices_Clone_m g3).bind fun r2 => asrt (0 ≤ at1 ∧ at1 < (r2.length : Int)) <| (loop (othello_put_L1 who1 r1 r2) ((r2.set (Int.toNat at1) who1), 0)).bind (othello_put_K1 g1 g2)

set_option maxRecDepth 100000 in
set_option maxHeartbeats 4000000 in
theorem othello_put_w {g1 : Int} {g2 : Int} {A1 : Option Addr} {c1 : Nat} {n1 : Nat} {g3 : List Int} {who1 : Int} {at1 : Int} {r : (Int × Int × List Int)} {w0 w : World} {B : Nat} {fs : List HP} (hm : othello_put_m g1 g2 g3 who1 at1 = some r) (hS : Sep w0 B w (fs)) (hr_g3 : RdF w0 B fs A1 (vI g3)) (_hc_g3 : g3.length ≤ c1) (_hn_g3 : n1 = g3.length) :
    Calls Try.prog 60 #[.agg #[.int .i64 g1, .int .i64 g2, .slice A1 n1 c1], .int .i64 who1, .int .i64 at1] w fun e w' => ∃ v, e = .returned v ∧ ∃ (A4 : Option Addr) (c4 : Nat), v = .agg #[.int .i64 r.1, .int .i64 r.2.1, .slice A4 r.2.2.length c4] ∧ Sep w0 B w' (own 3 (.slice A4 r.2.2.length c4) (vI r.2.2) :: fs) := by
  obtain ⟨i3, hi3, hz3, hs3, hb3⟩ := info_parts Info3
  obtain ⟨i22, hi22, hz22, hs22, hb22⟩ := info_parts Info22
  obtain rfl := _hn_g3
  unfold othello_put_m at hm
  replace hm := start_b hm
  refine enter (l := [.agg #[.int .i64 g1, .int .i64 g2, .slice A1 g3.length c1], .int .i64 who1, .int .i64 at1]) (n := 36) Try.func60 rfl rfl (by simp) (fun a hF => ?_)
  refine seqR ?_
  refine at_do (d := 3) (s := vS (Instr.box 24 (.agg #[.int .i64 g1, .int .i64 g2, .slice A1 g3.length c1]))) (v := .pointer (some ⟨w.heap.size, 0, none⟩)) (w' := w.alloc (.cells #[.int .i64 g1, .int .i64 g2, .slice A1 g3.length c1] 24)) hF (by kernel_rfl) (by kernel_rfl) (by kernel_rfl) (fun a hF => ?_)
  have hS : Sep w0 B (w.alloc (.cells #[.int .i64 g1, .int .i64 g2, .slice A1 g3.length c1] 24)) (blk w.heap.size 24 #[.int .i64 g1, .int .i64 g2, .slice A1 g3.length c1] :: (fs)) := hS.box 24 #[.int .i64 g1, .int .i64 g2, .slice A1 g3.length c1]
  generalize w.heap.size = g4 at hF hS
  generalize w.alloc (.cells #[.int .i64 g1, .int .i64 g2, .slice A1 g3.length c1] 24) = w at hS ⊢
  refine at_do (d := 6) (s := vS (Instr.alloc 24 true (.tuple #[]))) (v := .pointer (some ⟨w.heap.size, 0, none⟩)) (w' := w.alloc (.cells #[.int .i64 0, .int .i64 0, .slice none 0 0] 24)) hF (by kernel_rfl) (by kernel_rfl) (by kernel_rfl) (fun a hF => ?_)
  have hS : Sep w0 B (w.alloc (.cells #[.int .i64 0, .int .i64 0, .slice none 0 0] 24)) (blk w.heap.size 24 #[.int .i64 0, .int .i64 0, .slice none 0 0] :: (blk g4 24 #[.int .i64 g1, .int .i64 g2, .slice A1 g3.length c1] :: fs)) := hS.box 24 #[.int .i64 0, .int .i64 0, .slice none 0 0]
  generalize w.heap.size = g5 at hF hS
  generalize w.alloc (.cells #[.int .i64 0, .int .i64 0, .slice none 0 0] 24) = w at hS ⊢
  refine at_end [1, 2, 3, 6] [pl 1 (.int .i64 who1), pl 2 (.int .i64 at1), pl 3 (.pointer (some ⟨g4, 0, none⟩)), pl 6 (.pointer (some ⟨g5, 0, none⟩))] hF rfl (by kernel_rfl) (fun hF => ?_)
  refine then_n ?_
  refine seqR ?_
  obtain ⟨r1, hr1, hm⟩ := call_b hm
  refine at_run 3 [⟨false, [], vS (Instr.loadAt 24 (.pointer (some ⟨g4, 0, none⟩))), .agg #[.int .i64 g1, .int .i64 g2, .slice A1 g3.length c1]⟩] [some (.agg #[.int .i64 g1, .int .i64 g2, .slice A1 g3.length c1]), none, none] [1, 2, 3, 6, 10, 11, 12] [pl 1 (.int .i64 who1), pl 2 (.int .i64 at1), pl 3 (.pointer (some ⟨g4, 0, none⟩)), pl 6 (.pointer (some ⟨g5, 0, none⟩)), pl 10 (.agg #[.int .i64 g1, .int .i64 g2, .slice A1 g3.length c1]), pl 11 (.int .i64 who1), pl 12 (.int .i64 at1)] hF hS (by kernel_rfl) (by kernel_rfl) ?_ (fun a w hF hS => ?_)
  · exact obs_cons (ob_loadA (cs := #[.int .i64 g1, .int .i64 g2, .slice A1 g3.length c1]) (by kernel_rfl) (by kernel_rfl) (fun _ _ hS => (hS.at_ 1 rfl).cellsAt 0 (by rfl))) <| obs_nil
  refine at_call (f := 59) (args := #[.agg #[.int .i64 g1, .int .i64 g2, .slice A1 g3.length c1], .int .i64 who1, .int .i64 at1]) (d := 13) hF (by kernel_rfl) (by kernel_rfl) Try.func59 (by kernel_rfl) rfl (othello_turned_w hr1 hS (fun _ hS => (hr_g3 _ (hS.dropN 2))) _hc_g3 rfl) (fun v a w hR hF => ?_)
  clear hS
  obtain ⟨A2, c2, rfl, hS⟩ := hR
  have hS : Sep w0 B w (own 3 (.slice A2 r1.length c2) (vI r1) :: blk g5 24 #[.int .i64 0, .int .i64 0, .slice none 0 0] :: blk g4 24 #[.int .i64 g1, .int .i64 g2, .slice A1 g3.length c1] :: fs) := hS
  refine at_run 1 [] [] [1, 2, 3, 6, 7] [pl 1 (.int .i64 who1), pl 2 (.int .i64 at1), pl 3 (.pointer (some ⟨g4, 0, none⟩)), pl 6 (.pointer (some ⟨g5, 0, none⟩)), pl 7 (.slice A2 r1.length c2)] hF hS (by kernel_rfl) (by kernel_rfl) ?_ (fun a w hF hS => ?_)
  · exact obs_nil
  refine at_end [1, 2, 3, 6, 7] [pl 1 (.int .i64 who1), pl 2 (.int .i64 at1), pl 3 (.pointer (some ⟨g4, 0, none⟩)), pl 6 (.pointer (some ⟨g5, 0, none⟩)), pl 7 (.slice A2 r1.length c2)] hF rfl (by kernel_rfl) (fun hF => ?_)
  refine then_n ?_
  refine seqR ?_
  obtain ⟨r2, hr2, hm⟩ := call_b hm
  refine at_run 2 [⟨false, [], vS (Instr.loadAt 22 (.pointer (some ⟨g4, 2, none⟩))), .slice A1 g3.length c1⟩] [none, some (.slice A1 g3.length c1)] [1, 2, 3, 6, 7, 15] [pl 1 (.int .i64 who1), pl 2 (.int .i64 at1), pl 3 (.pointer (some ⟨g4, 0, none⟩)), pl 6 (.pointer (some ⟨g5, 0, none⟩)), pl 7 (.slice A2 r1.length c2), pl 15 (.slice A1 g3.length c1)] hF hS (by kernel_rfl) (by kernel_rfl) ?_ (fun a w hF hS => ?_)
  · exact obs_cons (ob_load Agg22 (fun _ _ hS => (hS.at_ 2 rfl).cell rfl)) <| obs_nil
  refine at_call (f := 113) (args := #[.slice A1 g3.length c1]) (d := 16) hF (by kernel_rfl) (by kernel_rfl) Try.func113 (by kernel_rfl) rfl (slices_Clone_w hr2 hS (fun _ hS => (hr_g3 _ (hS.dropN 3))) _hc_g3 rfl) (fun v a w hR hF => ?_)
  clear hS
  obtain ⟨A3, c3, rfl, hS⟩ := hR
  have hS : Sep w0 B w (own 3 (.slice A3 r2.length c3) (vI r2) :: own 3 (.slice A2 r1.length c2) (vI r1) :: blk g5 24 #[.int .i64 0, .int .i64 0, .slice none 0 0] :: blk g4 24 #[.int .i64 g1, .int .i64 g2, .slice A1 g3.length c1] :: fs) := hS
  refine at_run 1 [] [] [1, 2, 3, 6, 7, 16, 17] [pl 1 (.int .i64 who1), pl 2 (.int .i64 at1), pl 3 (.pointer (some ⟨g4, 0, none⟩)), pl 6 (.pointer (some ⟨g5, 0, none⟩)), pl 7 (.slice A2 r1.length c2), pl 16 (.slice A3 r2.length c3), pl 17 (.pointer (some ⟨g4, 2, none⟩))] hF hS (by kernel_rfl) (by kernel_rfl) ?_ (fun a w hF hS => ?_)
  · exact obs_nil
  obtain ⟨w, hrun, hS⟩ := run_put (P := Try.prog) (t := 22) (u := .slice A3 r2.length c3) (i := 2) (hS.at_ 3 rfl) hi22 hs22 rfl (Nat.lt_of_lt_of_eq (Nat.lt_of_succ_le (Nat.le_of_ble_eq_true (by kernel_rfl))) rfl)
  refine at_skip hF (by kernel_rfl) hrun ?_
  have hS : Sep w0 B w (own 3 (.slice A3 r2.length c3) (vI r2) :: own 3 (.slice A2 r1.length c2) (vI r1) :: blk g5 24 #[.int .i64 0, .int .i64 0, .slice none 0 0] :: blk g4 24 #[.int .i64 g1, .int .i64 g2, .slice A3 r2.length c3] :: fs) := hS
  refine at_end [1, 2, 3, 6, 7] [pl 1 (.int .i64 who1), pl 2 (.int .i64 at1), pl 3 (.pointer (some ⟨g4, 0, none⟩)), pl 6 (.pointer (some ⟨g5, 0, none⟩)), pl 7 (.slice A2 r1.length c2)] hF rfl (by kernel_rfl) (fun hF => ?_)
  refine then_n ?_
  refine seqR ?_
  obtain ⟨hp1, hm⟩ := asrt_b hm
  refine at_run 5 [⟨false, [], vS (Instr.loadAt 22 (.pointer (some ⟨g4, 2, none⟩))), .slice A3 r2.length c3⟩, ⟨true, [], vS (Instr.indexAt 22 (.slice A3 r2.length c3) (.int .i64 at1)), .pointer (some (sAddr A3 at1))⟩] [none, some (.slice A3 r2.length c3), none, none, some (.pointer (some (sAddr A3 at1)))] [1, 3, 6, 7, 21, 22] [pl 1 (.int .i64 who1), pl 3 (.pointer (some ⟨g4, 0, none⟩)), pl 6 (.pointer (some ⟨g5, 0, none⟩)), pl 7 (.slice A2 r1.length c2), pl 21 (.int .i64 who1), pl 22 (.pointer (some (sAddr A3 at1)))] hF hS (by kernel_rfl) (by kernel_rfl) ?_ (fun a w hF hS => ?_)
  · exact obs_cons (ob_load Agg22 (fun _ _ hS => (hS.at_ 3 rfl).cell rfl)) <| obs_cons (ob_ix1 (f := (Value.int .i64)) (m := r2) Und22 hi3 hs3 (hS.at_ 0 rfl).rd rfl (fun _ => hp1)) <| obs_nil
  obtain ⟨w, hrun, hS⟩ := run_set1 (P := Try.prog) (t := 3) (x := who1) (Value.int .i64) (hS.at_ 0 rfl) hi3 hs3 rfl rfl hp1
  refine at_skip hF (by kernel_rfl) hrun ?_
  have hS : Sep w0 B w (own 3 (.slice A3 r2.length c3) (vI (r2.set (Int.toNat at1) who1)) :: own 3 (.slice A2 r1.length c2) (vI r1) :: blk g5 24 #[.int .i64 0, .int .i64 0, .slice none 0 0] :: blk g4 24 #[.int .i64 g1, .int .i64 g2, .slice A3 r2.length c3] :: fs) := hS
  refine at_end [1, 3, 6, 7] [pl 1 (.int .i64 who1), pl 3 (.pointer (some ⟨g4, 0, none⟩)), pl 6 (.pointer (some ⟨g5, 0, none⟩)), pl 7 (.slice A2 r1.length c2)] hF rfl (by kernel_rfl) (fun hF => ?_)
  refine then_n ?_
  refine seq_cut (fun a w => ∃ (g7 : List Int), Fr 36 [pl 3 (.pointer (some ⟨g4, 0, none⟩)), pl 6 (.pointer (some ⟨g5, 0, none⟩))] a ∧ Sep w0 B w (blk g4 24 #[.int .i64 g1, .int .i64 g2, .slice A3 r2.length c3] :: own 3 (.slice A3 r2.length c3) (vI g7) :: blk g5 24 #[.int .i64 0, .int .i64 0, .slice none 0 0] :: fs) ∧ ((othello_put_J1 g1 g2) g7).bind some = some r) ?_ ?_
  · rintro a w ⟨g7, hF, hS, hm⟩
    unfold othello_put_J1 at hm
    refine seqR ?_
    refine at_run 1 [⟨false, [], vS (Instr.loadAt 24 (.pointer (some ⟨g4, 0, none⟩))), .agg #[.int .i64 g1, .int .i64 g2, .slice A3 r2.length c3]⟩] [some (.agg #[.int .i64 g1, .int .i64 g2, .slice A3 r2.length c3])] [6, 35] [pl 6 (.pointer (some ⟨g5, 0, none⟩)), pl 35 (.agg #[.int .i64 g1, .int .i64 g2, .slice A3 r2.length c3])] hF hS (by kernel_rfl) (by kernel_rfl) ?_ (fun a w hF hS => ?_)
    · exact obs_cons (ob_loadA (cs := #[.int .i64 g1, .int .i64 g2, .slice A3 r2.length c3]) (by kernel_rfl) (by kernel_rfl) (fun _ _ hS => (hS.at_ 0 rfl).cellsAt 0 (by rfl))) <| obs_nil
    obtain ⟨w, hrun, hS⟩ := run_putA (P := Try.prog) (t := 24) (us := #[.int .i64 g1, .int .i64 g2, .slice A3 r2.length c3]) (o := 0) (hS.at_ 2 rfl) (by kernel_rfl) (all_one (by kernel_rfl)) (Nat.le_of_ble_eq_true (by kernel_rfl))
    refine at_skip hF (by kernel_rfl) hrun ?_
    have hS : Sep w0 B w (blk g4 24 #[.int .i64 g1, .int .i64 g2, .slice A3 r2.length c3] :: own 3 (.slice A3 r2.length c3) (vI g7) :: blk g5 24 #[.int .i64 g1, .int .i64 g2, .slice A3 r2.length c3] :: fs) := hS
    refine at_end [6] [pl 6 (.pointer (some ⟨g5, 0, none⟩))] hF rfl (by kernel_rfl) (fun hF => ?_)
    refine then_n ?_
    refine wp_ret ?_
    have hl1 := (hS.at_ 1 rfl).len1
    have hS := (hS.at_ 1 rfl).reN hl1
    have hS := (hS.at_ 0 rfl).reBlk (congrArg (fun k9 => (#[.int .i64 g1, .int .i64 g2, .slice A3 k9 c3] : Array Value)) hl1)
    have hS := (hS.at_ 2 rfl).reBlk (congrArg (fun k9 => (#[.int .i64 g1, .int .i64 g2, .slice A3 k9 c3] : Array Value)) hl1)
    have hS : Sep w0 B w (blk g4 24 #[.int .i64 g1, .int .i64 g2, .slice A3 g7.length c3] :: own 3 (.slice A3 g7.length c3) (vI g7) :: blk g5 24 #[.int .i64 g1, .int .i64 g2, .slice A3 g7.length c3] :: fs) := hS
    have hld0 := run_loadVarA (P := Try.prog) (t := 24) (cs := #[.int .i64 g1, .int .i64 g2, .slice A3 g7.length c3]) (by kernel_rfl) (by kernel_rfl) ((hS.at_ 2 rfl).cellsAt 0 (by rfl))
    have hS := hS.pickN 3 [1] (by decide)
    have hm : some (g1, g2, g7) = some r := hm
    obtain rfl := Option.some.inj hm
    exact retV (rs := [.cell 6 24]) (vs := [.agg #[.int .i64 g1, .int .i64 g2, .slice A3 g7.length c3]]) hF rfl (rv_c (by kernel_rfl) hld0 <| rv_nil) rfl ⟨_, rfl, A3, c3, rfl, hS⟩
  · refine reg [] [] [1, 3, 6, 23, 24, 25] [pl 1 (.int .i64 who1), pl 3 (.pointer (some ⟨g4, 0, none⟩)), pl 6 (.pointer (some ⟨g5, 0, none⟩)), pl 23 (.slice A2 r1.length c2), pl 24 (.int .i64 (r1.length : Int)), pl 25 (.int .i64 0)] hF hS Fol (by kernel_rfl) (by kernel_rfl) (by kernel_rfl) ?_ (fun a w hF hS => ?_)
    · exact obs_nil
    refine wp_block ?_
    have hS := hS.pickN 4 [3, 0, 2, 1] (by decide)
    refine wp_loop_model (S := (List Int × Int)) (R := (List Int)) (othello_put_L1 who1 r1 r2) (fun x => ((othello_put_K1 g1 g2) x).bind some) r (fun (x : (List Int × Int)) a w => Fr 36 [pl 1 (.int .i64 who1), pl 3 (.pointer (some ⟨g4, 0, none⟩)), pl 6 (.pointer (some ⟨g5, 0, none⟩)), pl 23 (.slice A2 r1.length c2), pl 24 (.int .i64 (r1.length : Int)), pl 25 (.int .i64 x.2)] a ∧ Sep w0 B w (blk g4 24 #[.int .i64 g1, .int .i64 g2, .slice A3 r2.length c3] :: own 3 (.slice A3 r2.length c3) (vI x.1) :: blk g5 24 #[.int .i64 0, .int .i64 0, .slice none 0 0] :: own 3 (.slice A2 r1.length c2) (vI r1) :: fs)) (assoc_b hm) ⟨hF.weak [1, 3, 6, 23, 24, 25] (by kernel_rfl), hS⟩ ?_
    clear hF hS hm
    rintro nn1 ⟨g6, z1⟩ a w ⟨hF, hS⟩ hm
    generalize hφ1 : stK (othello_put_L1 who1 r1 r2) nn1 (fun x => ((othello_put_K1 g1 g2) x).bind some) = φ1 at hm
    unfold othello_put_L1 at hm
    dsimp only at hF hS hm
    refine reg [] [] [1, 3, 6, 23, 24, 25, 26] [pl 1 (.int .i64 who1), pl 3 (.pointer (some ⟨g4, 0, none⟩)), pl 6 (.pointer (some ⟨g5, 0, none⟩)), pl 23 (.slice A2 r1.length c2), pl 24 (.int .i64 (r1.length : Int)), pl 25 (.int .i64 z1), pl 26 (.bool (decide (z1 < (r1.length : Int))))] hF hS Fol (by kernel_rfl) (by kernel_rfl) (by kernel_rfl) ?_ (fun a w hF hS => ?_)
    · exact obs_nil
    refine seq_cut (fun a w => Fr 36 [pl 1 (.int .i64 who1), pl 3 (.pointer (some ⟨g4, 0, none⟩)), pl 6 (.pointer (some ⟨g5, 0, none⟩)), pl 23 (.slice A2 r1.length c2), pl 24 (.int .i64 (r1.length : Int)), pl 25 (.int .i64 z1)] a ∧ Sep w0 B w (blk g4 24 #[.int .i64 g1, .int .i64 g2, .slice A3 r2.length c3] :: own 3 (.slice A3 r2.length c3) (vI g6) :: blk g5 24 #[.int .i64 0, .int .i64 0, .slice none 0 0] :: own 3 (.slice A2 r1.length c2) (vI r1) :: fs) ∧ ((othello_put_J2 who1 r1 r2 g6 z1)).bind φ1 = some r) ?_ ?_
    · rintro a w ⟨hF, hS, hm⟩
      unfold othello_put_J2 at hm
      refine seq_cut (fun a w => Fr 36 [pl 1 (.int .i64 who1), pl 3 (.pointer (some ⟨g4, 0, none⟩)), pl 6 (.pointer (some ⟨g5, 0, none⟩)), pl 23 (.slice A2 r1.length c2), pl 24 (.int .i64 (r1.length : Int)), pl 25 (.int .i64 z1)] a ∧ Sep w0 B w (blk g4 24 #[.int .i64 g1, .int .i64 g2, .slice A3 r2.length c3] :: own 3 (.slice A3 r2.length c3) (vI (g6.set (Int.toNat (geti r1 z1)) who1)) :: blk g5 24 #[.int .i64 0, .int .i64 0, .slice none 0 0] :: own 3 (.slice A2 r1.length c2) (vI r1) :: fs) ∧ ((othello_put_J3 who1 r1 g6 z1)).bind φ1 = some r) ?_ ?_
      · rintro a w ⟨hF, hS, hm⟩
        unfold othello_put_J3 at hm
        refine reg1 [] [] [1, 3, 6, 23, 24, 25] [pl 1 (.int .i64 who1), pl 3 (.pointer (some ⟨g4, 0, none⟩)), pl 6 (.pointer (some ⟨g5, 0, none⟩)), pl 23 (.slice A2 r1.length c2), pl 24 (.int .i64 (r1.length : Int)), pl 25 (.int .i64 (w64 (z1 + 1)))] hF hS Fol (by kernel_rfl) (by kernel_rfl) (by kernel_rfl) ?_ (fun a w hF hS => ?_)
        · exact obs_nil
        refine then_n ?_
        rw [← hφ1] at hm
        exact ⟨((g6.set (Int.toNat (geti r1 z1)) who1), (w64 (z1 + 1))), ⟨hF.weak [1, 3, 6, 23, 24, 25] (by kernel_rfl), hS⟩, hm⟩
      · refine wp_block ?_
        obtain ⟨hp2, hm⟩ := asrt_b hm
        refine reg [⟨true, [], vS (Instr.indexAt 22 (.slice A2 r1.length c2) (.int .i64 z1)), .pointer (some (sAddr A2 z1))⟩, ⟨false, [], vS (Instr.loadAt 3 (.pointer (some (sAddr A2 z1)))), .int .i64 (geti r1 z1)⟩] [some (.pointer (some (sAddr A2 z1))), some (.int .i64 (geti r1 z1)), none] [1, 3, 6, 9, 23, 24, 25] [pl 1 (.int .i64 who1), pl 3 (.pointer (some ⟨g4, 0, none⟩)), pl 6 (.pointer (some ⟨g5, 0, none⟩)), pl 9 (.int .i64 (geti r1 z1)), pl 23 (.slice A2 r1.length c2), pl 24 (.int .i64 (r1.length : Int)), pl 25 (.int .i64 z1)] hF hS Fol (by kernel_rfl) (by kernel_rfl) (by kernel_rfl) ?_ (fun a w hF hS => ?_)
        · exact obs_cons (ob_ix1 (f := (Value.int .i64)) (m := r1) Und22 hi3 hs3 (hS.at_ 3 rfl).rd rfl (fun _ => hp2)) <| obs_cons (ob_get1 (n := r1.length) (m := r1) (Value.int .i64) (0 : Int) Agg3 (fun _ hS => ⟨_, (hS.at_ 3 rfl).rd⟩) (fun _ hS => rfl) (fun _ => hp2)) <| obs_nil
        refine oneR ?_
        obtain ⟨hp3, hm⟩ := asrt_b hm
        refine at_run 5 [⟨false, [], vS (Instr.loadAt 22 (.pointer (some ⟨g4, 2, none⟩))), .slice A3 r2.length c3⟩, ⟨true, [], vS (Instr.indexAt 22 (.slice A3 r2.length c3) (.int .i64 (geti r1 z1))), .pointer (some (sAddr A3 (geti r1 z1)))⟩] [none, some (.slice A3 r2.length c3), none, none, some (.pointer (some (sAddr A3 (geti r1 z1))))] [1, 3, 6, 23, 24, 25, 32, 33] [pl 1 (.int .i64 who1), pl 3 (.pointer (some ⟨g4, 0, none⟩)), pl 6 (.pointer (some ⟨g5, 0, none⟩)), pl 23 (.slice A2 r1.length c2), pl 24 (.int .i64 (r1.length : Int)), pl 25 (.int .i64 z1), pl 32 (.int .i64 who1), pl 33 (.pointer (some (sAddr A3 (geti r1 z1))))] hF hS (by kernel_rfl) (by kernel_rfl) ?_ (fun a w hF hS => ?_)
        · exact obs_cons (ob_load Agg22 (fun _ _ hS => (hS.at_ 0 rfl).cell rfl)) <| obs_cons (ob_ix1 (f := (Value.int .i64)) (m := g6) Und22 hi3 hs3 (hS.at_ 1 rfl).rd ((hS.at_ 1 rfl).len1) (fun _ => hp3)) <| obs_nil
        obtain ⟨w, hrun, hS⟩ := run_set1 (P := Try.prog) (t := 3) (x := who1) (Value.int .i64) (hS.at_ 1 rfl) hi3 hs3 rfl rfl hp3
        refine at_skip hF (by kernel_rfl) hrun ?_
        have hS : Sep w0 B w (blk g4 24 #[.int .i64 g1, .int .i64 g2, .slice A3 r2.length c3] :: own 3 (.slice A3 r2.length c3) (vI (g6.set (Int.toNat (geti r1 z1)) who1)) :: blk g5 24 #[.int .i64 0, .int .i64 0, .slice none 0 0] :: own 3 (.slice A2 r1.length c2) (vI r1) :: fs) := hS
        refine at_end [1, 3, 6, 23, 24, 25] [pl 1 (.int .i64 who1), pl 3 (.pointer (some ⟨g4, 0, none⟩)), pl 6 (.pointer (some ⟨g5, 0, none⟩)), pl 23 (.slice A2 r1.length c2), pl 24 (.int .i64 (r1.length : Int)), pl 25 (.int .i64 z1)] hF rfl (by kernel_rfl) (fun hF => ?_)
        refine block_n ?_
        refine then_n ?_
        exact ⟨hF.weak [1, 3, 6, 23, 24, 25] (by kernel_rfl), hS, hm⟩
    · refine cond_ev (t := 26) (b := decide (z1 < (r1.length : Int))) hF (by kernel_rfl) (fun hb => ?_) (fun hb => ?_)
      · replace hm := if_t hm hb
        refine wp_skip ?_
        refine then_n ?_
        exact ⟨hF.weak [1, 3, 6, 23, 24, 25] (by kernel_rfl), hS, hm⟩
      · replace hm := if_f hm hb
        refine wp_exit ?_
        refine then_e (then_e (block_e (then_n ?_)))
        have hS := hS.pickN 4 [0, 1, 2] (by decide)
        rw [← hφ1] at hm
        replace hm := done_b hm
        unfold othello_put_K1 at hm
        try dsimp only at hm
        have hm : ((othello_put_J1 g1 g2) g6).bind some = some r := hm
        exact ⟨g6, hF.weak [3, 6] (by kernel_rfl), hS, hm⟩

noncomputable def othello_seek_J5 (z1 : Int) (best4 : Int) (where4 : Int) : Option (St (Int × Int × Int) (Int × Int)) :=
  some (.next (best4, where4, (w64 (z1 + 1))))

noncomputable def othello_seek_J6 (high1 : Int) (z1 : Int) (best3 : Int) (where3 : Int) : Option (St (Int × Int × Int) (Int × Int)) :=
  if (decide (high1 ≤ best3)) then (some (.done (best3, where3))) else ((othello_seek_J5 z1) best3 where3)

noncomputable def othello_seek_J4 (rec_othello_seek : Int → Int → List Int → Int → Int → Int → Int → Option (Int × Int)) (g1 : Int) (g2 : Int) (g3 : List Int) (who1 : Int) (deep1 : Int) (low1 : Int) (high1 : Int) (r4 : (List Int)) (best1 : Int) (where1 : Int) (z1 : Int) : Option (St (Int × Int × Int) (Int × Int)) :=
  asrt (0 ≤ z1 ∧ z1 < (r4.length : Int)) <| (othello_put_m g1 g2 g3 who1 (geti r4 z1)).bind fun r5 => (rec_othello_seek r5.1 r5.2.1 r5.2.2 (w64 (3 - who1)) (w64 (deep1 - 1)) (w64 (0 - high1)) (w64 (0 - (maxI low1 best1)))).bind fun r6 => if (decide (best1 < (w64 (0 - r6.1)))) then ((othello_seek_J6 high1 z1) (w64 (0 - r6.1)) (geti r4 z1)) else ((othello_seek_J6 high1 z1) best1 where1)

noncomputable def othello_seek_J3 (best2 : Int) (where2 : Int) : Option (Int × Int) :=
  some (best2, where2)

noncomputable def othello_seek_K1 : (Int × Int) → Option (Int × Int) :=
  fun (x : (Int × Int)) => match x with | (best2, where2) => othello_seek_J3 best2 where2

noncomputable def othello_seek_L1 (rec_othello_seek : Int → Int → List Int → Int → Int → Int → Int → Option (Int × Int)) (g1 : Int) (g2 : Int) (g3 : List Int) (who1 : Int) (deep1 : Int) (low1 : Int) (high1 : Int) (r4 : (List Int)) : (Int × Int × Int) → Option (St (Int × Int × Int) (Int × Int)) :=
  fun (x : (Int × Int × Int)) => match x with | (best1, where1, z1) => if (decide (z1 < (r4.length : Int))) then ((othello_seek_J4 rec_othello_seek g1 g2 g3 who1 deep1 low1 high1 r4 best1 where1 z1)) else (some (.done (best1, where1)))

noncomputable def othello_seek_J2 (rec_othello_seek : Int → Int → List Int → Int → Int → Int → Int → Option (Int × Int)) (g1 : Int) (g2 : Int) (g3 : List Int) (who1 : Int) (deep1 : Int) (low1 : Int) (high1 : Int) : Option (Int × Int) :=
  (othello_places_m g1 g2 g3 who1).bind fun r4 => (loop (othello_seek_L1 rec_othello_seek g1 g2 g3 who1 deep1 low1 high1 r4) ((-1000), (-1), 0)).bind othello_seek_K1

noncomputable def othello_seek_J1 (rec_othello_seek : Int → Int → List Int → Int → Int → Int → Int → Option (Int × Int)) (g1 : Int) (g2 : Int) (g3 : List Int) (who1 : Int) (deep1 : Int) (low1 : Int) (high1 : Int) (r1 : Int) : Option (Int × Int) :=
  if (r1 != who1) then ((rec_othello_seek g1 g2 g3 r1 deep1 (w64 (0 - high1)) (w64 (0 - low1))).bind fun r3 => some ((w64 (0 - r3.1)), (-1))) else ((othello_seek_J2 rec_othello_seek g1 g2 g3 who1 deep1 low1 high1))

noncomputable def othello_seek_B (rec_othello_seek : Int → Int → List Int → Int → Int → Int → Int → Option (Int × Int)) (g1 : Int) (g2 : Int) (g3 : List Int) (who1 : Int) (deep1 : Int) (low1 : Int) (high1 : Int) : Option (Int × Int) :=
  (othello_mover_m g1 g2 g3 who1).bind fun r1 => if ((deep1 == 0) || (r1 == 0)) then ((othello_lead_m g1 g2 g3 who1).bind fun r2 => some (r2, (-1))) else ((othello_seek_J1 rec_othello_seek g1 g2 g3 who1 deep1 low1 high1 r1))

noncomputable def othello_seek_mF : Nat → Int → Int → List Int → Int → Int → Int → Int → Option (Int × Int)
  | 0 => fun _ _ _ _ _ _ _ => none
  | n + 1 => fun g1 g2 g3 who1 deep1 low1 high1 => othello_seek_B (othello_seek_mF n) g1 g2 g3 who1 deep1 low1 high1

noncomputable def othello_seek_m (g1 : Int) (g2 : Int) (g3 : List Int) (who1 : Int) (deep1 : Int) (low1 : Int) (high1 : Int) : Option (Int × Int) :=
  recM fun n => othello_seek_mF n g1 g2 g3 who1 deep1 low1 high1

set_option maxRecDepth 100000 in
set_option maxHeartbeats 4000000 in
theorem othello_seek_wB {rec_othello_seek : Int → Int → List Int → Int → Int → Int → Int → Option (Int × Int)} (ih_othello_seek : ∀ {g1 : Int} {g2 : Int} {A1 : Option Addr} {c1 : Nat} {n1 : Nat} {g3 : List Int} {who1 : Int} {deep1 : Int} {low1 : Int} {high1 : Int} {r : (Int × Int)} {w0 w : World} {B : Nat} {fs : List HP} (_ : rec_othello_seek g1 g2 g3 who1 deep1 low1 high1 = some r) (_ : Sep w0 B w (fs)) (hr_g3 : RdF w0 B fs A1 (vI g3)) (_hc_g3 : g3.length ≤ c1) (_hn_g3 : n1 = g3.length), Calls Try.prog 83 #[.agg #[.int .i64 g1, .int .i64 g2, .slice A1 n1 c1], .int .i64 who1, .int .i64 deep1, .int .i64 low1, .int .i64 high1] w fun e w' => e = .returned (.tuple #[.int .i64 r.1, .int .i64 r.2]) ∧ Sep w0 B w' (fs)) {g1 : Int} {g2 : Int} {A1 : Option Addr} {c1 : Nat} {n1 : Nat} {g3 : List Int} {who1 : Int} {deep1 : Int} {low1 : Int} {high1 : Int} {r : (Int × Int)} {w0 w : World} {B : Nat} {fs : List HP} (hm : othello_seek_B rec_othello_seek g1 g2 g3 who1 deep1 low1 high1 = some r) (hS : Sep w0 B w (fs)) (hr_g3 : RdF w0 B fs A1 (vI g3)) (_hc_g3 : g3.length ≤ c1) (_hn_g3 : n1 = g3.length) :
    Calls Try.prog 83 #[.agg #[.int .i64 g1, .int .i64 g2, .slice A1 n1 c1], .int .i64 who1, .int .i64 deep1, .int .i64 low1, .int .i64 high1] w fun e w' => e = .returned (.tuple #[.int .i64 r.1, .int .i64 r.2]) ∧ Sep w0 B w' (fs) := by
  obtain ⟨i3, hi3, hz3, hs3, hb3⟩ := info_parts Info3
  obtain rfl := _hn_g3
  unfold othello_seek_B at hm
  replace hm := start_b hm
  refine enter (l := [.agg #[.int .i64 g1, .int .i64 g2, .slice A1 g3.length c1], .int .i64 who1, .int .i64 deep1, .int .i64 low1, .int .i64 high1]) (n := 88) Try.func83 rfl rfl (by simp) (fun a hF => ?_)
  refine seqR ?_
  refine at_do (d := 5) (s := vS (Instr.box 24 (.agg #[.int .i64 g1, .int .i64 g2, .slice A1 g3.length c1]))) (v := .pointer (some ⟨w.heap.size, 0, none⟩)) (w' := w.alloc (.cells #[.int .i64 g1, .int .i64 g2, .slice A1 g3.length c1] 24)) hF (by kernel_rfl) (by kernel_rfl) (by kernel_rfl) (fun a hF => ?_)
  have hS : Sep w0 B (w.alloc (.cells #[.int .i64 g1, .int .i64 g2, .slice A1 g3.length c1] 24)) (blk w.heap.size 24 #[.int .i64 g1, .int .i64 g2, .slice A1 g3.length c1] :: (fs)) := hS.box 24 #[.int .i64 g1, .int .i64 g2, .slice A1 g3.length c1]
  generalize w.heap.size = g4 at hF hS
  generalize w.alloc (.cells #[.int .i64 g1, .int .i64 g2, .slice A1 g3.length c1] 24) = w at hS ⊢
  refine at_run 2 [] [] [1, 2, 3, 4, 5] [pl 1 (.int .i64 who1), pl 2 (.int .i64 deep1), pl 3 (.int .i64 low1), pl 4 (.int .i64 high1), pl 5 (.pointer (some ⟨g4, 0, none⟩))] hF hS (by kernel_rfl) (by kernel_rfl) ?_ (fun a w hF hS => ?_)
  · exact obs_nil
  refine at_end [1, 2, 3, 4, 5] [pl 1 (.int .i64 who1), pl 2 (.int .i64 deep1), pl 3 (.int .i64 low1), pl 4 (.int .i64 high1), pl 5 (.pointer (some ⟨g4, 0, none⟩))] hF rfl (by kernel_rfl) (fun hF => ?_)
  refine then_n ?_
  obtain ⟨r1, hr1, hm⟩ := call_b hm
  refine reg [⟨false, [], vS (Instr.loadAt 24 (.pointer (some ⟨g4, 0, none⟩))), .agg #[.int .i64 g1, .int .i64 g2, .slice A1 g3.length c1]⟩, ⟨false, [], callFunc 61 #[.agg #[.int .i64 g1, .int .i64 g2, .slice A1 g3.length c1], .int .i64 who1], .int .i64 r1⟩] [some (.agg #[.int .i64 g1, .int .i64 g2, .slice A1 g3.length c1]), none, some (.int .i64 r1), none] [1, 2, 3, 4, 5, 12] [pl 1 (.int .i64 who1), pl 2 (.int .i64 deep1), pl 3 (.int .i64 low1), pl 4 (.int .i64 high1), pl 5 (.pointer (some ⟨g4, 0, none⟩)), pl 12 (.int .i64 r1)] hF hS Fol (by kernel_rfl) (by kernel_rfl) (by kernel_rfl) ?_ (fun a w hF hS => ?_)
  · exact obs_cons (ob_loadA (cs := #[.int .i64 g1, .int .i64 g2, .slice A1 g3.length c1]) (by kernel_rfl) (by kernel_rfl) (fun _ _ hS => (hS.at_ 0 rfl).cellsAt 0 (by rfl))) <| obs_cons (ob_call Try.func61 (by kernel_rfl) rfl (fun _ _ hS => othello_mover_w hr1 hS (fun _ hS => (hr_g3 _ (hS.dropN 1))) _hc_g3 rfl)) <| obs_nil
  refine seq_cut (fun a w => Fr 88 [pl 1 (.int .i64 who1), pl 2 (.int .i64 deep1), pl 3 (.int .i64 low1), pl 4 (.int .i64 high1), pl 5 (.pointer (some ⟨g4, 0, none⟩)), pl 12 (.int .i64 r1)] a ∧ Sep w0 B w (blk g4 24 #[.int .i64 g1, .int .i64 g2, .slice A1 g3.length c1] :: fs) ∧ ((othello_seek_J1 rec_othello_seek g1 g2 g3 who1 deep1 low1 high1 r1)).bind some = some r) ?_ ?_
  · rintro a w ⟨hF, hS, hm⟩
    unfold othello_seek_J1 at hm
    refine seq_cut (fun a w => Fr 88 [pl 1 (.int .i64 who1), pl 2 (.int .i64 deep1), pl 3 (.int .i64 low1), pl 4 (.int .i64 high1), pl 5 (.pointer (some ⟨g4, 0, none⟩))] a ∧ Sep w0 B w (blk g4 24 #[.int .i64 g1, .int .i64 g2, .slice A1 g3.length c1] :: fs) ∧ ((othello_seek_J2 rec_othello_seek g1 g2 g3 who1 deep1 low1 high1)).bind some = some r) ?_ ?_
    · rintro a w ⟨hF, hS, hm⟩
      unfold othello_seek_J2 at hm
      refine reg [] [] [1, 2, 3, 4, 5, 15, 16] [pl 1 (.int .i64 who1), pl 2 (.int .i64 deep1), pl 3 (.int .i64 low1), pl 4 (.int .i64 high1), pl 5 (.pointer (some ⟨g4, 0, none⟩)), pl 15 (.int .i64 (-1000)), pl 16 (.int .i64 (-1))] hF hS Fol (by kernel_rfl) (by kernel_rfl) (by kernel_rfl) ?_ (fun a w hF hS => ?_)
      · exact obs_nil
      refine seq_cut (fun a w => ∃ (best2 : Int) (where2 : Int), Fr 88 [pl 15 (.int .i64 best2), pl 16 (.int .i64 where2)] a ∧ Sep w0 B w (fs) ∧ (othello_seek_J3 best2 where2).bind some = some r) ?_ ?_
      · rintro a w ⟨best2, where2, hF, hS, hm⟩
        unfold othello_seek_J3 at hm
        refine reg [] [] [10, 11] [pl 10 (.int .i64 best2), pl 11 (.int .i64 where2)] hF hS Fol (by kernel_rfl) (by kernel_rfl) (by kernel_rfl) ?_ (fun a w hF hS => ?_)
        · exact obs_nil
        refine wp_ret ?_
        have hm : some (best2, where2) = some r := hm
        obtain rfl := Option.some.inj hm
        exact retV (rs := [.tmp 10, .tmp 11]) (vs := [.int .i64 best2, .int .i64 where2]) hF rfl (rv_t (by kernel_rfl) <| rv_t (by kernel_rfl) <| rv_nil) rfl ⟨rfl, hS⟩
      · refine seqR ?_
        obtain ⟨r4, hr4, hm⟩ := call_b hm
        refine at_run 2 [⟨false, [], vS (Instr.loadAt 24 (.pointer (some ⟨g4, 0, none⟩))), .agg #[.int .i64 g1, .int .i64 g2, .slice A1 g3.length c1]⟩] [some (.agg #[.int .i64 g1, .int .i64 g2, .slice A1 g3.length c1]), none] [1, 2, 3, 4, 5, 15, 16, 49, 50] [pl 1 (.int .i64 who1), pl 2 (.int .i64 deep1), pl 3 (.int .i64 low1), pl 4 (.int .i64 high1), pl 5 (.pointer (some ⟨g4, 0, none⟩)), pl 15 (.int .i64 (-1000)), pl 16 (.int .i64 (-1)), pl 49 (.agg #[.int .i64 g1, .int .i64 g2, .slice A1 g3.length c1]), pl 50 (.int .i64 who1)] hF hS (by kernel_rfl) (by kernel_rfl) ?_ (fun a w hF hS => ?_)
        · exact obs_cons (ob_loadA (cs := #[.int .i64 g1, .int .i64 g2, .slice A1 g3.length c1]) (by kernel_rfl) (by kernel_rfl) (fun _ _ hS => (hS.at_ 0 rfl).cellsAt 0 (by rfl))) <| obs_nil
        refine at_call (f := 57) (args := #[.agg #[.int .i64 g1, .int .i64 g2, .slice A1 g3.length c1], .int .i64 who1]) (d := 51) hF (by kernel_rfl) (by kernel_rfl) Try.func57 (by kernel_rfl) rfl (othello_places_w hr4 hS (fun _ hS => (hr_g3 _ (hS.dropN 1))) _hc_g3 rfl) (fun v a w hR hF => ?_)
        clear hS
        obtain ⟨A2, c2, rfl, hS⟩ := hR
        have hS : Sep w0 B w (own 3 (.slice A2 r4.length c2) (vI r4) :: blk g4 24 #[.int .i64 g1, .int .i64 g2, .slice A1 g3.length c1] :: fs) := hS
        refine at_run 2 [] [] [1, 2, 3, 4, 5, 15, 16, 51, 52, 53] [pl 1 (.int .i64 who1), pl 2 (.int .i64 deep1), pl 3 (.int .i64 low1), pl 4 (.int .i64 high1), pl 5 (.pointer (some ⟨g4, 0, none⟩)), pl 15 (.int .i64 (-1000)), pl 16 (.int .i64 (-1)), pl 51 (.slice A2 r4.length c2), pl 52 (.int .i64 (r4.length : Int)), pl 53 (.int .i64 0)] hF hS (by kernel_rfl) (by kernel_rfl) ?_ (fun a w hF hS => ?_)
        · exact obs_nil
        refine at_end [1, 2, 3, 4, 5, 15, 16, 51, 52, 53] [pl 1 (.int .i64 who1), pl 2 (.int .i64 deep1), pl 3 (.int .i64 low1), pl 4 (.int .i64 high1), pl 5 (.pointer (some ⟨g4, 0, none⟩)), pl 15 (.int .i64 (-1000)), pl 16 (.int .i64 (-1)), pl 51 (.slice A2 r4.length c2), pl 52 (.int .i64 (r4.length : Int)), pl 53 (.int .i64 0)] hF rfl (by kernel_rfl) (fun hF => ?_)
        refine then_n ?_
        refine wp_block ?_
        have hS := hS.pickN 2 [1, 0] (by decide)
        refine wp_loop_model (S := (Int × Int × Int)) (R := (Int × Int)) (othello_seek_L1 rec_othello_seek g1 g2 g3 who1 deep1 low1 high1 r4) (fun x => (othello_seek_K1 x).bind some) r (fun (x : (Int × Int × Int)) a w => Fr 88 [pl 1 (.int .i64 who1), pl 2 (.int .i64 deep1), pl 3 (.int .i64 low1), pl 4 (.int .i64 high1), pl 5 (.pointer (some ⟨g4, 0, none⟩)), pl 15 (.int .i64 x.1), pl 16 (.int .i64 x.2.1), pl 51 (.slice A2 r4.length c2), pl 52 (.int .i64 (r4.length : Int)), pl 53 (.int .i64 x.2.2)] a ∧ Sep w0 B w (blk g4 24 #[.int .i64 g1, .int .i64 g2, .slice A1 g3.length c1] :: own 3 (.slice A2 r4.length c2) (vI r4) :: fs)) (assoc_b hm) ⟨hF.weak [1, 2, 3, 4, 5, 15, 16, 51, 52, 53] (by kernel_rfl), hS⟩ ?_
        clear hF hS hm
        rintro nn1 ⟨best1, where1, z1⟩ a w ⟨hF, hS⟩ hm
        generalize hφ1 : stK (othello_seek_L1 rec_othello_seek g1 g2 g3 who1 deep1 low1 high1 r4) nn1 (fun x => (othello_seek_K1 x).bind some) = φ1 at hm
        unfold othello_seek_L1 at hm
        dsimp only at hF hS hm
        refine reg [] [] [1, 2, 3, 4, 5, 15, 16, 51, 52, 53, 54] [pl 1 (.int .i64 who1), pl 2 (.int .i64 deep1), pl 3 (.int .i64 low1), pl 4 (.int .i64 high1), pl 5 (.pointer (some ⟨g4, 0, none⟩)), pl 15 (.int .i64 best1), pl 16 (.int .i64 where1), pl 51 (.slice A2 r4.length c2), pl 52 (.int .i64 (r4.length : Int)), pl 53 (.int .i64 z1), pl 54 (.bool (decide (z1 < (r4.length : Int))))] hF hS Fol (by kernel_rfl) (by kernel_rfl) (by kernel_rfl) ?_ (fun a w hF hS => ?_)
        · exact obs_nil
        refine seq_cut (fun a w => Fr 88 [pl 1 (.int .i64 who1), pl 2 (.int .i64 deep1), pl 3 (.int .i64 low1), pl 4 (.int .i64 high1), pl 5 (.pointer (some ⟨g4, 0, none⟩)), pl 15 (.int .i64 best1), pl 16 (.int .i64 where1), pl 51 (.slice A2 r4.length c2), pl 52 (.int .i64 (r4.length : Int)), pl 53 (.int .i64 z1)] a ∧ Sep w0 B w (blk g4 24 #[.int .i64 g1, .int .i64 g2, .slice A1 g3.length c1] :: own 3 (.slice A2 r4.length c2) (vI r4) :: fs) ∧ ((othello_seek_J4 rec_othello_seek g1 g2 g3 who1 deep1 low1 high1 r4 best1 where1 z1)).bind φ1 = some r) ?_ ?_
        · rintro a w ⟨hF, hS, hm⟩
          unfold othello_seek_J4 at hm
          refine seq_cut (fun a w => ∃ (best4 : Int) (where4 : Int), Fr 88 [pl 1 (.int .i64 who1), pl 2 (.int .i64 deep1), pl 3 (.int .i64 low1), pl 4 (.int .i64 high1), pl 5 (.pointer (some ⟨g4, 0, none⟩)), pl 15 (.int .i64 best4), pl 16 (.int .i64 where4), pl 51 (.slice A2 r4.length c2), pl 52 (.int .i64 (r4.length : Int)), pl 53 (.int .i64 z1)] a ∧ Sep w0 B w (blk g4 24 #[.int .i64 g1, .int .i64 g2, .slice A1 g3.length c1] :: own 3 (.slice A2 r4.length c2) (vI r4) :: fs) ∧ ((othello_seek_J5 z1) best4 where4).bind φ1 = some r) ?_ ?_
          · rintro a w ⟨best4, where4, hF, hS, hm⟩
            unfold othello_seek_J5 at hm
            refine reg1 [] [] [1, 2, 3, 4, 5, 15, 16, 51, 52, 53] [pl 1 (.int .i64 who1), pl 2 (.int .i64 deep1), pl 3 (.int .i64 low1), pl 4 (.int .i64 high1), pl 5 (.pointer (some ⟨g4, 0, none⟩)), pl 15 (.int .i64 best4), pl 16 (.int .i64 where4), pl 51 (.slice A2 r4.length c2), pl 52 (.int .i64 (r4.length : Int)), pl 53 (.int .i64 (w64 (z1 + 1)))] hF hS Fol (by kernel_rfl) (by kernel_rfl) (by kernel_rfl) ?_ (fun a w hF hS => ?_)
            · exact obs_nil
            refine then_n ?_
            rw [← hφ1] at hm
            exact ⟨(best4, where4, (w64 (z1 + 1))), ⟨hF.weak [1, 2, 3, 4, 5, 15, 16, 51, 52, 53] (by kernel_rfl), hS⟩, hm⟩
          · refine wp_block ?_
            obtain ⟨hp1, hm⟩ := asrt_b hm
            refine reg [⟨true, [], vS (Instr.indexAt 22 (.slice A2 r4.length c2) (.int .i64 z1)), .pointer (some (sAddr A2 z1))⟩, ⟨false, [], vS (Instr.loadAt 3 (.pointer (some (sAddr A2 z1)))), .int .i64 (geti r4 z1)⟩] [some (.pointer (some (sAddr A2 z1))), some (.int .i64 (geti r4 z1)), none] [1, 2, 3, 4, 5, 15, 16, 18, 51, 52, 53] [pl 1 (.int .i64 who1), pl 2 (.int .i64 deep1), pl 3 (.int .i64 low1), pl 4 (.int .i64 high1), pl 5 (.pointer (some ⟨g4, 0, none⟩)), pl 15 (.int .i64 best1), pl 16 (.int .i64 where1), pl 18 (.int .i64 (geti r4 z1)), pl 51 (.slice A2 r4.length c2), pl 52 (.int .i64 (r4.length : Int)), pl 53 (.int .i64 z1)] hF hS Fol (by kernel_rfl) (by kernel_rfl) (by kernel_rfl) ?_ (fun a w hF hS => ?_)
            · exact obs_cons (ob_ix1 (f := (Value.int .i64)) (m := r4) Und22 hi3 hs3 (hS.at_ 1 rfl).rd rfl (fun _ => hp1)) <| obs_cons (ob_get1 (n := r4.length) (m := r4) (Value.int .i64) (0 : Int) Agg3 (fun _ hS => ⟨_, (hS.at_ 1 rfl).rd⟩) (fun _ hS => rfl) (fun _ => hp1)) <| obs_nil
            refine seqR ?_
            obtain ⟨r5, hr5, hm⟩ := call_b hm
            obtain ⟨r6, hr6, hm⟩ := call_b hm
            refine at_run 3 [⟨false, [], vS (Instr.loadAt 24 (.pointer (some ⟨g4, 0, none⟩))), .agg #[.int .i64 g1, .int .i64 g2, .slice A1 g3.length c1]⟩] [some (.agg #[.int .i64 g1, .int .i64 g2, .slice A1 g3.length c1]), none, none] [1, 2, 3, 4, 5, 15, 16, 18, 51, 52, 53, 58, 59, 60] [pl 1 (.int .i64 who1), pl 2 (.int .i64 deep1), pl 3 (.int .i64 low1), pl 4 (.int .i64 high1), pl 5 (.pointer (some ⟨g4, 0, none⟩)), pl 15 (.int .i64 best1), pl 16 (.int .i64 where1), pl 18 (.int .i64 (geti r4 z1)), pl 51 (.slice A2 r4.length c2), pl 52 (.int .i64 (r4.length : Int)), pl 53 (.int .i64 z1), pl 58 (.agg #[.int .i64 g1, .int .i64 g2, .slice A1 g3.length c1]), pl 59 (.int .i64 who1), pl 60 (.int .i64 (geti r4 z1))] hF hS (by kernel_rfl) (by kernel_rfl) ?_ (fun a w hF hS => ?_)
            · exact obs_cons (ob_loadA (cs := #[.int .i64 g1, .int .i64 g2, .slice A1 g3.length c1]) (by kernel_rfl) (by kernel_rfl) (fun _ _ hS => (hS.at_ 0 rfl).cellsAt 0 (by rfl))) <| obs_nil
            refine at_call (f := 60) (args := #[.agg #[.int .i64 g1, .int .i64 g2, .slice A1 g3.length c1], .int .i64 who1, .int .i64 (geti r4 z1)]) (d := 61) hF (by kernel_rfl) (by kernel_rfl) Try.func60 (by kernel_rfl) rfl (othello_put_w hr5 hS (fun _ hS => (hr_g3 _ (hS.dropN 2))) _hc_g3 rfl) (fun v a w hR hF => ?_)
            clear hS
            obtain ⟨A3, c3, rfl, hS⟩ := hR
            have hS : Sep w0 B w (own 3 (.slice A3 r5.2.2.length c3) (vI r5.2.2) :: blk g4 24 #[.int .i64 g1, .int .i64 g2, .slice A1 g3.length c1] :: own 3 (.slice A2 r4.length c2) (vI r4) :: fs) := hS
            refine at_run 16 [⟨true, [], vS (Builtin.max_ #[3, 3] 3 #[.int .i64 low1, .int .i64 best1]), .int .i64 (maxI low1 best1)⟩, ⟨false, [], callFunc 83 #[.agg #[.int .i64 r5.1, .int .i64 r5.2.1, .slice A3 r5.2.2.length c3], .int .i64 (w64 (3 - who1)), .int .i64 (w64 (deep1 - 1)), .int .i64 (w64 (0 - high1)), .int .i64 (w64 (0 - (maxI low1 best1)))], .tuple #[.int .i64 r6.1, .int .i64 r6.2]⟩] [none, none, none, none, none, none, none, none, some (.int .i64 (maxI low1 best1)), none, some (.tuple #[.int .i64 r6.1, .int .i64 r6.2]), none, none, none, none, none] [1, 2, 3, 4, 5, 15, 16, 18, 19, 51, 52, 53] [pl 1 (.int .i64 who1), pl 2 (.int .i64 deep1), pl 3 (.int .i64 low1), pl 4 (.int .i64 high1), pl 5 (.pointer (some ⟨g4, 0, none⟩)), pl 15 (.int .i64 best1), pl 16 (.int .i64 where1), pl 18 (.int .i64 (geti r4 z1)), pl 19 (.int .i64 r6.1), pl 51 (.slice A2 r4.length c2), pl 52 (.int .i64 (r4.length : Int)), pl 53 (.int .i64 z1)] hF hS (by kernel_rfl) (by kernel_rfl) ?_ (fun a w hF hS => ?_)
            · exact obs_cons (ob_max rfl) <| obs_cons (ob_call Try.func83 (by kernel_rfl) rfl (fun _ _ hS => ih_othello_seek hr6 hS (fun _ hS => (hS.at_ 0 rfl).rd) ((hS.at_ 0 rfl).cap1) rfl)) <| obs_nil
            refine at_end [1, 2, 3, 4, 5, 15, 16, 18, 19, 51, 52, 53] [pl 1 (.int .i64 who1), pl 2 (.int .i64 deep1), pl 3 (.int .i64 low1), pl 4 (.int .i64 high1), pl 5 (.pointer (some ⟨g4, 0, none⟩)), pl 15 (.int .i64 best1), pl 16 (.int .i64 where1), pl 18 (.int .i64 (geti r4 z1)), pl 19 (.int .i64 r6.1), pl 51 (.slice A2 r4.length c2), pl 52 (.int .i64 (r4.length : Int)), pl 53 (.int .i64 z1)] hF rfl (by kernel_rfl) (fun hF => ?_)
            refine then_n ?_
            refine seq_cut (fun a w => ∃ (best3 : Int) (where3 : Int), Fr 88 [pl 1 (.int .i64 who1), pl 2 (.int .i64 deep1), pl 3 (.int .i64 low1), pl 4 (.int .i64 high1), pl 5 (.pointer (some ⟨g4, 0, none⟩)), pl 15 (.int .i64 best3), pl 16 (.int .i64 where3), pl 51 (.slice A2 r4.length c2), pl 52 (.int .i64 (r4.length : Int)), pl 53 (.int .i64 z1)] a ∧ Sep w0 B w (blk g4 24 #[.int .i64 g1, .int .i64 g2, .slice A1 g3.length c1] :: own 3 (.slice A2 r4.length c2) (vI r4) :: fs) ∧ ((othello_seek_J6 high1 z1) best3 where3).bind φ1 = some r) ?_ ?_
            · rintro a w ⟨best3, where3, hF, hS, hm⟩
              unfold othello_seek_J6 at hm
              refine reg [] [] [1, 2, 3, 4, 5, 15, 16, 51, 52, 53, 84] [pl 1 (.int .i64 who1), pl 2 (.int .i64 deep1), pl 3 (.int .i64 low1), pl 4 (.int .i64 high1), pl 5 (.pointer (some ⟨g4, 0, none⟩)), pl 15 (.int .i64 best3), pl 16 (.int .i64 where3), pl 51 (.slice A2 r4.length c2), pl 52 (.int .i64 (r4.length : Int)), pl 53 (.int .i64 z1), pl 84 (.bool (decide (high1 ≤ best3)))] hF hS Fol (by kernel_rfl) (by kernel_rfl) (by kernel_rfl) ?_ (fun a w hF hS => ?_)
              · exact obs_nil
              refine cond_ev (t := 84) (b := decide (high1 ≤ best3)) hF (by kernel_rfl) (fun hb => ?_) (fun hb => ?_)
              · replace hm := if_t hm hb
                refine wp_exit ?_
                refine block_o rfl (then_e (then_e (block_e (then_n ?_))))
                have hS := hS.pickN 2 [] (by decide)
                rw [← hφ1] at hm
                replace hm := done_b hm
                unfold othello_seek_K1 at hm
                try dsimp only at hm
                have hm : (othello_seek_J3 best3 where3).bind some = some r := hm
                exact ⟨best3, where3, hF.weak [15, 16] (by kernel_rfl), hS, hm⟩
              · replace hm := if_f hm hb
                refine wp_skip ?_
                refine block_n ?_
                refine then_n ?_
                exact ⟨best3, where3, hF.weak [1, 2, 3, 4, 5, 15, 16, 51, 52, 53] (by kernel_rfl), hS, hm⟩
            · refine reg [] [] [1, 2, 3, 4, 5, 15, 16, 18, 19, 51, 52, 53, 78] [pl 1 (.int .i64 who1), pl 2 (.int .i64 deep1), pl 3 (.int .i64 low1), pl 4 (.int .i64 high1), pl 5 (.pointer (some ⟨g4, 0, none⟩)), pl 15 (.int .i64 best1), pl 16 (.int .i64 where1), pl 18 (.int .i64 (geti r4 z1)), pl 19 (.int .i64 r6.1), pl 51 (.slice A2 r4.length c2), pl 52 (.int .i64 (r4.length : Int)), pl 53 (.int .i64 z1), pl 78 (.bool (decide (best1 < (w64 (0 - r6.1)))))] hF hS Fol (by kernel_rfl) (by kernel_rfl) (by kernel_rfl) ?_ (fun a w hF hS => ?_)
              · exact obs_nil
              refine cond_ev (t := 78) (b := decide (best1 < (w64 (0 - r6.1)))) hF (by kernel_rfl) (fun hb => ?_) (fun hb => ?_)
              · replace hm := if_t hm hb
                refine reg1 [] [] [1, 2, 3, 4, 5, 15, 16, 51, 52, 53] [pl 1 (.int .i64 who1), pl 2 (.int .i64 deep1), pl 3 (.int .i64 low1), pl 4 (.int .i64 high1), pl 5 (.pointer (some ⟨g4, 0, none⟩)), pl 15 (.int .i64 (w64 (0 - r6.1))), pl 16 (.int .i64 (geti r4 z1)), pl 51 (.slice A2 r4.length c2), pl 52 (.int .i64 (r4.length : Int)), pl 53 (.int .i64 z1)] hF hS Fol (by kernel_rfl) (by kernel_rfl) (by kernel_rfl) ?_ (fun a w hF hS => ?_)
                · exact obs_nil
                refine then_n ?_
                have hS := hS.pickN 3 [1, 2] (by decide)
                exact ⟨(w64 (0 - r6.1)), (geti r4 z1), hF.weak [1, 2, 3, 4, 5, 15, 16, 51, 52, 53] (by kernel_rfl), hS, hm⟩
              · replace hm := if_f hm hb
                refine wp_skip ?_
                refine then_n ?_
                have hS := hS.pickN 3 [1, 2] (by decide)
                exact ⟨best1, where1, hF.weak [1, 2, 3, 4, 5, 15, 16, 51, 52, 53] (by kernel_rfl), hS, hm⟩
        · refine cond_ev (t := 54) (b := decide (z1 < (r4.length : Int))) hF (by kernel_rfl) (fun hb => ?_) (fun hb => ?_)
          · replace hm := if_t hm hb
            refine wp_skip ?_
            refine then_n ?_
            exact ⟨hF.weak [1, 2, 3, 4, 5, 15, 16, 51, 52, 53] (by kernel_rfl), hS, hm⟩
          · replace hm := if_f hm hb
            refine wp_exit ?_
            refine then_e (then_e (block_e (then_n ?_)))
            have hS := hS.pickN 2 [] (by decide)
            rw [← hφ1] at hm
            replace hm := done_b hm
            unfold othello_seek_K1 at hm
            try dsimp only at hm
            have hm : (othello_seek_J3 best1 where1).bind some = some r := hm
            exact ⟨best1, where1, hF.weak [15, 16] (by kernel_rfl), hS, hm⟩
    · refine reg [] [] [1, 2, 3, 4, 5, 12, 35] [pl 1 (.int .i64 who1), pl 2 (.int .i64 deep1), pl 3 (.int .i64 low1), pl 4 (.int .i64 high1), pl 5 (.pointer (some ⟨g4, 0, none⟩)), pl 12 (.int .i64 r1), pl 35 (.bool (r1 != who1))] hF hS Fol (by kernel_rfl) (by kernel_rfl) (by kernel_rfl) ?_ (fun a w hF hS => ?_)
      · exact obs_nil
      refine cond_ev (t := 35) (b := (r1 != who1)) hF (by kernel_rfl) (fun hb => ?_) (fun hb => ?_)
      · replace hm := if_t hm hb
        obtain ⟨r3, hr3, hm⟩ := call_b hm
        refine reg [⟨false, [], vS (Instr.loadAt 24 (.pointer (some ⟨g4, 0, none⟩))), .agg #[.int .i64 g1, .int .i64 g2, .slice A1 g3.length c1]⟩, ⟨false, [], callFunc 83 #[.agg #[.int .i64 g1, .int .i64 g2, .slice A1 g3.length c1], .int .i64 r1, .int .i64 deep1, .int .i64 (w64 (0 - high1)), .int .i64 (w64 (0 - low1))], .tuple #[.int .i64 r3.1, .int .i64 r3.2]⟩] [some (.agg #[.int .i64 g1, .int .i64 g2, .slice A1 g3.length c1]), none, none, none, none, none, none, some (.tuple #[.int .i64 r3.1, .int .i64 r3.2]), none, none, none, none, none] [13] [pl 13 (.int .i64 r3.1)] hF hS Fol (by kernel_rfl) (by kernel_rfl) (by kernel_rfl) ?_ (fun a w hF hS => ?_)
        · exact obs_cons (ob_loadA (cs := #[.int .i64 g1, .int .i64 g2, .slice A1 g3.length c1]) (by kernel_rfl) (by kernel_rfl) (fun _ _ hS => (hS.at_ 0 rfl).cellsAt 0 (by rfl))) <| obs_cons (ob_call Try.func83 (by kernel_rfl) rfl (fun _ _ hS => ih_othello_seek hr3 hS (fun _ hS => (hr_g3 _ (hS.dropN 1))) _hc_g3 rfl)) <| obs_nil
        refine reg [] [] [10, 11] [pl 10 (.int .i64 (w64 (0 - r3.1))), pl 11 (.int .i64 (-1))] hF hS Fol (by kernel_rfl) (by kernel_rfl) (by kernel_rfl) ?_ (fun a w hF hS => ?_)
        · exact obs_nil
        refine wp_ret ?_
        refine then_r ?_
        have hS := hS.pickN 1 [] (by decide)
        have hm : some ((w64 (0 - r3.1)), (-1)) = some r := hm
        obtain rfl := Option.some.inj hm
        exact retV (rs := [.tmp 10, .tmp 11]) (vs := [.int .i64 (w64 (0 - r3.1)), .int .i64 (-1)]) hF rfl (rv_t (by kernel_rfl) <| rv_t (by kernel_rfl) <| rv_nil) rfl ⟨rfl, hS⟩
      · replace hm := if_f hm hb
        refine wp_skip ?_
        refine then_n ?_
        exact ⟨hF.weak [1, 2, 3, 4, 5] (by kernel_rfl), hS, hm⟩
  · refine reg [] [] [1, 2, 3, 4, 5, 12, 29] [pl 1 (.int .i64 who1), pl 2 (.int .i64 deep1), pl 3 (.int .i64 low1), pl 4 (.int .i64 high1), pl 5 (.pointer (some ⟨g4, 0, none⟩)), pl 12 (.int .i64 r1), pl 29 (.bool ((deep1 == 0) || (r1 == 0)))] hF hS Fol (by kernel_rfl) (by kernel_rfl) (by kernel_rfl) ?_ (fun a w hF hS => ?_)
    · exact obs_nil
    refine cond_ev (t := 29) (b := (deep1 == 0) || (r1 == 0)) hF (by kernel_rfl) (fun hb => ?_) (fun hb => ?_)
    · replace hm := if_t hm hb
      obtain ⟨r2, hr2, hm⟩ := call_b hm
      refine reg [⟨false, [], vS (Instr.loadAt 24 (.pointer (some ⟨g4, 0, none⟩))), .agg #[.int .i64 g1, .int .i64 g2, .slice A1 g3.length c1]⟩, ⟨false, [], callFunc 119 #[.agg #[.int .i64 g1, .int .i64 g2, .slice A1 g3.length c1], .int .i64 who1], .int .i64 r2⟩] [some (.agg #[.int .i64 g1, .int .i64 g2, .slice A1 g3.length c1]), none, some (.int .i64 r2), none, none] [10, 11] [pl 10 (.int .i64 r2), pl 11 (.int .i64 (-1))] hF hS Fol (by kernel_rfl) (by kernel_rfl) (by kernel_rfl) ?_ (fun a w hF hS => ?_)
      · exact obs_cons (ob_loadA (cs := #[.int .i64 g1, .int .i64 g2, .slice A1 g3.length c1]) (by kernel_rfl) (by kernel_rfl) (fun _ _ hS => (hS.at_ 0 rfl).cellsAt 0 (by rfl))) <| obs_cons (ob_call Try.func119 (by kernel_rfl) rfl (fun _ _ hS => othello_lead_w hr2 hS (fun _ hS => (hr_g3 _ (hS.dropN 1))) _hc_g3 rfl)) <| obs_nil
      refine wp_ret ?_
      refine then_r ?_
      have hS := hS.pickN 1 [] (by decide)
      have hm : some (r2, (-1)) = some r := hm
      obtain rfl := Option.some.inj hm
      exact retV (rs := [.tmp 10, .tmp 11]) (vs := [.int .i64 r2, .int .i64 (-1)]) hF rfl (rv_t (by kernel_rfl) <| rv_t (by kernel_rfl) <| rv_nil) rfl ⟨rfl, hS⟩
    · replace hm := if_f hm hb
      refine wp_skip ?_
      refine then_n ?_
      exact ⟨hF.weak [1, 2, 3, 4, 5, 12] (by kernel_rfl), hS, hm⟩

theorem othello_seek_w {g1 : Int} {g2 : Int} {A1 : Option Addr} {c1 : Nat} {n1 : Nat} {g3 : List Int} {who1 : Int} {deep1 : Int} {low1 : Int} {high1 : Int} {r : (Int × Int)} {w0 w : World} {B : Nat} {fs : List HP} (hm : othello_seek_m g1 g2 g3 who1 deep1 low1 high1 = some r) (hS : Sep w0 B w (fs)) (hr_g3 : RdF w0 B fs A1 (vI g3)) (_hc_g3 : g3.length ≤ c1) (_hn_g3 : n1 = g3.length) :
    Calls Try.prog 83 #[.agg #[.int .i64 g1, .int .i64 g2, .slice A1 n1 c1], .int .i64 who1, .int .i64 deep1, .int .i64 low1, .int .i64 high1] w fun e w' => e = .returned (.tuple #[.int .i64 r.1, .int .i64 r.2]) ∧ Sep w0 B w' (fs) := by
  have key : ∀ (n : Nat) {g1 : Int} {g2 : Int} {A1 : Option Addr} {c1 : Nat} {n1 : Nat} {g3 : List Int} {who1 : Int} {deep1 : Int} {low1 : Int} {high1 : Int} {r : (Int × Int)} {w0 w : World} {B : Nat} {fs : List HP} (_ : othello_seek_mF n g1 g2 g3 who1 deep1 low1 high1 = some r) (_ : Sep w0 B w (fs)) (hr_g3 : RdF w0 B fs A1 (vI g3)) (_hc_g3 : g3.length ≤ c1) (_hn_g3 : n1 = g3.length), Calls Try.prog 83 #[.agg #[.int .i64 g1, .int .i64 g2, .slice A1 n1 c1], .int .i64 who1, .int .i64 deep1, .int .i64 low1, .int .i64 high1] w fun e w' => e = .returned (.tuple #[.int .i64 r.1, .int .i64 r.2]) ∧ Sep w0 B w' (fs) := by
    intro n
    induction n with
    | zero => intros; rename_i hm0 _ _ _ _; cases hm0
    | succ n ih => intros; rename_i hm0 hS0 h0 h1 h2; exact othello_seek_wB (rec_othello_seek := othello_seek_mF n) (fun hm hS h0 h1 h2 => ih hm hS h0 h1 h2) hm0 hS0 h0 h1 h2
  obtain ⟨n, hn⟩ := recM_some hm
  exact key n hn hS hr_g3 _hc_g3 _hn_g3

theorem othello_seek_J4_le_othello_seek {rec_othello_seek1 rec_othello_seek2 : Int → Int → List Int → Int → Int → Int → Int → Option (Int × Int)} (h_rec_othello_seek : ∀ a0 a1 a2 a3 a4 a5 a6, Le (rec_othello_seek1 a0 a1 a2 a3 a4 a5 a6) (rec_othello_seek2 a0 a1 a2 a3 a4 a5 a6)) (g1 : Int) (g2 : Int) (g3 : List Int) (who1 : Int) (deep1 : Int) (low1 : Int) (high1 : Int) (r4 : (List Int)) (best1 : Int) (where1 : Int) (z1 : Int) : Le (othello_seek_J4 rec_othello_seek1 g1 g2 g3 who1 deep1 low1 high1 r4 best1 where1 z1) (othello_seek_J4 rec_othello_seek2 g1 g2 g3 who1 deep1 low1 high1 r4 best1 where1 z1) := by
  unfold othello_seek_J4
  repeat' (first | with_reducible exact Le.refl _ | with_reducible exact h_rec_othello_seek _ _ _ _ _ _ _ | refine Le.asrt ?_ | refine Le.ite ?_ ?_ | refine Le.bind ?_ (fun _ => ?_) | refine Le.loop2 (fun _ => ?_) | refine Le.elim2 (fun _ => ?_) (fun _ => ?_))

theorem othello_seek_L1_le_othello_seek {rec_othello_seek1 rec_othello_seek2 : Int → Int → List Int → Int → Int → Int → Int → Option (Int × Int)} (h_rec_othello_seek : ∀ a0 a1 a2 a3 a4 a5 a6, Le (rec_othello_seek1 a0 a1 a2 a3 a4 a5 a6) (rec_othello_seek2 a0 a1 a2 a3 a4 a5 a6)) (g1 : Int) (g2 : Int) (g3 : List Int) (who1 : Int) (deep1 : Int) (low1 : Int) (high1 : Int) (r4 : (List Int)) (x : (Int × Int × Int)) : Le (othello_seek_L1 rec_othello_seek1 g1 g2 g3 who1 deep1 low1 high1 r4 x) (othello_seek_L1 rec_othello_seek2 g1 g2 g3 who1 deep1 low1 high1 r4 x) := by
  rcases x with ⟨best1, where1, z1⟩
  all_goals
    unfold othello_seek_L1
    try dsimp only
    repeat' (first | with_reducible exact Le.refl _ | with_reducible exact h_rec_othello_seek _ _ _ _ _ _ _ | with_reducible exact othello_seek_J4_le_othello_seek h_rec_othello_seek _ _ _ _ _ _ _ _ _ _ _ | refine Le.asrt ?_ | refine Le.ite ?_ ?_ | refine Le.bind ?_ (fun _ => ?_) | refine Le.loop2 (fun _ => ?_) | refine Le.elim2 (fun _ => ?_) (fun _ => ?_))

theorem othello_seek_J2_le_othello_seek {rec_othello_seek1 rec_othello_seek2 : Int → Int → List Int → Int → Int → Int → Int → Option (Int × Int)} (h_rec_othello_seek : ∀ a0 a1 a2 a3 a4 a5 a6, Le (rec_othello_seek1 a0 a1 a2 a3 a4 a5 a6) (rec_othello_seek2 a0 a1 a2 a3 a4 a5 a6)) (g1 : Int) (g2 : Int) (g3 : List Int) (who1 : Int) (deep1 : Int) (low1 : Int) (high1 : Int) : Le (othello_seek_J2 rec_othello_seek1 g1 g2 g3 who1 deep1 low1 high1) (othello_seek_J2 rec_othello_seek2 g1 g2 g3 who1 deep1 low1 high1) := by
  unfold othello_seek_J2
  repeat' (first | with_reducible exact Le.refl _ | with_reducible exact h_rec_othello_seek _ _ _ _ _ _ _ | with_reducible exact othello_seek_L1_le_othello_seek h_rec_othello_seek _ _ _ _ _ _ _ _ _ | refine Le.asrt ?_ | refine Le.ite ?_ ?_ | refine Le.bind ?_ (fun _ => ?_) | refine Le.loop2 (fun _ => ?_) | refine Le.elim2 (fun _ => ?_) (fun _ => ?_))

theorem othello_seek_J1_le_othello_seek {rec_othello_seek1 rec_othello_seek2 : Int → Int → List Int → Int → Int → Int → Int → Option (Int × Int)} (h_rec_othello_seek : ∀ a0 a1 a2 a3 a4 a5 a6, Le (rec_othello_seek1 a0 a1 a2 a3 a4 a5 a6) (rec_othello_seek2 a0 a1 a2 a3 a4 a5 a6)) (g1 : Int) (g2 : Int) (g3 : List Int) (who1 : Int) (deep1 : Int) (low1 : Int) (high1 : Int) (r1 : Int) : Le (othello_seek_J1 rec_othello_seek1 g1 g2 g3 who1 deep1 low1 high1 r1) (othello_seek_J1 rec_othello_seek2 g1 g2 g3 who1 deep1 low1 high1 r1) := by
  unfold othello_seek_J1
  repeat' (first | with_reducible exact Le.refl _ | with_reducible exact h_rec_othello_seek _ _ _ _ _ _ _ | with_reducible exact othello_seek_J2_le_othello_seek h_rec_othello_seek _ _ _ _ _ _ _ | refine Le.asrt ?_ | refine Le.ite ?_ ?_ | refine Le.bind ?_ (fun _ => ?_) | refine Le.loop2 (fun _ => ?_) | refine Le.elim2 (fun _ => ?_) (fun _ => ?_))

theorem othello_seek_B_le {rec_othello_seek1 rec_othello_seek2 : Int → Int → List Int → Int → Int → Int → Int → Option (Int × Int)} (h_rec_othello_seek : ∀ a0 a1 a2 a3 a4 a5 a6, Le (rec_othello_seek1 a0 a1 a2 a3 a4 a5 a6) (rec_othello_seek2 a0 a1 a2 a3 a4 a5 a6)) (g1 : Int) (g2 : Int) (g3 : List Int) (who1 : Int) (deep1 : Int) (low1 : Int) (high1 : Int) : Le (othello_seek_B rec_othello_seek1 g1 g2 g3 who1 deep1 low1 high1) (othello_seek_B rec_othello_seek2 g1 g2 g3 who1 deep1 low1 high1) := by
  unfold othello_seek_B
  repeat' (first | with_reducible exact Le.refl _ | with_reducible exact h_rec_othello_seek _ _ _ _ _ _ _ | with_reducible exact othello_seek_J1_le_othello_seek h_rec_othello_seek _ _ _ _ _ _ _ _ | refine Le.asrt ?_ | refine Le.ite ?_ ?_ | refine Le.bind ?_ (fun _ => ?_) | refine Le.loop2 (fun _ => ?_) | refine Le.elim2 (fun _ => ?_) (fun _ => ?_))

theorem othello_seek_mF_le : ∀ (n : Nat) (g1 : Int) (g2 : Int) (g3 : List Int) (who1 : Int) (deep1 : Int) (low1 : Int) (high1 : Int), Le (othello_seek_mF n g1 g2 g3 who1 deep1 low1 high1) (othello_seek_mF (n + 1) g1 g2 g3 who1 deep1 low1 high1)
  | 0, _, _, _, _, _, _, _ => fun _ h => by cases h
  | n + 1, _, _, _, _, _, _, _ => othello_seek_B_le (fun a0 a1 a2 a3 a4 a5 a6 => othello_seek_mF_le n a0 a1 a2 a3 a4 a5 a6) _ _ _ _ _ _ _

theorem othello_seek_m_of (N : Nat) (g1 : Int) (g2 : Int) (g3 : List Int) (who1 : Int) (deep1 : Int) (low1 : Int) (high1 : Int) {r : (Int × Int)} (h : othello_seek_mF N g1 g2 g3 who1 deep1 low1 high1 = some r) : othello_seek_m g1 g2 g3 who1 deep1 low1 high1 = some r :=
  recM_mono (fun n => othello_seek_mF_le n _ _ _ _ _ _ _) h

noncomputable def othello_Best_J2 (g1 : Int) (g2 : Int) (g3 : List Int) (who1 : Int) (deep1 : Int) : Option (Int × Int × Int) :=
  (othello_seek_m g1 g2 g3 who1 deep1 (-1000) 1000).bind fun r2 => some (r2.1, r2.2, 0)

noncomputable def othello_Best_J1 (g1 : Int) (g2 : Int) (g3 : List Int) (who1 : Int) (deep1 : Int) : Option (Int × Int × Int) :=
  if ((decide (deep1 < 0)) || (decide ((6 : Int) < deep1))) then (some (0, 0, 3)) else ((othello_Best_J2 g1 g2 g3 who1 deep1))

noncomputable def othello_Best_m (g1 : Int) (g2 : Int) (g3 : List Int) (who1 : Int) (deep1 : Int) : Option (Int × Int × Int) :=
  (othello_check_m g1 g2 g3 who1).bind fun r1 => if (r1 != 0) then (some (0, 0, r1)) else ((othello_Best_J1 g1 g2 g3 who1 deep1))

set_option maxRecDepth 100000 in
set_option maxHeartbeats 4000000 in
theorem othello_Best_w {g1 : Int} {g2 : Int} {A1 : Option Addr} {c1 : Nat} {n1 : Nat} {g3 : List Int} {who1 : Int} {deep1 : Int} {r : (Int × Int × Int)} {w0 w : World} {B : Nat} {fs : List HP} (hm : othello_Best_m g1 g2 g3 who1 deep1 = some r) (hS : Sep w0 B w (fs)) (hr_g3 : RdF w0 B fs A1 (vI g3)) (_hc_g3 : g3.length ≤ c1) (_hn_g3 : n1 = g3.length) :
    Calls Try.prog 37 #[.agg #[.int .i64 g1, .int .i64 g2, .slice A1 n1 c1], .int .i64 who1, .int .i64 deep1] w fun e w' => e = .returned (.tuple #[.int .i64 r.1, .int .i64 r.2.1, .int .i64 r.2.2]) ∧ Sep w0 B w' (fs) := by
  obtain ⟨i3, hi3, hz3, hs3, hb3⟩ := info_parts Info3
  obtain rfl := _hn_g3
  unfold othello_Best_m at hm
  replace hm := start_b hm
  refine enter (l := [.agg #[.int .i64 g1, .int .i64 g2, .slice A1 g3.length c1], .int .i64 who1, .int .i64 deep1]) (n := 33) Try.func37 rfl rfl (by simp) (fun a hF => ?_)
  refine seqR ?_
  refine at_do (d := 3) (s := vS (Instr.box 24 (.agg #[.int .i64 g1, .int .i64 g2, .slice A1 g3.length c1]))) (v := .pointer (some ⟨w.heap.size, 0, none⟩)) (w' := w.alloc (.cells #[.int .i64 g1, .int .i64 g2, .slice A1 g3.length c1] 24)) hF (by kernel_rfl) (by kernel_rfl) (by kernel_rfl) (fun a hF => ?_)
  have hS : Sep w0 B (w.alloc (.cells #[.int .i64 g1, .int .i64 g2, .slice A1 g3.length c1] 24)) (blk w.heap.size 24 #[.int .i64 g1, .int .i64 g2, .slice A1 g3.length c1] :: (fs)) := hS.box 24 #[.int .i64 g1, .int .i64 g2, .slice A1 g3.length c1]
  generalize w.heap.size = g4 at hF hS
  generalize w.alloc (.cells #[.int .i64 g1, .int .i64 g2, .slice A1 g3.length c1] 24) = w at hS ⊢
  refine at_run 3 [] [] [1, 2, 3] [pl 1 (.int .i64 who1), pl 2 (.int .i64 deep1), pl 3 (.pointer (some ⟨g4, 0, none⟩))] hF hS (by kernel_rfl) (by kernel_rfl) ?_ (fun a w hF hS => ?_)
  · exact obs_nil
  refine at_end [1, 2, 3] [pl 1 (.int .i64 who1), pl 2 (.int .i64 deep1), pl 3 (.pointer (some ⟨g4, 0, none⟩))] hF rfl (by kernel_rfl) (fun hF => ?_)
  refine then_n ?_
  refine seq_cut (fun a w => Fr 33 [pl 1 (.int .i64 who1), pl 2 (.int .i64 deep1), pl 3 (.pointer (some ⟨g4, 0, none⟩))] a ∧ Sep w0 B w (blk g4 24 #[.int .i64 g1, .int .i64 g2, .slice A1 g3.length c1] :: fs) ∧ ((othello_Best_J1 g1 g2 g3 who1 deep1)).bind some = some r) ?_ ?_
  · rintro a w ⟨hF, hS, hm⟩
    unfold othello_Best_J1 at hm
    refine seq_cut (fun a w => Fr 33 [pl 1 (.int .i64 who1), pl 2 (.int .i64 deep1), pl 3 (.pointer (some ⟨g4, 0, none⟩))] a ∧ Sep w0 B w (blk g4 24 #[.int .i64 g1, .int .i64 g2, .slice A1 g3.length c1] :: fs) ∧ ((othello_Best_J2 g1 g2 g3 who1 deep1)).bind some = some r) ?_ ?_
    · rintro a w ⟨hF, hS, hm⟩
      unfold othello_Best_J2 at hm
      obtain ⟨r2, hr2, hm⟩ := call_b hm
      refine reg [⟨false, [], vS (Instr.loadAt 24 (.pointer (some ⟨g4, 0, none⟩))), .agg #[.int .i64 g1, .int .i64 g2, .slice A1 g3.length c1]⟩, ⟨false, [], callFunc 83 #[.agg #[.int .i64 g1, .int .i64 g2, .slice A1 g3.length c1], .int .i64 who1, .int .i64 deep1, .int .i64 (-1000), .int .i64 1000], .tuple #[.int .i64 r2.1, .int .i64 r2.2]⟩] [some (.agg #[.int .i64 g1, .int .i64 g2, .slice A1 g3.length c1]), none, none, some (.tuple #[.int .i64 r2.1, .int .i64 r2.2]), none, none, none, none, none] [10, 11] [pl 10 (.int .i64 r2.1), pl 11 (.int .i64 r2.2)] hF hS Fol (by kernel_rfl) (by kernel_rfl) (by kernel_rfl) ?_ (fun a w hF hS => ?_)
      · exact obs_cons (ob_loadA (cs := #[.int .i64 g1, .int .i64 g2, .slice A1 g3.length c1]) (by kernel_rfl) (by kernel_rfl) (fun _ _ hS => (hS.at_ 0 rfl).cellsAt 0 (by rfl))) <| obs_cons (ob_call Try.func83 (by kernel_rfl) rfl (fun _ _ hS => othello_seek_w hr2 hS (fun _ hS => (hr_g3 _ (hS.dropN 1))) _hc_g3 rfl)) <| obs_nil
      refine reg [] [] [6, 7, 8] [pl 6 (.int .i64 r2.1), pl 7 (.int .i64 r2.2), pl 8 (.int .i64 0)] hF hS Fol (by kernel_rfl) (by kernel_rfl) (by kernel_rfl) ?_ (fun a w hF hS => ?_)
      · exact obs_nil
      refine wp_ret ?_
      have hS := hS.pickN 1 [] (by decide)
      have hm : some (r2.1, r2.2, 0) = some r := hm
      obtain rfl := Option.some.inj hm
      exact retV (rs := [.tmp 6, .tmp 7, .tmp 8]) (vs := [.int .i64 r2.1, .int .i64 r2.2, .int .i64 0]) hF rfl (rv_t (by kernel_rfl) <| rv_t (by kernel_rfl) <| rv_t (by kernel_rfl) <| rv_nil) rfl ⟨rfl, hS⟩
    · refine reg [] [] [1, 2, 3, 23] [pl 1 (.int .i64 who1), pl 2 (.int .i64 deep1), pl 3 (.pointer (some ⟨g4, 0, none⟩)), pl 23 (.bool ((decide (deep1 < 0)) || (decide ((6 : Int) < deep1))))] hF hS Fol (by kernel_rfl) (by kernel_rfl) (by kernel_rfl) ?_ (fun a w hF hS => ?_)
      · exact obs_nil
      refine cond_ev (t := 23) (b := (decide (deep1 < 0)) || (decide ((6 : Int) < deep1))) hF (by kernel_rfl) (fun hb => ?_) (fun hb => ?_)
      · replace hm := if_t hm hb
        refine reg [] [] [6, 7, 8] [pl 6 (.int .i64 0), pl 7 (.int .i64 0), pl 8 (.int .i64 3)] hF hS Fol (by kernel_rfl) (by kernel_rfl) (by kernel_rfl) ?_ (fun a w hF hS => ?_)
        · exact obs_nil
        refine wp_ret ?_
        refine then_r ?_
        have hS := hS.pickN 1 [] (by decide)
        have hm : some (0, 0, 3) = some r := hm
        obtain rfl := Option.some.inj hm
        exact retV (rs := [.tmp 6, .tmp 7, .tmp 8]) (vs := [.int .i64 0, .int .i64 0, .int .i64 3]) hF rfl (rv_t (by kernel_rfl) <| rv_t (by kernel_rfl) <| rv_t (by kernel_rfl) <| rv_nil) rfl ⟨rfl, hS⟩
      · replace hm := if_f hm hb
        refine wp_skip ?_
        refine then_n ?_
        exact ⟨hF.weak [1, 2, 3] (by kernel_rfl), hS, hm⟩
  · obtain ⟨r1, hr1, hm⟩ := call_b hm
    refine reg [⟨false, [], vS (Instr.loadAt 24 (.pointer (some ⟨g4, 0, none⟩))), .agg #[.int .i64 g1, .int .i64 g2, .slice A1 g3.length c1]⟩, ⟨false, [], callFunc 56 #[.agg #[.int .i64 g1, .int .i64 g2, .slice A1 g3.length c1], .int .i64 who1], .int .i64 r1⟩] [some (.agg #[.int .i64 g1, .int .i64 g2, .slice A1 g3.length c1]), none, some (.int .i64 r1), none] [1, 2, 3, 9] [pl 1 (.int .i64 who1), pl 2 (.int .i64 deep1), pl 3 (.pointer (some ⟨g4, 0, none⟩)), pl 9 (.int .i64 r1)] hF hS Fol (by kernel_rfl) (by kernel_rfl) (by kernel_rfl) ?_ (fun a w hF hS => ?_)
    · exact obs_cons (ob_loadA (cs := #[.int .i64 g1, .int .i64 g2, .slice A1 g3.length c1]) (by kernel_rfl) (by kernel_rfl) (fun _ _ hS => (hS.at_ 0 rfl).cellsAt 0 (by rfl))) <| obs_cons (ob_call Try.func56 (by kernel_rfl) rfl (fun _ _ hS => othello_check_w hr1 hS (fun _ hS => (hr_g3 _ (hS.dropN 1))) _hc_g3 rfl)) <| obs_nil
    refine reg [] [] [1, 2, 3, 9, 16] [pl 1 (.int .i64 who1), pl 2 (.int .i64 deep1), pl 3 (.pointer (some ⟨g4, 0, none⟩)), pl 9 (.int .i64 r1), pl 16 (.bool (r1 != 0))] hF hS Fol (by kernel_rfl) (by kernel_rfl) (by kernel_rfl) ?_ (fun a w hF hS => ?_)
    · exact obs_nil
    refine cond_ev (t := 16) (b := (r1 != 0)) hF (by kernel_rfl) (fun hb => ?_) (fun hb => ?_)
    · replace hm := if_t hm hb
      refine reg [] [] [6, 7, 8] [pl 6 (.int .i64 0), pl 7 (.int .i64 0), pl 8 (.int .i64 r1)] hF hS Fol (by kernel_rfl) (by kernel_rfl) (by kernel_rfl) ?_ (fun a w hF hS => ?_)
      · exact obs_nil
      refine wp_ret ?_
      refine then_r ?_
      have hS := hS.pickN 1 [] (by decide)
      have hm : some (0, 0, r1) = some r := hm
      obtain rfl := Option.some.inj hm
      exact retV (rs := [.tmp 6, .tmp 7, .tmp 8]) (vs := [.int .i64 0, .int .i64 0, .int .i64 r1]) hF rfl (rv_t (by kernel_rfl) <| rv_t (by kernel_rfl) <| rv_t (by kernel_rfl) <| rv_nil) rfl ⟨rfl, hS⟩
    · replace hm := if_f hm hb
      refine wp_skip ?_
      refine then_n ?_
      exact ⟨hF.weak [1, 2, 3] (by kernel_rfl), hS, hm⟩

noncomputable def gameroomref_within_m (n1 : Int) (low1 : Int) (high1 : Int) : Option Bool :=
  some ((decide (low1 ≤ n1)) && (decide (n1 ≤ high1)))

set_option maxRecDepth 100000 in
set_option maxHeartbeats 4000000 in
theorem gameroomref_within_w {n1 : Int} {low1 : Int} {high1 : Int} {r : Bool} {w0 w : World} {B : Nat} {fs : List HP} (hm : gameroomref_within_m n1 low1 high1 = some r) (hS : Sep w0 B w (fs)) :
    Calls Try.prog 64 #[.int .i64 n1, .int .i64 low1, .int .i64 high1] w fun e w' => e = .returned (.bool r) ∧ Sep w0 B w' (fs) := by
  unfold gameroomref_within_m at hm
  replace hm := start_b hm
  refine enter (l := [.int .i64 n1, .int .i64 low1, .int .i64 high1]) (n := 15) Try.func64 rfl rfl (by simp) (fun a hF => ?_)
  refine reg [] [] [0, 1, 2] [pl 0 (.int .i64 n1), pl 1 (.int .i64 low1), pl 2 (.int .i64 high1)] hF hS Fol (by kernel_rfl) (by kernel_rfl) (by kernel_rfl) ?_ (fun a w hF hS => ?_)
  · exact obs_nil
  refine reg [] [] [6] [pl 6 (.bool ((decide (low1 ≤ n1)) && (decide (n1 ≤ high1))))] hF hS Fol (by kernel_rfl) (by kernel_rfl) (by kernel_rfl) ?_ (fun a w hF hS => ?_)
  · exact obs_nil
  refine wp_ret ?_
  have hm : some ((decide (low1 ≤ n1)) && (decide (n1 ≤ high1))) = some r := hm
  obtain rfl := Option.some.inj hm
  exact retV (rs := [.tmp 6]) (vs := [.bool ((decide (low1 ≤ n1)) && (decide (n1 ≤ high1)))]) hF rfl (rv_t (by kernel_rfl) <| rv_nil) rfl ⟨rfl, hS⟩

noncomputable def gameroomref_GridMay_J4 (i1 : Int) : Option (St Int (Fl Unit Bool)) :=
  some (.next (w64 (i1 + 1)))

noncomputable def gameroomref_GridMay_J3 (g3 : List Int) (i1 : Int) : Option (St Int (Fl Unit Bool)) :=
  asrt (0 ≤ i1 ∧ i1 < (g3.length : Int)) <| (gameroomref_within_m (geti g3 i1) 0 2).bind fun r3 => if (!r3) then (some (.done (.ret false))) else ((gameroomref_GridMay_J4 i1))

noncomputable def gameroomref_GridMay_J2 : Option Bool :=
  some true

noncomputable def gameroomref_GridMay_K1 : (Fl Unit Bool) → Option Bool :=
  fun (x : (Fl Unit Bool)) => match x with | .go _ => gameroomref_GridMay_J2 | .ret x => some x

noncomputable def gameroomref_GridMay_L1 (g3 : List Int) : Int → Option (St Int (Fl Unit Bool)) :=
  fun (x : Int) => match x with | i1 => if (decide (i1 < (g3.length : Int))) then ((gameroomref_GridMay_J3 g3 i1)) else (some (.done (.go ())))

noncomputable def gameroomref_GridMay_J1 (g3 : List Int) : Option Bool :=
  (loop (gameroomref_GridMay_L1 g3) 0).bind gameroomref_GridMay_K1

noncomputable def gameroomref_GridMay_m (g1 : Int) (g2 : Int) (g3 : List Int) : Option Bool :=
  (gameroomref_within_m g1 1 10).bind fun r1 => ((if (!(!r1)) then gameroomref_within_m g2 1 10 else some false)).bind fun r2 => if (((!r1) || (!r2)) || ((g3.length : Int) != (w64 (g1 * g2)))) then (some false) else ((gameroomref_GridMay_J1 g3))

set_option maxRecDepth 100000 in
set_option maxHeartbeats 4000000 in
theorem gameroomref_GridMay_w {g1 : Int} {g2 : Int} {A1 : Option Addr} {c1 : Nat} {n1 : Nat} {g3 : List Int} {r : Bool} {w0 w : World} {B : Nat} {fs : List HP} (hm : gameroomref_GridMay_m g1 g2 g3 = some r) (hS : Sep w0 B w (fs)) (hr_g3 : RdF w0 B fs A1 (vI g3)) (_hc_g3 : g3.length ≤ c1) (_hn_g3 : n1 = g3.length) :
    Calls Try.prog 63 #[.agg #[.int .i64 g1, .int .i64 g2, .slice A1 n1 c1]] w fun e w' => e = .returned (.bool r) ∧ Sep w0 B w' (fs) := by
  obtain ⟨i3, hi3, hz3, hs3, hb3⟩ := info_parts Info3
  obtain rfl := _hn_g3
  unfold gameroomref_GridMay_m at hm
  replace hm := start_b hm
  refine enter (l := [.agg #[.int .i64 g1, .int .i64 g2, .slice A1 g3.length c1]]) (n := 39) Try.func63 rfl rfl (by simp) (fun a hF => ?_)
  refine seqR ?_
  refine at_do (d := 1) (s := vS (Instr.box 24 (.agg #[.int .i64 g1, .int .i64 g2, .slice A1 g3.length c1]))) (v := .pointer (some ⟨w.heap.size, 0, none⟩)) (w' := w.alloc (.cells #[.int .i64 g1, .int .i64 g2, .slice A1 g3.length c1] 24)) hF (by kernel_rfl) (by kernel_rfl) (by kernel_rfl) (fun a hF => ?_)
  have hS : Sep w0 B (w.alloc (.cells #[.int .i64 g1, .int .i64 g2, .slice A1 g3.length c1] 24)) (blk w.heap.size 24 #[.int .i64 g1, .int .i64 g2, .slice A1 g3.length c1] :: (fs)) := hS.box 24 #[.int .i64 g1, .int .i64 g2, .slice A1 g3.length c1]
  generalize w.heap.size = g4 at hF hS
  generalize w.alloc (.cells #[.int .i64 g1, .int .i64 g2, .slice A1 g3.length c1] 24) = w at hS ⊢
  refine at_run 1 [] [] [1] [pl 1 (.pointer (some ⟨g4, 0, none⟩))] hF hS (by kernel_rfl) (by kernel_rfl) ?_ (fun a w hF hS => ?_)
  · exact obs_nil
  refine at_end [1] [pl 1 (.pointer (some ⟨g4, 0, none⟩))] hF rfl (by kernel_rfl) (fun hF => ?_)
  refine then_n ?_
  refine seq_cut (fun a w => Fr 39 [pl 1 (.pointer (some ⟨g4, 0, none⟩))] a ∧ Sep w0 B w (blk g4 24 #[.int .i64 g1, .int .i64 g2, .slice A1 g3.length c1] :: fs) ∧ ((gameroomref_GridMay_J1 g3)).bind some = some r) ?_ ?_
  · rintro a w ⟨hF, hS, hm⟩
    unfold gameroomref_GridMay_J1 at hm
    refine seq_cut (fun a w => Fr 39 [] a ∧ Sep w0 B w (fs) ∧ (gameroomref_GridMay_J2).bind some = some r) ?_ ?_
    · rintro a w ⟨hF, hS, hm⟩
      unfold gameroomref_GridMay_J2 at hm
      refine reg [] [] [2] [pl 2 (.bool true)] hF hS Fol (by kernel_rfl) (by kernel_rfl) (by kernel_rfl) ?_ (fun a w hF hS => ?_)
      · exact obs_nil
      refine wp_ret ?_
      have hm : some true = some r := hm
      obtain rfl := Option.some.inj hm
      exact retV (rs := [.tmp 2]) (vs := [.bool true]) hF rfl (rv_t (by kernel_rfl) <| rv_nil) rfl ⟨rfl, hS⟩
    · refine reg [] [] [1, 3] [pl 1 (.pointer (some ⟨g4, 0, none⟩)), pl 3 (.int .i64 0)] hF hS Fol (by kernel_rfl) (by kernel_rfl) (by kernel_rfl) ?_ (fun a w hF hS => ?_)
      · exact obs_nil
      refine wp_block ?_
      refine wp_loop_model (S := Int) (R := (Fl Unit Bool)) (gameroomref_GridMay_L1 g3) (fun x => (gameroomref_GridMay_K1 x).bind some) r (fun (x : Int) a w => Fr 39 [pl 1 (.pointer (some ⟨g4, 0, none⟩)), pl 3 (.int .i64 x)] a ∧ Sep w0 B w (blk g4 24 #[.int .i64 g1, .int .i64 g2, .slice A1 g3.length c1] :: fs)) (assoc_b hm) ⟨hF.weak [1, 3] (by kernel_rfl), hS⟩ ?_
      clear hF hS hm
      rintro nn1 i1 a w ⟨hF, hS⟩ hm
      generalize hφ1 : stK (gameroomref_GridMay_L1 g3) nn1 (fun x => (gameroomref_GridMay_K1 x).bind some) = φ1 at hm
      unfold gameroomref_GridMay_L1 at hm
      dsimp only at hm
      refine seq_cut (fun a w => Fr 39 [pl 1 (.pointer (some ⟨g4, 0, none⟩)), pl 3 (.int .i64 i1)] a ∧ Sep w0 B w (blk g4 24 #[.int .i64 g1, .int .i64 g2, .slice A1 g3.length c1] :: fs) ∧ ((gameroomref_GridMay_J3 g3 i1)).bind φ1 = some r) ?_ ?_
      · rintro a w ⟨hF, hS, hm⟩
        unfold gameroomref_GridMay_J3 at hm
        refine seq_cut (fun a w => Fr 39 [pl 1 (.pointer (some ⟨g4, 0, none⟩)), pl 3 (.int .i64 i1)] a ∧ Sep w0 B w (blk g4 24 #[.int .i64 g1, .int .i64 g2, .slice A1 g3.length c1] :: fs) ∧ ((gameroomref_GridMay_J4 i1)).bind φ1 = some r) ?_ ?_
        · rintro a w ⟨hF, hS, hm⟩
          unfold gameroomref_GridMay_J4 at hm
          refine reg1 [] [] [1, 3] [pl 1 (.pointer (some ⟨g4, 0, none⟩)), pl 3 (.int .i64 (w64 (i1 + 1)))] hF hS Fol (by kernel_rfl) (by kernel_rfl) (by kernel_rfl) ?_ (fun a w hF hS => ?_)
          · exact obs_nil
          refine then_n ?_
          rw [← hφ1] at hm
          exact ⟨(w64 (i1 + 1)), ⟨hF.weak [1, 3] (by kernel_rfl), hS⟩, hm⟩
        · refine wp_block ?_
          obtain ⟨hp1, hm⟩ := asrt_b hm
          obtain ⟨r3, hr3, hm⟩ := call_b hm
          refine reg [⟨false, [], vS (Instr.loadAt 22 (.pointer (some ⟨g4, 2, none⟩))), .slice A1 g3.length c1⟩, ⟨true, [], vS (Instr.indexAt 22 (.slice A1 g3.length c1) (.int .i64 i1)), .pointer (some (sAddr A1 i1))⟩, ⟨false, [], vS (Instr.loadAt 3 (.pointer (some (sAddr A1 i1)))), .int .i64 (geti g3 i1)⟩, ⟨false, [], callFunc 64 #[.int .i64 (geti g3 i1), .int .i64 0, .int .i64 2], .bool r3⟩] [none, some (.slice A1 g3.length c1), none, some (.pointer (some (sAddr A1 i1))), some (.int .i64 (geti g3 i1)), some (.bool r3), none] [1, 3, 38] [pl 1 (.pointer (some ⟨g4, 0, none⟩)), pl 3 (.int .i64 i1), pl 38 (.bool (!r3))] hF hS Fol (by kernel_rfl) (by kernel_rfl) (by kernel_rfl) ?_ (fun a w hF hS => ?_)
          · exact obs_cons (ob_load Agg22 (fun _ _ hS => (hS.at_ 0 rfl).cell rfl)) <| obs_cons (ob_ix1 (f := (Value.int .i64)) (m := g3) Und22 hi3 hs3 (hr_g3 _ (hS.dropN 1)) rfl (fun _ => hp1)) <| obs_cons (ob_get1 (n := g3.length) (m := g3) (Value.int .i64) (0 : Int) Agg3 (fun _ hS => ⟨_, (hr_g3 _ (hS.dropN 1))⟩) (fun _ hS => rfl) (fun _ => hp1)) <| obs_cons (ob_call Try.func64 (by kernel_rfl) rfl (fun _ _ hS => gameroomref_within_w hr3 hS )) <| obs_nil
          refine cond_ev (t := 38) (b := !r3) hF (by kernel_rfl) (fun hb => ?_) (fun hb => ?_)
          · replace hm := if_t hm hb
            refine reg [] [] [2] [pl 2 (.bool false)] hF hS Fol (by kernel_rfl) (by kernel_rfl) (by kernel_rfl) ?_ (fun a w hF hS => ?_)
            · exact obs_nil
            refine wp_ret ?_
            refine block_r (then_r (then_r (block_r (then_r ?_))))
            rw [← hφ1] at hm
            replace hm := done_b hm
            unfold gameroomref_GridMay_K1 at hm
            try dsimp only at hm
            have hS := hS.pickN 1 [] (by decide)
            have hm : some false = some r := hm
            obtain rfl := Option.some.inj hm
            exact retV (rs := [.tmp 2]) (vs := [.bool false]) hF rfl (rv_t (by kernel_rfl) <| rv_nil) rfl ⟨rfl, hS⟩
          · replace hm := if_f hm hb
            refine wp_skip ?_
            refine block_n ?_
            refine then_n ?_
            exact ⟨hF.weak [1, 3] (by kernel_rfl), hS, hm⟩
      · refine reg [⟨false, [], vS (Instr.loadAt 22 (.pointer (some ⟨g4, 2, none⟩))), .slice A1 g3.length c1⟩] [none, none, some (.slice A1 g3.length c1), none, none] [1, 3, 29] [pl 1 (.pointer (some ⟨g4, 0, none⟩)), pl 3 (.int .i64 i1), pl 29 (.bool (decide (i1 < (g3.length : Int))))] hF hS Fol (by kernel_rfl) (by kernel_rfl) (by kernel_rfl) ?_ (fun a w hF hS => ?_)
        · exact obs_cons (ob_load Agg22 (fun _ _ hS => (hS.at_ 0 rfl).cell rfl)) <| obs_nil
        refine cond_ev (t := 29) (b := decide (i1 < (g3.length : Int))) hF (by kernel_rfl) (fun hb => ?_) (fun hb => ?_)
        · replace hm := if_t hm hb
          refine wp_skip ?_
          refine then_n ?_
          exact ⟨hF.weak [1, 3] (by kernel_rfl), hS, hm⟩
        · replace hm := if_f hm hb
          refine wp_exit ?_
          refine then_e (then_e (block_e (then_n ?_)))
          have hS := hS.pickN 1 [] (by decide)
          rw [← hφ1] at hm
          replace hm := done_b hm
          unfold gameroomref_GridMay_K1 at hm
          try dsimp only at hm
          have hm : (gameroomref_GridMay_J2).bind some = some r := hm
          exact ⟨hF.weak [] (by kernel_rfl), hS, hm⟩
  · obtain ⟨r1, hr1, hm⟩ := call_b hm
    obtain ⟨r2, hr2, hm⟩ := call_b hm
    refine reg [⟨false, [], vS (Instr.loadAt 3 (.pointer (some ⟨g4, 0, none⟩))), .int .i64 g1⟩, ⟨false, [], callFunc 64 #[.int .i64 g1, .int .i64 1, .int .i64 10], .bool r1⟩, ⟨false, [(!r1, false)], vS (Instr.loadAt 3 (.pointer (some ⟨g4, 1, none⟩))), .int .i64 g2⟩, ⟨false, [(!r1, false)], callFunc 64 #[.int .i64 g2, .int .i64 1, .int .i64 10], .bool r2⟩, ⟨false, [((!r1) || (!r2), false)], vS (Instr.loadAt 22 (.pointer (some ⟨g4, 2, none⟩))), .slice A1 g3.length c1⟩, ⟨false, [((!r1) || (!r2), false)], vS (Instr.loadAt 3 (.pointer (some ⟨g4, 0, none⟩))), .int .i64 g1⟩, ⟨false, [((!r1) || (!r2), false)], vS (Instr.loadAt 3 (.pointer (some ⟨g4, 1, none⟩))), .int .i64 g2⟩] [none, some (.int .i64 g1), some (.bool r1), none, none, none, some (.int .i64 g2), some (.bool r2), none, none, none, none, some (.slice A1 g3.length c1), none, none, some (.int .i64 g1), none, some (.int .i64 g2), none, none, none] [1, 24] [pl 1 (.pointer (some ⟨g4, 0, none⟩)), pl 24 (.bool (((!r1) || (!r2)) || ((g3.length : Int) != (w64 (g1 * g2)))))] hF hS Fol (by kernel_rfl) (by kernel_rfl) (by kernel_rfl) ?_ (fun a w hF hS => ?_)
    · exact obs_cons (ob_load Agg3 (fun _ _ hS => (hS.at_ 0 rfl).cell rfl)) <| obs_cons (ob_call Try.func64 (by kernel_rfl) rfl (fun _ _ hS => gameroomref_within_w hr1 hS )) <| obs_cons (ob_load Agg3 (fun _ _ hS => (hS.at_ 0 rfl).cell rfl)) <| obs_cons (ob_call Try.func64 (by kernel_rfl) rfl (fun hy _ hS => gameroomref_within_w (ite_some hr2 (by rw [show (!r1) = false from hy (!r1, false) (by simp)]; try rfl)) hS )) <| obs_cons (ob_load Agg22 (fun _ _ hS => (hS.at_ 0 rfl).cell rfl)) <| obs_cons (ob_load Agg3 (fun _ _ hS => (hS.at_ 0 rfl).cell rfl)) <| obs_cons (ob_load Agg3 (fun _ _ hS => (hS.at_ 0 rfl).cell rfl)) <| obs_nil
    refine cond_ev (t := 24) (b := ((!r1) || (!r2)) || ((g3.length : Int) != (w64 (g1 * g2)))) hF (by kernel_rfl) (fun hb => ?_) (fun hb => ?_)
    · replace hm := if_t hm hb
      refine reg [] [] [2] [pl 2 (.bool false)] hF hS Fol (by kernel_rfl) (by kernel_rfl) (by kernel_rfl) ?_ (fun a w hF hS => ?_)
      · exact obs_nil
      refine wp_ret ?_
      refine then_r ?_
      have hS := hS.pickN 1 [] (by decide)
      have hm : some false = some r := hm
      obtain rfl := Option.some.inj hm
      exact retV (rs := [.tmp 2]) (vs := [.bool false]) hF rfl (rv_t (by kernel_rfl) <| rv_nil) rfl ⟨rfl, hS⟩
    · replace hm := if_f hm hb
      refine wp_skip ?_
      refine then_n ?_
      exact ⟨hF.weak [1] (by kernel_rfl), hS, hm⟩

noncomputable def gameroomref_OthelloMay_m (g1 : Int) (g2 : Int) (g3 : List Int) : Option Bool :=
  (gameroomref_GridMay_m g1 g2 g3).bind fun r1 => ((if r1 then gameroomref_within_m g1 4 8 else some false)).bind fun r2 => ((if (r1 && r2) then gameroomref_within_m g2 4 8 else some false)).bind fun r3 => some ((((r1 && r2) && r3) && ((Int.tmod g1 2) == 0)) && ((Int.tmod g2 2) == 0))

set_option maxRecDepth 100000 in
set_option maxHeartbeats 4000000 in
theorem gameroomref_OthelloMay_w {g1 : Int} {g2 : Int} {A1 : Option Addr} {c1 : Nat} {n1 : Nat} {g3 : List Int} {r : Bool} {w0 w : World} {B : Nat} {fs : List HP} (hm : gameroomref_OthelloMay_m g1 g2 g3 = some r) (hS : Sep w0 B w (fs)) (hr_g3 : RdF w0 B fs A1 (vI g3)) (_hc_g3 : g3.length ≤ c1) (_hn_g3 : n1 = g3.length) :
    Calls Try.prog 19 #[.agg #[.int .i64 g1, .int .i64 g2, .slice A1 n1 c1]] w fun e w' => e = .returned (.bool r) ∧ Sep w0 B w' (fs) := by
  obtain ⟨i3, hi3, hz3, hs3, hb3⟩ := info_parts Info3
  obtain rfl := _hn_g3
  unfold gameroomref_OthelloMay_m at hm
  replace hm := start_b hm
  refine enter (l := [.agg #[.int .i64 g1, .int .i64 g2, .slice A1 g3.length c1]]) (n := 27) Try.func19 rfl rfl (by simp) (fun a hF => ?_)
  refine seqR ?_
  refine at_do (d := 1) (s := vS (Instr.box 24 (.agg #[.int .i64 g1, .int .i64 g2, .slice A1 g3.length c1]))) (v := .pointer (some ⟨w.heap.size, 0, none⟩)) (w' := w.alloc (.cells #[.int .i64 g1, .int .i64 g2, .slice A1 g3.length c1] 24)) hF (by kernel_rfl) (by kernel_rfl) (by kernel_rfl) (fun a hF => ?_)
  have hS : Sep w0 B (w.alloc (.cells #[.int .i64 g1, .int .i64 g2, .slice A1 g3.length c1] 24)) (blk w.heap.size 24 #[.int .i64 g1, .int .i64 g2, .slice A1 g3.length c1] :: (fs)) := hS.box 24 #[.int .i64 g1, .int .i64 g2, .slice A1 g3.length c1]
  generalize w.heap.size = g4 at hF hS
  generalize w.alloc (.cells #[.int .i64 g1, .int .i64 g2, .slice A1 g3.length c1] 24) = w at hS ⊢
  refine at_run 1 [] [] [1] [pl 1 (.pointer (some ⟨g4, 0, none⟩))] hF hS (by kernel_rfl) (by kernel_rfl) ?_ (fun a w hF hS => ?_)
  · exact obs_nil
  refine at_end [1] [pl 1 (.pointer (some ⟨g4, 0, none⟩))] hF rfl (by kernel_rfl) (fun hF => ?_)
  refine then_n ?_
  obtain ⟨r1, hr1, hm⟩ := call_b hm
  obtain ⟨r2, hr2, hm⟩ := call_b hm
  obtain ⟨r3, hr3, hm⟩ := call_b hm
  refine reg [⟨false, [], vS (Instr.loadAt 24 (.pointer (some ⟨g4, 0, none⟩))), .agg #[.int .i64 g1, .int .i64 g2, .slice A1 g3.length c1]⟩, ⟨false, [], callFunc 63 #[.agg #[.int .i64 g1, .int .i64 g2, .slice A1 g3.length c1]], .bool r1⟩, ⟨false, [(r1, true)], vS (Instr.loadAt 3 (.pointer (some ⟨g4, 0, none⟩))), .int .i64 g1⟩, ⟨false, [(r1, true)], callFunc 64 #[.int .i64 g1, .int .i64 4, .int .i64 8], .bool r2⟩, ⟨false, [(r1 && r2, true)], vS (Instr.loadAt 3 (.pointer (some ⟨g4, 1, none⟩))), .int .i64 g2⟩, ⟨false, [(r1 && r2, true)], callFunc 64 #[.int .i64 g2, .int .i64 4, .int .i64 8], .bool r3⟩, ⟨false, [((r1 && r2) && r3, true)], vS (Instr.loadAt 3 (.pointer (some ⟨g4, 0, none⟩))), .int .i64 g1⟩, ⟨false, [(((r1 && r2) && r3) && ((Int.tmod g1 2) == 0), true)], vS (Instr.loadAt 3 (.pointer (some ⟨g4, 1, none⟩))), .int .i64 g2⟩] [some (.agg #[.int .i64 g1, .int .i64 g2, .slice A1 g3.length c1]), some (.bool r1), none, none, some (.int .i64 g1), some (.bool r2), none, none, none, some (.int .i64 g2), some (.bool r3), none, none, none, some (.int .i64 g1), none, none, none, none, none, some (.int .i64 g2), none, none, none, none] [2] [pl 2 (.bool ((((r1 && r2) && r3) && ((Int.tmod g1 2) == 0)) && ((Int.tmod g2 2) == 0)))] hF hS Fol (by kernel_rfl) (by kernel_rfl) (by kernel_rfl) ?_ (fun a w hF hS => ?_)
  · exact obs_cons (ob_loadA (cs := #[.int .i64 g1, .int .i64 g2, .slice A1 g3.length c1]) (by kernel_rfl) (by kernel_rfl) (fun _ _ hS => (hS.at_ 0 rfl).cellsAt 0 (by rfl))) <| obs_cons (ob_call Try.func63 (by kernel_rfl) rfl (fun _ _ hS => gameroomref_GridMay_w hr1 hS (fun _ hS => (hr_g3 _ (hS.dropN 1))) _hc_g3 rfl)) <| obs_cons (ob_load Agg3 (fun _ _ hS => (hS.at_ 0 rfl).cell rfl)) <| obs_cons (ob_call Try.func64 (by kernel_rfl) rfl (fun hy _ hS => gameroomref_within_w (ite_some hr2 (by rw [show r1 = true from hy (r1, true) (by simp)]; try rfl)) hS )) <| obs_cons (ob_load Agg3 (fun _ _ hS => (hS.at_ 0 rfl).cell rfl)) <| obs_cons (ob_call Try.func64 (by kernel_rfl) rfl (fun hy _ hS => gameroomref_within_w (ite_some hr3 (by rw [show (r1 && r2) = true from hy (r1 && r2, true) (by simp)]; try rfl)) hS )) <| obs_cons (ob_load Agg3 (fun _ _ hS => (hS.at_ 0 rfl).cell rfl)) <| obs_cons (ob_load Agg3 (fun _ _ hS => (hS.at_ 0 rfl).cell rfl)) <| obs_nil
  refine wp_ret ?_
  have hS := hS.pickN 1 [] (by decide)
  have hm : some ((((r1 && r2) && r3) && ((Int.tmod g1 2) == 0)) && ((Int.tmod g2 2) == 0)) = some r := hm
  obtain rfl := Option.some.inj hm
  exact retV (rs := [.tmp 2]) (vs := [.bool ((((r1 && r2) && r3) && ((Int.tmod g1 2) == 0)) && ((Int.tmod g2 2) == 0))]) hF rfl (rv_t (by kernel_rfl) <| rv_nil) rfl ⟨rfl, hS⟩

noncomputable def gameroomref_PutSign_J9 (dx1 : Int) (dy1 : Int) (n2 : Int) (x1 : Int) (y1 : Int) : Option (St (Int × Int × Int) (Int × Int × Int)) :=
  some (.next ((w64 (n2 + 1)), (w64 (x1 + dx1)), (w64 (y1 + dy1))))

noncomputable def gameroomref_PutSign_J6 (dy1 : Int) (out5 : List Int) (many5 : Int) : Option (St (List Int × Int × Int) (List Int × Int)) :=
  some (.next (out5, many5, (w64 (dy1 + 1))))

noncomputable def gameroomref_PutSign_J13 (g1 : Int) (who1 : Int) (place1 : Int) (dx1 : Int) (dy1 : Int) (out6 : List Int) (i1 : Int) : Option (St (List Int × Int) (List Int)) :=
  some (.next ((out6.set (Int.toNat (w64 ((w64 ((w64 ((w64 ((w64 (Int.tdiv place1 g1)) + (w64 (i1 * dy1)))) * g1)) + (Int.tmod place1 g1))) + (w64 (i1 * dx1))))) who1), (w64 (i1 + 1))))

noncomputable def gameroomref_PutSign_J12 (g1 : Int) (who1 : Int) (place1 : Int) (r1 : (Int × Int × List Int)) (dx1 : Int) (dy1 : Int) (out6 : List Int) (i1 : Int) : Option (St (List Int × Int) (List Int)) :=
  asrt (g1 ≠ (0 : Int)) <| asrt (g1 ≠ (0 : Int)) <| asrt (0 ≤ (w64 ((w64 ((w64 ((w64 ((w64 (Int.tdiv place1 g1)) + (w64 (i1 * dy1)))) * g1)) + (Int.tmod place1 g1))) + (w64 (i1 * dx1)))) ∧ (w64 ((w64 ((w64 ((w64 ((w64 (Int.tdiv place1 g1)) + (w64 (i1 * dy1)))) * g1)) + (Int.tmod place1 g1))) + (w64 (i1 * dx1)))) < (r1.2.2.length : Int)) <| (gameroomref_PutSign_J13 g1 who1 place1 dx1 dy1 out6 i1)

noncomputable def gameroomref_PutSign_L4 (g1 : Int) (who1 : Int) (place1 : Int) (r1 : (Int × Int × List Int)) (dx1 : Int) (dy1 : Int) (n3 : Int) : (List Int × Int) → Option (St (List Int × Int) (List Int)) :=
  fun (x : (List Int × Int)) => match x with | (out6, i1) => if (decide (i1 ≤ n3)) then ((gameroomref_PutSign_J12 g1 who1 place1 r1 dx1 dy1 out6 i1)) else (some (.done out6))

noncomputable def gameroomref_PutSign_J11 (many3 : Int) (dy1 : Int) (n3 : Int) (out7 : List Int) : Option (St (List Int × Int × Int) (List Int × Int)) :=
  (gameroomref_PutSign_J6 dy1) out7 (w64 (many3 + n3))

noncomputable def gameroomref_PutSign_K4 (many3 : Int) (dy1 : Int) (n3 : Int) : (List Int) → Option (St (List Int × Int × Int) (List Int × Int)) :=
  fun (x : (List Int)) => match x with | out7 => (gameroomref_PutSign_J11 many3 dy1 n3) out7

noncomputable def gameroomref_PutSign_J10 (g1 : Int) (who1 : Int) (place1 : Int) (r1 : (Int × Int × List Int)) (dx1 : Int) (out3 : List Int) (many3 : Int) (dy1 : Int) (n3 : Int) : Option (St (List Int × Int × Int) (List Int × Int)) :=
  (loop (gameroomref_PutSign_L4 g1 who1 place1 r1 dx1 dy1 n3) (out3, 1)).bind (gameroomref_PutSign_K4 many3 dy1 n3)

noncomputable def gameroomref_PutSign_J8 (g1 : Int) (g2 : Int) (g3 : List Int) (who1 : Int) (place1 : Int) (r1 : (Int × Int × List Int)) (dx1 : Int) (out3 : List Int) (many3 : Int) (dy1 : Int) (n3 : Int) (x2 : Int) (y2 : Int) : Option (St (List Int × Int × Int) (List Int × Int)) :=
  (gameroomref_within_m x2 0 (w64 (g1 - 1))).bind fun r4 => ((if (!(!r4)) then gameroomref_within_m y2 0 (w64 (g2 - 1)) else some false)).bind fun r5 => asrt (((!r4) || (!r5)) = false → 0 ≤ (w64 ((w64 (y2 * g1)) + x2)) ∧ (w64 ((w64 (y2 * g1)) + x2)) < (g3.length : Int)) <| if (((!r4) || (!r5)) || ((geti g3 (w64 ((w64 (y2 * g1)) + x2))) != who1)) then ((gameroomref_PutSign_J6 dy1) out3 many3) else ((gameroomref_PutSign_J10 g1 who1 place1 r1 dx1 out3 many3 dy1 n3))

noncomputable def gameroomref_PutSign_K3 (g1 : Int) (g2 : Int) (g3 : List Int) (who1 : Int) (place1 : Int) (r1 : (Int × Int × List Int)) (dx1 : Int) (out3 : List Int) (many3 : Int) (dy1 : Int) : (Int × Int × Int) → Option (St (List Int × Int × Int) (List Int × Int)) :=
  fun (x : (Int × Int × Int)) => match x with | (n3, x2, y2) => (gameroomref_PutSign_J8 g1 g2 g3 who1 place1 r1 dx1 out3 many3 dy1) n3 x2 y2

noncomputable def gameroomref_PutSign_L3 (g1 : Int) (g2 : Int) (g3 : List Int) (who1 : Int) (dx1 : Int) (dy1 : Int) : (Int × Int × Int) → Option (St (Int × Int × Int) (Int × Int × Int)) :=
  fun (x : (Int × Int × Int)) => match x with | (n2, x1, y1) => (gameroomref_within_m x1 0 (w64 (g1 - 1))).bind fun r2 => ((if r2 then gameroomref_within_m y1 0 (w64 (g2 - 1)) else some false)).bind fun r3 => asrt ((r2 && r3) = true → 0 ≤ (w64 ((w64 (y1 * g1)) + x1)) ∧ (w64 ((w64 (y1 * g1)) + x1)) < (g3.length : Int)) <| if ((r2 && r3) && ((geti g3 (w64 ((w64 (y1 * g1)) + x1))) == (w64 (3 - who1)))) then ((gameroomref_PutSign_J9 dx1 dy1 n2 x1 y1)) else (some (.done (n2, x1, y1)))

noncomputable def gameroomref_PutSign_J7 (g1 : Int) (g2 : Int) (g3 : List Int) (who1 : Int) (place1 : Int) (r1 : (Int × Int × List Int)) (dx1 : Int) (out3 : List Int) (many3 : Int) (dy1 : Int) : Option (St (List Int × Int × Int) (List Int × Int)) :=
  asrt (g1 ≠ (0 : Int)) <| asrt (g1 ≠ (0 : Int)) <| (loop (gameroomref_PutSign_L3 g1 g2 g3 who1 dx1 dy1) (0, (w64 ((Int.tmod place1 g1) + dx1)), (w64 ((w64 (Int.tdiv place1 g1)) + dy1)))).bind (gameroomref_PutSign_K3 g1 g2 g3 who1 place1 r1 dx1 out3 many3 dy1)

noncomputable def gameroomref_PutSign_J5 (g1 : Int) (g2 : Int) (g3 : List Int) (who1 : Int) (place1 : Int) (r1 : (Int × Int × List Int)) (dx1 : Int) (out3 : List Int) (many3 : Int) (dy1 : Int) : Option (St (List Int × Int × Int) (List Int × Int)) :=
  if ((dx1 == 0) && (dy1 == 0)) then ((gameroomref_PutSign_J6 dy1) out3 many3) else ((gameroomref_PutSign_J7 g1 g2 g3 who1 place1 r1 dx1 out3 many3 dy1))

noncomputable def gameroomref_PutSign_J4 (dx1 : Int) (out4 : List Int) (many4 : Int) : Option (St (List Int × Int × Int) (List Int × Int)) :=
  some (.next (out4, many4, (w64 (dx1 + 1))))

noncomputable def gameroomref_PutSign_K2 (dx1 : Int) : (List Int × Int) → Option (St (List Int × Int × Int) (List Int × Int)) :=
  fun (x : (List Int × Int)) => match x with | (out4, many4) => (gameroomref_PutSign_J4 dx1) out4 many4

noncomputable def gameroomref_PutSign_L2 (g1 : Int) (g2 : Int) (g3 : List Int) (who1 : Int) (place1 : Int) (r1 : (Int × Int × List Int)) (dx1 : Int) : (List Int × Int × Int) → Option (St (List Int × Int × Int) (List Int × Int)) :=
  fun (x : (List Int × Int × Int)) => match x with | (out3, many3, dy1) => if (decide (dy1 ≤ 1)) then ((gameroomref_PutSign_J5 g1 g2 g3 who1 place1 r1 dx1 out3 many3 dy1)) else (some (.done (out3, many3)))

noncomputable def gameroomref_PutSign_J3 (g1 : Int) (g2 : Int) (g3 : List Int) (who1 : Int) (place1 : Int) (r1 : (Int × Int × List Int)) (out1 : List Int) (many1 : Int) (dx1 : Int) : Option (St (List Int × Int × Int) (List Int × Int)) :=
  (loop (gameroomref_PutSign_L2 g1 g2 g3 who1 place1 r1 dx1) (out1, many1, (-1))).bind (gameroomref_PutSign_K2 dx1)

noncomputable def gameroomref_PutSign_J14 (r1 : (Int × Int × List Int)) (many2 : Int) (out8 : List Int) : Option (Int × Int × List Int × Int) :=
  some (r1.1, r1.2.1, out8, many2)

noncomputable def gameroomref_PutSign_J2 (who1 : Int) (place1 : Int) (r1 : (Int × Int × List Int)) (out2 : List Int) (many2 : Int) : Option (Int × Int × List Int × Int) :=
  if (decide ((0 : Int) < many2)) then (asrt (0 ≤ place1 ∧ place1 < (r1.2.2.length : Int)) <| (gameroomref_PutSign_J14 r1 many2) (out2.set (Int.toNat place1) who1)) else ((gameroomref_PutSign_J14 r1 many2) out2)

noncomputable def gameroomref_PutSign_K1 (who1 : Int) (place1 : Int) (r1 : (Int × Int × List Int)) : (List Int × Int) → Option (Int × Int × List Int × Int) :=
  fun (x : (List Int × Int)) => match x with | (out2, many2) => (gameroomref_PutSign_J2 who1 place1 r1) out2 many2

noncomputable def gameroomref_PutSign_L1 (g1 : Int) (g2 : Int) (g3 : List Int) (who1 : Int) (place1 : Int) (r1 : (Int × Int × List Int)) : (List Int × Int × Int) → Option (St (List Int × Int × Int) (List Int × Int)) :=
  fun (x : (List Int × Int × Int)) => match x with | (out1, many1, dx1) => if (decide (dx1 ≤ 1)) then ((gameroomref_PutSign_J3 g1 g2 g3 who1 place1 r1 out1 many1 dx1)) else (some (.done (out1, many1)))

noncomputable def gameroomref_PutSign_J1 (g1 : Int) (g2 : Int) (g3 : List Int) (who1 : Int) (place1 : Int) (r1 : (Int × Int × List Int)) : Option (Int × Int × List Int × Int) :=
  (loop (gameroomref_PutSign_L1 g1 g2 g3 who1 place1 r1) (r1.2.2, 0, (-1))).bind (gameroomref_PutSign_K1 who1 place1 r1)
end Go.Proofs.Ytogecbgngnjhgaa
