/-
  Models and walks, printed by our own program (wip/gen).
-/
import Derived.Test.YtgafnmnacolgbaaFB
import Derived.Test.YtgafnmnacolgbaaSH
namespace Go.Proofs.Ytgafnmnacolgbaa
open Go Go.GL Go.RowKit




noncomputable def gameroomref_Ints_m (l1 : List Int) : Option (List Int) :=
  asrt ((0 : Int) + (l1.length : Int) ≤ bigN) <| some ([] ++ l1)

set_option maxRecDepth 100000 in
set_option maxHeartbeats 4000000 in
theorem gameroomref_Ints_w {A1 : Option Addr} {c1 : Nat} {n1 : Nat} {l1 : List Int} {r : (List Int)} {w0 w : World} {B : Nat} {fs : List HP} (hm : gameroomref_Ints_m l1 = some r) (hS : Sep w0 B w (fs)) (hr_l1 : RdF w0 B fs A1 (vI l1)) (_hc_l1 : l1.length ≤ c1) (_hn_l1 : n1 = l1.length) :
    Calls Try.prog 77 #[.slice A1 n1 c1] w fun e w' => ∃ v, e = .returned v ∧ ∃ (A3 : Option Addr) (c3 : Nat), v = .slice A3 r.length c3 ∧ Sep w0 B w' (own 3 (.slice A3 r.length c3) (vI r) :: fs) := by
  obtain ⟨i3, hi3, hz3, hs3, hb3⟩ := info_parts Info3
  obtain rfl := _hn_l1
  unfold gameroomref_Ints_m at hm
  replace hm := start_b hm
  refine enter (l := [.slice A1 l1.length c1]) (n := 5) Try.func77 rfl rfl (by simp) (fun a hF => ?_)
  refine reg [] [] [0] [pl 0 (.slice A1 l1.length c1)] hF hS Fol (by kernel_rfl) (by kernel_rfl) (by kernel_rfl) ?_ (fun a w hF hS => ?_)
  · exact obs_nil
  refine seqR ?_
  obtain ⟨hp1, hm⟩ := asrt_b hm
  refine at_run 1 [] [] [3] [pl 3 (.slice A1 l1.length c1)] hF hS (by kernel_rfl) (by kernel_rfl) ?_ (fun a w hF hS => ?_)
  · exact obs_nil
  have hS : Sep w0 B w (own 3 (.slice none 0 0) (vI ([] : List Int)) :: fs) := hS.nil 3
  obtain ⟨A2, c2, w, hrun, hS⟩ := run_app1 (P := Try.prog) (t := 34) (m := ([] : List Int)) (ys := l1) (A2 := A1) (m2 := l1.length) (c2 := c1) (Value.int .i64) (0 : Int) (hS.at_ 0 rfl) (hr_l1 _ (hS.dropN 1)) rfl 34 Und34 hi3 hz3 hs3 (by omega) rfl (fun _ => rfl) hp1
  have hS : Sep w0 B w (own 3 (.slice A2 (([] ++ l1).length) c2) (vI ([] ++ l1)) :: fs) := hS
  refine at_do (d := 4) hF (by kernel_rfl) (by kernel_rfl) hrun (fun a hF => ?_)
  refine at_run 1 [] [] [2] [pl 2 (.slice A2 (([] ++ l1).length) c2)] hF hS (by kernel_rfl) (by kernel_rfl) ?_ (fun a w hF hS => ?_)
  · exact obs_nil
  refine at_end [2] [pl 2 (.slice A2 (([] ++ l1).length) c2)] hF rfl (by kernel_rfl) (fun hF => ?_)
  refine then_n ?_
  refine wp_ret ?_
  have hm : some ([] ++ l1) = some r := hm
  obtain rfl := Option.some.inj hm
  exact retV (rs := [.tmp 2]) (vs := [.slice A2 (([] ++ l1).length) c2]) hF rfl (rv_t (by kernel_rfl) <| rv_nil) rfl ⟨_, rfl, A2, c2, rfl, hS⟩

noncomputable def gameroomref_GridOf_m (g1 : Int) (g2 : Int) (g3 : List Int) : Option (Int × Int × List Int) :=
  (gameroomref_Ints_m g3).bind fun r1 => some (g1, g2, r1)

set_option maxRecDepth 100000 in
set_option maxHeartbeats 4000000 in
theorem gameroomref_GridOf_w {g1 : Int} {g2 : Int} {A1 : Option Addr} {c1 : Nat} {n1 : Nat} {g3 : List Int} {r : (Int × Int × List Int)} {w0 w : World} {B : Nat} {fs : List HP} (hm : gameroomref_GridOf_m g1 g2 g3 = some r) (hS : Sep w0 B w (fs)) (hr_g3 : RdF w0 B fs A1 (vI g3)) (_hc_g3 : g3.length ≤ c1) (_hn_g3 : n1 = g3.length) :
    Calls Try.prog 52 #[.agg #[.int .i64 g1, .int .i64 g2, .slice A1 n1 c1]] w fun e w' => ∃ v, e = .returned v ∧ ∃ (A3 : Option Addr) (c3 : Nat), v = .agg #[.int .i64 r.1, .int .i64 r.2.1, .slice A3 r.2.2.length c3] ∧ Sep w0 B w' (own 3 (.slice A3 r.2.2.length c3) (vI r.2.2) :: fs) := by
  obtain ⟨i3, hi3, hz3, hs3, hb3⟩ := info_parts Info3
  obtain ⟨i34, hi34, hz34, hs34, hb34⟩ := info_parts Info34
  obtain rfl := _hn_g3
  unfold gameroomref_GridOf_m at hm
  replace hm := start_b hm
  refine enter (l := [.agg #[.int .i64 g1, .int .i64 g2, .slice A1 g3.length c1]]) (n := 8) Try.func52 rfl rfl (by simp) (fun a hF => ?_)
  refine seqR ?_
  refine at_do (d := 1) (s := vS (Instr.box 93 (.agg #[.int .i64 g1, .int .i64 g2, .slice A1 g3.length c1]))) (v := .pointer (some ⟨w.heap.size, 0, none⟩)) (w' := w.alloc (.cells #[.int .i64 g1, .int .i64 g2, .slice A1 g3.length c1] 93)) hF (by kernel_rfl) (by kernel_rfl) (by kernel_rfl) (fun a hF => ?_)
  have hS : Sep w0 B (w.alloc (.cells #[.int .i64 g1, .int .i64 g2, .slice A1 g3.length c1] 93)) (blk w.heap.size 93 #[.int .i64 g1, .int .i64 g2, .slice A1 g3.length c1] :: (fs)) := hS.box 93 #[.int .i64 g1, .int .i64 g2, .slice A1 g3.length c1]
  generalize w.heap.size = g4 at hF hS
  generalize w.alloc (.cells #[.int .i64 g1, .int .i64 g2, .slice A1 g3.length c1] 93) = w at hS ⊢
  refine at_do (d := 2) (s := vS (Instr.alloc 93 true (.tuple #[]))) (v := .pointer (some ⟨w.heap.size, 0, none⟩)) (w' := w.alloc (.cells #[.int .i64 0, .int .i64 0, .slice none 0 0] 93)) hF (by kernel_rfl) (by kernel_rfl) (by kernel_rfl) (fun a hF => ?_)
  have hS : Sep w0 B (w.alloc (.cells #[.int .i64 0, .int .i64 0, .slice none 0 0] 93)) (blk w.heap.size 93 #[.int .i64 0, .int .i64 0, .slice none 0 0] :: (blk g4 93 #[.int .i64 g1, .int .i64 g2, .slice A1 g3.length c1] :: fs)) := hS.box 93 #[.int .i64 0, .int .i64 0, .slice none 0 0]
  generalize w.heap.size = g5 at hF hS
  generalize w.alloc (.cells #[.int .i64 0, .int .i64 0, .slice none 0 0] 93) = w at hS ⊢
  refine at_end [1, 2] [pl 1 (.pointer (some ⟨g4, 0, none⟩)), pl 2 (.pointer (some ⟨g5, 0, none⟩))] hF rfl (by kernel_rfl) (fun hF => ?_)
  refine then_n ?_
  refine seqR ?_
  obtain ⟨r1, hr1, hm⟩ := call_b hm
  refine at_run 2 [⟨false, [], vS (Instr.loadAt 34 (.pointer (some ⟨g4, 2, none⟩))), .slice A1 g3.length c1⟩] [none, some (.slice A1 g3.length c1)] [1, 2, 4] [pl 1 (.pointer (some ⟨g4, 0, none⟩)), pl 2 (.pointer (some ⟨g5, 0, none⟩)), pl 4 (.slice A1 g3.length c1)] hF hS (by kernel_rfl) (by kernel_rfl) ?_ (fun a w hF hS => ?_)
  · exact obs_cons (ob_load Agg34 (fun _ _ hS => (hS.at_ 1 rfl).cell rfl)) <| obs_nil
  refine at_call (f := 77) (args := #[.slice A1 g3.length c1]) (d := 5) hF (by kernel_rfl) (by kernel_rfl) Try.func77 (by kernel_rfl) rfl (gameroomref_Ints_w hr1 hS (fun _ hS => (hr_g3 _ (hS.dropN 2))) _hc_g3 rfl) (fun v a w hR hF => ?_)
  clear hS
  obtain ⟨A2, c2, rfl, hS⟩ := hR
  have hS : Sep w0 B w (own 3 (.slice A2 r1.length c2) (vI r1) :: blk g5 93 #[.int .i64 0, .int .i64 0, .slice none 0 0] :: blk g4 93 #[.int .i64 g1, .int .i64 g2, .slice A1 g3.length c1] :: fs) := hS
  refine at_run 1 [] [] [1, 2, 5, 6] [pl 1 (.pointer (some ⟨g4, 0, none⟩)), pl 2 (.pointer (some ⟨g5, 0, none⟩)), pl 5 (.slice A2 r1.length c2), pl 6 (.pointer (some ⟨g4, 2, none⟩))] hF hS (by kernel_rfl) (by kernel_rfl) ?_ (fun a w hF hS => ?_)
  · exact obs_nil
  obtain ⟨w, hrun, hS⟩ := run_put (P := Try.prog) (t := 34) (u := .slice A2 r1.length c2) (i := 2) (hS.at_ 2 rfl) hi34 hs34 rfl (Nat.lt_of_lt_of_eq (Nat.lt_of_succ_le (Nat.le_of_ble_eq_true (by kernel_rfl))) rfl)
  refine at_skip hF (by kernel_rfl) hrun ?_
  have hS : Sep w0 B w (own 3 (.slice A2 r1.length c2) (vI r1) :: blk g5 93 #[.int .i64 0, .int .i64 0, .slice none 0 0] :: blk g4 93 #[.int .i64 g1, .int .i64 g2, .slice A2 r1.length c2] :: fs) := hS
  refine at_end [1, 2] [pl 1 (.pointer (some ⟨g4, 0, none⟩)), pl 2 (.pointer (some ⟨g5, 0, none⟩))] hF rfl (by kernel_rfl) (fun hF => ?_)
  refine then_n ?_
  refine seqR ?_
  refine at_run 1 [⟨false, [], vS (Instr.loadAt 93 (.pointer (some ⟨g4, 0, none⟩))), .agg #[.int .i64 g1, .int .i64 g2, .slice A2 r1.length c2]⟩] [some (.agg #[.int .i64 g1, .int .i64 g2, .slice A2 r1.length c2])] [2, 7] [pl 2 (.pointer (some ⟨g5, 0, none⟩)), pl 7 (.agg #[.int .i64 g1, .int .i64 g2, .slice A2 r1.length c2])] hF hS (by kernel_rfl) (by kernel_rfl) ?_ (fun a w hF hS => ?_)
  · exact obs_cons (ob_loadA (cs := #[.int .i64 g1, .int .i64 g2, .slice A2 r1.length c2]) (by kernel_rfl) (by kernel_rfl) (fun _ _ hS => (hS.at_ 2 rfl).cellsAt 0 (by rfl))) <| obs_nil
  obtain ⟨w, hrun, hS⟩ := run_putA (P := Try.prog) (t := 93) (us := #[.int .i64 g1, .int .i64 g2, .slice A2 r1.length c2]) (o := 0) (hS.at_ 1 rfl) (by kernel_rfl) (all_one (by kernel_rfl)) (Nat.le_of_ble_eq_true (by kernel_rfl))
  refine at_skip hF (by kernel_rfl) hrun ?_
  have hS : Sep w0 B w (own 3 (.slice A2 r1.length c2) (vI r1) :: blk g5 93 #[.int .i64 g1, .int .i64 g2, .slice A2 r1.length c2] :: blk g4 93 #[.int .i64 g1, .int .i64 g2, .slice A2 r1.length c2] :: fs) := hS
  refine at_end [2] [pl 2 (.pointer (some ⟨g5, 0, none⟩))] hF rfl (by kernel_rfl) (fun hF => ?_)
  refine then_n ?_
  refine wp_ret ?_
  have hld0 := run_loadVarA (P := Try.prog) (t := 93) (cs := #[.int .i64 g1, .int .i64 g2, .slice A2 r1.length c2]) (by kernel_rfl) (by kernel_rfl) ((hS.at_ 1 rfl).cellsAt 0 (by rfl))
  have hS := hS.pickN 3 [0] (by decide)
  have hm : some (g1, g2, r1) = some r := hm
  obtain rfl := Option.some.inj hm
  exact retV (rs := [.cell 2 93]) (vs := [.agg #[.int .i64 g1, .int .i64 g2, .slice A2 r1.length c2]]) hF rfl (rv_c (by kernel_rfl) hld0 <| rv_nil) rfl ⟨_, rfl, A2, c2, rfl, hS⟩

noncomputable def rows_May_1_m (c1 : Int) : Option Bool :=
  some ((decide (c1 < 0)) || (decide ((2 : Int) < c1)))

set_option maxRecDepth 100000 in
set_option maxHeartbeats 4000000 in
theorem rows_May_1_w {c1 : Int} {r : Bool} {w0 w : World} {B : Nat} {fs : List HP} (hm : rows_May_1_m c1 = some r) (hS : Sep w0 B w (fs)) :
    Calls Try.prog 162 #[.int .i64 c1] w fun e w' => e = .returned (.bool r) ∧ Sep w0 B w' (fs) := by
  unfold rows_May_1_m at hm
  replace hm := start_b hm
  refine enter (l := [.int .i64 c1]) (n := 9) Try.func162 rfl rfl (by simp) (fun a hF => ?_)
  refine reg [] [] [0] [pl 0 (.int .i64 c1)] hF hS Fol (by kernel_rfl) (by kernel_rfl) (by kernel_rfl) ?_ (fun a w hF hS => ?_)
  · exact obs_nil
  refine reg [] [] [2] [pl 2 (.bool ((decide (c1 < 0)) || (decide ((2 : Int) < c1))))] hF hS Fol (by kernel_rfl) (by kernel_rfl) (by kernel_rfl) ?_ (fun a w hF hS => ?_)
  · exact obs_nil
  refine wp_ret ?_
  have hm : some ((decide (c1 < 0)) || (decide ((2 : Int) < c1))) = some r := hm
  obtain rfl := Option.some.inj hm
  exact retV (rs := [.tmp 2]) (vs := [.bool ((decide (c1 < 0)) || (decide ((2 : Int) < c1)))]) hF rfl (rv_t (by kernel_rfl) <| rv_nil) rfl ⟨rfl, hS⟩

noncomputable def slices_IndexFunc_J3 (z1 : Int) : Option (St Int (Fl Unit Int)) :=
  some (.next (w64 (z1 + 1)))

noncomputable def slices_IndexFunc_J2 (s1 : List Int) (z1 : Int) : Option (St Int (Fl Unit Int)) :=
  asrt (0 ≤ z1 ∧ z1 < (s1.length : Int)) <| (rows_May_1_m (geti s1 z1)).bind fun r1 => if r1 then (some (.done (.ret z1))) else ((slices_IndexFunc_J3 z1))

noncomputable def slices_IndexFunc_J1 : Option Int :=
  some (-1)

noncomputable def slices_IndexFunc_K1 : (Fl Unit Int) → Option Int :=
  fun (x : (Fl Unit Int)) => match x with | .go _ => slices_IndexFunc_J1 | .ret x => some x

noncomputable def slices_IndexFunc_L1 (s1 : List Int) : Int → Option (St Int (Fl Unit Int)) :=
  fun (x : Int) => match x with | z1 => if (decide (z1 < (s1.length : Int))) then ((slices_IndexFunc_J2 s1 z1)) else (some (.done (.go ())))

noncomputable def slices_IndexFunc_m (s1 : List Int) : Option Int :=
  (loop (slices_IndexFunc_L1 s1) 0).bind slices_IndexFunc_K1

set_option maxRecDepth 100000 in
set_option maxHeartbeats 4000000 in
theorem slices_IndexFunc_w {A1 : Option Addr} {c1 : Nat} {n1 : Nat} {s1 : List Int} {r : Int} {w0 w : World} {B : Nat} {fs : List HP} (hm : slices_IndexFunc_m s1 = some r) (hS : Sep w0 B w (fs)) (hr_s1 : RdF w0 B fs A1 (vI s1)) (_hc_s1 : s1.length ≤ c1) (_hn_s1 : n1 = s1.length) :
    Calls Try.prog 189 #[.slice A1 n1 c1, .func (.func 162) #[] #[]] w fun e w' => e = .returned (.int .i64 r) ∧ Sep w0 B w' (fs) := by
  obtain ⟨i3, hi3, hz3, hs3, hb3⟩ := info_parts Info3
  obtain rfl := _hn_s1
  unfold slices_IndexFunc_m at hm
  replace hm := start_b hm
  refine enter (l := [.slice A1 s1.length c1, .func (.func 162) #[] #[]]) (n := 19) Try.func189 rfl rfl (by simp) (fun a hF => ?_)
  refine reg [] [] [0, 1] [pl 0 (.slice A1 s1.length c1), pl 1 (.func (.func 162) #[] #[])] hF hS Fol (by kernel_rfl) (by kernel_rfl) (by kernel_rfl) ?_ (fun a w hF hS => ?_)
  · exact obs_nil
  refine seq_cut (fun a w => Fr 19 [] a ∧ Sep w0 B w (fs) ∧ (slices_IndexFunc_J1).bind some = some r) ?_ ?_
  · rintro a w ⟨hF, hS, hm⟩
    unfold slices_IndexFunc_J1 at hm
    refine reg [] [] [4] [pl 4 (.int .i64 (-1))] hF hS Fol (by kernel_rfl) (by kernel_rfl) (by kernel_rfl) ?_ (fun a w hF hS => ?_)
    · exact obs_nil
    refine wp_ret ?_
    have hm : some (-1) = some r := hm
    obtain rfl := Option.some.inj hm
    exact retV (rs := [.tmp 4]) (vs := [.int .i64 (-1)]) hF rfl (rv_t (by kernel_rfl) <| rv_nil) rfl ⟨rfl, hS⟩
  · refine reg [] [] [0, 1, 7, 8] [pl 0 (.slice A1 s1.length c1), pl 1 (.func (.func 162) #[] #[]), pl 7 (.int .i64 (s1.length : Int)), pl 8 (.int .i64 0)] hF hS Fol (by kernel_rfl) (by kernel_rfl) (by kernel_rfl) ?_ (fun a w hF hS => ?_)
    · exact obs_nil
    refine wp_block ?_
    refine wp_loop_model (S := Int) (R := (Fl Unit Int)) (slices_IndexFunc_L1 s1) (fun x => (slices_IndexFunc_K1 x).bind some) r (fun (x : Int) a w => Fr 19 [pl 0 (.slice A1 s1.length c1), pl 1 (.func (.func 162) #[] #[]), pl 7 (.int .i64 (s1.length : Int)), pl 8 (.int .i64 x)] a ∧ Sep w0 B w (fs)) (assoc_b hm) ⟨hF.weak [0, 1, 7, 8] (by kernel_rfl), hS⟩ ?_
    clear hF hS hm
    rintro nn1 z1 a w ⟨hF, hS⟩ hm
    generalize hφ1 : stK (slices_IndexFunc_L1 s1) nn1 (fun x => (slices_IndexFunc_K1 x).bind some) = φ1 at hm
    unfold slices_IndexFunc_L1 at hm
    dsimp only at hm
    refine reg [] [] [0, 1, 7, 8, 9] [pl 0 (.slice A1 s1.length c1), pl 1 (.func (.func 162) #[] #[]), pl 7 (.int .i64 (s1.length : Int)), pl 8 (.int .i64 z1), pl 9 (.bool (decide (z1 < (s1.length : Int))))] hF hS Fol (by kernel_rfl) (by kernel_rfl) (by kernel_rfl) ?_ (fun a w hF hS => ?_)
    · exact obs_nil
    refine seq_cut (fun a w => Fr 19 [pl 0 (.slice A1 s1.length c1), pl 1 (.func (.func 162) #[] #[]), pl 7 (.int .i64 (s1.length : Int)), pl 8 (.int .i64 z1)] a ∧ Sep w0 B w (fs) ∧ ((slices_IndexFunc_J2 s1 z1)).bind φ1 = some r) ?_ ?_
    · rintro a w ⟨hF, hS, hm⟩
      unfold slices_IndexFunc_J2 at hm
      refine seq_cut (fun a w => Fr 19 [pl 0 (.slice A1 s1.length c1), pl 1 (.func (.func 162) #[] #[]), pl 7 (.int .i64 (s1.length : Int)), pl 8 (.int .i64 z1)] a ∧ Sep w0 B w (fs) ∧ ((slices_IndexFunc_J3 z1)).bind φ1 = some r) ?_ ?_
      · rintro a w ⟨hF, hS, hm⟩
        unfold slices_IndexFunc_J3 at hm
        refine reg1 [] [] [0, 1, 7, 8] [pl 0 (.slice A1 s1.length c1), pl 1 (.func (.func 162) #[] #[]), pl 7 (.int .i64 (s1.length : Int)), pl 8 (.int .i64 (w64 (z1 + 1)))] hF hS Fol (by kernel_rfl) (by kernel_rfl) (by kernel_rfl) ?_ (fun a w hF hS => ?_)
        · exact obs_nil
        refine then_n ?_
        rw [← hφ1] at hm
        exact ⟨(w64 (z1 + 1)), ⟨hF.weak [0, 1, 7, 8] (by kernel_rfl), hS⟩, hm⟩
      · refine wp_block ?_
        refine reg [] [] [0, 1, 5, 7, 8] [pl 0 (.slice A1 s1.length c1), pl 1 (.func (.func 162) #[] #[]), pl 5 (.int .i64 z1), pl 7 (.int .i64 (s1.length : Int)), pl 8 (.int .i64 z1)] hF hS Fol (by kernel_rfl) (by kernel_rfl) (by kernel_rfl) ?_ (fun a w hF hS => ?_)
        · exact obs_nil
        obtain ⟨hp1, hm⟩ := asrt_b hm
        obtain ⟨r1, hr1, hm⟩ := call_b hm
        refine reg [⟨true, [], vS (Instr.indexAt 34 (.slice A1 s1.length c1) (.int .i64 z1)), .pointer (some (sAddr A1 z1))⟩, ⟨false, [], vS (Instr.loadAt 3 (.pointer (some (sAddr A1 z1)))), .int .i64 (geti s1 z1)⟩, ⟨false, [], callFunc 162 #[.int .i64 (geti s1 z1)], .bool r1⟩] [none, none, none, some (.pointer (some (sAddr A1 z1))), some (.int .i64 (geti s1 z1)), some (.bool r1)] [0, 1, 5, 7, 8, 16] [pl 0 (.slice A1 s1.length c1), pl 1 (.func (.func 162) #[] #[]), pl 5 (.int .i64 z1), pl 7 (.int .i64 (s1.length : Int)), pl 8 (.int .i64 z1), pl 16 (.bool r1)] hF hS Fol (by kernel_rfl) (by kernel_rfl) (by kernel_rfl) ?_ (fun a w hF hS => ?_)
        · exact obs_cons (ob_ix1 (f := (Value.int .i64)) (m := s1) Und34 hi3 hs3 (hr_s1 _ (hS.dropN 0)) rfl (fun _ => hp1)) <| obs_cons (ob_get1 (n := s1.length) (m := s1) (Value.int .i64) (0 : Int) Agg3 (fun _ hS => ⟨_, (hr_s1 _ (hS.dropN 0))⟩) (fun _ hS => rfl) (fun _ => hp1)) <| obs_cons (ob_call Try.func162 (by kernel_rfl) rfl (fun _ _ hS => rows_May_1_w hr1 hS )) <| obs_nil
        refine cond_ev (t := 16) (b := r1) hF (by kernel_rfl) (fun hb => ?_) (fun hb => ?_)
        · replace hm := if_t hm hb
          refine reg [] [] [4] [pl 4 (.int .i64 z1)] hF hS Fol (by kernel_rfl) (by kernel_rfl) (by kernel_rfl) ?_ (fun a w hF hS => ?_)
          · exact obs_nil
          refine wp_ret ?_
          refine block_r (then_r (then_r (block_r (then_r ?_))))
          rw [← hφ1] at hm
          replace hm := done_b hm
          unfold slices_IndexFunc_K1 at hm
          try dsimp only at hm
          have hm : some z1 = some r := hm
          obtain rfl := Option.some.inj hm
          exact retV (rs := [.tmp 4]) (vs := [.int .i64 z1]) hF rfl (rv_t (by kernel_rfl) <| rv_nil) rfl ⟨rfl, hS⟩
        · replace hm := if_f hm hb
          refine wp_skip ?_
          refine block_n ?_
          refine then_n ?_
          exact ⟨hF.weak [0, 1, 7, 8] (by kernel_rfl), hS, hm⟩
    · refine cond_ev (t := 9) (b := decide (z1 < (s1.length : Int))) hF (by kernel_rfl) (fun hb => ?_) (fun hb => ?_)
      · replace hm := if_t hm hb
        refine wp_skip ?_
        refine then_n ?_
        exact ⟨hF.weak [0, 1, 7, 8] (by kernel_rfl), hS, hm⟩
      · replace hm := if_f hm hb
        refine wp_exit ?_
        refine then_e (then_e (block_e (then_n ?_)))
        rw [← hφ1] at hm
        replace hm := done_b hm
        unfold slices_IndexFunc_K1 at hm
        try dsimp only at hm
        have hm : (slices_IndexFunc_J1).bind some = some r := hm
        exact ⟨hF.weak [] (by kernel_rfl), hS, hm⟩

noncomputable def slices_ContainsFunc_m (s1 : List Int) : Option Bool :=
  (slices_IndexFunc_m s1).bind fun r1 => some (decide ((0 : Int) ≤ r1))

set_option maxRecDepth 100000 in
set_option maxHeartbeats 4000000 in
theorem slices_ContainsFunc_w {A1 : Option Addr} {c1 : Nat} {n1 : Nat} {s1 : List Int} {r : Bool} {w0 w : World} {B : Nat} {fs : List HP} (hm : slices_ContainsFunc_m s1 = some r) (hS : Sep w0 B w (fs)) (hr_s1 : RdF w0 B fs A1 (vI s1)) (_hc_s1 : s1.length ≤ c1) (_hn_s1 : n1 = s1.length) :
    Calls Try.prog 150 #[.slice A1 n1 c1, .func (.func 162) #[] #[]] w fun e w' => e = .returned (.bool r) ∧ Sep w0 B w' (fs) := by
  obtain ⟨i3, hi3, hz3, hs3, hb3⟩ := info_parts Info3
  obtain rfl := _hn_s1
  unfold slices_ContainsFunc_m at hm
  replace hm := start_b hm
  refine enter (l := [.slice A1 s1.length c1, .func (.func 162) #[] #[]]) (n := 9) Try.func150 rfl rfl (by simp) (fun a hF => ?_)
  refine reg [] [] [0, 1] [pl 0 (.slice A1 s1.length c1), pl 1 (.func (.func 162) #[] #[])] hF hS Fol (by kernel_rfl) (by kernel_rfl) (by kernel_rfl) ?_ (fun a w hF hS => ?_)
  · exact obs_nil
  obtain ⟨r1, hr1, hm⟩ := call_b hm
  refine reg [⟨false, [], callFunc 189 #[.slice A1 s1.length c1, .func (.func 162) #[] #[]], .int .i64 r1⟩] [none, none, some (.int .i64 r1), none, none] [4] [pl 4 (.bool (decide ((0 : Int) ≤ r1)))] hF hS Fol (by kernel_rfl) (by kernel_rfl) (by kernel_rfl) ?_ (fun a w hF hS => ?_)
  · exact obs_cons (ob_call Try.func189 (by kernel_rfl) rfl (fun _ _ hS => slices_IndexFunc_w hr1 hS (fun _ hS => (hr_s1 _ (hS.dropN 0))) _hc_s1 rfl)) <| obs_nil
  refine wp_ret ?_
  have hm : some (decide ((0 : Int) ≤ r1)) = some r := hm
  obtain rfl := Option.some.inj hm
  exact retV (rs := [.tmp 4]) (vs := [.bool (decide ((0 : Int) ≤ r1))]) hF rfl (rv_t (by kernel_rfl) <| rv_nil) rfl ⟨rfl, hS⟩

noncomputable def rows_May_m (g1 : Int) (g2 : Int) (g3 : List Int) : Option Bool :=
  ((if (((((decide ((1 : Int) ≤ g1)) && (decide (g1 ≤ 10))) && (decide ((1 : Int) ≤ g2))) && (decide (g2 ≤ 10))) && ((g3.length : Int) == (w64 (g1 * g2)))) then slices_ContainsFunc_m g3 else some false)).bind fun r1 => some ((((((decide ((1 : Int) ≤ g1)) && (decide (g1 ≤ 10))) && (decide ((1 : Int) ≤ g2))) && (decide (g2 ≤ 10))) && ((g3.length : Int) == (w64 (g1 * g2)))) && (!r1))

set_option maxRecDepth 100000 in
set_option maxHeartbeats 4000000 in
theorem rows_May_w {g1 : Int} {g2 : Int} {A1 : Option Addr} {c1 : Nat} {n1 : Nat} {g3 : List Int} {r : Bool} {w0 w : World} {B : Nat} {fs : List HP} (hm : rows_May_m g1 g2 g3 = some r) (hS : Sep w0 B w (fs)) (hr_g3 : RdF w0 B fs A1 (vI g3)) (_hc_g3 : g3.length ≤ c1) (_hn_g3 : n1 = g3.length) :
    Calls Try.prog 112 #[.agg #[.int .i64 g1, .int .i64 g2, .slice A1 n1 c1]] w fun e w' => e = .returned (.bool r) ∧ Sep w0 B w' (fs) := by
  obtain ⟨i3, hi3, hz3, hs3, hb3⟩ := info_parts Info3
  obtain rfl := _hn_g3
  unfold rows_May_m at hm
  replace hm := start_b hm
  refine enter (l := [.agg #[.int .i64 g1, .int .i64 g2, .slice A1 g3.length c1]]) (n := 38) Try.func112 rfl rfl (by simp) (fun a hF => ?_)
  refine seqR ?_
  refine at_do (d := 1) (s := vS (Instr.box 93 (.agg #[.int .i64 g1, .int .i64 g2, .slice A1 g3.length c1]))) (v := .pointer (some ⟨w.heap.size, 0, none⟩)) (w' := w.alloc (.cells #[.int .i64 g1, .int .i64 g2, .slice A1 g3.length c1] 93)) hF (by kernel_rfl) (by kernel_rfl) (by kernel_rfl) (fun a hF => ?_)
  have hS : Sep w0 B (w.alloc (.cells #[.int .i64 g1, .int .i64 g2, .slice A1 g3.length c1] 93)) (blk w.heap.size 93 #[.int .i64 g1, .int .i64 g2, .slice A1 g3.length c1] :: (fs)) := hS.box 93 #[.int .i64 g1, .int .i64 g2, .slice A1 g3.length c1]
  generalize w.heap.size = g4 at hF hS
  generalize w.alloc (.cells #[.int .i64 g1, .int .i64 g2, .slice A1 g3.length c1] 93) = w at hS ⊢
  refine at_run 1 [] [] [1] [pl 1 (.pointer (some ⟨g4, 0, none⟩))] hF hS (by kernel_rfl) (by kernel_rfl) ?_ (fun a w hF hS => ?_)
  · exact obs_nil
  refine at_end [1] [pl 1 (.pointer (some ⟨g4, 0, none⟩))] hF rfl (by kernel_rfl) (fun hF => ?_)
  refine then_n ?_
  obtain ⟨r1, hr1, hm⟩ := call_b hm
  refine reg [⟨false, [], vS (Instr.loadAt 3 (.pointer (some ⟨g4, 0, none⟩))), .int .i64 g1⟩, ⟨false, [(decide ((1 : Int) ≤ g1), true)], vS (Instr.loadAt 3 (.pointer (some ⟨g4, 0, none⟩))), .int .i64 g1⟩, ⟨false, [((decide ((1 : Int) ≤ g1)) && (decide (g1 ≤ 10)), true)], vS (Instr.loadAt 3 (.pointer (some ⟨g4, 1, none⟩))), .int .i64 g2⟩, ⟨false, [(((decide ((1 : Int) ≤ g1)) && (decide (g1 ≤ 10))) && (decide ((1 : Int) ≤ g2)), true)], vS (Instr.loadAt 3 (.pointer (some ⟨g4, 1, none⟩))), .int .i64 g2⟩, ⟨false, [((((decide ((1 : Int) ≤ g1)) && (decide (g1 ≤ 10))) && (decide ((1 : Int) ≤ g2))) && (decide (g2 ≤ 10)), true)], vS (Instr.loadAt 34 (.pointer (some ⟨g4, 2, none⟩))), .slice A1 g3.length c1⟩, ⟨false, [((((decide ((1 : Int) ≤ g1)) && (decide (g1 ≤ 10))) && (decide ((1 : Int) ≤ g2))) && (decide (g2 ≤ 10)), true)], vS (Instr.loadAt 3 (.pointer (some ⟨g4, 0, none⟩))), .int .i64 g1⟩, ⟨false, [((((decide ((1 : Int) ≤ g1)) && (decide (g1 ≤ 10))) && (decide ((1 : Int) ≤ g2))) && (decide (g2 ≤ 10)), true)], vS (Instr.loadAt 3 (.pointer (some ⟨g4, 1, none⟩))), .int .i64 g2⟩, ⟨false, [(((((decide ((1 : Int) ≤ g1)) && (decide (g1 ≤ 10))) && (decide ((1 : Int) ≤ g2))) && (decide (g2 ≤ 10))) && ((g3.length : Int) == (w64 (g1 * g2))), true)], vS (Instr.loadAt 34 (.pointer (some ⟨g4, 2, none⟩))), .slice A1 g3.length c1⟩, ⟨false, [(((((decide ((1 : Int) ≤ g1)) && (decide (g1 ≤ 10))) && (decide ((1 : Int) ≤ g2))) && (decide (g2 ≤ 10))) && ((g3.length : Int) == (w64 (g1 * g2))), true)], callFunc 150 #[.slice A1 g3.length c1, .func (.func 162) #[] #[]], .bool r1⟩] [none, some (.int .i64 g1), none, none, none, some (.int .i64 g1), none, none, none, none, some (.int .i64 g2), none, none, none, none, some (.int .i64 g2), none, none, none, none, some (.slice A1 g3.length c1), none, none, some (.int .i64 g1), none, some (.int .i64 g2), none, none, none, none, none, some (.slice A1 g3.length c1), some (.bool r1), none, none, none] [2] [pl 2 (.bool ((((((decide ((1 : Int) ≤ g1)) && (decide (g1 ≤ 10))) && (decide ((1 : Int) ≤ g2))) && (decide (g2 ≤ 10))) && ((g3.length : Int) == (w64 (g1 * g2)))) && (!r1)))] hF hS Fol (by kernel_rfl) (by kernel_rfl) (by kernel_rfl) ?_ (fun a w hF hS => ?_)
  · exact obs_cons (ob_load Agg3 (fun _ _ hS => (hS.at_ 0 rfl).cell rfl)) <| obs_cons (ob_load Agg3 (fun _ _ hS => (hS.at_ 0 rfl).cell rfl)) <| obs_cons (ob_load Agg3 (fun _ _ hS => (hS.at_ 0 rfl).cell rfl)) <| obs_cons (ob_load Agg3 (fun _ _ hS => (hS.at_ 0 rfl).cell rfl)) <| obs_cons (ob_load Agg34 (fun _ _ hS => (hS.at_ 0 rfl).cell rfl)) <| obs_cons (ob_load Agg3 (fun _ _ hS => (hS.at_ 0 rfl).cell rfl)) <| obs_cons (ob_load Agg3 (fun _ _ hS => (hS.at_ 0 rfl).cell rfl)) <| obs_cons (ob_load Agg34 (fun _ _ hS => (hS.at_ 0 rfl).cell rfl)) <| obs_cons (ob_call Try.func150 (by kernel_rfl) rfl (fun hy _ hS => slices_ContainsFunc_w (ite_some hr1 (by rw [show (((((decide ((1 : Int) ≤ g1)) && (decide (g1 ≤ 10))) && (decide ((1 : Int) ≤ g2))) && (decide (g2 ≤ 10))) && ((g3.length : Int) == (w64 (g1 * g2)))) = true from hy (((((decide ((1 : Int) ≤ g1)) && (decide (g1 ≤ 10))) && (decide ((1 : Int) ≤ g2))) && (decide (g2 ≤ 10))) && ((g3.length : Int) == (w64 (g1 * g2))), true) (by simp)]; try rfl)) hS (fun _ hS => (hr_g3 _ (hS.dropN 1))) _hc_g3 rfl)) <| obs_nil
  refine wp_ret ?_
  have hS := hS.pickN 1 [] (by decide)
  have hm : some ((((((decide ((1 : Int) ≤ g1)) && (decide (g1 ≤ 10))) && (decide ((1 : Int) ≤ g2))) && (decide (g2 ≤ 10))) && ((g3.length : Int) == (w64 (g1 * g2)))) && (!r1)) = some r := hm
  obtain rfl := Option.some.inj hm
  exact retV (rs := [.tmp 2]) (vs := [.bool ((((((decide ((1 : Int) ≤ g1)) && (decide (g1 ≤ 10))) && (decide ((1 : Int) ≤ g2))) && (decide (g2 ≤ 10))) && ((g3.length : Int) == (w64 (g1 * g2)))) && (!r1))]) hF rfl (rv_t (by kernel_rfl) <| rv_nil) rfl ⟨rfl, hS⟩

noncomputable def rows_lines_J11 (z4 : Int) (line3 : List Int) : Option (St (List Int × Int) (List Int)) :=
  some (.next (line3, (w64 (z4 + 1))))

noncomputable def rows_lines_J10 (w1 : Int) (z1 : Int) (z2 : Int) (z3 : Int) (line1 : List Int) (z4 : Int) : Option (St (List Int × Int) (List Int)) :=
  asrt ((line1.length : Int) + 1 ≤ bigN) <| (rows_lines_J11 z4) (line1 ++ ([w64 ((w64 ((w64 ((w64 (z1 + (w64 ((geti ([1, 0, 0, 1, 1, 1, (-1), 1] : List Int) (z3 * 2 + 1)) * z4)))) * w1)) + z2)) + (w64 ((geti ([1, 0, 0, 1, 1, 1, (-1), 1] : List Int) (z3 * 2)) * z4)))] : List Int))

noncomputable def rows_lines_J7 (z3 : Int) (l7 : List (List Int)) : Option (St (List (List Int) × Int) (List (List Int))) :=
  some (.next (l7, (w64 (z3 + 1))))

noncomputable def rows_lines_J9 (l5 : List (List Int)) (z3 : Int) (line2 : List Int) : Option (St (List (List Int) × Int) (List (List Int))) :=
  asrt (((l5.length : Int) : Int) + 1 ≤ bigR) <| (rows_lines_J7 z3) (l5 ++ [line2])

noncomputable def rows_lines_K4 (l5 : List (List Int)) (z3 : Int) : (List Int) → Option (St (List (List Int) × Int) (List (List Int))) :=
  fun (x : (List Int)) => match x with | line2 => (rows_lines_J9 l5 z3) line2

noncomputable def rows_lines_L4 (w1 : Int) (k1 : Int) (z1 : Int) (z2 : Int) (z3 : Int) : (List Int × Int) → Option (St (List Int × Int) (List Int)) :=
  fun (x : (List Int × Int)) => match x with | (line1, z4) => if (decide (z4 < k1)) then ((rows_lines_J10 w1 z1 z2 z3 line1 z4)) else (some (.done line1))

noncomputable def rows_lines_J8 (w1 : Int) (k1 : Int) (z1 : Int) (z2 : Int) (l5 : List (List Int)) (z3 : Int) : Option (St (List (List Int) × Int) (List (List Int))) :=
  (loop (rows_lines_L4 w1 k1 z1 z2 z3) (([] : List Int), 0)).bind (rows_lines_K4 l5 z3)

noncomputable def rows_lines_J6 (w1 : Int) (h1 : Int) (k1 : Int) (z1 : Int) (z2 : Int) (l5 : List (List Int)) (z3 : Int) : Option (St (List (List Int) × Int) (List (List Int))) :=
  asrt (0 ≤ z3 ∧ z3 < 4) <| if (((decide ((w64 (z2 + (w64 ((geti ([1, 0, 0, 1, 1, 1, (-1), 1] : List Int) (z3 * 2)) * (w64 (k1 - 1)))))) < 0)) || (decide (w1 ≤ (w64 (z2 + (w64 ((geti ([1, 0, 0, 1, 1, 1, (-1), 1] : List Int) (z3 * 2)) * (w64 (k1 - 1))))))))) || (decide (h1 ≤ (w64 (z1 + (w64 ((geti ([1, 0, 0, 1, 1, 1, (-1), 1] : List Int) (z3 * 2 + 1)) * (w64 (k1 - 1))))))))) then ((rows_lines_J7 z3) l5) else ((rows_lines_J8 w1 k1 z1 z2 l5 z3))

noncomputable def rows_lines_J5 (z2 : Int) (l6 : List (List Int)) : Option (St (List (List Int) × Int) (List (List Int))) :=
  some (.next (l6, (w64 (z2 + 1))))

noncomputable def rows_lines_K3 (z2 : Int) : (List (List Int)) → Option (St (List (List Int) × Int) (List (List Int))) :=
  fun (x : (List (List Int))) => match x with | l6 => (rows_lines_J5 z2) l6

noncomputable def rows_lines_L3 (w1 : Int) (h1 : Int) (k1 : Int) (z1 : Int) (z2 : Int) : (List (List Int) × Int) → Option (St (List (List Int) × Int) (List (List Int))) :=
  fun (x : (List (List Int) × Int)) => match x with | (l5, z3) => if (decide (z3 < 4)) then ((rows_lines_J6 w1 h1 k1 z1 z2 l5 z3)) else (some (.done l5))

noncomputable def rows_lines_J4 (w1 : Int) (h1 : Int) (k1 : Int) (z1 : Int) (l3 : List (List Int)) (z2 : Int) : Option (St (List (List Int) × Int) (List (List Int))) :=
  (loop (rows_lines_L3 w1 h1 k1 z1 z2) (l3, 0)).bind (rows_lines_K3 z2)

noncomputable def rows_lines_J3 (z1 : Int) (l4 : List (List Int)) : Option (St (List (List Int) × Int) (List (List Int))) :=
  some (.next (l4, (w64 (z1 + 1))))

noncomputable def rows_lines_K2 (z1 : Int) : (List (List Int)) → Option (St (List (List Int) × Int) (List (List Int))) :=
  fun (x : (List (List Int))) => match x with | l4 => (rows_lines_J3 z1) l4

noncomputable def rows_lines_L2 (w1 : Int) (h1 : Int) (k1 : Int) (z1 : Int) : (List (List Int) × Int) → Option (St (List (List Int) × Int) (List (List Int))) :=
  fun (x : (List (List Int) × Int)) => match x with | (l3, z2) => if (decide (z2 < w1)) then ((rows_lines_J4 w1 h1 k1 z1 l3 z2)) else (some (.done l3))

noncomputable def rows_lines_J2 (w1 : Int) (h1 : Int) (k1 : Int) (l1 : List (List Int)) (z1 : Int) : Option (St (List (List Int) × Int) (List (List Int))) :=
  (loop (rows_lines_L2 w1 h1 k1 z1) (l1, 0)).bind (rows_lines_K2 z1)

noncomputable def rows_lines_J1 (l2 : List (List Int)) : Option (List (List Int)) :=
  some l2

noncomputable def rows_lines_K1 : (List (List Int)) → Option (List (List Int)) :=
  fun (x : (List (List Int))) => match x with | l2 => rows_lines_J1 l2

noncomputable def rows_lines_L1 (w1 : Int) (h1 : Int) (k1 : Int) : (List (List Int) × Int) → Option (St (List (List Int) × Int) (List (List Int))) :=
  fun (x : (List (List Int) × Int)) => match x with | (l1, z1) => if (decide (z1 < h1)) then ((rows_lines_J2 w1 h1 k1 l1 z1)) else (some (.done l1))

noncomputable def rows_lines_m (w1 : Int) (h1 : Int) (k1 : Int) : Option (List (List Int)) :=
  (loop (rows_lines_L1 w1 h1 k1) (([] : List (List Int)), 0)).bind rows_lines_K1

set_option maxRecDepth 100000 in
set_option maxHeartbeats 4000000 in
theorem rows_lines_w {w1 : Int} {h1 : Int} {k1 : Int} {r : (List (List Int))} {w0 w : World} {B : Nat} {fs : List HP} (hm : rows_lines_m w1 h1 k1 = some r) (hS : Sep w0 B w (fs)) :
    Calls Try.prog 113 #[.int .i64 w1, .int .i64 h1, .int .i64 k1] w fun e w' => ∃ v, e = .returned v ∧ ∃ (A13 : Option Addr) (c13 : Nat) (hd8 : List Hd), v = .slice A13 r.length c13 ∧ Sep w0 B w' (rows 34 3 (.slice A13 r.length c13) hd8 r :: fs) := by
  obtain ⟨i3, hi3, hz3, hs3, hb3⟩ := info_parts Info3
  obtain ⟨i34, hi34, hz34, hs34, hb34⟩ := info_parts Info34
  unfold rows_lines_m at hm
  replace hm := start_b hm
  refine enter (l := [.int .i64 w1, .int .i64 h1, .int .i64 k1]) (n := 89) Try.func113 rfl rfl (by simp) (fun a hF => ?_)
  refine reg [] [] [0, 1, 2] [pl 0 (.int .i64 w1), pl 1 (.int .i64 h1), pl 2 (.int .i64 k1)] hF hS Fol (by kernel_rfl) (by kernel_rfl) (by kernel_rfl) ?_ (fun a w hF hS => ?_)
  · exact obs_nil
  refine reg [] [] [0, 1, 2, 7] [pl 0 (.int .i64 w1), pl 1 (.int .i64 h1), pl 2 (.int .i64 k1), pl 7 (.slice none 0 0)] hF hS Fol (by kernel_rfl) (by kernel_rfl) (by kernel_rfl) ?_ (fun a w hF hS => ?_)
  · exact obs_nil
  refine seq_cut (fun a w => ∃ (l2 : List (List Int)) (A2 : Option Addr) (c2 : Nat) (hd2 : List Hd), Fr 89 [pl 7 (.slice A2 l2.length c2)] a ∧ Sep w0 B w (rows 34 3 (.slice A2 l2.length c2) hd2 l2 :: fs) ∧ (rows_lines_J1 l2).bind some = some r) ?_ ?_
  · rintro a w ⟨l2, A2, c2, hd2, hF, hS, hm⟩
    unfold rows_lines_J1 at hm
    refine reg [] [] [6] [pl 6 (.slice A2 l2.length c2)] hF hS Fol (by kernel_rfl) (by kernel_rfl) (by kernel_rfl) ?_ (fun a w hF hS => ?_)
    · exact obs_nil
    refine wp_ret ?_
    have hm : some l2 = some r := hm
    obtain rfl := Option.some.inj hm
    exact retV (rs := [.tmp 6]) (vs := [.slice A2 l2.length c2]) hF rfl (rv_t (by kernel_rfl) <| rv_nil) rfl ⟨_, rfl, A2, c2, hd2, rfl, hS⟩
  · refine reg [] [] [0, 1, 2, 7, 16, 17] [pl 0 (.int .i64 w1), pl 1 (.int .i64 h1), pl 2 (.int .i64 k1), pl 7 (.slice none 0 0), pl 16 (.int .i64 h1), pl 17 (.int .i64 0)] hF hS Fol (by kernel_rfl) (by kernel_rfl) (by kernel_rfl) ?_ (fun a w hF hS => ?_)
    · exact obs_nil
    refine wp_block ?_
    have hS := hS.nilRows0 34 3
    have hl1 := (hS.at_ 0 rfl).lenR
    have hS := (hS.at_ 0 rfl).reNR hl1
    have hS : Sep w0 B w (rows 34 3 (.slice none (([] : List (List Int)).length) 0) ([]) ([] : List (List Int)) :: fs) := hS
    have hF := hF.cast (t := 7) (v := .slice none 0 0) (v' := .slice none (([] : List (List Int)).length) 0) rfl rfl (congrArg (fun k => Value.slice none k 0) hl1)
    refine wp_loop_model (S := (List (List Int) × Int)) (R := (List (List Int))) (rows_lines_L1 w1 h1 k1) (fun x => (rows_lines_K1 x).bind some) r (fun (x : (List (List Int) × Int)) a w => ∃ (A1 : Option Addr) (c1 : Nat) (hd1 : List Hd), Fr 89 [pl 0 (.int .i64 w1), pl 1 (.int .i64 h1), pl 2 (.int .i64 k1), pl 7 (.slice A1 x.1.length c1), pl 16 (.int .i64 h1), pl 17 (.int .i64 x.2)] a ∧ Sep w0 B w (rows 34 3 (.slice A1 x.1.length c1) hd1 x.1 :: fs)) (assoc_b hm) ⟨none, 0, ([]), hF.weak [0, 1, 2, 7, 16, 17] (by kernel_rfl), hS⟩ ?_
    clear hF hS hm
    rintro nn1 ⟨l1, z1⟩ a w ⟨A1, c1, hd1, hF, hS⟩ hm
    generalize hφ1 : stK (rows_lines_L1 w1 h1 k1) nn1 (fun x => (rows_lines_K1 x).bind some) = φ1 at hm
    unfold rows_lines_L1 at hm
    dsimp only at hF hS hm
    refine reg [] [] [0, 1, 2, 7, 16, 17, 18] [pl 0 (.int .i64 w1), pl 1 (.int .i64 h1), pl 2 (.int .i64 k1), pl 7 (.slice A1 l1.length c1), pl 16 (.int .i64 h1), pl 17 (.int .i64 z1), pl 18 (.bool (decide (z1 < h1)))] hF hS Fol (by kernel_rfl) (by kernel_rfl) (by kernel_rfl) ?_ (fun a w hF hS => ?_)
    · exact obs_nil
    refine seq_cut (fun a w => Fr 89 [pl 0 (.int .i64 w1), pl 1 (.int .i64 h1), pl 2 (.int .i64 k1), pl 7 (.slice A1 l1.length c1), pl 16 (.int .i64 h1), pl 17 (.int .i64 z1)] a ∧ Sep w0 B w (rows 34 3 (.slice A1 l1.length c1) hd1 l1 :: fs) ∧ ((rows_lines_J2 w1 h1 k1 l1 z1)).bind φ1 = some r) ?_ ?_
    · rintro a w ⟨hF, hS, hm⟩
      unfold rows_lines_J2 at hm
      refine seq_cut (fun a w => ∃ (l4 : List (List Int)) (A4 : Option Addr) (c4 : Nat) (hd4 : List Hd), Fr 89 [pl 0 (.int .i64 w1), pl 1 (.int .i64 h1), pl 2 (.int .i64 k1), pl 7 (.slice A4 l4.length c4), pl 16 (.int .i64 h1), pl 17 (.int .i64 z1)] a ∧ Sep w0 B w (rows 34 3 (.slice A4 l4.length c4) hd4 l4 :: fs) ∧ ((rows_lines_J3 z1) l4).bind φ1 = some r) ?_ ?_
      · rintro a w ⟨l4, A4, c4, hd4, hF, hS, hm⟩
        unfold rows_lines_J3 at hm
        refine reg1 [] [] [0, 1, 2, 7, 16, 17] [pl 0 (.int .i64 w1), pl 1 (.int .i64 h1), pl 2 (.int .i64 k1), pl 7 (.slice A4 l4.length c4), pl 16 (.int .i64 h1), pl 17 (.int .i64 (w64 (z1 + 1)))] hF hS Fol (by kernel_rfl) (by kernel_rfl) (by kernel_rfl) ?_ (fun a w hF hS => ?_)
        · exact obs_nil
        refine then_n ?_
        rw [← hφ1] at hm
        exact ⟨(l4, (w64 (z1 + 1))), ⟨A4, c4, hd4, hF.weak [0, 1, 2, 7, 16, 17] (by kernel_rfl), hS⟩, hm⟩
      · refine wp_block ?_
        refine reg [] [] [0, 1, 2, 7, 8, 16, 17] [pl 0 (.int .i64 w1), pl 1 (.int .i64 h1), pl 2 (.int .i64 k1), pl 7 (.slice A1 l1.length c1), pl 8 (.int .i64 z1), pl 16 (.int .i64 h1), pl 17 (.int .i64 z1)] hF hS Fol (by kernel_rfl) (by kernel_rfl) (by kernel_rfl) ?_ (fun a w hF hS => ?_)
        · exact obs_nil
        refine reg [] [] [0, 1, 2, 7, 8, 16, 17, 20, 21] [pl 0 (.int .i64 w1), pl 1 (.int .i64 h1), pl 2 (.int .i64 k1), pl 7 (.slice A1 l1.length c1), pl 8 (.int .i64 z1), pl 16 (.int .i64 h1), pl 17 (.int .i64 z1), pl 20 (.int .i64 w1), pl 21 (.int .i64 0)] hF hS Fol (by kernel_rfl) (by kernel_rfl) (by kernel_rfl) ?_ (fun a w hF hS => ?_)
        · exact obs_nil
        refine wp_block ?_
        refine wp_loop_model (S := (List (List Int) × Int)) (R := (List (List Int))) (rows_lines_L2 w1 h1 k1 z1) (fun x => ((rows_lines_K2 z1) x).bind φ1) r (fun (x : (List (List Int) × Int)) a w => ∃ (A3 : Option Addr) (c3 : Nat) (hd3 : List Hd), Fr 89 [pl 0 (.int .i64 w1), pl 1 (.int .i64 h1), pl 2 (.int .i64 k1), pl 7 (.slice A3 x.1.length c3), pl 8 (.int .i64 z1), pl 16 (.int .i64 h1), pl 17 (.int .i64 z1), pl 20 (.int .i64 w1), pl 21 (.int .i64 x.2)] a ∧ Sep w0 B w (rows 34 3 (.slice A3 x.1.length c3) hd3 x.1 :: fs)) (assoc_b hm) ⟨A1, c1, hd1, hF.weak [0, 1, 2, 7, 8, 16, 17, 20, 21] (by kernel_rfl), hS⟩ ?_
        clear hF hS hm
        rintro nn2 ⟨l3, z2⟩ a w ⟨A3, c3, hd3, hF, hS⟩ hm
        generalize hφ2 : stK (rows_lines_L2 w1 h1 k1 z1) nn2 (fun x => ((rows_lines_K2 z1) x).bind φ1) = φ2 at hm
        unfold rows_lines_L2 at hm
        dsimp only at hF hS hm
        refine reg [] [] [0, 1, 2, 7, 8, 16, 17, 20, 21, 22] [pl 0 (.int .i64 w1), pl 1 (.int .i64 h1), pl 2 (.int .i64 k1), pl 7 (.slice A3 l3.length c3), pl 8 (.int .i64 z1), pl 16 (.int .i64 h1), pl 17 (.int .i64 z1), pl 20 (.int .i64 w1), pl 21 (.int .i64 z2), pl 22 (.bool (decide (z2 < w1)))] hF hS Fol (by kernel_rfl) (by kernel_rfl) (by kernel_rfl) ?_ (fun a w hF hS => ?_)
        · exact obs_nil
        refine seq_cut (fun a w => Fr 89 [pl 0 (.int .i64 w1), pl 1 (.int .i64 h1), pl 2 (.int .i64 k1), pl 7 (.slice A3 l3.length c3), pl 8 (.int .i64 z1), pl 16 (.int .i64 h1), pl 17 (.int .i64 z1), pl 20 (.int .i64 w1), pl 21 (.int .i64 z2)] a ∧ Sep w0 B w (rows 34 3 (.slice A3 l3.length c3) hd3 l3 :: fs) ∧ ((rows_lines_J4 w1 h1 k1 z1 l3 z2)).bind φ2 = some r) ?_ ?_
        · rintro a w ⟨hF, hS, hm⟩
          unfold rows_lines_J4 at hm
          refine seq_cut (fun a w => ∃ (l6 : List (List Int)) (A6 : Option Addr) (c6 : Nat) (hd6 : List Hd), Fr 89 [pl 0 (.int .i64 w1), pl 1 (.int .i64 h1), pl 2 (.int .i64 k1), pl 7 (.slice A6 l6.length c6), pl 8 (.int .i64 z1), pl 16 (.int .i64 h1), pl 17 (.int .i64 z1), pl 20 (.int .i64 w1), pl 21 (.int .i64 z2)] a ∧ Sep w0 B w (rows 34 3 (.slice A6 l6.length c6) hd6 l6 :: fs) ∧ ((rows_lines_J5 z2) l6).bind φ2 = some r) ?_ ?_
          · rintro a w ⟨l6, A6, c6, hd6, hF, hS, hm⟩
            unfold rows_lines_J5 at hm
            refine reg1 [] [] [0, 1, 2, 7, 8, 16, 17, 20, 21] [pl 0 (.int .i64 w1), pl 1 (.int .i64 h1), pl 2 (.int .i64 k1), pl 7 (.slice A6 l6.length c6), pl 8 (.int .i64 z1), pl 16 (.int .i64 h1), pl 17 (.int .i64 z1), pl 20 (.int .i64 w1), pl 21 (.int .i64 (w64 (z2 + 1)))] hF hS Fol (by kernel_rfl) (by kernel_rfl) (by kernel_rfl) ?_ (fun a w hF hS => ?_)
            · exact obs_nil
            refine then_n ?_
            rw [← hφ2] at hm
            exact ⟨(l6, (w64 (z2 + 1))), ⟨A6, c6, hd6, hF.weak [0, 1, 2, 7, 8, 16, 17, 20, 21] (by kernel_rfl), hS⟩, hm⟩
          · refine wp_block ?_
            refine reg [] [] [0, 1, 2, 7, 8, 9, 16, 17, 20, 21] [pl 0 (.int .i64 w1), pl 1 (.int .i64 h1), pl 2 (.int .i64 k1), pl 7 (.slice A3 l3.length c3), pl 8 (.int .i64 z1), pl 9 (.int .i64 z2), pl 16 (.int .i64 h1), pl 17 (.int .i64 z1), pl 20 (.int .i64 w1), pl 21 (.int .i64 z2)] hF hS Fol (by kernel_rfl) (by kernel_rfl) (by kernel_rfl) ?_ (fun a w hF hS => ?_)
            · exact obs_nil
            refine reg [] [] [0, 1, 2, 7, 8, 9, 16, 17, 20, 21, 28, 29] [pl 0 (.int .i64 w1), pl 1 (.int .i64 h1), pl 2 (.int .i64 k1), pl 7 (.slice A3 l3.length c3), pl 8 (.int .i64 z1), pl 9 (.int .i64 z2), pl 16 (.int .i64 h1), pl 17 (.int .i64 z1), pl 20 (.int .i64 w1), pl 21 (.int .i64 z2), pl 28 (.agg (List.toArray (([] : List Value) ++ (arr1 (Value.int .i64) (0 : Int) 8 ([1, 0, 0, 1, 1, 1, (-1), 1] : List Int) ++ ([] : List Value))))), pl 29 (.int .i64 0)] hF hS Fol (by kernel_rfl) (by kernel_rfl) (by kernel_rfl) ?_ (fun a w hF hS => ?_)
            · exact obs_nil
            refine wp_block ?_
            refine wp_loop_model (S := (List (List Int) × Int)) (R := (List (List Int))) (rows_lines_L3 w1 h1 k1 z1 z2) (fun x => ((rows_lines_K3 z2) x).bind φ2) r (fun (x : (List (List Int) × Int)) a w => ∃ (A5 : Option Addr) (c5 : Nat) (hd5 : List Hd), Fr 89 [pl 0 (.int .i64 w1), pl 1 (.int .i64 h1), pl 2 (.int .i64 k1), pl 7 (.slice A5 x.1.length c5), pl 8 (.int .i64 z1), pl 9 (.int .i64 z2), pl 16 (.int .i64 h1), pl 17 (.int .i64 z1), pl 20 (.int .i64 w1), pl 21 (.int .i64 z2), pl 28 (.agg (List.toArray (([] : List Value) ++ (arr1 (Value.int .i64) (0 : Int) 8 ([1, 0, 0, 1, 1, 1, (-1), 1] : List Int) ++ ([] : List Value))))), pl 29 (.int .i64 x.2)] a ∧ Sep w0 B w (rows 34 3 (.slice A5 x.1.length c5) hd5 x.1 :: fs)) (assoc_b hm) ⟨A3, c3, hd3, hF.weak [0, 1, 2, 7, 8, 9, 16, 17, 20, 21, 28, 29] (by kernel_rfl), hS⟩ ?_
            clear hF hS hm
            rintro nn3 ⟨l5, z3⟩ a w ⟨A5, c5, hd5, hF, hS⟩ hm
            generalize hφ3 : stK (rows_lines_L3 w1 h1 k1 z1 z2) nn3 (fun x => ((rows_lines_K3 z2) x).bind φ2) = φ3 at hm
            unfold rows_lines_L3 at hm
            dsimp only at hF hS hm
            refine reg [] [] [0, 1, 2, 7, 8, 9, 16, 17, 20, 21, 28, 29, 30] [pl 0 (.int .i64 w1), pl 1 (.int .i64 h1), pl 2 (.int .i64 k1), pl 7 (.slice A5 l5.length c5), pl 8 (.int .i64 z1), pl 9 (.int .i64 z2), pl 16 (.int .i64 h1), pl 17 (.int .i64 z1), pl 20 (.int .i64 w1), pl 21 (.int .i64 z2), pl 28 (.agg (List.toArray (([] : List Value) ++ (arr1 (Value.int .i64) (0 : Int) 8 ([1, 0, 0, 1, 1, 1, (-1), 1] : List Int) ++ ([] : List Value))))), pl 29 (.int .i64 z3), pl 30 (.bool (decide (z3 < 4)))] hF hS Fol (by kernel_rfl) (by kernel_rfl) (by kernel_rfl) ?_ (fun a w hF hS => ?_)
            · exact obs_nil
            refine seq_cut (fun a w => Fr 89 [pl 0 (.int .i64 w1), pl 1 (.int .i64 h1), pl 2 (.int .i64 k1), pl 7 (.slice A5 l5.length c5), pl 8 (.int .i64 z1), pl 9 (.int .i64 z2), pl 16 (.int .i64 h1), pl 17 (.int .i64 z1), pl 20 (.int .i64 w1), pl 21 (.int .i64 z2), pl 28 (.agg (List.toArray (([] : List Value) ++ (arr1 (Value.int .i64) (0 : Int) 8 ([1, 0, 0, 1, 1, 1, (-1), 1] : List Int) ++ ([] : List Value))))), pl 29 (.int .i64 z3)] a ∧ Sep w0 B w (rows 34 3 (.slice A5 l5.length c5) hd5 l5 :: fs) ∧ ((rows_lines_J6 w1 h1 k1 z1 z2 l5 z3)).bind φ3 = some r) ?_ ?_
            · rintro a w ⟨hF, hS, hm⟩
              unfold rows_lines_J6 at hm
              refine seq_cut (fun a w => ∃ (l7 : List (List Int)) (A7 : Option Addr) (c7 : Nat) (hd7 : List Hd), Fr 89 [pl 0 (.int .i64 w1), pl 1 (.int .i64 h1), pl 2 (.int .i64 k1), pl 7 (.slice A7 l7.length c7), pl 8 (.int .i64 z1), pl 9 (.int .i64 z2), pl 16 (.int .i64 h1), pl 17 (.int .i64 z1), pl 20 (.int .i64 w1), pl 21 (.int .i64 z2), pl 28 (.agg (List.toArray (([] : List Value) ++ (arr1 (Value.int .i64) (0 : Int) 8 ([1, 0, 0, 1, 1, 1, (-1), 1] : List Int) ++ ([] : List Value))))), pl 29 (.int .i64 z3)] a ∧ Sep w0 B w (rows 34 3 (.slice A7 l7.length c7) hd7 l7 :: fs) ∧ ((rows_lines_J7 z3) l7).bind φ3 = some r) ?_ ?_
              · rintro a w ⟨l7, A7, c7, hd7, hF, hS, hm⟩
                unfold rows_lines_J7 at hm
                refine reg1 [] [] [0, 1, 2, 7, 8, 9, 16, 17, 20, 21, 28, 29] [pl 0 (.int .i64 w1), pl 1 (.int .i64 h1), pl 2 (.int .i64 k1), pl 7 (.slice A7 l7.length c7), pl 8 (.int .i64 z1), pl 9 (.int .i64 z2), pl 16 (.int .i64 h1), pl 17 (.int .i64 z1), pl 20 (.int .i64 w1), pl 21 (.int .i64 z2), pl 28 (.agg (List.toArray (([] : List Value) ++ (arr1 (Value.int .i64) (0 : Int) 8 ([1, 0, 0, 1, 1, 1, (-1), 1] : List Int) ++ ([] : List Value))))), pl 29 (.int .i64 (w64 (z3 + 1)))] hF hS Fol (by kernel_rfl) (by kernel_rfl) (by kernel_rfl) ?_ (fun a w hF hS => ?_)
                · exact obs_nil
                refine then_n ?_
                rw [← hφ3] at hm
                exact ⟨(l7, (w64 (z3 + 1))), ⟨A7, c7, hd7, hF.weak [0, 1, 2, 7, 8, 9, 16, 17, 20, 21, 28, 29] (by kernel_rfl), hS⟩, hm⟩
              · refine wp_block ?_
                refine seqR ?_
                obtain ⟨hp1, hm⟩ := asrt_b hm
                refine at_run 1 [⟨true, [], vS (Instr.index 182 (.agg (List.toArray (([] : List Value) ++ (arr1 (Value.int .i64) (0 : Int) 8 ([1, 0, 0, 1, 1, 1, (-1), 1] : List Int) ++ ([] : List Value))))) (.int .i64 z3)), .agg #[.int .i64 (geti ([1, 0, 0, 1, 1, 1, (-1), 1] : List Int) (z3 * 2)), .int .i64 (geti ([1, 0, 0, 1, 1, 1, (-1), 1] : List Int) (z3 * 2 + 1))]⟩] [some (.agg #[.int .i64 (geti ([1, 0, 0, 1, 1, 1, (-1), 1] : List Int) (z3 * 2)), .int .i64 (geti ([1, 0, 0, 1, 1, 1, (-1), 1] : List Int) (z3 * 2 + 1))])] [0, 1, 2, 7, 8, 9, 16, 17, 20, 21, 28, 29, 31] [pl 0 (.int .i64 w1), pl 1 (.int .i64 h1), pl 2 (.int .i64 k1), pl 7 (.slice A5 l5.length c5), pl 8 (.int .i64 z1), pl 9 (.int .i64 z2), pl 16 (.int .i64 h1), pl 17 (.int .i64 z1), pl 20 (.int .i64 w1), pl 21 (.int .i64 z2), pl 28 (.agg (List.toArray (([] : List Value) ++ (arr1 (Value.int .i64) (0 : Int) 8 ([1, 0, 0, 1, 1, 1, (-1), 1] : List Int) ++ ([] : List Value))))), pl 29 (.int .i64 z3), pl 31 (.agg #[.int .i64 (geti ([1, 0, 0, 1, 1, 1, (-1), 1] : List Int) (z3 * 2)), .int .i64 (geti ([1, 0, 0, 1, 1, 1, (-1), 1] : List Int) (z3 * 2 + 1))])] hF hS (by kernel_rfl) (by kernel_rfl) ?_ (fun a w hF hS => ?_)
                · exact obs_cons (ob_idxP2 (f := (Value.int .i64)) (z := (0 : Int)) (m := ([1, 0, 0, 1, 1, 1, (-1), 1] : List Int)) UndA182 (by kernel_rfl) (by kernel_rfl) rfl (fun _ => hp1)) <| obs_nil
                refine at_do (d := 11) (s := vS (Instr.alloc 23 true (.tuple #[]))) (v := .pointer (some ⟨w.heap.size, 0, none⟩)) (w' := w.alloc (.cells #[.int .i64 0, .int .i64 0] 23)) hF (by kernel_rfl) (by kernel_rfl) (by kernel_rfl) (fun a hF => ?_)
                have hS : Sep w0 B (w.alloc (.cells #[.int .i64 0, .int .i64 0] 23)) (blk w.heap.size 23 #[.int .i64 0, .int .i64 0] :: (rows 34 3 (.slice A5 l5.length c5) hd5 l5 :: fs)) := hS.box 23 #[.int .i64 0, .int .i64 0]
                generalize w.heap.size = g1 at hF hS
                generalize w.alloc (.cells #[.int .i64 0, .int .i64 0] 23) = w at hS ⊢
                obtain ⟨w, hrun, hS⟩ := run_putA (P := Try.prog) (t := 23) (us := #[.int .i64 (geti ([1, 0, 0, 1, 1, 1, (-1), 1] : List Int) (z3 * 2)), .int .i64 (geti ([1, 0, 0, 1, 1, 1, (-1), 1] : List Int) (z3 * 2 + 1))]) (o := 0) (hS.at_ 0 rfl) (by kernel_rfl) (all_one (by kernel_rfl)) (Nat.le_of_ble_eq_true (by kernel_rfl))
                refine at_skip hF (by kernel_rfl) hrun ?_
                have hS : Sep w0 B w (blk g1 23 #[.int .i64 (geti ([1, 0, 0, 1, 1, 1, (-1), 1] : List Int) (z3 * 2)), .int .i64 (geti ([1, 0, 0, 1, 1, 1, (-1), 1] : List Int) (z3 * 2 + 1))] :: rows 34 3 (.slice A5 l5.length c5) hd5 l5 :: fs) := hS
                refine at_end [0, 1, 2, 7, 8, 9, 11, 16, 17, 20, 21, 28, 29] [pl 0 (.int .i64 w1), pl 1 (.int .i64 h1), pl 2 (.int .i64 k1), pl 7 (.slice A5 l5.length c5), pl 8 (.int .i64 z1), pl 9 (.int .i64 z2), pl 11 (.pointer (some ⟨g1, 0, none⟩)), pl 16 (.int .i64 h1), pl 17 (.int .i64 z1), pl 20 (.int .i64 w1), pl 21 (.int .i64 z2), pl 28 (.agg (List.toArray (([] : List Value) ++ (arr1 (Value.int .i64) (0 : Int) 8 ([1, 0, 0, 1, 1, 1, (-1), 1] : List Int) ++ ([] : List Value))))), pl 29 (.int .i64 z3)] hF rfl (by kernel_rfl) (fun hF => ?_)
                refine then_n ?_
                refine reg [⟨false, [], vS (Instr.loadAt 3 (.pointer (some ⟨g1, 0, none⟩))), .int .i64 (geti ([1, 0, 0, 1, 1, 1, (-1), 1] : List Int) (z3 * 2))⟩, ⟨false, [], vS (Instr.loadAt 3 (.pointer (some ⟨g1, 1, none⟩))), .int .i64 (geti ([1, 0, 0, 1, 1, 1, (-1), 1] : List Int) (z3 * 2 + 1))⟩] [none, none, some (.int .i64 (geti ([1, 0, 0, 1, 1, 1, (-1), 1] : List Int) (z3 * 2))), none, none, none, none, none, none, some (.int .i64 (geti ([1, 0, 0, 1, 1, 1, (-1), 1] : List Int) (z3 * 2 + 1))), none, none, none, none, none, none] [0, 1, 2, 7, 8, 9, 11, 12, 13, 16, 17, 20, 21, 28, 29] [pl 0 (.int .i64 w1), pl 1 (.int .i64 h1), pl 2 (.int .i64 k1), pl 7 (.slice A5 l5.length c5), pl 8 (.int .i64 z1), pl 9 (.int .i64 z2), pl 11 (.pointer (some ⟨g1, 0, none⟩)), pl 12 (.int .i64 (w64 (z2 + (w64 ((geti ([1, 0, 0, 1, 1, 1, (-1), 1] : List Int) (z3 * 2)) * (w64 (k1 - 1))))))), pl 13 (.int .i64 (w64 (z1 + (w64 ((geti ([1, 0, 0, 1, 1, 1, (-1), 1] : List Int) (z3 * 2 + 1)) * (w64 (k1 - 1))))))), pl 16 (.int .i64 h1), pl 17 (.int .i64 z1), pl 20 (.int .i64 w1), pl 21 (.int .i64 z2), pl 28 (.agg (List.toArray (([] : List Value) ++ (arr1 (Value.int .i64) (0 : Int) 8 ([1, 0, 0, 1, 1, 1, (-1), 1] : List Int) ++ ([] : List Value))))), pl 29 (.int .i64 z3)] hF hS Fol (by kernel_rfl) (by kernel_rfl) (by kernel_rfl) ?_ (fun a w hF hS => ?_)
                · exact obs_cons (ob_load Agg3 (fun _ _ hS => (hS.at_ 0 rfl).cell rfl)) <| obs_cons (ob_load Agg3 (fun _ _ hS => (hS.at_ 0 rfl).cell rfl)) <| obs_nil
                refine seq_cut (fun a w => Fr 89 [pl 0 (.int .i64 w1), pl 1 (.int .i64 h1), pl 2 (.int .i64 k1), pl 7 (.slice A5 l5.length c5), pl 8 (.int .i64 z1), pl 9 (.int .i64 z2), pl 11 (.pointer (some ⟨g1, 0, none⟩)), pl 16 (.int .i64 h1), pl 17 (.int .i64 z1), pl 20 (.int .i64 w1), pl 21 (.int .i64 z2), pl 28 (.agg (List.toArray (([] : List Value) ++ (arr1 (Value.int .i64) (0 : Int) 8 ([1, 0, 0, 1, 1, 1, (-1), 1] : List Int) ++ ([] : List Value))))), pl 29 (.int .i64 z3)] a ∧ Sep w0 B w (rows 34 3 (.slice A5 l5.length c5) hd5 l5 :: blk g1 23 #[.int .i64 (geti ([1, 0, 0, 1, 1, 1, (-1), 1] : List Int) (z3 * 2)), .int .i64 (geti ([1, 0, 0, 1, 1, 1, (-1), 1] : List Int) (z3 * 2 + 1))] :: fs) ∧ ((rows_lines_J8 w1 k1 z1 z2 l5 z3)).bind φ3 = some r) ?_ ?_
                · rintro a w ⟨hF, hS, hm⟩
                  unfold rows_lines_J8 at hm
                  refine reg [] [] [0, 1, 2, 7, 8, 9, 11, 14, 16, 17, 20, 21, 28, 29] [pl 0 (.int .i64 w1), pl 1 (.int .i64 h1), pl 2 (.int .i64 k1), pl 7 (.slice A5 l5.length c5), pl 8 (.int .i64 z1), pl 9 (.int .i64 z2), pl 11 (.pointer (some ⟨g1, 0, none⟩)), pl 14 (.slice none 0 0), pl 16 (.int .i64 h1), pl 17 (.int .i64 z1), pl 20 (.int .i64 w1), pl 21 (.int .i64 z2), pl 28 (.agg (List.toArray (([] : List Value) ++ (arr1 (Value.int .i64) (0 : Int) 8 ([1, 0, 0, 1, 1, 1, (-1), 1] : List Int) ++ ([] : List Value))))), pl 29 (.int .i64 z3)] hF hS Fol (by kernel_rfl) (by kernel_rfl) (by kernel_rfl) ?_ (fun a w hF hS => ?_)
                  · exact obs_nil
                  refine seq_cut (fun a w => ∃ (line2 : List Int) (A9 : Option Addr) (c9 : Nat), Fr 89 [pl 0 (.int .i64 w1), pl 1 (.int .i64 h1), pl 2 (.int .i64 k1), pl 7 (.slice A5 l5.length c5), pl 8 (.int .i64 z1), pl 9 (.int .i64 z2), pl 14 (.slice A9 line2.length c9), pl 16 (.int .i64 h1), pl 17 (.int .i64 z1), pl 20 (.int .i64 w1), pl 21 (.int .i64 z2), pl 28 (.agg (List.toArray (([] : List Value) ++ (arr1 (Value.int .i64) (0 : Int) 8 ([1, 0, 0, 1, 1, 1, (-1), 1] : List Int) ++ ([] : List Value))))), pl 29 (.int .i64 z3)] a ∧ Sep w0 B w (rows 34 3 (.slice A5 l5.length c5) hd5 l5 :: own 3 (.slice A9 line2.length c9) (vI line2) :: fs) ∧ ((rows_lines_J9 l5 z3) line2).bind φ3 = some r) ?_ ?_
                  · rintro a w ⟨line2, A9, c9, hF, hS, hm⟩
                    unfold rows_lines_J9 at hm
                    refine oneR ?_
                    obtain ⟨hp3, hm⟩ := asrt_b hm
                    refine at_run 2 [] [] [0, 1, 2, 8, 9, 16, 17, 20, 21, 28, 29, 81, 82] [pl 0 (.int .i64 w1), pl 1 (.int .i64 h1), pl 2 (.int .i64 k1), pl 8 (.int .i64 z1), pl 9 (.int .i64 z2), pl 16 (.int .i64 h1), pl 17 (.int .i64 z1), pl 20 (.int .i64 w1), pl 21 (.int .i64 z2), pl 28 (.agg (List.toArray (([] : List Value) ++ (arr1 (Value.int .i64) (0 : Int) 8 ([1, 0, 0, 1, 1, 1, (-1), 1] : List Int) ++ ([] : List Value))))), pl 29 (.int .i64 z3), pl 81 (.slice A5 l5.length c5), pl 82 (.slice A9 line2.length c9)] hF hS (by kernel_rfl) (by kernel_rfl) ?_ (fun a w hF hS => ?_)
                    · exact obs_nil
                    refine at_do (d := 83) (s := vS (Instr.buildSlice 69 1 #[(0, .slice A9 line2.length c9)])) (v := .slice (some ⟨w.heap.size, 0, none⟩) 1 1) (w' := w.alloc (.cells #[.slice A9 line2.length c9] 34)) hF (by kernel_rfl) (by kernel_rfl) (by kernel_rfl) (fun a hF => ?_)
                    have hS : Sep w0 B (w.alloc (.cells #[.slice A9 line2.length c9] 34)) (own 34 (.slice (some (⟨w.heap.size, 0, none⟩ : Addr)) 1 1) [.slice A9 line2.length c9] :: (rows 34 3 (.slice A5 l5.length c5) hd5 l5 :: own 3 (.slice A9 line2.length c9) (vI line2) :: fs)) := hS.lit 34 #[.slice A9 line2.length c9] 1 rfl (by omega)
                    generalize (some (⟨w.heap.size, 0, none⟩ : Addr)) = g3 at hF hS
                    generalize w.alloc (.cells #[.slice A9 line2.length c9] 34) = w at hS ⊢
                    have hS := hS.pickN 3 [2, 0, 1] (by decide)
                    have hS : Sep w0 B w (own 3 (.slice A9 line2.length c9) (vI line2) :: own 34 (.slice g3 1 1) [.slice A9 line2.length c9] :: rows 34 3 (.slice A5 l5.length c5) hd5 l5 :: fs) := hS
                    obtain ⟨A12, c12, w, hrun, hS⟩ := run_appRow (P := Try.prog) (t := 69) (A2 := g3) (c2 := 1) (hS.at2 1 rfl) (hS.at_ 1 rfl).rd 69 Und69 hi34 hz34 hs34 hb34 hp3
                    have hS : Sep w0 B w (own 34 (.slice g3 1 1) [.slice A9 line2.length c9] :: rows 34 3 (.slice A12 ((l5 ++ [line2]).length) c12) (hd5 ++ [(A9, c9)]) (l5 ++ [line2]) :: fs) := hS
                    refine at_do (d := 84) hF (by kernel_rfl) (by kernel_rfl) hrun (fun a hF => ?_)
                    refine at_run 1 [] [] [0, 1, 2, 7, 8, 9, 16, 17, 20, 21, 28, 29] [pl 0 (.int .i64 w1), pl 1 (.int .i64 h1), pl 2 (.int .i64 k1), pl 7 (.slice A12 ((l5 ++ [line2]).length) c12), pl 8 (.int .i64 z1), pl 9 (.int .i64 z2), pl 16 (.int .i64 h1), pl 17 (.int .i64 z1), pl 20 (.int .i64 w1), pl 21 (.int .i64 z2), pl 28 (.agg (List.toArray (([] : List Value) ++ (arr1 (Value.int .i64) (0 : Int) 8 ([1, 0, 0, 1, 1, 1, (-1), 1] : List Int) ++ ([] : List Value))))), pl 29 (.int .i64 z3)] hF hS (by kernel_rfl) (by kernel_rfl) ?_ (fun a w hF hS => ?_)
                    · exact obs_nil
                    refine at_end [0, 1, 2, 7, 8, 9, 16, 17, 20, 21, 28, 29] [pl 0 (.int .i64 w1), pl 1 (.int .i64 h1), pl 2 (.int .i64 k1), pl 7 (.slice A12 ((l5 ++ [line2]).length) c12), pl 8 (.int .i64 z1), pl 9 (.int .i64 z2), pl 16 (.int .i64 h1), pl 17 (.int .i64 z1), pl 20 (.int .i64 w1), pl 21 (.int .i64 z2), pl 28 (.agg (List.toArray (([] : List Value) ++ (arr1 (Value.int .i64) (0 : Int) 8 ([1, 0, 0, 1, 1, 1, (-1), 1] : List Int) ++ ([] : List Value))))), pl 29 (.int .i64 z3)] hF rfl (by kernel_rfl) (fun hF => ?_)
                    refine block_n ?_
                    refine then_n ?_
                    have hS := hS.pickN 2 [1] (by decide)
                    exact ⟨(l5 ++ [line2]), A12, c12, (hd5 ++ [(A9, c9)]), hF.weak [0, 1, 2, 7, 8, 9, 16, 17, 20, 21, 28, 29] (by kernel_rfl), hS, hm⟩
                  · refine reg [] [] [0, 1, 2, 7, 8, 9, 11, 14, 16, 17, 20, 21, 28, 29, 58, 59] [pl 0 (.int .i64 w1), pl 1 (.int .i64 h1), pl 2 (.int .i64 k1), pl 7 (.slice A5 l5.length c5), pl 8 (.int .i64 z1), pl 9 (.int .i64 z2), pl 11 (.pointer (some ⟨g1, 0, none⟩)), pl 14 (.slice none 0 0), pl 16 (.int .i64 h1), pl 17 (.int .i64 z1), pl 20 (.int .i64 w1), pl 21 (.int .i64 z2), pl 28 (.agg (List.toArray (([] : List Value) ++ (arr1 (Value.int .i64) (0 : Int) 8 ([1, 0, 0, 1, 1, 1, (-1), 1] : List Int) ++ ([] : List Value))))), pl 29 (.int .i64 z3), pl 58 (.int .i64 k1), pl 59 (.int .i64 0)] hF hS Fol (by kernel_rfl) (by kernel_rfl) (by kernel_rfl) ?_ (fun a w hF hS => ?_)
                    · exact obs_nil
                    refine wp_block ?_
                    have hS : Sep w0 B w (own 3 (.slice none 0 0) (vI ([] : List Int)) :: rows 34 3 (.slice A5 l5.length c5) hd5 l5 :: blk g1 23 #[.int .i64 (geti ([1, 0, 0, 1, 1, 1, (-1), 1] : List Int) (z3 * 2)), .int .i64 (geti ([1, 0, 0, 1, 1, 1, (-1), 1] : List Int) (z3 * 2 + 1))] :: fs) := hS.nil 3
                    have hl2 := (hS.at_ 0 rfl).len1
                    have hS := (hS.at_ 0 rfl).reN hl2
                    have hS : Sep w0 B w (own 3 (.slice none (([] : List Int).length) 0) (vI ([] : List Int)) :: rows 34 3 (.slice A5 l5.length c5) hd5 l5 :: blk g1 23 #[.int .i64 (geti ([1, 0, 0, 1, 1, 1, (-1), 1] : List Int) (z3 * 2)), .int .i64 (geti ([1, 0, 0, 1, 1, 1, (-1), 1] : List Int) (z3 * 2 + 1))] :: fs) := hS
                    have hF := hF.cast (t := 14) (v := .slice none 0 0) (v' := .slice none (([] : List Int).length) 0) rfl rfl (congrArg (fun k => Value.slice none k 0) hl2)
                    have hS := hS.pickN 3 [1, 2, 0] (by decide)
                    refine wp_loop_model (S := (List Int × Int)) (R := (List Int)) (rows_lines_L4 w1 k1 z1 z2 z3) (fun x => ((rows_lines_K4 l5 z3) x).bind φ3) r (fun (x : (List Int × Int)) a w => ∃ (A8 : Option Addr) (c8 : Nat), Fr 89 [pl 0 (.int .i64 w1), pl 1 (.int .i64 h1), pl 2 (.int .i64 k1), pl 7 (.slice A5 l5.length c5), pl 8 (.int .i64 z1), pl 9 (.int .i64 z2), pl 11 (.pointer (some ⟨g1, 0, none⟩)), pl 14 (.slice A8 x.1.length c8), pl 16 (.int .i64 h1), pl 17 (.int .i64 z1), pl 20 (.int .i64 w1), pl 21 (.int .i64 z2), pl 28 (.agg (List.toArray (([] : List Value) ++ (arr1 (Value.int .i64) (0 : Int) 8 ([1, 0, 0, 1, 1, 1, (-1), 1] : List Int) ++ ([] : List Value))))), pl 29 (.int .i64 z3), pl 58 (.int .i64 k1), pl 59 (.int .i64 x.2)] a ∧ Sep w0 B w (rows 34 3 (.slice A5 l5.length c5) hd5 l5 :: blk g1 23 #[.int .i64 (geti ([1, 0, 0, 1, 1, 1, (-1), 1] : List Int) (z3 * 2)), .int .i64 (geti ([1, 0, 0, 1, 1, 1, (-1), 1] : List Int) (z3 * 2 + 1))] :: own 3 (.slice A8 x.1.length c8) (vI x.1) :: fs)) (assoc_b hm) ⟨none, 0, hF.weak [0, 1, 2, 7, 8, 9, 11, 14, 16, 17, 20, 21, 28, 29, 58, 59] (by kernel_rfl), hS⟩ ?_
                    clear hF hS hm
                    rintro nn4 ⟨line1, z4⟩ a w ⟨A8, c8, hF, hS⟩ hm
                    generalize hφ4 : stK (rows_lines_L4 w1 k1 z1 z2 z3) nn4 (fun x => ((rows_lines_K4 l5 z3) x).bind φ3) = φ4 at hm
                    unfold rows_lines_L4 at hm
                    dsimp only at hF hS hm
                    refine reg [] [] [0, 1, 2, 7, 8, 9, 11, 14, 16, 17, 20, 21, 28, 29, 58, 59, 60] [pl 0 (.int .i64 w1), pl 1 (.int .i64 h1), pl 2 (.int .i64 k1), pl 7 (.slice A5 l5.length c5), pl 8 (.int .i64 z1), pl 9 (.int .i64 z2), pl 11 (.pointer (some ⟨g1, 0, none⟩)), pl 14 (.slice A8 line1.length c8), pl 16 (.int .i64 h1), pl 17 (.int .i64 z1), pl 20 (.int .i64 w1), pl 21 (.int .i64 z2), pl 28 (.agg (List.toArray (([] : List Value) ++ (arr1 (Value.int .i64) (0 : Int) 8 ([1, 0, 0, 1, 1, 1, (-1), 1] : List Int) ++ ([] : List Value))))), pl 29 (.int .i64 z3), pl 58 (.int .i64 k1), pl 59 (.int .i64 z4), pl 60 (.bool (decide (z4 < k1)))] hF hS Fol (by kernel_rfl) (by kernel_rfl) (by kernel_rfl) ?_ (fun a w hF hS => ?_)
                    · exact obs_nil
                    refine seq_cut (fun a w => Fr 89 [pl 0 (.int .i64 w1), pl 1 (.int .i64 h1), pl 2 (.int .i64 k1), pl 7 (.slice A5 l5.length c5), pl 8 (.int .i64 z1), pl 9 (.int .i64 z2), pl 11 (.pointer (some ⟨g1, 0, none⟩)), pl 14 (.slice A8 line1.length c8), pl 16 (.int .i64 h1), pl 17 (.int .i64 z1), pl 20 (.int .i64 w1), pl 21 (.int .i64 z2), pl 28 (.agg (List.toArray (([] : List Value) ++ (arr1 (Value.int .i64) (0 : Int) 8 ([1, 0, 0, 1, 1, 1, (-1), 1] : List Int) ++ ([] : List Value))))), pl 29 (.int .i64 z3), pl 58 (.int .i64 k1), pl 59 (.int .i64 z4)] a ∧ Sep w0 B w (rows 34 3 (.slice A5 l5.length c5) hd5 l5 :: blk g1 23 #[.int .i64 (geti ([1, 0, 0, 1, 1, 1, (-1), 1] : List Int) (z3 * 2)), .int .i64 (geti ([1, 0, 0, 1, 1, 1, (-1), 1] : List Int) (z3 * 2 + 1))] :: own 3 (.slice A8 line1.length c8) (vI line1) :: fs) ∧ ((rows_lines_J10 w1 z1 z2 z3 line1 z4)).bind φ4 = some r) ?_ ?_
                    · rintro a w ⟨hF, hS, hm⟩
                      unfold rows_lines_J10 at hm
                      refine seq_cut (fun a w => ∃ (line3 : List Int) (A11 : Option Addr) (c11 : Nat), Fr 89 [pl 0 (.int .i64 w1), pl 1 (.int .i64 h1), pl 2 (.int .i64 k1), pl 7 (.slice A5 l5.length c5), pl 8 (.int .i64 z1), pl 9 (.int .i64 z2), pl 11 (.pointer (some ⟨g1, 0, none⟩)), pl 14 (.slice A11 line3.length c11), pl 16 (.int .i64 h1), pl 17 (.int .i64 z1), pl 20 (.int .i64 w1), pl 21 (.int .i64 z2), pl 28 (.agg (List.toArray (([] : List Value) ++ (arr1 (Value.int .i64) (0 : Int) 8 ([1, 0, 0, 1, 1, 1, (-1), 1] : List Int) ++ ([] : List Value))))), pl 29 (.int .i64 z3), pl 58 (.int .i64 k1), pl 59 (.int .i64 z4)] a ∧ Sep w0 B w (rows 34 3 (.slice A5 l5.length c5) hd5 l5 :: blk g1 23 #[.int .i64 (geti ([1, 0, 0, 1, 1, 1, (-1), 1] : List Int) (z3 * 2)), .int .i64 (geti ([1, 0, 0, 1, 1, 1, (-1), 1] : List Int) (z3 * 2 + 1))] :: own 3 (.slice A11 line3.length c11) (vI line3) :: fs) ∧ ((rows_lines_J11 z4) line3).bind φ4 = some r) ?_ ?_
                      · rintro a w ⟨line3, A11, c11, hF, hS, hm⟩
                        unfold rows_lines_J11 at hm
                        refine reg1 [] [] [0, 1, 2, 7, 8, 9, 11, 14, 16, 17, 20, 21, 28, 29, 58, 59] [pl 0 (.int .i64 w1), pl 1 (.int .i64 h1), pl 2 (.int .i64 k1), pl 7 (.slice A5 l5.length c5), pl 8 (.int .i64 z1), pl 9 (.int .i64 z2), pl 11 (.pointer (some ⟨g1, 0, none⟩)), pl 14 (.slice A11 line3.length c11), pl 16 (.int .i64 h1), pl 17 (.int .i64 z1), pl 20 (.int .i64 w1), pl 21 (.int .i64 z2), pl 28 (.agg (List.toArray (([] : List Value) ++ (arr1 (Value.int .i64) (0 : Int) 8 ([1, 0, 0, 1, 1, 1, (-1), 1] : List Int) ++ ([] : List Value))))), pl 29 (.int .i64 z3), pl 58 (.int .i64 k1), pl 59 (.int .i64 (w64 (z4 + 1)))] hF hS Fol (by kernel_rfl) (by kernel_rfl) (by kernel_rfl) ?_ (fun a w hF hS => ?_)
                        · exact obs_nil
                        refine then_n ?_
                        rw [← hφ4] at hm
                        exact ⟨(line3, (w64 (z4 + 1))), ⟨A11, c11, hF.weak [0, 1, 2, 7, 8, 9, 11, 14, 16, 17, 20, 21, 28, 29, 58, 59] (by kernel_rfl), hS⟩, hm⟩
                      · refine wp_block ?_
                        refine reg [] [] [0, 1, 2, 7, 8, 9, 11, 14, 15, 16, 17, 20, 21, 28, 29, 58, 59] [pl 0 (.int .i64 w1), pl 1 (.int .i64 h1), pl 2 (.int .i64 k1), pl 7 (.slice A5 l5.length c5), pl 8 (.int .i64 z1), pl 9 (.int .i64 z2), pl 11 (.pointer (some ⟨g1, 0, none⟩)), pl 14 (.slice A8 line1.length c8), pl 15 (.int .i64 z4), pl 16 (.int .i64 h1), pl 17 (.int .i64 z1), pl 20 (.int .i64 w1), pl 21 (.int .i64 z2), pl 28 (.agg (List.toArray (([] : List Value) ++ (arr1 (Value.int .i64) (0 : Int) 8 ([1, 0, 0, 1, 1, 1, (-1), 1] : List Int) ++ ([] : List Value))))), pl 29 (.int .i64 z3), pl 58 (.int .i64 k1), pl 59 (.int .i64 z4)] hF hS Fol (by kernel_rfl) (by kernel_rfl) (by kernel_rfl) ?_ (fun a w hF hS => ?_)
                        · exact obs_nil
                        refine oneR ?_
                        obtain ⟨hp2, hm⟩ := asrt_b hm
                        refine at_run 16 [⟨false, [], vS (Instr.loadAt 3 (.pointer (some ⟨g1, 1, none⟩))), .int .i64 (geti ([1, 0, 0, 1, 1, 1, (-1), 1] : List Int) (z3 * 2 + 1))⟩, ⟨false, [], vS (Instr.loadAt 3 (.pointer (some ⟨g1, 0, none⟩))), .int .i64 (geti ([1, 0, 0, 1, 1, 1, (-1), 1] : List Int) (z3 * 2))⟩] [none, none, none, some (.int .i64 (geti ([1, 0, 0, 1, 1, 1, (-1), 1] : List Int) (z3 * 2 + 1))), none, none, none, none, none, none, none, none, some (.int .i64 (geti ([1, 0, 0, 1, 1, 1, (-1), 1] : List Int) (z3 * 2))), none, none, none] [0, 1, 2, 7, 8, 9, 11, 16, 17, 20, 21, 28, 29, 58, 59, 62, 77] [pl 0 (.int .i64 w1), pl 1 (.int .i64 h1), pl 2 (.int .i64 k1), pl 7 (.slice A5 l5.length c5), pl 8 (.int .i64 z1), pl 9 (.int .i64 z2), pl 11 (.pointer (some ⟨g1, 0, none⟩)), pl 16 (.int .i64 h1), pl 17 (.int .i64 z1), pl 20 (.int .i64 w1), pl 21 (.int .i64 z2), pl 28 (.agg (List.toArray (([] : List Value) ++ (arr1 (Value.int .i64) (0 : Int) 8 ([1, 0, 0, 1, 1, 1, (-1), 1] : List Int) ++ ([] : List Value))))), pl 29 (.int .i64 z3), pl 58 (.int .i64 k1), pl 59 (.int .i64 z4), pl 62 (.slice A8 line1.length c8), pl 77 (.int .i64 (w64 ((w64 ((w64 ((w64 (z1 + (w64 ((geti ([1, 0, 0, 1, 1, 1, (-1), 1] : List Int) (z3 * 2 + 1)) * z4)))) * w1)) + z2)) + (w64 ((geti ([1, 0, 0, 1, 1, 1, (-1), 1] : List Int) (z3 * 2)) * z4)))))] hF hS (by kernel_rfl) (by kernel_rfl) ?_ (fun a w hF hS => ?_)
                        · exact obs_cons (ob_load Agg3 (fun _ _ hS => (hS.at_ 1 rfl).cell rfl)) <| obs_cons (ob_load Agg3 (fun _ _ hS => (hS.at_ 1 rfl).cell rfl)) <| obs_nil
                        refine at_do (d := 78) (s := vS (Instr.buildSlice 34 1 #[(0, .int .i64 (w64 ((w64 ((w64 ((w64 (z1 + (w64 ((geti ([1, 0, 0, 1, 1, 1, (-1), 1] : List Int) (z3 * 2 + 1)) * z4)))) * w1)) + z2)) + (w64 ((geti ([1, 0, 0, 1, 1, 1, (-1), 1] : List Int) (z3 * 2)) * z4)))))])) (v := .slice (some ⟨w.heap.size, 0, none⟩) 1 1) (w' := w.alloc (.cells #[.int .i64 (w64 ((w64 ((w64 ((w64 (z1 + (w64 ((geti ([1, 0, 0, 1, 1, 1, (-1), 1] : List Int) (z3 * 2 + 1)) * z4)))) * w1)) + z2)) + (w64 ((geti ([1, 0, 0, 1, 1, 1, (-1), 1] : List Int) (z3 * 2)) * z4))))] 3)) hF (by kernel_rfl) (by kernel_rfl) (by kernel_rfl) (fun a hF => ?_)
                        have hS : Sep w0 B (w.alloc (.cells #[.int .i64 (w64 ((w64 ((w64 ((w64 (z1 + (w64 ((geti ([1, 0, 0, 1, 1, 1, (-1), 1] : List Int) (z3 * 2 + 1)) * z4)))) * w1)) + z2)) + (w64 ((geti ([1, 0, 0, 1, 1, 1, (-1), 1] : List Int) (z3 * 2)) * z4))))] 3)) (own 3 (.slice (some (⟨w.heap.size, 0, none⟩ : Addr)) 1 1) (vI ([w64 ((w64 ((w64 ((w64 (z1 + (w64 ((geti ([1, 0, 0, 1, 1, 1, (-1), 1] : List Int) (z3 * 2 + 1)) * z4)))) * w1)) + z2)) + (w64 ((geti ([1, 0, 0, 1, 1, 1, (-1), 1] : List Int) (z3 * 2)) * z4)))] : List Int)) :: (rows 34 3 (.slice A5 l5.length c5) hd5 l5 :: blk g1 23 #[.int .i64 (geti ([1, 0, 0, 1, 1, 1, (-1), 1] : List Int) (z3 * 2)), .int .i64 (geti ([1, 0, 0, 1, 1, 1, (-1), 1] : List Int) (z3 * 2 + 1))] :: own 3 (.slice A8 line1.length c8) (vI line1) :: fs)) := hS.lit 3 #[.int .i64 (w64 ((w64 ((w64 ((w64 (z1 + (w64 ((geti ([1, 0, 0, 1, 1, 1, (-1), 1] : List Int) (z3 * 2 + 1)) * z4)))) * w1)) + z2)) + (w64 ((geti ([1, 0, 0, 1, 1, 1, (-1), 1] : List Int) (z3 * 2)) * z4))))] 1 rfl (by omega)
                        generalize (some (⟨w.heap.size, 0, none⟩ : Addr)) = g2 at hF hS
                        generalize w.alloc (.cells #[.int .i64 (w64 ((w64 ((w64 ((w64 (z1 + (w64 ((geti ([1, 0, 0, 1, 1, 1, (-1), 1] : List Int) (z3 * 2 + 1)) * z4)))) * w1)) + z2)) + (w64 ((geti ([1, 0, 0, 1, 1, 1, (-1), 1] : List Int) (z3 * 2)) * z4))))] 3) = w at hS ⊢
                        obtain ⟨A10, c10, w, hrun, hS⟩ := run_app1 (P := Try.prog) (t := 34) (m := line1) (ys := ([w64 ((w64 ((w64 ((w64 (z1 + (w64 ((geti ([1, 0, 0, 1, 1, 1, (-1), 1] : List Int) (z3 * 2 + 1)) * z4)))) * w1)) + z2)) + (w64 ((geti ([1, 0, 0, 1, 1, 1, (-1), 1] : List Int) (z3 * 2)) * z4)))] : List Int)) (A2 := g2) (m2 := 1) (c2 := 1) (Value.int .i64) (0 : Int) (hS.at_ 3 rfl) (hS.at_ 0 rfl).rd ((hS.at_ 0 rfl).len1) 34 Und34 hi3 hz3 hs3 (by omega) rfl (fun _ => rfl) hp2
                        have hS : Sep w0 B w (own 3 (.slice g2 1 1) (vI ([w64 ((w64 ((w64 ((w64 (z1 + (w64 ((geti ([1, 0, 0, 1, 1, 1, (-1), 1] : List Int) (z3 * 2 + 1)) * z4)))) * w1)) + z2)) + (w64 ((geti ([1, 0, 0, 1, 1, 1, (-1), 1] : List Int) (z3 * 2)) * z4)))] : List Int)) :: rows 34 3 (.slice A5 l5.length c5) hd5 l5 :: blk g1 23 #[.int .i64 (geti ([1, 0, 0, 1, 1, 1, (-1), 1] : List Int) (z3 * 2)), .int .i64 (geti ([1, 0, 0, 1, 1, 1, (-1), 1] : List Int) (z3 * 2 + 1))] :: own 3 (.slice A10 ((line1 ++ ([w64 ((w64 ((w64 ((w64 (z1 + (w64 ((geti ([1, 0, 0, 1, 1, 1, (-1), 1] : List Int) (z3 * 2 + 1)) * z4)))) * w1)) + z2)) + (w64 ((geti ([1, 0, 0, 1, 1, 1, (-1), 1] : List Int) (z3 * 2)) * z4)))] : List Int)).length) c10) (vI (line1 ++ ([w64 ((w64 ((w64 ((w64 (z1 + (w64 ((geti ([1, 0, 0, 1, 1, 1, (-1), 1] : List Int) (z3 * 2 + 1)) * z4)))) * w1)) + z2)) + (w64 ((geti ([1, 0, 0, 1, 1, 1, (-1), 1] : List Int) (z3 * 2)) * z4)))] : List Int))) :: fs) := hS
                        refine at_do (d := 79) hF (by kernel_rfl) (by kernel_rfl) hrun (fun a hF => ?_)
                        refine at_run 1 [] [] [0, 1, 2, 7, 8, 9, 11, 14, 16, 17, 20, 21, 28, 29, 58, 59] [pl 0 (.int .i64 w1), pl 1 (.int .i64 h1), pl 2 (.int .i64 k1), pl 7 (.slice A5 l5.length c5), pl 8 (.int .i64 z1), pl 9 (.int .i64 z2), pl 11 (.pointer (some ⟨g1, 0, none⟩)), pl 14 (.slice A10 ((line1 ++ ([w64 ((w64 ((w64 ((w64 (z1 + (w64 ((geti ([1, 0, 0, 1, 1, 1, (-1), 1] : List Int) (z3 * 2 + 1)) * z4)))) * w1)) + z2)) + (w64 ((geti ([1, 0, 0, 1, 1, 1, (-1), 1] : List Int) (z3 * 2)) * z4)))] : List Int)).length) c10), pl 16 (.int .i64 h1), pl 17 (.int .i64 z1), pl 20 (.int .i64 w1), pl 21 (.int .i64 z2), pl 28 (.agg (List.toArray (([] : List Value) ++ (arr1 (Value.int .i64) (0 : Int) 8 ([1, 0, 0, 1, 1, 1, (-1), 1] : List Int) ++ ([] : List Value))))), pl 29 (.int .i64 z3), pl 58 (.int .i64 k1), pl 59 (.int .i64 z4)] hF hS (by kernel_rfl) (by kernel_rfl) ?_ (fun a w hF hS => ?_)
                        · exact obs_nil
                        refine at_end [0, 1, 2, 7, 8, 9, 11, 14, 16, 17, 20, 21, 28, 29, 58, 59] [pl 0 (.int .i64 w1), pl 1 (.int .i64 h1), pl 2 (.int .i64 k1), pl 7 (.slice A5 l5.length c5), pl 8 (.int .i64 z1), pl 9 (.int .i64 z2), pl 11 (.pointer (some ⟨g1, 0, none⟩)), pl 14 (.slice A10 ((line1 ++ ([w64 ((w64 ((w64 ((w64 (z1 + (w64 ((geti ([1, 0, 0, 1, 1, 1, (-1), 1] : List Int) (z3 * 2 + 1)) * z4)))) * w1)) + z2)) + (w64 ((geti ([1, 0, 0, 1, 1, 1, (-1), 1] : List Int) (z3 * 2)) * z4)))] : List Int)).length) c10), pl 16 (.int .i64 h1), pl 17 (.int .i64 z1), pl 20 (.int .i64 w1), pl 21 (.int .i64 z2), pl 28 (.agg (List.toArray (([] : List Value) ++ (arr1 (Value.int .i64) (0 : Int) 8 ([1, 0, 0, 1, 1, 1, (-1), 1] : List Int) ++ ([] : List Value))))), pl 29 (.int .i64 z3), pl 58 (.int .i64 k1), pl 59 (.int .i64 z4)] hF rfl (by kernel_rfl) (fun hF => ?_)
                        refine block_n ?_
                        refine then_n ?_
                        have hS := hS.pickN 4 [1, 2, 3] (by decide)
                        exact ⟨(line1 ++ ([w64 ((w64 ((w64 ((w64 (z1 + (w64 ((geti ([1, 0, 0, 1, 1, 1, (-1), 1] : List Int) (z3 * 2 + 1)) * z4)))) * w1)) + z2)) + (w64 ((geti ([1, 0, 0, 1, 1, 1, (-1), 1] : List Int) (z3 * 2)) * z4)))] : List Int)), A10, c10, hF.weak [0, 1, 2, 7, 8, 9, 11, 14, 16, 17, 20, 21, 28, 29, 58, 59] (by kernel_rfl), hS, hm⟩
                    · refine cond_ev (t := 60) (b := decide (z4 < k1)) hF (by kernel_rfl) (fun hb => ?_) (fun hb => ?_)
                      · replace hm := if_t hm hb
                        refine wp_skip ?_
                        refine then_n ?_
                        exact ⟨hF.weak [0, 1, 2, 7, 8, 9, 11, 14, 16, 17, 20, 21, 28, 29, 58, 59] (by kernel_rfl), hS, hm⟩
                      · replace hm := if_f hm hb
                        refine wp_exit ?_
                        refine then_e (then_e (block_e (then_n ?_)))
                        have hS := hS.pickN 3 [0, 2] (by decide)
                        rw [← hφ4] at hm
                        replace hm := done_b hm
                        unfold rows_lines_K4 at hm
                        try dsimp only at hm
                        have hm : ((rows_lines_J9 l5 z3) line1).bind φ3 = some r := hm
                        exact ⟨line1, A8, c8, hF.weak [0, 1, 2, 7, 8, 9, 14, 16, 17, 20, 21, 28, 29] (by kernel_rfl), hS, hm⟩
                · refine reg [] [] [0, 1, 2, 7, 8, 9, 11, 16, 17, 20, 21, 28, 29, 57] [pl 0 (.int .i64 w1), pl 1 (.int .i64 h1), pl 2 (.int .i64 k1), pl 7 (.slice A5 l5.length c5), pl 8 (.int .i64 z1), pl 9 (.int .i64 z2), pl 11 (.pointer (some ⟨g1, 0, none⟩)), pl 16 (.int .i64 h1), pl 17 (.int .i64 z1), pl 20 (.int .i64 w1), pl 21 (.int .i64 z2), pl 28 (.agg (List.toArray (([] : List Value) ++ (arr1 (Value.int .i64) (0 : Int) 8 ([1, 0, 0, 1, 1, 1, (-1), 1] : List Int) ++ ([] : List Value))))), pl 29 (.int .i64 z3), pl 57 (.bool (((decide ((w64 (z2 + (w64 ((geti ([1, 0, 0, 1, 1, 1, (-1), 1] : List Int) (z3 * 2)) * (w64 (k1 - 1)))))) < 0)) || (decide (w1 ≤ (w64 (z2 + (w64 ((geti ([1, 0, 0, 1, 1, 1, (-1), 1] : List Int) (z3 * 2)) * (w64 (k1 - 1))))))))) || (decide (h1 ≤ (w64 (z1 + (w64 ((geti ([1, 0, 0, 1, 1, 1, (-1), 1] : List Int) (z3 * 2 + 1)) * (w64 (k1 - 1))))))))))] hF hS Fol (by kernel_rfl) (by kernel_rfl) (by kernel_rfl) ?_ (fun a w hF hS => ?_)
                  · exact obs_nil
                  refine cond_ev (t := 57) (b := ((decide ((w64 (z2 + (w64 ((geti ([1, 0, 0, 1, 1, 1, (-1), 1] : List Int) (z3 * 2)) * (w64 (k1 - 1)))))) < 0)) || (decide (w1 ≤ (w64 (z2 + (w64 ((geti ([1, 0, 0, 1, 1, 1, (-1), 1] : List Int) (z3 * 2)) * (w64 (k1 - 1))))))))) || (decide (h1 ≤ (w64 (z1 + (w64 ((geti ([1, 0, 0, 1, 1, 1, (-1), 1] : List Int) (z3 * 2 + 1)) * (w64 (k1 - 1))))))))) hF (by kernel_rfl) (fun hb => ?_) (fun hb => ?_)
                  · replace hm := if_t hm hb
                    refine wp_exit ?_
                    refine then_e (block_e (then_n ?_))
                    have hS := hS.pickN 2 [1] (by decide)
                    exact ⟨l5, A5, c5, hd5, hF.weak [0, 1, 2, 7, 8, 9, 16, 17, 20, 21, 28, 29] (by kernel_rfl), hS, hm⟩
                  · replace hm := if_f hm hb
                    refine wp_skip ?_
                    refine then_n ?_
                    have hS := hS.pickN 2 [1, 0] (by decide)
                    exact ⟨hF.weak [0, 1, 2, 7, 8, 9, 11, 16, 17, 20, 21, 28, 29] (by kernel_rfl), hS, hm⟩
            · refine cond_ev (t := 30) (b := decide (z3 < 4)) hF (by kernel_rfl) (fun hb => ?_) (fun hb => ?_)
              · replace hm := if_t hm hb
                refine wp_skip ?_
                refine then_n ?_
                exact ⟨hF.weak [0, 1, 2, 7, 8, 9, 16, 17, 20, 21, 28, 29] (by kernel_rfl), hS, hm⟩
              · replace hm := if_f hm hb
                refine wp_exit ?_
                refine then_e (then_e (block_e (block_n (then_n ?_))))
                rw [← hφ3] at hm
                replace hm := done_b hm
                unfold rows_lines_K3 at hm
                try dsimp only at hm
                have hm : ((rows_lines_J5 z2) l5).bind φ2 = some r := hm
                exact ⟨l5, A5, c5, hd5, hF.weak [0, 1, 2, 7, 8, 16, 17, 20, 21] (by kernel_rfl), hS, hm⟩
        · refine cond_ev (t := 22) (b := decide (z2 < w1)) hF (by kernel_rfl) (fun hb => ?_) (fun hb => ?_)
          · replace hm := if_t hm hb
            refine wp_skip ?_
            refine then_n ?_
            exact ⟨hF.weak [0, 1, 2, 7, 8, 16, 17, 20, 21] (by kernel_rfl), hS, hm⟩
          · replace hm := if_f hm hb
            refine wp_exit ?_
            refine then_e (then_e (block_e (block_n (then_n ?_))))
            rw [← hφ2] at hm
            replace hm := done_b hm
            unfold rows_lines_K2 at hm
            try dsimp only at hm
            have hm : ((rows_lines_J3 z1) l3).bind φ1 = some r := hm
            exact ⟨l3, A3, c3, hd3, hF.weak [0, 1, 2, 7, 16, 17] (by kernel_rfl), hS, hm⟩
    · refine cond_ev (t := 18) (b := decide (z1 < h1)) hF (by kernel_rfl) (fun hb => ?_) (fun hb => ?_)
      · replace hm := if_t hm hb
        refine wp_skip ?_
        refine then_n ?_
        exact ⟨hF.weak [0, 1, 2, 7, 16, 17] (by kernel_rfl), hS, hm⟩
      · replace hm := if_f hm hb
        refine wp_exit ?_
        refine then_e (then_e (block_e (then_n ?_)))
        rw [← hφ1] at hm
        replace hm := done_b hm
        unfold rows_lines_K1 at hm
        try dsimp only at hm
        have hm : (rows_lines_J1 l1).bind some = some r := hm
        exact ⟨l1, A1, c1, hd1, hF.weak [7] (by kernel_rfl), hS, hm⟩

noncomputable def rows_match_owner_J3 (z1 : Int) : Option (St Int (Fl Unit Int)) :=
  some (.next (w64 (z1 + 1)))

noncomputable def rows_match_owner_J2 (m1 : List Int) (line1 : List Int) (z1 : Int) : Option (St Int (Fl Unit Int)) :=
  asrt (0 ≤ z1 ∧ z1 < (line1.length : Int)) <| asrt (0 ≤ (geti line1 z1) ∧ (geti line1 z1) < (m1.length : Int)) <| if ((geti m1 (geti line1 z1)) != (geti m1 (geti line1 0))) then (some (.done (.ret 0))) else ((rows_match_owner_J3 z1))

noncomputable def rows_match_owner_J1 (m1 : List Int) (line1 : List Int) : Option Int :=
  some (geti m1 (geti line1 0))

noncomputable def rows_match_owner_K1 (m1 : List Int) (line1 : List Int) : (Fl Unit Int) → Option Int :=
  fun (x : (Fl Unit Int)) => match x with | .go _ => (rows_match_owner_J1 m1 line1) | .ret x => some x

noncomputable def rows_match_owner_L1 (m1 : List Int) (line1 : List Int) : Int → Option (St Int (Fl Unit Int)) :=
  fun (x : Int) => match x with | z1 => if (decide (z1 < (line1.length : Int))) then ((rows_match_owner_J2 m1 line1 z1)) else (some (.done (.go ())))

noncomputable def rows_match_owner_m (m1 : List Int) (m2 : List (List Int)) (line1 : List Int) : Option Int :=
  asrt (0 ≤ (0 : Int) ∧ (0 : Int) < (line1.length : Int)) <| asrt (0 ≤ (geti line1 0) ∧ (geti line1 0) < (m1.length : Int)) <| (loop (rows_match_owner_L1 m1 line1) 0).bind (rows_match_owner_K1 m1 line1)

set_option maxRecDepth 100000 in
set_option maxHeartbeats 4000000 in
theorem rows_match_owner_w {A1 : Option Addr} {c1 : Nat} {n1 : Nat} {m1 : List Int} {A2 : Option Addr} {c2 : Nat} {n2 : Nat} {hd1 : List Hd} {m2 : List (List Int)} {A3 : Option Addr} {c3 : Nat} {n3 : Nat} {line1 : List Int} {r : Int} {w0 w : World} {B : Nat} {fs : List HP} (hm : rows_match_owner_m m1 m2 line1 = some r) (hS : Sep w0 B w (fs)) (hr_m1 : RdF w0 B fs A1 (vI m1)) (_hc_m1 : m1.length ≤ c1) (_hn_m1 : n1 = m1.length) (hr_m2 : RdRowsF w0 B fs A2 hd1 m2) (_hc_m2 : m2.length ≤ c2) (_hn_m2 : n2 = m2.length) (hr_line1 : RdF w0 B fs A3 (vI line1)) (_hc_line1 : line1.length ≤ c3) (_hn_line1 : n3 = line1.length) :
    Calls Try.prog 114 #[.agg #[.slice A1 n1 c1, .slice A2 n2 c2], .slice A3 n3 c3] w fun e w' => e = .returned (.int .i64 r) ∧ Sep w0 B w' (fs) := by
  obtain ⟨i3, hi3, hz3, hs3, hb3⟩ := info_parts Info3
  obtain rfl := _hn_m1
  obtain rfl := _hn_m2
  obtain rfl := _hn_line1
  unfold rows_match_owner_m at hm
  replace hm := start_b hm
  refine enter (l := [.agg #[.slice A1 m1.length c1, .slice A2 m2.length c2], .slice A3 line1.length c3]) (n := 30) Try.func114 rfl rfl (by simp) (fun a hF => ?_)
  refine seqR ?_
  refine at_do (d := 2) (s := vS (Instr.box 148 (.agg #[.slice A1 m1.length c1, .slice A2 m2.length c2]))) (v := .pointer (some ⟨w.heap.size, 0, none⟩)) (w' := w.alloc (.cells #[.slice A1 m1.length c1, .slice A2 m2.length c2] 148)) hF (by kernel_rfl) (by kernel_rfl) (by kernel_rfl) (fun a hF => ?_)
  have hS : Sep w0 B (w.alloc (.cells #[.slice A1 m1.length c1, .slice A2 m2.length c2] 148)) (blk w.heap.size 148 #[.slice A1 m1.length c1, .slice A2 m2.length c2] :: (fs)) := hS.box 148 #[.slice A1 m1.length c1, .slice A2 m2.length c2]
  generalize w.heap.size = g1 at hF hS
  generalize w.alloc (.cells #[.slice A1 m1.length c1, .slice A2 m2.length c2] 148) = w at hS ⊢
  refine at_run 1 [] [] [1, 2] [pl 1 (.slice A3 line1.length c3), pl 2 (.pointer (some ⟨g1, 0, none⟩))] hF hS (by kernel_rfl) (by kernel_rfl) ?_ (fun a w hF hS => ?_)
  · exact obs_nil
  refine at_end [1, 2] [pl 1 (.slice A3 line1.length c3), pl 2 (.pointer (some ⟨g1, 0, none⟩))] hF rfl (by kernel_rfl) (fun hF => ?_)
  refine then_n ?_
  obtain ⟨hp1, hm⟩ := asrt_b hm
  obtain ⟨hp2, hm⟩ := asrt_b hm
  refine reg [⟨false, [], vS (Instr.loadAt 34 (.pointer (some ⟨g1, 0, none⟩))), .slice A1 m1.length c1⟩, ⟨true, [], vS (Instr.indexAt 34 (.slice A3 line1.length c3) (.int .i64 0)), .pointer (some (sAddr A3 0))⟩, ⟨false, [], vS (Instr.loadAt 3 (.pointer (some (sAddr A3 0)))), .int .i64 (geti line1 0)⟩, ⟨true, [], vS (Instr.indexAt 34 (.slice A1 m1.length c1) (.int .i64 (geti line1 0))), .pointer (some (sAddr A1 (geti line1 0)))⟩, ⟨false, [], vS (Instr.loadAt 3 (.pointer (some (sAddr A1 (geti line1 0))))), .int .i64 (geti m1 (geti line1 0))⟩] [none, some (.slice A1 m1.length c1), none, some (.pointer (some (sAddr A3 0))), some (.int .i64 (geti line1 0)), some (.pointer (some (sAddr A1 (geti line1 0)))), some (.int .i64 (geti m1 (geti line1 0))), none] [1, 2, 5] [pl 1 (.slice A3 line1.length c3), pl 2 (.pointer (some ⟨g1, 0, none⟩)), pl 5 (.int .i64 (geti m1 (geti line1 0)))] hF hS Fol (by kernel_rfl) (by kernel_rfl) (by kernel_rfl) ?_ (fun a w hF hS => ?_)
  · exact obs_cons (ob_load Agg34 (fun _ _ hS => (hS.at_ 0 rfl).cell rfl)) <| obs_cons (ob_ix1 (f := (Value.int .i64)) (m := line1) Und34 hi3 hs3 (hr_line1 _ (hS.dropN 1)) rfl (fun _ => hp1)) <| obs_cons (ob_get1 (n := line1.length) (m := line1) (Value.int .i64) (0 : Int) Agg3 (fun _ hS => ⟨_, (hr_line1 _ (hS.dropN 1))⟩) (fun _ hS => rfl) (fun _ => hp1)) <| obs_cons (ob_ix1 (f := (Value.int .i64)) (m := m1) Und34 hi3 hs3 (hr_m1 _ (hS.dropN 1)) rfl (fun _ => hp2)) <| obs_cons (ob_get1 (n := m1.length) (m := m1) (Value.int .i64) (0 : Int) Agg3 (fun _ hS => ⟨_, (hr_m1 _ (hS.dropN 1))⟩) (fun _ hS => rfl) (fun _ => hp2)) <| obs_nil
  refine seq_cut (fun a w => Fr 30 [pl 5 (.int .i64 (geti m1 (geti line1 0)))] a ∧ Sep w0 B w (fs) ∧ ((rows_match_owner_J1 m1 line1)).bind some = some r) ?_ ?_
  · rintro a w ⟨hF, hS, hm⟩
    unfold rows_match_owner_J1 at hm
    refine reg [] [] [4] [pl 4 (.int .i64 (geti m1 (geti line1 0)))] hF hS Fol (by kernel_rfl) (by kernel_rfl) (by kernel_rfl) ?_ (fun a w hF hS => ?_)
    · exact obs_nil
    refine wp_ret ?_
    have hm : some (geti m1 (geti line1 0)) = some r := hm
    obtain rfl := Option.some.inj hm
    exact retV (rs := [.tmp 4]) (vs := [.int .i64 (geti m1 (geti line1 0))]) hF rfl (rv_t (by kernel_rfl) <| rv_nil) rfl ⟨rfl, hS⟩
  · refine reg [] [] [2, 5, 15, 16, 17] [pl 2 (.pointer (some ⟨g1, 0, none⟩)), pl 5 (.int .i64 (geti m1 (geti line1 0))), pl 15 (.slice A3 line1.length c3), pl 16 (.int .i64 (line1.length : Int)), pl 17 (.int .i64 0)] hF hS Fol (by kernel_rfl) (by kernel_rfl) (by kernel_rfl) ?_ (fun a w hF hS => ?_)
    · exact obs_nil
    refine wp_block ?_
    refine wp_loop_model (S := Int) (R := (Fl Unit Int)) (rows_match_owner_L1 m1 line1) (fun x => ((rows_match_owner_K1 m1 line1) x).bind some) r (fun (x : Int) a w => Fr 30 [pl 2 (.pointer (some ⟨g1, 0, none⟩)), pl 5 (.int .i64 (geti m1 (geti line1 0))), pl 15 (.slice A3 line1.length c3), pl 16 (.int .i64 (line1.length : Int)), pl 17 (.int .i64 x)] a ∧ Sep w0 B w (blk g1 148 #[.slice A1 m1.length c1, .slice A2 m2.length c2] :: fs)) (assoc_b hm) ⟨hF.weak [2, 5, 15, 16, 17] (by kernel_rfl), hS⟩ ?_
    clear hF hS hm
    rintro nn1 z1 a w ⟨hF, hS⟩ hm
    generalize hφ1 : stK (rows_match_owner_L1 m1 line1) nn1 (fun x => ((rows_match_owner_K1 m1 line1) x).bind some) = φ1 at hm
    unfold rows_match_owner_L1 at hm
    dsimp only at hm
    refine reg [] [] [2, 5, 15, 16, 17, 18] [pl 2 (.pointer (some ⟨g1, 0, none⟩)), pl 5 (.int .i64 (geti m1 (geti line1 0))), pl 15 (.slice A3 line1.length c3), pl 16 (.int .i64 (line1.length : Int)), pl 17 (.int .i64 z1), pl 18 (.bool (decide (z1 < (line1.length : Int))))] hF hS Fol (by kernel_rfl) (by kernel_rfl) (by kernel_rfl) ?_ (fun a w hF hS => ?_)
    · exact obs_nil
    refine seq_cut (fun a w => Fr 30 [pl 2 (.pointer (some ⟨g1, 0, none⟩)), pl 5 (.int .i64 (geti m1 (geti line1 0))), pl 15 (.slice A3 line1.length c3), pl 16 (.int .i64 (line1.length : Int)), pl 17 (.int .i64 z1)] a ∧ Sep w0 B w (blk g1 148 #[.slice A1 m1.length c1, .slice A2 m2.length c2] :: fs) ∧ ((rows_match_owner_J2 m1 line1 z1)).bind φ1 = some r) ?_ ?_
    · rintro a w ⟨hF, hS, hm⟩
      unfold rows_match_owner_J2 at hm
      refine seq_cut (fun a w => Fr 30 [pl 2 (.pointer (some ⟨g1, 0, none⟩)), pl 5 (.int .i64 (geti m1 (geti line1 0))), pl 15 (.slice A3 line1.length c3), pl 16 (.int .i64 (line1.length : Int)), pl 17 (.int .i64 z1)] a ∧ Sep w0 B w (blk g1 148 #[.slice A1 m1.length c1, .slice A2 m2.length c2] :: fs) ∧ ((rows_match_owner_J3 z1)).bind φ1 = some r) ?_ ?_
      · rintro a w ⟨hF, hS, hm⟩
        unfold rows_match_owner_J3 at hm
        refine reg1 [] [] [2, 5, 15, 16, 17] [pl 2 (.pointer (some ⟨g1, 0, none⟩)), pl 5 (.int .i64 (geti m1 (geti line1 0))), pl 15 (.slice A3 line1.length c3), pl 16 (.int .i64 (line1.length : Int)), pl 17 (.int .i64 (w64 (z1 + 1)))] hF hS Fol (by kernel_rfl) (by kernel_rfl) (by kernel_rfl) ?_ (fun a w hF hS => ?_)
        · exact obs_nil
        refine then_n ?_
        rw [← hφ1] at hm
        exact ⟨(w64 (z1 + 1)), ⟨hF.weak [2, 5, 15, 16, 17] (by kernel_rfl), hS⟩, hm⟩
      · refine wp_block ?_
        obtain ⟨hp3, hm⟩ := asrt_b hm
        refine reg [⟨true, [], vS (Instr.indexAt 34 (.slice A3 line1.length c3) (.int .i64 z1)), .pointer (some (sAddr A3 z1))⟩, ⟨false, [], vS (Instr.loadAt 3 (.pointer (some (sAddr A3 z1)))), .int .i64 (geti line1 z1)⟩] [some (.pointer (some (sAddr A3 z1))), some (.int .i64 (geti line1 z1)), none] [2, 5, 7, 15, 16, 17] [pl 2 (.pointer (some ⟨g1, 0, none⟩)), pl 5 (.int .i64 (geti m1 (geti line1 0))), pl 7 (.int .i64 (geti line1 z1)), pl 15 (.slice A3 line1.length c3), pl 16 (.int .i64 (line1.length : Int)), pl 17 (.int .i64 z1)] hF hS Fol (by kernel_rfl) (by kernel_rfl) (by kernel_rfl) ?_ (fun a w hF hS => ?_)
        · exact obs_cons (ob_ix1 (f := (Value.int .i64)) (m := line1) Und34 hi3 hs3 (hr_line1 _ (hS.dropN 1)) rfl (fun _ => hp3)) <| obs_cons (ob_get1 (n := line1.length) (m := line1) (Value.int .i64) (0 : Int) Agg3 (fun _ hS => ⟨_, (hr_line1 _ (hS.dropN 1))⟩) (fun _ hS => rfl) (fun _ => hp3)) <| obs_nil
        obtain ⟨hp4, hm⟩ := asrt_b hm
        refine reg [⟨false, [], vS (Instr.loadAt 34 (.pointer (some ⟨g1, 0, none⟩))), .slice A1 m1.length c1⟩, ⟨true, [], vS (Instr.indexAt 34 (.slice A1 m1.length c1) (.int .i64 (geti line1 z1))), .pointer (some (sAddr A1 (geti line1 z1)))⟩, ⟨false, [], vS (Instr.loadAt 3 (.pointer (some (sAddr A1 (geti line1 z1))))), .int .i64 (geti m1 (geti line1 z1))⟩] [none, some (.slice A1 m1.length c1), none, some (.pointer (some (sAddr A1 (geti line1 z1)))), some (.int .i64 (geti m1 (geti line1 z1))), none, none] [2, 5, 15, 16, 17, 27] [pl 2 (.pointer (some ⟨g1, 0, none⟩)), pl 5 (.int .i64 (geti m1 (geti line1 0))), pl 15 (.slice A3 line1.length c3), pl 16 (.int .i64 (line1.length : Int)), pl 17 (.int .i64 z1), pl 27 (.bool ((geti m1 (geti line1 z1)) != (geti m1 (geti line1 0))))] hF hS Fol (by kernel_rfl) (by kernel_rfl) (by kernel_rfl) ?_ (fun a w hF hS => ?_)
        · exact obs_cons (ob_load Agg34 (fun _ _ hS => (hS.at_ 0 rfl).cell rfl)) <| obs_cons (ob_ix1 (f := (Value.int .i64)) (m := m1) Und34 hi3 hs3 (hr_m1 _ (hS.dropN 1)) rfl (fun _ => hp4)) <| obs_cons (ob_get1 (n := m1.length) (m := m1) (Value.int .i64) (0 : Int) Agg3 (fun _ hS => ⟨_, (hr_m1 _ (hS.dropN 1))⟩) (fun _ hS => rfl) (fun _ => hp4)) <| obs_nil
        refine cond_ev (t := 27) (b := ((geti m1 (geti line1 z1)) != (geti m1 (geti line1 0)))) hF (by kernel_rfl) (fun hb => ?_) (fun hb => ?_)
        · replace hm := if_t hm hb
          refine reg [] [] [4] [pl 4 (.int .i64 0)] hF hS Fol (by kernel_rfl) (by kernel_rfl) (by kernel_rfl) ?_ (fun a w hF hS => ?_)
          · exact obs_nil
          refine wp_ret ?_
          refine block_r (then_r (then_r (block_r (then_r ?_))))
          rw [← hφ1] at hm
          replace hm := done_b hm
          unfold rows_match_owner_K1 at hm
          try dsimp only at hm
          have hS := hS.pickN 1 [] (by decide)
          have hm : some 0 = some r := hm
          obtain rfl := Option.some.inj hm
          exact retV (rs := [.tmp 4]) (vs := [.int .i64 0]) hF rfl (rv_t (by kernel_rfl) <| rv_nil) rfl ⟨rfl, hS⟩
        · replace hm := if_f hm hb
          refine wp_skip ?_
          refine block_n ?_
          refine then_n ?_
          exact ⟨hF.weak [2, 5, 15, 16, 17] (by kernel_rfl), hS, hm⟩
    · refine cond_ev (t := 18) (b := decide (z1 < (line1.length : Int))) hF (by kernel_rfl) (fun hb => ?_) (fun hb => ?_)
      · replace hm := if_t hm hb
        refine wp_skip ?_
        refine then_n ?_
        exact ⟨hF.weak [2, 5, 15, 16, 17] (by kernel_rfl), hS, hm⟩
      · replace hm := if_f hm hb
        refine wp_exit ?_
        refine then_e (then_e (block_e (then_n ?_)))
        have hS := hS.pickN 1 [] (by decide)
        rw [← hφ1] at hm
        replace hm := done_b hm
        unfold rows_match_owner_K1 at hm
        try dsimp only at hm
        have hm : ((rows_match_owner_J1 m1 line1)).bind some = some r := hm
        exact ⟨hF.weak [5] (by kernel_rfl), hS, hm⟩

noncomputable def slices_Sort_2_m (x1 : List Int) : Option (List Int) :=
  asrt ((x1.length : Int) ≤ bigN) <| some (sortI x1)

theorem slices_Sort_2_w {A1 : Option Addr} {c1 : Nat} {n1 : Nat} {x1 : List Int} {r : (List Int)} {w0 w : World} {B : Nat} {fs : List HP} (hm : slices_Sort_2_m x1 = some r) (hS : Sep w0 B w (own 3 (.slice A1 n1 c1) (vI x1) :: fs)) :
    Calls Try.prog 115 #[.slice A1 n1 c1] w fun e w' => ∃ v, e = .returned v ∧ v = .tuple #[] ∧ Sep w0 B w' (own 3 (.slice A1 n1 c1) (vI r) :: fs) := by
  unfold slices_Sort_2_m at hm
  obtain ⟨hb, hm⟩ := asrt_b (start_b hm)
  obtain rfl := Option.some.inj hm
  exact sort_own SortL hS hb

noncomputable def rows_match_won_J3 (z1 : Int) (n5 : Int) : Option (St (Int × Int) Int) :=
  some (.next (n5, (w64 (z1 + 1))))

noncomputable def rows_match_won_J2 (m1 : List Int) (m2 : List (List Int)) (n3 : Int) (z1 : Int) : Option (St (Int × Int) Int) :=
  asrt (0 ≤ z1 ∧ z1 < (m2.length : Int)) <| (rows_match_owner_m m1 m2 (geti2 m2 z1)).bind fun r1 => (rows_match_won_J3 z1) (bOr n3 r1)

noncomputable def rows_match_won_J1 (n4 : Int) : Option Int :=
  some n4

noncomputable def rows_match_won_K1 : Int → Option Int :=
  fun (x : Int) => match x with | n4 => rows_match_won_J1 n4

noncomputable def rows_match_won_L1 (m1 : List Int) (m2 : List (List Int)) : (Int × Int) → Option (St (Int × Int) Int) :=
  fun (x : (Int × Int)) => match x with | (n3, z1) => if (decide (z1 < (m2.length : Int))) then ((rows_match_won_J2 m1 m2 n3 z1)) else (some (.done n3))

noncomputable def rows_match_won_m (m1 : List Int) (m2 : List (List Int)) : Option Int :=
  (loop (rows_match_won_L1 m1 m2) (0, 0)).bind rows_match_won_K1

set_option maxRecDepth 100000 in
set_option maxHeartbeats 4000000 in
theorem rows_match_won_w {A1 : Option Addr} {c1 : Nat} {n1 : Nat} {m1 : List Int} {A2 : Option Addr} {c2 : Nat} {n2 : Nat} {hd1 : List Hd} {m2 : List (List Int)} {r : Int} {w0 w : World} {B : Nat} {fs : List HP} (hm : rows_match_won_m m1 m2 = some r) (hS : Sep w0 B w (fs)) (hr_m1 : RdF w0 B fs A1 (vI m1)) (_hc_m1 : m1.length ≤ c1) (_hn_m1 : n1 = m1.length) (hr_m2 : RdRowsF w0 B fs A2 hd1 m2) (_hc_m2 : m2.length ≤ c2) (_hn_m2 : n2 = m2.length) :
    Calls Try.prog 116 #[.agg #[.slice A1 n1 c1, .slice A2 n2 c2]] w fun e w' => e = .returned (.int .i64 r) ∧ Sep w0 B w' (fs) := by
  obtain ⟨i3, hi3, hz3, hs3, hb3⟩ := info_parts Info3
  obtain ⟨i34, hi34, hz34, hs34, hb34⟩ := info_parts Info34
  obtain rfl := _hn_m1
  obtain rfl := _hn_m2
  unfold rows_match_won_m at hm
  replace hm := start_b hm
  refine enter (l := [.agg #[.slice A1 m1.length c1, .slice A2 m2.length c2]]) (n := 20) Try.func116 rfl rfl (by simp) (fun a hF => ?_)
  refine seqR ?_
  refine at_do (d := 1) (s := vS (Instr.box 148 (.agg #[.slice A1 m1.length c1, .slice A2 m2.length c2]))) (v := .pointer (some ⟨w.heap.size, 0, none⟩)) (w' := w.alloc (.cells #[.slice A1 m1.length c1, .slice A2 m2.length c2] 148)) hF (by kernel_rfl) (by kernel_rfl) (by kernel_rfl) (fun a hF => ?_)
  have hS : Sep w0 B (w.alloc (.cells #[.slice A1 m1.length c1, .slice A2 m2.length c2] 148)) (blk w.heap.size 148 #[.slice A1 m1.length c1, .slice A2 m2.length c2] :: (fs)) := hS.box 148 #[.slice A1 m1.length c1, .slice A2 m2.length c2]
  generalize w.heap.size = g1 at hF hS
  generalize w.alloc (.cells #[.slice A1 m1.length c1, .slice A2 m2.length c2] 148) = w at hS ⊢
  refine at_run 1 [] [] [1] [pl 1 (.pointer (some ⟨g1, 0, none⟩))] hF hS (by kernel_rfl) (by kernel_rfl) ?_ (fun a w hF hS => ?_)
  · exact obs_nil
  refine at_end [1] [pl 1 (.pointer (some ⟨g1, 0, none⟩))] hF rfl (by kernel_rfl) (fun hF => ?_)
  refine then_n ?_
  refine reg [] [] [1, 3] [pl 1 (.pointer (some ⟨g1, 0, none⟩)), pl 3 (.int .i64 0)] hF hS Fol (by kernel_rfl) (by kernel_rfl) (by kernel_rfl) ?_ (fun a w hF hS => ?_)
  · exact obs_nil
  refine seq_cut (fun a w => ∃ (n4 : Int), Fr 20 [pl 3 (.int .i64 n4)] a ∧ Sep w0 B w (fs) ∧ (rows_match_won_J1 n4).bind some = some r) ?_ ?_
  · rintro a w ⟨n4, hF, hS, hm⟩
    unfold rows_match_won_J1 at hm
    refine reg [] [] [2] [pl 2 (.int .i64 n4)] hF hS Fol (by kernel_rfl) (by kernel_rfl) (by kernel_rfl) ?_ (fun a w hF hS => ?_)
    · exact obs_nil
    refine wp_ret ?_
    have hm : some n4 = some r := hm
    obtain rfl := Option.some.inj hm
    exact retV (rs := [.tmp 2]) (vs := [.int .i64 n4]) hF rfl (rv_t (by kernel_rfl) <| rv_nil) rfl ⟨rfl, hS⟩
  · refine reg [⟨false, [], vS (Instr.loadAt 69 (.pointer (some ⟨g1, 1, none⟩))), .slice A2 m2.length c2⟩] [none, some (.slice A2 m2.length c2), none, none] [1, 3, 7, 8, 9] [pl 1 (.pointer (some ⟨g1, 0, none⟩)), pl 3 (.int .i64 0), pl 7 (.slice A2 m2.length c2), pl 8 (.int .i64 (m2.length : Int)), pl 9 (.int .i64 0)] hF hS Fol (by kernel_rfl) (by kernel_rfl) (by kernel_rfl) ?_ (fun a w hF hS => ?_)
    · exact obs_cons (ob_load Agg69 (fun _ _ hS => (hS.at_ 0 rfl).cell rfl)) <| obs_nil
    refine wp_block ?_
    refine wp_loop_model (S := (Int × Int)) (R := Int) (rows_match_won_L1 m1 m2) (fun x => (rows_match_won_K1 x).bind some) r (fun (x : (Int × Int)) a w => Fr 20 [pl 1 (.pointer (some ⟨g1, 0, none⟩)), pl 3 (.int .i64 x.1), pl 7 (.slice A2 m2.length c2), pl 8 (.int .i64 (m2.length : Int)), pl 9 (.int .i64 x.2)] a ∧ Sep w0 B w (blk g1 148 #[.slice A1 m1.length c1, .slice A2 m2.length c2] :: fs)) (assoc_b hm) ⟨hF.weak [1, 3, 7, 8, 9] (by kernel_rfl), hS⟩ ?_
    clear hF hS hm
    rintro nn1 ⟨n3, z1⟩ a w ⟨hF, hS⟩ hm
    generalize hφ1 : stK (rows_match_won_L1 m1 m2) nn1 (fun x => (rows_match_won_K1 x).bind some) = φ1 at hm
    unfold rows_match_won_L1 at hm
    dsimp only at hF hS hm
    refine reg [] [] [1, 3, 7, 8, 9, 10] [pl 1 (.pointer (some ⟨g1, 0, none⟩)), pl 3 (.int .i64 n3), pl 7 (.slice A2 m2.length c2), pl 8 (.int .i64 (m2.length : Int)), pl 9 (.int .i64 z1), pl 10 (.bool (decide (z1 < (m2.length : Int))))] hF hS Fol (by kernel_rfl) (by kernel_rfl) (by kernel_rfl) ?_ (fun a w hF hS => ?_)
    · exact obs_nil
    refine seq_cut (fun a w => Fr 20 [pl 1 (.pointer (some ⟨g1, 0, none⟩)), pl 3 (.int .i64 n3), pl 7 (.slice A2 m2.length c2), pl 8 (.int .i64 (m2.length : Int)), pl 9 (.int .i64 z1)] a ∧ Sep w0 B w (blk g1 148 #[.slice A1 m1.length c1, .slice A2 m2.length c2] :: fs) ∧ ((rows_match_won_J2 m1 m2 n3 z1)).bind φ1 = some r) ?_ ?_
    · rintro a w ⟨hF, hS, hm⟩
      unfold rows_match_won_J2 at hm
      refine seq_cut (fun a w => ∃ (n5 : Int), Fr 20 [pl 1 (.pointer (some ⟨g1, 0, none⟩)), pl 3 (.int .i64 n5), pl 7 (.slice A2 m2.length c2), pl 8 (.int .i64 (m2.length : Int)), pl 9 (.int .i64 z1)] a ∧ Sep w0 B w (blk g1 148 #[.slice A1 m1.length c1, .slice A2 m2.length c2] :: fs) ∧ ((rows_match_won_J3 z1) n5).bind φ1 = some r) ?_ ?_
      · rintro a w ⟨n5, hF, hS, hm⟩
        unfold rows_match_won_J3 at hm
        refine reg1 [] [] [1, 3, 7, 8, 9] [pl 1 (.pointer (some ⟨g1, 0, none⟩)), pl 3 (.int .i64 n5), pl 7 (.slice A2 m2.length c2), pl 8 (.int .i64 (m2.length : Int)), pl 9 (.int .i64 (w64 (z1 + 1)))] hF hS Fol (by kernel_rfl) (by kernel_rfl) (by kernel_rfl) ?_ (fun a w hF hS => ?_)
        · exact obs_nil
        refine then_n ?_
        rw [← hφ1] at hm
        exact ⟨(n5, (w64 (z1 + 1))), ⟨hF.weak [1, 3, 7, 8, 9] (by kernel_rfl), hS⟩, hm⟩
      · refine wp_block ?_
        obtain ⟨hp1, hm⟩ := asrt_b hm
        refine reg [⟨true, [], vS (Instr.indexAt 69 (.slice A2 m2.length c2) (.int .i64 z1)), .pointer (some (sAddr A2 z1))⟩, ⟨false, [], vS (Instr.loadAt 34 (.pointer (some (sAddr A2 z1)))), .slice (hdA hd1 z1) ((geti2 m2 z1).length) (hdC hd1 z1)⟩] [some (.pointer (some (sAddr A2 z1))), some (.slice (hdA hd1 z1) ((geti2 m2 z1).length) (hdC hd1 z1)), none] [1, 3, 5, 7, 8, 9] [pl 1 (.pointer (some ⟨g1, 0, none⟩)), pl 3 (.int .i64 n3), pl 5 (.slice (hdA hd1 z1) ((geti2 m2 z1).length) (hdC hd1 z1)), pl 7 (.slice A2 m2.length c2), pl 8 (.int .i64 (m2.length : Int)), pl 9 (.int .i64 z1)] hF hS Fol (by kernel_rfl) (by kernel_rfl) (by kernel_rfl) ?_ (fun a w hF hS => ?_)
        · exact obs_cons (ob_ixRn Und69 hi34 hs34 (hr_m2 _ (hS.dropN 1)) rfl (fun _ => hp1)) <| obs_cons (ob_getR Agg34 (fun _ hS => ⟨_, (hr_m2 _ (hS.dropN 1))⟩) (fun _ => hp1)) <| obs_nil
        obtain ⟨r1, hr1, hm⟩ := call_b hm
        refine reg1 [⟨false, [], vS (Instr.loadAt 148 (.pointer (some ⟨g1, 0, none⟩))), .agg #[.slice A1 m1.length c1, .slice A2 m2.length c2]⟩, ⟨false, [], callFunc 114 #[.agg #[.slice A1 m1.length c1, .slice A2 m2.length c2], .slice (hdA hd1 z1) ((geti2 m2 z1).length) (hdC hd1 z1)], .int .i64 r1⟩] [none, some (.agg #[.slice A1 m1.length c1, .slice A2 m2.length c2]), none, some (.int .i64 r1), none, none] [1, 3, 7, 8, 9] [pl 1 (.pointer (some ⟨g1, 0, none⟩)), pl 3 (.int .i64 (bOr n3 r1)), pl 7 (.slice A2 m2.length c2), pl 8 (.int .i64 (m2.length : Int)), pl 9 (.int .i64 z1)] hF hS Fol (by kernel_rfl) (by kernel_rfl) (by kernel_rfl) ?_ (fun a w hF hS => ?_)
        · exact obs_cons (ob_loadA (cs := #[.slice A1 m1.length c1, .slice A2 m2.length c2]) (by kernel_rfl) (by kernel_rfl) (fun _ _ hS => (hS.at_ 0 rfl).cellsAt 0 (by rfl))) <| obs_cons (ob_call Try.func114 (by kernel_rfl) rfl (fun _ _ hS => rows_match_owner_w hr1 hS (fun _ hS => (hr_m1 _ (hS.dropN 1))) _hc_m1 rfl (fun _ hS => (hr_m2 _ (hS.dropN 1))) _hc_m2 rfl (fun _ hS => ((hr_m2 _ (hS.dropN 1)).row _ hp1).1) ((hr_m2 _ (hS.dropN 1)).row _ hp1).2 rfl)) <| obs_nil
        refine block_n ?_
        refine then_n ?_
        exact ⟨(bOr n3 r1), hF.weak [1, 3, 7, 8, 9] (by kernel_rfl), hS, hm⟩
    · refine cond_ev (t := 10) (b := decide (z1 < (m2.length : Int))) hF (by kernel_rfl) (fun hb => ?_) (fun hb => ?_)
      · replace hm := if_t hm hb
        refine wp_skip ?_
        refine then_n ?_
        exact ⟨hF.weak [1, 3, 7, 8, 9] (by kernel_rfl), hS, hm⟩
      · replace hm := if_f hm hb
        refine wp_exit ?_
        refine then_e (then_e (block_e (then_n ?_)))
        have hS := hS.pickN 1 [] (by decide)
        rw [← hφ1] at hm
        replace hm := done_b hm
        unfold rows_match_won_K1 at hm
        try dsimp only at hm
        have hm : (rows_match_won_J1 n3).bind some = some r := hm
        exact ⟨n3, hF.weak [3] (by kernel_rfl), hS, hm⟩

noncomputable def slices_Compact_2_m (s1 : List Int) : Option (List Int) :=
  asrt ((s1.length : Int) ≤ bigN) <| some (compI s1)

theorem slices_Compact_2_w {A1 : Option Addr} {c1 : Nat} {n1 : Nat} {s1 : List Int} {r : (List Int)} {w0 w : World} {B : Nat} {fs : List HP} (hm : slices_Compact_2_m s1 = some r) (hS : Sep w0 B w (own 3 (.slice A1 n1 c1) (vI s1) :: fs)) :
    Calls Try.prog 117 #[.slice A1 n1 c1] w fun e w' => ∃ v, e = .returned v ∧ ∃ (A2 : Option Addr) (c2 : Nat), v = .slice A2 r.length c2 ∧ Sep w0 B w' (own 3 (.slice A2 r.length c2) (vI r) :: fs) := by
  unfold slices_Compact_2_m at hm
  obtain ⟨hb, hm⟩ := asrt_b (start_b hm)
  obtain rfl := Option.some.inj hm
  exact compact_own CompactL hS hb

noncomputable def rows_Won_J5 (z1 : Int) (places3 : List Int) : Option (St (List Int × Int) (List Int)) :=
  some (.next (places3, (w64 (z1 + 1))))

noncomputable def rows_Won_J4 (g3 : List Int) (m1 : List (List Int)) (places1 : List Int) (z1 : Int) : Option (St (List Int × Int) (List Int)) :=
  asrt (0 ≤ z1 ∧ z1 < (m1.length : Int)) <| (rows_match_owner_m g3 m1 (geti2 m1 z1)).bind fun r3 => if (decide ((0 : Int) < r3)) then (asrt ((places1.length : Int) + (((geti2 m1 z1).length : Nat) : Int) ≤ bigN) <| (rows_Won_J5 z1) (places1 ++ (geti2 m1 z1))) else ((rows_Won_J5 z1) places1)

noncomputable def rows_Won_J3 (g3 : List Int) (m1 : List (List Int)) (places2 : List Int) : Option (Int × List Int × Int) :=
  (slices_Sort_2_m places2).bind fun r4 => (rows_match_won_m g3 m1).bind fun r5 => (slices_Compact_2_m r4).bind fun r6 => some (r5, r6, 0)

noncomputable def rows_Won_K1 (g3 : List Int) (m1 : List (List Int)) : (List Int) → Option (Int × List Int × Int) :=
  fun (x : (List Int)) => match x with | places2 => (rows_Won_J3 g3 m1) places2

noncomputable def rows_Won_L1 (g3 : List Int) (m1 : List (List Int)) : (List Int × Int) → Option (St (List Int × Int) (List Int)) :=
  fun (x : (List Int × Int)) => match x with | (places1, z1) => if (decide (z1 < (m1.length : Int))) then ((rows_Won_J4 g3 m1 places1 z1)) else (some (.done places1))

noncomputable def rows_Won_J2 (g3 : List Int) (m1 : List (List Int)) : Option (Int × List Int × Int) :=
  (loop (rows_Won_L1 g3 m1) (([] : List Int), 0)).bind (rows_Won_K1 g3 m1)

noncomputable def rows_Won_J1 (g1 : Int) (g2 : Int) (g3 : List Int) (k1 : Int) : Option (Int × List Int × Int) :=
  (rows_lines_m g1 g2 k1).bind fun r2 => (rows_Won_J2 g3) r2

noncomputable def rows_Won_m (g1 : Int) (g2 : Int) (g3 : List Int) (k1 : Int) : Option (Int × List Int × Int) :=
  (rows_May_m g1 g2 g3).bind fun r1 => if (!r1) then (some (0, ([] : List Int), 12)) else (if ((decide (k1 < 1)) || (decide ((10 : Int) < k1))) then (some (0, ([] : List Int), 3)) else ((rows_Won_J1 g1 g2 g3 k1)))

set_option maxRecDepth 100000 in
set_option maxHeartbeats 4000000 in
theorem rows_Won_w {g1 : Int} {g2 : Int} {A1 : Option Addr} {c1 : Nat} {n1 : Nat} {g3 : List Int} {k1 : Int} {r : (Int × List Int × Int)} {w0 w : World} {B : Nat} {fs : List HP} (hm : rows_Won_m g1 g2 g3 k1 = some r) (hS : Sep w0 B w (fs)) (hr_g3 : RdF w0 B fs A1 (vI g3)) (_hc_g3 : g3.length ≤ c1) (_hn_g3 : n1 = g3.length) :
    Calls Try.prog 51 #[.agg #[.int .i64 g1, .int .i64 g2, .slice A1 n1 c1], .int .i64 k1] w fun e w' => ∃ v, e = .returned v ∧ ∃ (A11 : Option Addr) (c11 : Nat), v = .tuple #[.int .i64 r.1, .slice A11 r.2.1.length c11, .int .i64 r.2.2] ∧ Sep w0 B w' (own 3 (.slice A11 r.2.1.length c11) (vI r.2.1) :: fs) := by
  obtain ⟨i3, hi3, hz3, hs3, hb3⟩ := info_parts Info3
  obtain ⟨i34, hi34, hz34, hs34, hb34⟩ := info_parts Info34
  obtain rfl := _hn_g3
  unfold rows_Won_m at hm
  replace hm := start_b hm
  refine enter (l := [.agg #[.int .i64 g1, .int .i64 g2, .slice A1 g3.length c1], .int .i64 k1]) (n := 52) Try.func51 rfl rfl (by simp) (fun a hF => ?_)
  refine seqR ?_
  refine at_do (d := 2) (s := vS (Instr.box 93 (.agg #[.int .i64 g1, .int .i64 g2, .slice A1 g3.length c1]))) (v := .pointer (some ⟨w.heap.size, 0, none⟩)) (w' := w.alloc (.cells #[.int .i64 g1, .int .i64 g2, .slice A1 g3.length c1] 93)) hF (by kernel_rfl) (by kernel_rfl) (by kernel_rfl) (fun a hF => ?_)
  have hS : Sep w0 B (w.alloc (.cells #[.int .i64 g1, .int .i64 g2, .slice A1 g3.length c1] 93)) (blk w.heap.size 93 #[.int .i64 g1, .int .i64 g2, .slice A1 g3.length c1] :: (fs)) := hS.box 93 #[.int .i64 g1, .int .i64 g2, .slice A1 g3.length c1]
  generalize w.heap.size = g4 at hF hS
  generalize w.alloc (.cells #[.int .i64 g1, .int .i64 g2, .slice A1 g3.length c1] 93) = w at hS ⊢
  refine at_run 3 [] [] [1, 2] [pl 1 (.int .i64 k1), pl 2 (.pointer (some ⟨g4, 0, none⟩))] hF hS (by kernel_rfl) (by kernel_rfl) ?_ (fun a w hF hS => ?_)
  · exact obs_nil
  refine at_end [1, 2] [pl 1 (.int .i64 k1), pl 2 (.pointer (some ⟨g4, 0, none⟩))] hF rfl (by kernel_rfl) (fun hF => ?_)
  refine then_n ?_
  refine seq_cut (fun a w => Fr 52 [pl 1 (.int .i64 k1), pl 2 (.pointer (some ⟨g4, 0, none⟩))] a ∧ Sep w0 B w (blk g4 93 #[.int .i64 g1, .int .i64 g2, .slice A1 g3.length c1] :: fs) ∧ ((rows_Won_J1 g1 g2 g3 k1)).bind some = some r) ?_ ?_
  · rintro a w ⟨hF, hS, hm⟩
    unfold rows_Won_J1 at hm
    refine seq_cut (fun a w => ∃ (m1 : List (List Int)) (g6 : Nat) (A4 : Option Addr) (c4 : Nat) (hd3 : List Hd), Fr 52 [pl 7 (.pointer (some ⟨g6, 0, none⟩))] a ∧ Sep w0 B w (blk g6 148 #[.slice A1 g3.length c1, .slice A4 m1.length c4] :: rows 34 3 (.slice A4 m1.length c4) hd3 m1 :: fs) ∧ ((rows_Won_J2 g3) m1).bind some = some r) ?_ ?_
    · rintro a w ⟨m1, g6, A4, c4, hd3, hF, hS, hm⟩
      unfold rows_Won_J2 at hm
      refine reg [] [] [7, 8] [pl 7 (.pointer (some ⟨g6, 0, none⟩)), pl 8 (.slice none 0 0)] hF hS Fol (by kernel_rfl) (by kernel_rfl) (by kernel_rfl) ?_ (fun a w hF hS => ?_)
      · exact obs_nil
      refine seq_cut (fun a w => ∃ (places2 : List Int) (A7 : Option Addr) (c7 : Nat), Fr 52 [pl 7 (.pointer (some ⟨g6, 0, none⟩)), pl 8 (.slice A7 places2.length c7)] a ∧ Sep w0 B w (blk g6 148 #[.slice A1 g3.length c1, .slice A4 m1.length c4] :: rows 34 3 (.slice A4 m1.length c4) hd3 m1 :: own 3 (.slice A7 places2.length c7) (vI places2) :: fs) ∧ ((rows_Won_J3 g3 m1) places2).bind some = some r) ?_ ?_
      · rintro a w ⟨places2, A7, c7, hF, hS, hm⟩
        unfold rows_Won_J3 at hm
        refine seqR ?_
        obtain ⟨r4, hr4, hm⟩ := call_b hm
        refine at_run 1 [] [] [7, 8, 46] [pl 7 (.pointer (some ⟨g6, 0, none⟩)), pl 8 (.slice A7 places2.length c7), pl 46 (.slice A7 places2.length c7)] hF hS (by kernel_rfl) (by kernel_rfl) ?_ (fun a w hF hS => ?_)
        · exact obs_nil
        have hS : Sep w0 B w (own 3 (.slice A7 places2.length c7) (vI places2) :: blk g6 148 #[.slice A1 g3.length c1, .slice A4 m1.length c4] :: rows 34 3 (.slice A4 m1.length c4) hd3 m1 :: fs) := hS.pickN 3 [2, 0, 1] (by decide)
        refine at_call (f := 115) (args := #[.slice A7 places2.length c7]) (d := 47) hF (by kernel_rfl) (by kernel_rfl) Try.func115 (by kernel_rfl) rfl (slices_Sort_2_w hr4 hS ) (fun v a w hR hF => ?_)
        clear hS
        obtain ⟨rfl, hS⟩ := hR
        have hS : Sep w0 B w (own 3 (.slice A7 places2.length c7) (vI r4) :: blk g6 148 #[.slice A1 g3.length c1, .slice A4 m1.length c4] :: rows 34 3 (.slice A4 m1.length c4) hd3 m1 :: fs) := hS
        refine at_end [7, 8] [pl 7 (.pointer (some ⟨g6, 0, none⟩)), pl 8 (.slice A7 places2.length c7)] hF rfl (by kernel_rfl) (fun hF => ?_)
        refine then_n ?_
        refine seqR ?_
        obtain ⟨r5, hr5, hm⟩ := call_b hm
        obtain ⟨r6, hr6, hm⟩ := call_b hm
        refine at_run 3 [⟨false, [], vS (Instr.loadAt 148 (.pointer (some ⟨g6, 0, none⟩))), .agg #[.slice A1 g3.length c1, .slice A4 m1.length c4]⟩, ⟨false, [], callFunc 116 #[.agg #[.slice A1 g3.length c1, .slice A4 m1.length c4]], .int .i64 r5⟩] [some (.agg #[.slice A1 g3.length c1, .slice A4 m1.length c4]), some (.int .i64 r5), none] [49, 50] [pl 49 (.int .i64 r5), pl 50 (.slice A7 places2.length c7)] hF hS (by kernel_rfl) (by kernel_rfl) ?_ (fun a w hF hS => ?_)
        · exact obs_cons (ob_loadA (cs := #[.slice A1 g3.length c1, .slice A4 m1.length c4]) (by kernel_rfl) (by kernel_rfl) (fun _ _ hS => (hS.at_ 1 rfl).cellsAt 0 (by rfl))) <| obs_cons (ob_call Try.func116 (by kernel_rfl) rfl (fun _ _ hS => rows_match_won_w hr5 hS (fun _ hS => (hr_g3 _ (hS.dropN 3))) _hc_g3 rfl (fun _ hS => (hS.at_ 2 rfl).rdRows) (hS.at_ 2 rfl).rowsLen.2 (hS.at_ 2 rfl).lenR)) <| obs_nil
        refine at_call (f := 117) (args := #[.slice A7 places2.length c7]) (d := 51) hF (by kernel_rfl) (by kernel_rfl) Try.func117 (by kernel_rfl) rfl (slices_Compact_2_w hr6 hS ) (fun v a w hR hF => ?_)
        clear hS
        obtain ⟨A10, c10, rfl, hS⟩ := hR
        have hS : Sep w0 B w (own 3 (.slice A10 r6.length c10) (vI r6) :: blk g6 148 #[.slice A1 g3.length c1, .slice A4 m1.length c4] :: rows 34 3 (.slice A4 m1.length c4) hd3 m1 :: fs) := hS
        refine at_run 3 [] [] [4, 5, 6] [pl 4 (.int .i64 r5), pl 5 (.slice A10 r6.length c10), pl 6 (.int .i64 0)] hF hS (by kernel_rfl) (by kernel_rfl) ?_ (fun a w hF hS => ?_)
        · exact obs_nil
        refine at_end [4, 5, 6] [pl 4 (.int .i64 r5), pl 5 (.slice A10 r6.length c10), pl 6 (.int .i64 0)] hF rfl (by kernel_rfl) (fun hF => ?_)
        refine then_n ?_
        refine wp_ret ?_
        have hS := hS.pickN 3 [0] (by decide)
        have hm : some (r5, r6, 0) = some r := hm
        obtain rfl := Option.some.inj hm
        exact retV (rs := [.tmp 4, .tmp 5, .tmp 6]) (vs := [.int .i64 r5, .slice A10 r6.length c10, .int .i64 0]) hF rfl (rv_t (by kernel_rfl) <| rv_t (by kernel_rfl) <| rv_t (by kernel_rfl) <| rv_nil) rfl ⟨_, rfl, A10, c10, rfl, hS⟩
      · refine reg [⟨false, [], vS (Instr.loadAt 69 (.pointer (some ⟨g6, 1, none⟩))), .slice A4 m1.length c4⟩] [none, some (.slice A4 m1.length c4), none, none] [7, 8, 32, 33, 34] [pl 7 (.pointer (some ⟨g6, 0, none⟩)), pl 8 (.slice none 0 0), pl 32 (.slice A4 m1.length c4), pl 33 (.int .i64 (m1.length : Int)), pl 34 (.int .i64 0)] hF hS Fol (by kernel_rfl) (by kernel_rfl) (by kernel_rfl) ?_ (fun a w hF hS => ?_)
        · exact obs_cons (ob_load Agg69 (fun _ _ hS => (hS.at_ 0 rfl).cell rfl)) <| obs_nil
        refine wp_block ?_
        have hS : Sep w0 B w (own 3 (.slice none 0 0) (vI ([] : List Int)) :: blk g6 148 #[.slice A1 g3.length c1, .slice A4 m1.length c4] :: rows 34 3 (.slice A4 m1.length c4) hd3 m1 :: fs) := hS.nil 3
        have hl3 := (hS.at_ 0 rfl).len1
        have hS := (hS.at_ 0 rfl).reN hl3
        have hS : Sep w0 B w (own 3 (.slice none (([] : List Int).length) 0) (vI ([] : List Int)) :: blk g6 148 #[.slice A1 g3.length c1, .slice A4 m1.length c4] :: rows 34 3 (.slice A4 m1.length c4) hd3 m1 :: fs) := hS
        have hF := hF.cast (t := 8) (v := .slice none 0 0) (v' := .slice none (([] : List Int).length) 0) rfl rfl (congrArg (fun k => Value.slice none k 0) hl3)
        have hS := hS.pickN 3 [1, 2, 0] (by decide)
        refine wp_loop_model (S := (List Int × Int)) (R := (List Int)) (rows_Won_L1 g3 m1) (fun x => ((rows_Won_K1 g3 m1) x).bind some) r (fun (x : (List Int × Int)) a w => ∃ (A6 : Option Addr) (c6 : Nat), Fr 52 [pl 7 (.pointer (some ⟨g6, 0, none⟩)), pl 8 (.slice A6 x.1.length c6), pl 32 (.slice A4 m1.length c4), pl 33 (.int .i64 (m1.length : Int)), pl 34 (.int .i64 x.2)] a ∧ Sep w0 B w (blk g6 148 #[.slice A1 g3.length c1, .slice A4 m1.length c4] :: rows 34 3 (.slice A4 m1.length c4) hd3 m1 :: own 3 (.slice A6 x.1.length c6) (vI x.1) :: fs)) (assoc_b hm) ⟨none, 0, hF.weak [7, 8, 32, 33, 34] (by kernel_rfl), hS⟩ ?_
        clear hF hS hm
        rintro nn1 ⟨places1, z1⟩ a w ⟨A6, c6, hF, hS⟩ hm
        generalize hφ1 : stK (rows_Won_L1 g3 m1) nn1 (fun x => ((rows_Won_K1 g3 m1) x).bind some) = φ1 at hm
        unfold rows_Won_L1 at hm
        dsimp only at hF hS hm
        refine reg [] [] [7, 8, 32, 33, 34, 35] [pl 7 (.pointer (some ⟨g6, 0, none⟩)), pl 8 (.slice A6 places1.length c6), pl 32 (.slice A4 m1.length c4), pl 33 (.int .i64 (m1.length : Int)), pl 34 (.int .i64 z1), pl 35 (.bool (decide (z1 < (m1.length : Int))))] hF hS Fol (by kernel_rfl) (by kernel_rfl) (by kernel_rfl) ?_ (fun a w hF hS => ?_)
        · exact obs_nil
        refine seq_cut (fun a w => Fr 52 [pl 7 (.pointer (some ⟨g6, 0, none⟩)), pl 8 (.slice A6 places1.length c6), pl 32 (.slice A4 m1.length c4), pl 33 (.int .i64 (m1.length : Int)), pl 34 (.int .i64 z1)] a ∧ Sep w0 B w (blk g6 148 #[.slice A1 g3.length c1, .slice A4 m1.length c4] :: rows 34 3 (.slice A4 m1.length c4) hd3 m1 :: own 3 (.slice A6 places1.length c6) (vI places1) :: fs) ∧ ((rows_Won_J4 g3 m1 places1 z1)).bind φ1 = some r) ?_ ?_
        · rintro a w ⟨hF, hS, hm⟩
          unfold rows_Won_J4 at hm
          refine seq_cut (fun a w => ∃ (places3 : List Int) (A9 : Option Addr) (c9 : Nat), Fr 52 [pl 7 (.pointer (some ⟨g6, 0, none⟩)), pl 8 (.slice A9 places3.length c9), pl 32 (.slice A4 m1.length c4), pl 33 (.int .i64 (m1.length : Int)), pl 34 (.int .i64 z1)] a ∧ Sep w0 B w (blk g6 148 #[.slice A1 g3.length c1, .slice A4 m1.length c4] :: rows 34 3 (.slice A4 m1.length c4) hd3 m1 :: own 3 (.slice A9 places3.length c9) (vI places3) :: fs) ∧ ((rows_Won_J5 z1) places3).bind φ1 = some r) ?_ ?_
          · rintro a w ⟨places3, A9, c9, hF, hS, hm⟩
            unfold rows_Won_J5 at hm
            refine reg1 [] [] [7, 8, 32, 33, 34] [pl 7 (.pointer (some ⟨g6, 0, none⟩)), pl 8 (.slice A9 places3.length c9), pl 32 (.slice A4 m1.length c4), pl 33 (.int .i64 (m1.length : Int)), pl 34 (.int .i64 (w64 (z1 + 1)))] hF hS Fol (by kernel_rfl) (by kernel_rfl) (by kernel_rfl) ?_ (fun a w hF hS => ?_)
            · exact obs_nil
            refine then_n ?_
            rw [← hφ1] at hm
            exact ⟨(places3, (w64 (z1 + 1))), ⟨A9, c9, hF.weak [7, 8, 32, 33, 34] (by kernel_rfl), hS⟩, hm⟩
          · refine wp_block ?_
            obtain ⟨hp1, hm⟩ := asrt_b hm
            have hb1 := rowb (n := m1.length) (hS.at_ 1 rfl).lenR hp1
            refine reg [⟨true, [], vS (Instr.indexAt 69 (.slice A4 m1.length c4) (.int .i64 z1)), .pointer (some (sAddr A4 z1))⟩, ⟨false, [], vS (Instr.loadAt 34 (.pointer (some (sAddr A4 z1)))), .slice (hdA hd3 z1) ((geti2 m1 z1).length) (hdC hd3 z1)⟩] [some (.pointer (some (sAddr A4 z1))), some (.slice (hdA hd3 z1) ((geti2 m1 z1).length) (hdC hd3 z1)), none] [7, 8, 10, 32, 33, 34] [pl 7 (.pointer (some ⟨g6, 0, none⟩)), pl 8 (.slice A6 places1.length c6), pl 10 (.slice (hdA hd3 z1) ((geti2 m1 z1).length) (hdC hd3 z1)), pl 32 (.slice A4 m1.length c4), pl 33 (.int .i64 (m1.length : Int)), pl 34 (.int .i64 z1)] hF hS Fol (by kernel_rfl) (by kernel_rfl) (by kernel_rfl) ?_ (fun a w hF hS => ?_)
            · exact obs_cons (ob_ixRn Und69 hi34 hs34 (hS.at_ 1 rfl).rdRows (hS.at_ 1 rfl).lenR (fun _ => hp1)) <| obs_cons (ob_getR Agg34 (fun _ hS => ⟨_, (hS.at_ 1 rfl).rdRows⟩) (fun _ => hb1)) <| obs_nil
            obtain ⟨r3, hr3, hm⟩ := call_b hm
            refine reg [⟨false, [], vS (Instr.loadAt 148 (.pointer (some ⟨g6, 0, none⟩))), .agg #[.slice A1 g3.length c1, .slice A4 m1.length c4]⟩, ⟨false, [], callFunc 114 #[.agg #[.slice A1 g3.length c1, .slice A4 m1.length c4], .slice (hdA hd3 z1) ((geti2 m1 z1).length) (hdC hd3 z1)], .int .i64 r3⟩] [some (.agg #[.slice A1 g3.length c1, .slice A4 m1.length c4]), none, some (.int .i64 r3), none] [7, 8, 10, 32, 33, 34, 41] [pl 7 (.pointer (some ⟨g6, 0, none⟩)), pl 8 (.slice A6 places1.length c6), pl 10 (.slice (hdA hd3 z1) ((geti2 m1 z1).length) (hdC hd3 z1)), pl 32 (.slice A4 m1.length c4), pl 33 (.int .i64 (m1.length : Int)), pl 34 (.int .i64 z1), pl 41 (.bool (decide ((0 : Int) < r3)))] hF hS Fol (by kernel_rfl) (by kernel_rfl) (by kernel_rfl) ?_ (fun a w hF hS => ?_)
            · exact obs_cons (ob_loadA (cs := #[.slice A1 g3.length c1, .slice A4 m1.length c4]) (by kernel_rfl) (by kernel_rfl) (fun _ _ hS => (hS.at_ 0 rfl).cellsAt 0 (by rfl))) <| obs_cons (ob_call Try.func114 (by kernel_rfl) rfl (fun _ _ hS => rows_match_owner_w hr3 hS (fun _ hS => (hr_g3 _ (hS.dropN 3))) _hc_g3 rfl (fun _ hS => (hS.at_ 1 rfl).rdRows) (hS.at_ 1 rfl).rowsLen.2 (hS.at_ 1 rfl).lenR (fun _ hS => ((hS.at_ 1 rfl).rdRows.row _ hb1).1) ((hS.at_ 1 rfl).rdRows.row _ hb1).2 rfl)) <| obs_nil
            refine cond_ev (t := 41) (b := decide ((0 : Int) < r3)) hF (by kernel_rfl) (fun hb => ?_) (fun hb => ?_)
            · replace hm := if_t hm hb
              refine oneR ?_
              obtain ⟨hp2, hm⟩ := asrt_b hm
              refine at_run 2 [] [] [7, 32, 33, 34, 42, 43] [pl 7 (.pointer (some ⟨g6, 0, none⟩)), pl 32 (.slice A4 m1.length c4), pl 33 (.int .i64 (m1.length : Int)), pl 34 (.int .i64 z1), pl 42 (.slice A6 places1.length c6), pl 43 (.slice (hdA hd3 z1) ((geti2 m1 z1).length) (hdC hd3 z1))] hF hS (by kernel_rfl) (by kernel_rfl) ?_ (fun a w hF hS => ?_)
              · exact obs_nil
              obtain ⟨A8, c8, w, hrun, hS⟩ := run_app1 (P := Try.prog) (t := 34) (m := places1) (ys := (geti2 m1 z1)) (A2 := (hdA hd3 z1)) (m2 := (geti2 m1 z1).length) (c2 := (hdC hd3 z1)) (Value.int .i64) (0 : Int) (hS.at_ 2 rfl) ((hS.at_ 1 rfl).rdRows.row _ hb1).1 rfl 34 Und34 hi3 hz3 hs3 (by omega) rfl (fun _ => rfl) hp2
              have hS : Sep w0 B w (blk g6 148 #[.slice A1 g3.length c1, .slice A4 m1.length c4] :: rows 34 3 (.slice A4 m1.length c4) hd3 m1 :: own 3 (.slice A8 ((places1 ++ (geti2 m1 z1)).length) c8) (vI (places1 ++ (geti2 m1 z1))) :: fs) := hS
              refine at_do (d := 44) hF (by kernel_rfl) (by kernel_rfl) hrun (fun a hF => ?_)
              refine at_run 1 [] [] [7, 8, 32, 33, 34] [pl 7 (.pointer (some ⟨g6, 0, none⟩)), pl 8 (.slice A8 ((places1 ++ (geti2 m1 z1)).length) c8), pl 32 (.slice A4 m1.length c4), pl 33 (.int .i64 (m1.length : Int)), pl 34 (.int .i64 z1)] hF hS (by kernel_rfl) (by kernel_rfl) ?_ (fun a w hF hS => ?_)
              · exact obs_nil
              refine at_end [7, 8, 32, 33, 34] [pl 7 (.pointer (some ⟨g6, 0, none⟩)), pl 8 (.slice A8 ((places1 ++ (geti2 m1 z1)).length) c8), pl 32 (.slice A4 m1.length c4), pl 33 (.int .i64 (m1.length : Int)), pl 34 (.int .i64 z1)] hF rfl (by kernel_rfl) (fun hF => ?_)
              refine block_n ?_
              refine then_n ?_
              exact ⟨(places1 ++ (geti2 m1 z1)), A8, c8, hF.weak [7, 8, 32, 33, 34] (by kernel_rfl), hS, hm⟩
            · replace hm := if_f hm hb
              refine wp_skip ?_
              refine block_n ?_
              refine then_n ?_
              exact ⟨places1, A6, c6, hF.weak [7, 8, 32, 33, 34] (by kernel_rfl), hS, hm⟩
        · refine cond_ev (t := 35) (b := decide (z1 < (m1.length : Int))) hF (by kernel_rfl) (fun hb => ?_) (fun hb => ?_)
          · replace hm := if_t hm hb
            refine wp_skip ?_
            refine then_n ?_
            exact ⟨hF.weak [7, 8, 32, 33, 34] (by kernel_rfl), hS, hm⟩
          · replace hm := if_f hm hb
            refine wp_exit ?_
            refine then_e (then_e (block_e (then_n ?_)))
            rw [← hφ1] at hm
            replace hm := done_b hm
            unfold rows_Won_K1 at hm
            try dsimp only at hm
            have hm : ((rows_Won_J3 g3 m1) places1).bind some = some r := hm
            exact ⟨places1, A6, c6, hF.weak [7, 8] (by kernel_rfl), hS, hm⟩
    · obtain ⟨r2, hr2, hm⟩ := call_b hm
      refine regMix5 [0, 1, 2, 3, 4, 5, 6] [] 4 #[true, true, true, true, true, true, true, false, false, false, false] [⟨false, [], vS (Instr.loadAt 34 (.pointer (some ⟨g4, 2, none⟩))), .slice A1 g3.length c1⟩, ⟨false, [], vS (Instr.loadAt 3 (.pointer (some ⟨g4, 0, none⟩))), .int .i64 g1⟩, ⟨false, [], vS (Instr.loadAt 3 (.pointer (some ⟨g4, 1, none⟩))), .int .i64 g2⟩] [none, some (.slice A1 g3.length c1), none, some (.int .i64 g1), none, some (.int .i64 g2), none] [23, 25, 27, 28] [pl 23 (.slice A1 g3.length c1), pl 25 (.int .i64 g1), pl 27 (.int .i64 g2), pl 28 (.int .i64 k1)] hF hS Fol (by kernel_rfl) (by kernel_rfl) (by kernel_rfl) (by kernel_rfl) ?_ (fun a w hF hS => ?_)
      · exact obs_cons (ob_load Agg34 (fun _ _ hS => (hS.at_ 0 rfl).cell rfl)) <| obs_cons (ob_load Agg3 (fun _ _ hS => (hS.at_ 0 rfl).cell rfl)) <| obs_cons (ob_load Agg3 (fun _ _ hS => (hS.at_ 0 rfl).cell rfl)) <| obs_nil
      refine any_step [7, 9] (by kernel_rfl) rfl ?_
      refine (all_cons ?_ (all_cons ?_ all_nil))
      · refine any_op (listed' := #[true, true, true, true, true, true, true, true, false, false, false]) (by kernel_rfl) (by kernel_rfl) ?_
        refine at_call (f := 113) (args := #[.int .i64 g1, .int .i64 g2, .int .i64 k1]) (d := 29) hF (by kernel_rfl) (by kernel_rfl) Try.func113 (by kernel_rfl) rfl (rows_lines_w hr2 hS ) (fun v a w hR hF => ?_)
        clear hS
        obtain ⟨A3, c3, hd2, rfl, hS⟩ := hR
        have hS : Sep w0 B w (rows 34 3 (.slice A3 r2.length c3) hd2 r2 :: blk g4 93 #[.int .i64 g1, .int .i64 g2, .slice A1 g3.length c1] :: fs) := hS
        refine any_fin rfl (hS.pickN 2 [1] (by decide)) ?_
        refine any_step [8, 9] (by kernel_rfl) rfl ?_
        refine (all_cons ?_ (all_cons ?_ all_nil))
        · refine any_op (listed' := #[true, true, true, true, true, true, true, true, true, false, false]) (by kernel_rfl) (by kernel_rfl) ?_
          refine at_runW 1 [] [] [30] [pl 30 (.agg #[.slice A1 g3.length c1, .slice A3 r2.length c3])] hF hS (by kernel_rfl) (by kernel_rfl) ?_ (fun a hF => ?_)
          · exact obs_nil
          refine any_finI rfl (fun h => h) ?_
          refine any_step [9] (by kernel_rfl) rfl ?_
          refine (all_cons ?_ all_nil)
          · refine any_op (listed' := #[true, true, true, true, true, true, true, true, true, true, false]) (by kernel_rfl) (by kernel_rfl) ?_
            refine at_do (d := 7) (s := vS (Instr.alloc 148 true (.tuple #[]))) (v := .pointer (some ⟨w.heap.size, 0, none⟩)) (w' := w.alloc (.cells #[.slice none 0 0, .slice none 0 0] 148)) hF (by kernel_rfl) (by kernel_rfl) (by kernel_rfl) (fun a hF => ?_)
            have hS : Sep w0 B (w.alloc (.cells #[.slice none 0 0, .slice none 0 0] 148)) (blk w.heap.size 148 #[.slice none 0 0, .slice none 0 0] :: (rows 34 3 (.slice A3 r2.length c3) hd2 r2 :: blk g4 93 #[.int .i64 g1, .int .i64 g2, .slice A1 g3.length c1] :: fs)) := hS.box 148 #[.slice none 0 0, .slice none 0 0]
            generalize w.heap.size = g5 at hF hS
            generalize w.alloc (.cells #[.slice none 0 0, .slice none 0 0] 148) = w at hS ⊢
            refine any_fin rfl (hS.pickN 3 [2] (by decide)) ?_
            refine any_step [10] (by kernel_rfl) rfl ?_
            refine (all_cons ?_ all_nil)
            · refine any_op (listed' := #[true, true, true, true, true, true, true, true, true, true, true]) (by kernel_rfl) (by kernel_rfl) ?_
              obtain ⟨w, hrun, hS⟩ := run_putA (P := Try.prog) (t := 148) (us := #[.slice A1 g3.length c1, .slice A3 r2.length c3]) (o := 0) (hS.at_ 0 rfl) (by kernel_rfl) (all_one (by kernel_rfl)) (Nat.le_of_ble_eq_true (by kernel_rfl))
              refine at_skip hF (by kernel_rfl) hrun ?_
              have hS : Sep w0 B w (blk g5 148 #[.slice A1 g3.length c1, .slice A3 r2.length c3] :: rows 34 3 (.slice A3 r2.length c3) hd2 r2 :: blk g4 93 #[.int .i64 g1, .int .i64 g2, .slice A1 g3.length c1] :: fs) := hS
              refine any_fin rfl (hS.pickN 3 [2] (by decide)) ?_
              refine any_end (by kernel_rfl) ?_
              refine np_n ?_
              refine then_n ?_
              have hS := hS.pickN 3 [0, 1] (by decide)
              exact ⟨r2, g5, A3, c3, hd2, hF.weak [7] (by kernel_rfl), hS, hm⟩
        · refine any_op (listed' := #[true, true, true, true, true, true, true, true, false, true, false]) (by kernel_rfl) (by kernel_rfl) ?_
          refine at_do (d := 7) (s := vS (Instr.alloc 148 true (.tuple #[]))) (v := .pointer (some ⟨w.heap.size, 0, none⟩)) (w' := w.alloc (.cells #[.slice none 0 0, .slice none 0 0] 148)) hF (by kernel_rfl) (by kernel_rfl) (by kernel_rfl) (fun a hF => ?_)
          have hS : Sep w0 B (w.alloc (.cells #[.slice none 0 0, .slice none 0 0] 148)) (blk w.heap.size 148 #[.slice none 0 0, .slice none 0 0] :: (rows 34 3 (.slice A3 r2.length c3) hd2 r2 :: blk g4 93 #[.int .i64 g1, .int .i64 g2, .slice A1 g3.length c1] :: fs)) := hS.box 148 #[.slice none 0 0, .slice none 0 0]
          generalize w.heap.size = g5 at hF hS
          generalize w.alloc (.cells #[.slice none 0 0, .slice none 0 0] 148) = w at hS ⊢
          refine any_fin rfl (hS.pickN 3 [2] (by decide)) ?_
          refine any_step [8] (by kernel_rfl) rfl ?_
          refine (all_cons ?_ all_nil)
          · refine any_op (listed' := #[true, true, true, true, true, true, true, true, true, true, false]) (by kernel_rfl) (by kernel_rfl) ?_
            refine at_runW 1 [] [] [7, 30] [pl 7 (.pointer (some ⟨g5, 0, none⟩)), pl 30 (.agg #[.slice A1 g3.length c1, .slice A3 r2.length c3])] hF hS (by kernel_rfl) (by kernel_rfl) ?_ (fun a hF => ?_)
            · exact obs_nil
            refine any_finI rfl (fun h => h) ?_
            refine any_step [10] (by kernel_rfl) rfl ?_
            refine (all_cons ?_ all_nil)
            · refine any_op (listed' := #[true, true, true, true, true, true, true, true, true, true, true]) (by kernel_rfl) (by kernel_rfl) ?_
              obtain ⟨w, hrun, hS⟩ := run_putA (P := Try.prog) (t := 148) (us := #[.slice A1 g3.length c1, .slice A3 r2.length c3]) (o := 0) (hS.at_ 0 rfl) (by kernel_rfl) (all_one (by kernel_rfl)) (Nat.le_of_ble_eq_true (by kernel_rfl))
              refine at_skip hF (by kernel_rfl) hrun ?_
              have hS : Sep w0 B w (blk g5 148 #[.slice A1 g3.length c1, .slice A3 r2.length c3] :: rows 34 3 (.slice A3 r2.length c3) hd2 r2 :: blk g4 93 #[.int .i64 g1, .int .i64 g2, .slice A1 g3.length c1] :: fs) := hS
              refine any_fin rfl (hS.pickN 3 [2] (by decide)) ?_
              refine any_end (by kernel_rfl) ?_
              refine np_n ?_
              refine then_n ?_
              have hS := hS.pickN 3 [0, 1] (by decide)
              exact ⟨r2, g5, A3, c3, hd2, hF.weak [7] (by kernel_rfl), hS, hm⟩
      · refine any_op (listed' := #[true, true, true, true, true, true, true, false, false, true, false]) (by kernel_rfl) (by kernel_rfl) ?_
        refine at_do (d := 7) (s := vS (Instr.alloc 148 true (.tuple #[]))) (v := .pointer (some ⟨w.heap.size, 0, none⟩)) (w' := w.alloc (.cells #[.slice none 0 0, .slice none 0 0] 148)) hF (by kernel_rfl) (by kernel_rfl) (by kernel_rfl) (fun a hF => ?_)
        have hS : Sep w0 B (w.alloc (.cells #[.slice none 0 0, .slice none 0 0] 148)) (blk w.heap.size 148 #[.slice none 0 0, .slice none 0 0] :: (blk g4 93 #[.int .i64 g1, .int .i64 g2, .slice A1 g3.length c1] :: fs)) := hS.box 148 #[.slice none 0 0, .slice none 0 0]
        generalize w.heap.size = g5 at hF hS
        generalize w.alloc (.cells #[.slice none 0 0, .slice none 0 0] 148) = w at hS ⊢
        refine any_fin rfl (hS.pickN 2 [1] (by decide)) ?_
        refine any_step [7] (by kernel_rfl) rfl ?_
        refine (all_cons ?_ all_nil)
        · refine any_op (listed' := #[true, true, true, true, true, true, true, true, false, true, false]) (by kernel_rfl) (by kernel_rfl) ?_
          refine at_call (f := 113) (args := #[.int .i64 g1, .int .i64 g2, .int .i64 k1]) (d := 29) hF (by kernel_rfl) (by kernel_rfl) Try.func113 (by kernel_rfl) rfl (rows_lines_w hr2 hS ) (fun v a w hR hF => ?_)
          clear hS
          obtain ⟨A5, c5, hd4, rfl, hS⟩ := hR
          have hS : Sep w0 B w (rows 34 3 (.slice A5 r2.length c5) hd4 r2 :: blk g5 148 #[.slice none 0 0, .slice none 0 0] :: blk g4 93 #[.int .i64 g1, .int .i64 g2, .slice A1 g3.length c1] :: fs) := hS
          refine any_fin rfl (hS.pickN 3 [2] (by decide)) ?_
          refine any_step [8] (by kernel_rfl) rfl ?_
          refine (all_cons ?_ all_nil)
          · refine any_op (listed' := #[true, true, true, true, true, true, true, true, true, true, false]) (by kernel_rfl) (by kernel_rfl) ?_
            refine at_runW 1 [] [] [7, 30] [pl 7 (.pointer (some ⟨g5, 0, none⟩)), pl 30 (.agg #[.slice A1 g3.length c1, .slice A5 r2.length c5])] hF hS (by kernel_rfl) (by kernel_rfl) ?_ (fun a hF => ?_)
            · exact obs_nil
            refine any_finI rfl (fun h => h) ?_
            refine any_step [10] (by kernel_rfl) rfl ?_
            refine (all_cons ?_ all_nil)
            · refine any_op (listed' := #[true, true, true, true, true, true, true, true, true, true, true]) (by kernel_rfl) (by kernel_rfl) ?_
              obtain ⟨w, hrun, hS⟩ := run_putA (P := Try.prog) (t := 148) (us := #[.slice A1 g3.length c1, .slice A5 r2.length c5]) (o := 0) (hS.at_ 1 rfl) (by kernel_rfl) (all_one (by kernel_rfl)) (Nat.le_of_ble_eq_true (by kernel_rfl))
              refine at_skip hF (by kernel_rfl) hrun ?_
              have hS : Sep w0 B w (rows 34 3 (.slice A5 r2.length c5) hd4 r2 :: blk g5 148 #[.slice A1 g3.length c1, .slice A5 r2.length c5] :: blk g4 93 #[.int .i64 g1, .int .i64 g2, .slice A1 g3.length c1] :: fs) := hS
              refine any_fin rfl (hS.pickN 3 [2] (by decide)) ?_
              refine any_end (by kernel_rfl) ?_
              refine np_n ?_
              refine then_n ?_
              have hS := hS.pickN 3 [1, 0] (by decide)
              exact ⟨r2, g5, A5, c5, hd4, hF.weak [7] (by kernel_rfl), hS, hm⟩
  · refine wp_block ?_
    obtain ⟨r1, hr1, hm⟩ := call_b hm
    refine reg [⟨false, [], vS (Instr.loadAt 93 (.pointer (some ⟨g4, 0, none⟩))), .agg #[.int .i64 g1, .int .i64 g2, .slice A1 g3.length c1]⟩, ⟨false, [], callFunc 112 #[.agg #[.int .i64 g1, .int .i64 g2, .slice A1 g3.length c1]], .bool r1⟩] [some (.agg #[.int .i64 g1, .int .i64 g2, .slice A1 g3.length c1]), some (.bool r1), none, none] [1, 2, 11] [pl 1 (.int .i64 k1), pl 2 (.pointer (some ⟨g4, 0, none⟩)), pl 11 (.bool (!r1))] hF hS Fol (by kernel_rfl) (by kernel_rfl) (by kernel_rfl) ?_ (fun a w hF hS => ?_)
    · exact obs_cons (ob_loadA (cs := #[.int .i64 g1, .int .i64 g2, .slice A1 g3.length c1]) (by kernel_rfl) (by kernel_rfl) (fun _ _ hS => (hS.at_ 0 rfl).cellsAt 0 (by rfl))) <| obs_cons (ob_call Try.func112 (by kernel_rfl) rfl (fun _ _ hS => rows_May_w hr1 hS (fun _ hS => (hr_g3 _ (hS.dropN 1))) _hc_g3 rfl)) <| obs_nil
    refine cond_ev (t := 11) (b := !r1) hF (by kernel_rfl) (fun hb => ?_) (fun hb => ?_)
    · replace hm := if_t hm hb
      refine reg [] [] [4, 5, 6] [pl 4 (.int .i64 0), pl 5 (.slice none 0 0), pl 6 (.int .i64 12)] hF hS Fol (by kernel_rfl) (by kernel_rfl) (by kernel_rfl) ?_ (fun a w hF hS => ?_)
      · exact obs_nil
      refine wp_ret ?_
      refine block_r (then_r ?_)
      have hS : Sep w0 B w (own 3 (.slice none 0 0) (vI ([] : List Int)) :: blk g4 93 #[.int .i64 g1, .int .i64 g2, .slice A1 g3.length c1] :: fs) := hS.nil 3
      have hl1 := (hS.at_ 0 rfl).len1
      have hS := (hS.at_ 0 rfl).reN hl1
      have hS : Sep w0 B w (own 3 (.slice none (([] : List Int).length) 0) (vI ([] : List Int)) :: blk g4 93 #[.int .i64 g1, .int .i64 g2, .slice A1 g3.length c1] :: fs) := hS
      have hS := hS.pickN 2 [0] (by decide)
      have hm : some (0, ([] : List Int), 12) = some r := hm
      obtain rfl := Option.some.inj hm
      exact retV (rs := [.tmp 4, .tmp 5, .tmp 6]) (vs := [.int .i64 0, .slice none (([] : List Int).length) 0, .int .i64 12]) hF rfl (rv_t (by kernel_rfl) <| rv_t (by kernel_rfl) <| rv_t (by kernel_rfl) <| rv_nil) rfl ⟨_, rfl, none, 0, rfl, hS⟩
    · replace hm := if_f hm hb
      refine reg [] [] [1, 2, 15] [pl 1 (.int .i64 k1), pl 2 (.pointer (some ⟨g4, 0, none⟩)), pl 15 (.bool ((decide (k1 < 1)) || (decide ((10 : Int) < k1))))] hF hS Fol (by kernel_rfl) (by kernel_rfl) (by kernel_rfl) ?_ (fun a w hF hS => ?_)
      · exact obs_nil
      refine cond_ev (t := 15) (b := (decide (k1 < 1)) || (decide ((10 : Int) < k1))) hF (by kernel_rfl) (fun hb => ?_) (fun hb => ?_)
      · replace hm := if_t hm hb
        refine reg [] [] [4, 5, 6] [pl 4 (.int .i64 0), pl 5 (.slice none 0 0), pl 6 (.int .i64 3)] hF hS Fol (by kernel_rfl) (by kernel_rfl) (by kernel_rfl) ?_ (fun a w hF hS => ?_)
        · exact obs_nil
        refine wp_ret ?_
        refine block_r (then_r ?_)
        have hS : Sep w0 B w (own 3 (.slice none 0 0) (vI ([] : List Int)) :: blk g4 93 #[.int .i64 g1, .int .i64 g2, .slice A1 g3.length c1] :: fs) := hS.nil 3
        have hl2 := (hS.at_ 0 rfl).len1
        have hS := (hS.at_ 0 rfl).reN hl2
        have hS : Sep w0 B w (own 3 (.slice none (([] : List Int).length) 0) (vI ([] : List Int)) :: blk g4 93 #[.int .i64 g1, .int .i64 g2, .slice A1 g3.length c1] :: fs) := hS
        have hS := hS.pickN 2 [0] (by decide)
        have hm : some (0, ([] : List Int), 3) = some r := hm
        obtain rfl := Option.some.inj hm
        exact retV (rs := [.tmp 4, .tmp 5, .tmp 6]) (vs := [.int .i64 0, .slice none (([] : List Int).length) 0, .int .i64 3]) hF rfl (rv_t (by kernel_rfl) <| rv_t (by kernel_rfl) <| rv_t (by kernel_rfl) <| rv_nil) rfl ⟨_, rfl, none, 0, rfl, hS⟩
      · replace hm := if_f hm hb
        refine wp_skip ?_
        refine block_n ?_
        refine then_n ?_
        exact ⟨hF.weak [1, 2] (by kernel_rfl), hS, hm⟩

noncomputable def gameroomref_within_m (n1 : Int) (low1 : Int) (high1 : Int) : Option Bool :=
  some ((decide (low1 ≤ n1)) && (decide (n1 ≤ high1)))

set_option maxRecDepth 100000 in
set_option maxHeartbeats 4000000 in
theorem gameroomref_within_w {n1 : Int} {low1 : Int} {high1 : Int} {r : Bool} {w0 w : World} {B : Nat} {fs : List HP} (hm : gameroomref_within_m n1 low1 high1 = some r) (hS : Sep w0 B w (fs)) :
    Calls Try.prog 74 #[.int .i64 n1, .int .i64 low1, .int .i64 high1] w fun e w' => e = .returned (.bool r) ∧ Sep w0 B w' (fs) := by
  unfold gameroomref_within_m at hm
  replace hm := start_b hm
  refine enter (l := [.int .i64 n1, .int .i64 low1, .int .i64 high1]) (n := 15) Try.func74 rfl rfl (by simp) (fun a hF => ?_)
  refine reg [] [] [0, 1, 2] [pl 0 (.int .i64 n1), pl 1 (.int .i64 low1), pl 2 (.int .i64 high1)] hF hS Fol (by kernel_rfl) (by kernel_rfl) (by kernel_rfl) ?_ (fun a w hF hS => ?_)
  · exact obs_nil
  refine reg [] [] [6] [pl 6 (.bool ((decide (low1 ≤ n1)) && (decide (n1 ≤ high1))))] hF hS Fol (by kernel_rfl) (by kernel_rfl) (by kernel_rfl) ?_ (fun a w hF hS => ?_)
  · exact obs_nil
  refine wp_ret ?_
  have hm : some ((decide (low1 ≤ n1)) && (decide (n1 ≤ high1))) = some r := hm
  obtain rfl := Option.some.inj hm
  exact retV (rs := [.tmp 6]) (vs := [.bool ((decide (low1 ≤ n1)) && (decide (n1 ≤ high1)))]) hF rfl (rv_t (by kernel_rfl) <| rv_nil) rfl ⟨rfl, hS⟩

noncomputable def gameroomref_GridMay_J4 (i1 : Int) : Option (St Int (Fl Unit Bool)) :=
  some (.next (w64 (i1 + 1)))

noncomputable def gameroomref_GridMay_J3 (g3 : List Int) (i1 : Int) : Option (St Int (Fl Unit Bool)) :=
  asrt (0 ≤ i1 ∧ i1 < (g3.length : Int)) <| (gameroomref_within_m (geti g3 i1) 0 2).bind fun r3 => if (!r3) then (some (.done (.ret false))) else ((gameroomref_GridMay_J4 i1))

noncomputable def gameroomref_GridMay_J2 : Option Bool :=
  some true

noncomputable def gameroomref_GridMay_K1 : (Fl Unit Bool) → Option Bool :=
  fun (x : (Fl Unit Bool)) => match x with | .go _ => gameroomref_GridMay_J2 | .ret x => some x

noncomputable def gameroomref_GridMay_L1 (g3 : List Int) : Int → Option (St Int (Fl Unit Bool)) :=
  fun (x : Int) => match x with | i1 => if (decide (i1 < (g3.length : Int))) then ((gameroomref_GridMay_J3 g3 i1)) else (some (.done (.go ())))

noncomputable def gameroomref_GridMay_J1 (g3 : List Int) : Option Bool :=
  (loop (gameroomref_GridMay_L1 g3) 0).bind gameroomref_GridMay_K1

noncomputable def gameroomref_GridMay_m (g1 : Int) (g2 : Int) (g3 : List Int) : Option Bool :=
  (gameroomref_within_m g1 1 10).bind fun r1 => ((if (!(!r1)) then gameroomref_within_m g2 1 10 else some false)).bind fun r2 => if (((!r1) || (!r2)) || ((g3.length : Int) != (w64 (g1 * g2)))) then (some false) else ((gameroomref_GridMay_J1 g3))

set_option maxRecDepth 100000 in
set_option maxHeartbeats 4000000 in
theorem gameroomref_GridMay_w {g1 : Int} {g2 : Int} {A1 : Option Addr} {c1 : Nat} {n1 : Nat} {g3 : List Int} {r : Bool} {w0 w : World} {B : Nat} {fs : List HP} (hm : gameroomref_GridMay_m g1 g2 g3 = some r) (hS : Sep w0 B w (fs)) (hr_g3 : RdF w0 B fs A1 (vI g3)) (_hc_g3 : g3.length ≤ c1) (_hn_g3 : n1 = g3.length) :
    Calls Try.prog 53 #[.agg #[.int .i64 g1, .int .i64 g2, .slice A1 n1 c1]] w fun e w' => e = .returned (.bool r) ∧ Sep w0 B w' (fs) := by
  obtain ⟨i3, hi3, hz3, hs3, hb3⟩ := info_parts Info3
  obtain rfl := _hn_g3
  unfold gameroomref_GridMay_m at hm
  replace hm := start_b hm
  refine enter (l := [.agg #[.int .i64 g1, .int .i64 g2, .slice A1 g3.length c1]]) (n := 39) Try.func53 rfl rfl (by simp) (fun a hF => ?_)
  refine seqR ?_
  refine at_do (d := 1) (s := vS (Instr.box 93 (.agg #[.int .i64 g1, .int .i64 g2, .slice A1 g3.length c1]))) (v := .pointer (some ⟨w.heap.size, 0, none⟩)) (w' := w.alloc (.cells #[.int .i64 g1, .int .i64 g2, .slice A1 g3.length c1] 93)) hF (by kernel_rfl) (by kernel_rfl) (by kernel_rfl) (fun a hF => ?_)
  have hS : Sep w0 B (w.alloc (.cells #[.int .i64 g1, .int .i64 g2, .slice A1 g3.length c1] 93)) (blk w.heap.size 93 #[.int .i64 g1, .int .i64 g2, .slice A1 g3.length c1] :: (fs)) := hS.box 93 #[.int .i64 g1, .int .i64 g2, .slice A1 g3.length c1]
  generalize w.heap.size = g4 at hF hS
  generalize w.alloc (.cells #[.int .i64 g1, .int .i64 g2, .slice A1 g3.length c1] 93) = w at hS ⊢
  refine at_run 1 [] [] [1] [pl 1 (.pointer (some ⟨g4, 0, none⟩))] hF hS (by kernel_rfl) (by kernel_rfl) ?_ (fun a w hF hS => ?_)
  · exact obs_nil
  refine at_end [1] [pl 1 (.pointer (some ⟨g4, 0, none⟩))] hF rfl (by kernel_rfl) (fun hF => ?_)
  refine then_n ?_
  refine seq_cut (fun a w => Fr 39 [pl 1 (.pointer (some ⟨g4, 0, none⟩))] a ∧ Sep w0 B w (blk g4 93 #[.int .i64 g1, .int .i64 g2, .slice A1 g3.length c1] :: fs) ∧ ((gameroomref_GridMay_J1 g3)).bind some = some r) ?_ ?_
  · rintro a w ⟨hF, hS, hm⟩
    unfold gameroomref_GridMay_J1 at hm
    refine seq_cut (fun a w => Fr 39 [] a ∧ Sep w0 B w (fs) ∧ (gameroomref_GridMay_J2).bind some = some r) ?_ ?_
    · rintro a w ⟨hF, hS, hm⟩
      unfold gameroomref_GridMay_J2 at hm
      refine reg [] [] [2] [pl 2 (.bool true)] hF hS Fol (by kernel_rfl) (by kernel_rfl) (by kernel_rfl) ?_ (fun a w hF hS => ?_)
      · exact obs_nil
      refine wp_ret ?_
      have hm : some true = some r := hm
      obtain rfl := Option.some.inj hm
      exact retV (rs := [.tmp 2]) (vs := [.bool true]) hF rfl (rv_t (by kernel_rfl) <| rv_nil) rfl ⟨rfl, hS⟩
    · refine reg [] [] [1, 3] [pl 1 (.pointer (some ⟨g4, 0, none⟩)), pl 3 (.int .i64 0)] hF hS Fol (by kernel_rfl) (by kernel_rfl) (by kernel_rfl) ?_ (fun a w hF hS => ?_)
      · exact obs_nil
      refine wp_block ?_
      refine wp_loop_model (S := Int) (R := (Fl Unit Bool)) (gameroomref_GridMay_L1 g3) (fun x => (gameroomref_GridMay_K1 x).bind some) r (fun (x : Int) a w => Fr 39 [pl 1 (.pointer (some ⟨g4, 0, none⟩)), pl 3 (.int .i64 x)] a ∧ Sep w0 B w (blk g4 93 #[.int .i64 g1, .int .i64 g2, .slice A1 g3.length c1] :: fs)) (assoc_b hm) ⟨hF.weak [1, 3] (by kernel_rfl), hS⟩ ?_
      clear hF hS hm
      rintro nn1 i1 a w ⟨hF, hS⟩ hm
      generalize hφ1 : stK (gameroomref_GridMay_L1 g3) nn1 (fun x => (gameroomref_GridMay_K1 x).bind some) = φ1 at hm
      unfold gameroomref_GridMay_L1 at hm
      dsimp only at hm
      refine seq_cut (fun a w => Fr 39 [pl 1 (.pointer (some ⟨g4, 0, none⟩)), pl 3 (.int .i64 i1)] a ∧ Sep w0 B w (blk g4 93 #[.int .i64 g1, .int .i64 g2, .slice A1 g3.length c1] :: fs) ∧ ((gameroomref_GridMay_J3 g3 i1)).bind φ1 = some r) ?_ ?_
      · rintro a w ⟨hF, hS, hm⟩
        unfold gameroomref_GridMay_J3 at hm
        refine seq_cut (fun a w => Fr 39 [pl 1 (.pointer (some ⟨g4, 0, none⟩)), pl 3 (.int .i64 i1)] a ∧ Sep w0 B w (blk g4 93 #[.int .i64 g1, .int .i64 g2, .slice A1 g3.length c1] :: fs) ∧ ((gameroomref_GridMay_J4 i1)).bind φ1 = some r) ?_ ?_
        · rintro a w ⟨hF, hS, hm⟩
          unfold gameroomref_GridMay_J4 at hm
          refine reg1 [] [] [1, 3] [pl 1 (.pointer (some ⟨g4, 0, none⟩)), pl 3 (.int .i64 (w64 (i1 + 1)))] hF hS Fol (by kernel_rfl) (by kernel_rfl) (by kernel_rfl) ?_ (fun a w hF hS => ?_)
          · exact obs_nil
          refine then_n ?_
          rw [← hφ1] at hm
          exact ⟨(w64 (i1 + 1)), ⟨hF.weak [1, 3] (by kernel_rfl), hS⟩, hm⟩
        · refine wp_block ?_
          obtain ⟨hp1, hm⟩ := asrt_b hm
          obtain ⟨r3, hr3, hm⟩ := call_b hm
          refine reg [⟨false, [], vS (Instr.loadAt 34 (.pointer (some ⟨g4, 2, none⟩))), .slice A1 g3.length c1⟩, ⟨true, [], vS (Instr.indexAt 34 (.slice A1 g3.length c1) (.int .i64 i1)), .pointer (some (sAddr A1 i1))⟩, ⟨false, [], vS (Instr.loadAt 3 (.pointer (some (sAddr A1 i1)))), .int .i64 (geti g3 i1)⟩, ⟨false, [], callFunc 74 #[.int .i64 (geti g3 i1), .int .i64 0, .int .i64 2], .bool r3⟩] [none, some (.slice A1 g3.length c1), none, some (.pointer (some (sAddr A1 i1))), some (.int .i64 (geti g3 i1)), some (.bool r3), none] [1, 3, 38] [pl 1 (.pointer (some ⟨g4, 0, none⟩)), pl 3 (.int .i64 i1), pl 38 (.bool (!r3))] hF hS Fol (by kernel_rfl) (by kernel_rfl) (by kernel_rfl) ?_ (fun a w hF hS => ?_)
          · exact obs_cons (ob_load Agg34 (fun _ _ hS => (hS.at_ 0 rfl).cell rfl)) <| obs_cons (ob_ix1 (f := (Value.int .i64)) (m := g3) Und34 hi3 hs3 (hr_g3 _ (hS.dropN 1)) rfl (fun _ => hp1)) <| obs_cons (ob_get1 (n := g3.length) (m := g3) (Value.int .i64) (0 : Int) Agg3 (fun _ hS => ⟨_, (hr_g3 _ (hS.dropN 1))⟩) (fun _ hS => rfl) (fun _ => hp1)) <| obs_cons (ob_call Try.func74 (by kernel_rfl) rfl (fun _ _ hS => gameroomref_within_w hr3 hS )) <| obs_nil
          refine cond_ev (t := 38) (b := !r3) hF (by kernel_rfl) (fun hb => ?_) (fun hb => ?_)
          · replace hm := if_t hm hb
            refine reg [] [] [2] [pl 2 (.bool false)] hF hS Fol (by kernel_rfl) (by kernel_rfl) (by kernel_rfl) ?_ (fun a w hF hS => ?_)
            · exact obs_nil
            refine wp_ret ?_
            refine block_r (then_r (then_r (block_r (then_r ?_))))
            rw [← hφ1] at hm
            replace hm := done_b hm
            unfold gameroomref_GridMay_K1 at hm
            try dsimp only at hm
            have hS := hS.pickN 1 [] (by decide)
            have hm : some false = some r := hm
            obtain rfl := Option.some.inj hm
            exact retV (rs := [.tmp 2]) (vs := [.bool false]) hF rfl (rv_t (by kernel_rfl) <| rv_nil) rfl ⟨rfl, hS⟩
          · replace hm := if_f hm hb
            refine wp_skip ?_
            refine block_n ?_
            refine then_n ?_
            exact ⟨hF.weak [1, 3] (by kernel_rfl), hS, hm⟩
      · refine reg [⟨false, [], vS (Instr.loadAt 34 (.pointer (some ⟨g4, 2, none⟩))), .slice A1 g3.length c1⟩] [none, none, some (.slice A1 g3.length c1), none, none] [1, 3, 29] [pl 1 (.pointer (some ⟨g4, 0, none⟩)), pl 3 (.int .i64 i1), pl 29 (.bool (decide (i1 < (g3.length : Int))))] hF hS Fol (by kernel_rfl) (by kernel_rfl) (by kernel_rfl) ?_ (fun a w hF hS => ?_)
        · exact obs_cons (ob_load Agg34 (fun _ _ hS => (hS.at_ 0 rfl).cell rfl)) <| obs_nil
        refine cond_ev (t := 29) (b := decide (i1 < (g3.length : Int))) hF (by kernel_rfl) (fun hb => ?_) (fun hb => ?_)
        · replace hm := if_t hm hb
          refine wp_skip ?_
          refine then_n ?_
          exact ⟨hF.weak [1, 3] (by kernel_rfl), hS, hm⟩
        · replace hm := if_f hm hb
          refine wp_exit ?_
          refine then_e (then_e (block_e (then_n ?_)))
          have hS := hS.pickN 1 [] (by decide)
          rw [← hφ1] at hm
          replace hm := done_b hm
          unfold gameroomref_GridMay_K1 at hm
          try dsimp only at hm
          have hm : (gameroomref_GridMay_J2).bind some = some r := hm
          exact ⟨hF.weak [] (by kernel_rfl), hS, hm⟩
  · obtain ⟨r1, hr1, hm⟩ := call_b hm
    obtain ⟨r2, hr2, hm⟩ := call_b hm
    refine reg [⟨false, [], vS (Instr.loadAt 3 (.pointer (some ⟨g4, 0, none⟩))), .int .i64 g1⟩, ⟨false, [], callFunc 74 #[.int .i64 g1, .int .i64 1, .int .i64 10], .bool r1⟩, ⟨false, [(!r1, false)], vS (Instr.loadAt 3 (.pointer (some ⟨g4, 1, none⟩))), .int .i64 g2⟩, ⟨false, [(!r1, false)], callFunc 74 #[.int .i64 g2, .int .i64 1, .int .i64 10], .bool r2⟩, ⟨false, [((!r1) || (!r2), false)], vS (Instr.loadAt 34 (.pointer (some ⟨g4, 2, none⟩))), .slice A1 g3.length c1⟩, ⟨false, [((!r1) || (!r2), false)], vS (Instr.loadAt 3 (.pointer (some ⟨g4, 0, none⟩))), .int .i64 g1⟩, ⟨false, [((!r1) || (!r2), false)], vS (Instr.loadAt 3 (.pointer (some ⟨g4, 1, none⟩))), .int .i64 g2⟩] [none, some (.int .i64 g1), some (.bool r1), none, none, none, some (.int .i64 g2), some (.bool r2), none, none, none, none, some (.slice A1 g3.length c1), none, none, some (.int .i64 g1), none, some (.int .i64 g2), none, none, none] [1, 24] [pl 1 (.pointer (some ⟨g4, 0, none⟩)), pl 24 (.bool (((!r1) || (!r2)) || ((g3.length : Int) != (w64 (g1 * g2)))))] hF hS Fol (by kernel_rfl) (by kernel_rfl) (by kernel_rfl) ?_ (fun a w hF hS => ?_)
    · exact obs_cons (ob_load Agg3 (fun _ _ hS => (hS.at_ 0 rfl).cell rfl)) <| obs_cons (ob_call Try.func74 (by kernel_rfl) rfl (fun _ _ hS => gameroomref_within_w hr1 hS )) <| obs_cons (ob_load Agg3 (fun _ _ hS => (hS.at_ 0 rfl).cell rfl)) <| obs_cons (ob_call Try.func74 (by kernel_rfl) rfl (fun hy _ hS => gameroomref_within_w (ite_some hr2 (by rw [show (!r1) = false from hy (!r1, false) (by simp)]; try rfl)) hS )) <| obs_cons (ob_load Agg34 (fun _ _ hS => (hS.at_ 0 rfl).cell rfl)) <| obs_cons (ob_load Agg3 (fun _ _ hS => (hS.at_ 0 rfl).cell rfl)) <| obs_cons (ob_load Agg3 (fun _ _ hS => (hS.at_ 0 rfl).cell rfl)) <| obs_nil
    refine cond_ev (t := 24) (b := ((!r1) || (!r2)) || ((g3.length : Int) != (w64 (g1 * g2)))) hF (by kernel_rfl) (fun hb => ?_) (fun hb => ?_)
    · replace hm := if_t hm hb
      refine reg [] [] [2] [pl 2 (.bool false)] hF hS Fol (by kernel_rfl) (by kernel_rfl) (by kernel_rfl) ?_ (fun a w hF hS => ?_)
      · exact obs_nil
      refine wp_ret ?_
      refine then_r ?_
      have hS := hS.pickN 1 [] (by decide)
      have hm : some false = some r := hm
      obtain rfl := Option.some.inj hm
      exact retV (rs := [.tmp 2]) (vs := [.bool false]) hF rfl (rv_t (by kernel_rfl) <| rv_nil) rfl ⟨rfl, hS⟩
    · replace hm := if_f hm hb
      refine wp_skip ?_
      refine then_n ?_
      exact ⟨hF.weak [1] (by kernel_rfl), hS, hm⟩

noncomputable def gameroomref_rowFrom_J3 (i1 : Int) : Option (St Int (Fl Unit Int)) :=
  some (.next (w64 (i1 + 1)))

noncomputable def gameroomref_rowFrom_J2 (g1 : Int) (g2 : Int) (g3 : List Int) (x1 : Int) (y1 : Int) (dx1 : Int) (dy1 : Int) (i1 : Int) : Option (St Int (Fl Unit Int)) :=
  (gameroomref_within_m (w64 (x1 + (w64 (dx1 * i1)))) 0 (w64 (g1 - 1))).bind fun r1 => ((if (!(!r1)) then gameroomref_within_m (w64 (y1 + (w64 (dy1 * i1)))) 0 (w64 (g2 - 1)) else some false)).bind fun r2 => asrt (((!r1) || (!r2)) = false → 0 ≤ (w64 ((w64 ((w64 (y1 + (w64 (dy1 * i1)))) * g1)) + (w64 (x1 + (w64 (dx1 * i1)))))) ∧ (w64 ((w64 ((w64 (y1 + (w64 (dy1 * i1)))) * g1)) + (w64 (x1 + (w64 (dx1 * i1)))))) < (g3.length : Int)) <| if (((!r1) || (!r2)) || ((geti g3 (w64 ((w64 ((w64 (y1 + (w64 (dy1 * i1)))) * g1)) + (w64 (x1 + (w64 (dx1 * i1))))))) != (geti g3 (w64 ((w64 (y1 * g1)) + x1))))) then (some (.done (.ret 0))) else ((gameroomref_rowFrom_J3 i1))

noncomputable def gameroomref_rowFrom_J1 (g1 : Int) (g3 : List Int) (x1 : Int) (y1 : Int) : Option Int :=
  some (geti g3 (w64 ((w64 (y1 * g1)) + x1)))

noncomputable def gameroomref_rowFrom_K1 (g1 : Int) (g3 : List Int) (x1 : Int) (y1 : Int) : (Fl Unit Int) → Option Int :=
  fun (x : (Fl Unit Int)) => match x with | .go _ => (gameroomref_rowFrom_J1 g1 g3 x1 y1) | .ret x => some x

noncomputable def gameroomref_rowFrom_L1 (g1 : Int) (g2 : Int) (g3 : List Int) (x1 : Int) (y1 : Int) (dx1 : Int) (dy1 : Int) (k1 : Int) : Int → Option (St Int (Fl Unit Int)) :=
  fun (x : Int) => match x with | i1 => if (decide (i1 < k1)) then ((gameroomref_rowFrom_J2 g1 g2 g3 x1 y1 dx1 dy1 i1)) else (some (.done (.go ())))

noncomputable def gameroomref_rowFrom_m (g1 : Int) (g2 : Int) (g3 : List Int) (x1 : Int) (y1 : Int) (dx1 : Int) (dy1 : Int) (k1 : Int) : Option Int :=
  asrt (0 ≤ (w64 ((w64 (y1 * g1)) + x1)) ∧ (w64 ((w64 (y1 * g1)) + x1)) < (g3.length : Int)) <| (loop (gameroomref_rowFrom_L1 g1 g2 g3 x1 y1 dx1 dy1 k1) 0).bind (gameroomref_rowFrom_K1 g1 g3 x1 y1)

set_option maxRecDepth 100000 in
set_option maxHeartbeats 4000000 in
theorem gameroomref_rowFrom_w {g1 : Int} {g2 : Int} {A1 : Option Addr} {c1 : Nat} {n1 : Nat} {g3 : List Int} {x1 : Int} {y1 : Int} {dx1 : Int} {dy1 : Int} {k1 : Int} {r : Int} {w0 w : World} {B : Nat} {fs : List HP} (hm : gameroomref_rowFrom_m g1 g2 g3 x1 y1 dx1 dy1 k1 = some r) (hS : Sep w0 B w (fs)) (hr_g3 : RdF w0 B fs A1 (vI g3)) (_hc_g3 : g3.length ≤ c1) (_hn_g3 : n1 = g3.length) :
    Calls Try.prog 118 #[.agg #[.int .i64 g1, .int .i64 g2, .slice A1 n1 c1], .int .i64 x1, .int .i64 y1, .int .i64 dx1, .int .i64 dy1, .int .i64 k1] w fun e w' => e = .returned (.int .i64 r) ∧ Sep w0 B w' (fs) := by
  obtain ⟨i3, hi3, hz3, hs3, hb3⟩ := info_parts Info3
  obtain rfl := _hn_g3
  unfold gameroomref_rowFrom_m at hm
  replace hm := start_b hm
  refine enter (l := [.agg #[.int .i64 g1, .int .i64 g2, .slice A1 g3.length c1], .int .i64 x1, .int .i64 y1, .int .i64 dx1, .int .i64 dy1, .int .i64 k1]) (n := 71) Try.func118 rfl rfl (by simp) (fun a hF => ?_)
  refine seqR ?_
  refine at_do (d := 6) (s := vS (Instr.box 93 (.agg #[.int .i64 g1, .int .i64 g2, .slice A1 g3.length c1]))) (v := .pointer (some ⟨w.heap.size, 0, none⟩)) (w' := w.alloc (.cells #[.int .i64 g1, .int .i64 g2, .slice A1 g3.length c1] 93)) hF (by kernel_rfl) (by kernel_rfl) (by kernel_rfl) (fun a hF => ?_)
  have hS : Sep w0 B (w.alloc (.cells #[.int .i64 g1, .int .i64 g2, .slice A1 g3.length c1] 93)) (blk w.heap.size 93 #[.int .i64 g1, .int .i64 g2, .slice A1 g3.length c1] :: (fs)) := hS.box 93 #[.int .i64 g1, .int .i64 g2, .slice A1 g3.length c1]
  generalize w.heap.size = g4 at hF hS
  generalize w.alloc (.cells #[.int .i64 g1, .int .i64 g2, .slice A1 g3.length c1] 93) = w at hS ⊢
  refine at_run 1 [] [] [1, 2, 3, 4, 5, 6] [pl 1 (.int .i64 x1), pl 2 (.int .i64 y1), pl 3 (.int .i64 dx1), pl 4 (.int .i64 dy1), pl 5 (.int .i64 k1), pl 6 (.pointer (some ⟨g4, 0, none⟩))] hF hS (by kernel_rfl) (by kernel_rfl) ?_ (fun a w hF hS => ?_)
  · exact obs_nil
  refine at_end [1, 2, 3, 4, 5, 6] [pl 1 (.int .i64 x1), pl 2 (.int .i64 y1), pl 3 (.int .i64 dx1), pl 4 (.int .i64 dy1), pl 5 (.int .i64 k1), pl 6 (.pointer (some ⟨g4, 0, none⟩))] hF rfl (by kernel_rfl) (fun hF => ?_)
  refine then_n ?_
  obtain ⟨hp1, hm⟩ := asrt_b hm
  refine reg [⟨false, [], vS (Instr.loadAt 34 (.pointer (some ⟨g4, 2, none⟩))), .slice A1 g3.length c1⟩, ⟨false, [], vS (Instr.loadAt 3 (.pointer (some ⟨g4, 0, none⟩))), .int .i64 g1⟩, ⟨true, [], vS (Instr.indexAt 34 (.slice A1 g3.length c1) (.int .i64 (w64 ((w64 (y1 * g1)) + x1)))), .pointer (some (sAddr A1 (w64 ((w64 (y1 * g1)) + x1))))⟩, ⟨false, [], vS (Instr.loadAt 3 (.pointer (some (sAddr A1 (w64 ((w64 (y1 * g1)) + x1)))))), .int .i64 (geti g3 (w64 ((w64 (y1 * g1)) + x1)))⟩] [none, some (.slice A1 g3.length c1), none, none, some (.int .i64 g1), none, none, none, some (.pointer (some (sAddr A1 (w64 ((w64 (y1 * g1)) + x1))))), some (.int .i64 (geti g3 (w64 ((w64 (y1 * g1)) + x1)))), none] [1, 2, 3, 4, 5, 6, 13] [pl 1 (.int .i64 x1), pl 2 (.int .i64 y1), pl 3 (.int .i64 dx1), pl 4 (.int .i64 dy1), pl 5 (.int .i64 k1), pl 6 (.pointer (some ⟨g4, 0, none⟩)), pl 13 (.int .i64 (geti g3 (w64 ((w64 (y1 * g1)) + x1))))] hF hS Fol (by kernel_rfl) (by kernel_rfl) (by kernel_rfl) ?_ (fun a w hF hS => ?_)
  · exact obs_cons (ob_load Agg34 (fun _ _ hS => (hS.at_ 0 rfl).cell rfl)) <| obs_cons (ob_load Agg3 (fun _ _ hS => (hS.at_ 0 rfl).cell rfl)) <| obs_cons (ob_ix1 (f := (Value.int .i64)) (m := g3) Und34 hi3 hs3 (hr_g3 _ (hS.dropN 1)) rfl (fun _ => hp1)) <| obs_cons (ob_get1 (n := g3.length) (m := g3) (Value.int .i64) (0 : Int) Agg3 (fun _ hS => ⟨_, (hr_g3 _ (hS.dropN 1))⟩) (fun _ hS => rfl) (fun _ => hp1)) <| obs_nil
  refine seq_cut (fun a w => Fr 71 [pl 13 (.int .i64 (geti g3 (w64 ((w64 (y1 * g1)) + x1))))] a ∧ Sep w0 B w (fs) ∧ ((gameroomref_rowFrom_J1 g1 g3 x1 y1)).bind some = some r) ?_ ?_
  · rintro a w ⟨hF, hS, hm⟩
    unfold gameroomref_rowFrom_J1 at hm
    refine reg [] [] [12] [pl 12 (.int .i64 (geti g3 (w64 ((w64 (y1 * g1)) + x1))))] hF hS Fol (by kernel_rfl) (by kernel_rfl) (by kernel_rfl) ?_ (fun a w hF hS => ?_)
    · exact obs_nil
    refine wp_ret ?_
    have hm : some (geti g3 (w64 ((w64 (y1 * g1)) + x1))) = some r := hm
    obtain rfl := Option.some.inj hm
    exact retV (rs := [.tmp 12]) (vs := [.int .i64 (geti g3 (w64 ((w64 (y1 * g1)) + x1)))]) hF rfl (rv_t (by kernel_rfl) <| rv_nil) rfl ⟨rfl, hS⟩
  · refine reg [] [] [1, 2, 3, 4, 5, 6, 13, 14] [pl 1 (.int .i64 x1), pl 2 (.int .i64 y1), pl 3 (.int .i64 dx1), pl 4 (.int .i64 dy1), pl 5 (.int .i64 k1), pl 6 (.pointer (some ⟨g4, 0, none⟩)), pl 13 (.int .i64 (geti g3 (w64 ((w64 (y1 * g1)) + x1)))), pl 14 (.int .i64 0)] hF hS Fol (by kernel_rfl) (by kernel_rfl) (by kernel_rfl) ?_ (fun a w hF hS => ?_)
    · exact obs_nil
    refine wp_block ?_
    refine wp_loop_model (S := Int) (R := (Fl Unit Int)) (gameroomref_rowFrom_L1 g1 g2 g3 x1 y1 dx1 dy1 k1) (fun x => ((gameroomref_rowFrom_K1 g1 g3 x1 y1) x).bind some) r (fun (x : Int) a w => Fr 71 [pl 1 (.int .i64 x1), pl 2 (.int .i64 y1), pl 3 (.int .i64 dx1), pl 4 (.int .i64 dy1), pl 5 (.int .i64 k1), pl 6 (.pointer (some ⟨g4, 0, none⟩)), pl 13 (.int .i64 (geti g3 (w64 ((w64 (y1 * g1)) + x1)))), pl 14 (.int .i64 x)] a ∧ Sep w0 B w (blk g4 93 #[.int .i64 g1, .int .i64 g2, .slice A1 g3.length c1] :: fs)) (assoc_b hm) ⟨hF.weak [1, 2, 3, 4, 5, 6, 13, 14] (by kernel_rfl), hS⟩ ?_
    clear hF hS hm
    rintro nn1 i1 a w ⟨hF, hS⟩ hm
    generalize hφ1 : stK (gameroomref_rowFrom_L1 g1 g2 g3 x1 y1 dx1 dy1 k1) nn1 (fun x => ((gameroomref_rowFrom_K1 g1 g3 x1 y1) x).bind some) = φ1 at hm
    unfold gameroomref_rowFrom_L1 at hm
    dsimp only at hm
    refine seq_cut (fun a w => Fr 71 [pl 1 (.int .i64 x1), pl 2 (.int .i64 y1), pl 3 (.int .i64 dx1), pl 4 (.int .i64 dy1), pl 5 (.int .i64 k1), pl 6 (.pointer (some ⟨g4, 0, none⟩)), pl 13 (.int .i64 (geti g3 (w64 ((w64 (y1 * g1)) + x1)))), pl 14 (.int .i64 i1)] a ∧ Sep w0 B w (blk g4 93 #[.int .i64 g1, .int .i64 g2, .slice A1 g3.length c1] :: fs) ∧ ((gameroomref_rowFrom_J2 g1 g2 g3 x1 y1 dx1 dy1 i1)).bind φ1 = some r) ?_ ?_
    · rintro a w ⟨hF, hS, hm⟩
      unfold gameroomref_rowFrom_J2 at hm
      refine seq_cut (fun a w => Fr 71 [pl 1 (.int .i64 x1), pl 2 (.int .i64 y1), pl 3 (.int .i64 dx1), pl 4 (.int .i64 dy1), pl 5 (.int .i64 k1), pl 6 (.pointer (some ⟨g4, 0, none⟩)), pl 13 (.int .i64 (geti g3 (w64 ((w64 (y1 * g1)) + x1)))), pl 14 (.int .i64 i1)] a ∧ Sep w0 B w (blk g4 93 #[.int .i64 g1, .int .i64 g2, .slice A1 g3.length c1] :: fs) ∧ ((gameroomref_rowFrom_J3 i1)).bind φ1 = some r) ?_ ?_
      · rintro a w ⟨hF, hS, hm⟩
        unfold gameroomref_rowFrom_J3 at hm
        refine reg1 [] [] [1, 2, 3, 4, 5, 6, 13, 14] [pl 1 (.int .i64 x1), pl 2 (.int .i64 y1), pl 3 (.int .i64 dx1), pl 4 (.int .i64 dy1), pl 5 (.int .i64 k1), pl 6 (.pointer (some ⟨g4, 0, none⟩)), pl 13 (.int .i64 (geti g3 (w64 ((w64 (y1 * g1)) + x1)))), pl 14 (.int .i64 (w64 (i1 + 1)))] hF hS Fol (by kernel_rfl) (by kernel_rfl) (by kernel_rfl) ?_ (fun a w hF hS => ?_)
        · exact obs_nil
        refine then_n ?_
        rw [← hφ1] at hm
        exact ⟨(w64 (i1 + 1)), ⟨hF.weak [1, 2, 3, 4, 5, 6, 13, 14] (by kernel_rfl), hS⟩, hm⟩
      · refine wp_block ?_
        refine reg [] [] [1, 2, 3, 4, 5, 6, 13, 14, 15, 16] [pl 1 (.int .i64 x1), pl 2 (.int .i64 y1), pl 3 (.int .i64 dx1), pl 4 (.int .i64 dy1), pl 5 (.int .i64 k1), pl 6 (.pointer (some ⟨g4, 0, none⟩)), pl 13 (.int .i64 (geti g3 (w64 ((w64 (y1 * g1)) + x1)))), pl 14 (.int .i64 i1), pl 15 (.int .i64 (w64 (x1 + (w64 (dx1 * i1))))), pl 16 (.int .i64 (w64 (y1 + (w64 (dy1 * i1)))))] hF hS Fol (by kernel_rfl) (by kernel_rfl) (by kernel_rfl) ?_ (fun a w hF hS => ?_)
        · exact obs_nil
        obtain ⟨r1, hr1, hm⟩ := call_b hm
        obtain ⟨r2, hr2, hm⟩ := call_b hm
        obtain ⟨hp2, hm⟩ := asrt_b hm
        refine reg [⟨false, [], vS (Instr.loadAt 3 (.pointer (some ⟨g4, 0, none⟩))), .int .i64 g1⟩, ⟨false, [], callFunc 74 #[.int .i64 (w64 (x1 + (w64 (dx1 * i1)))), .int .i64 0, .int .i64 (w64 (g1 - 1))], .bool r1⟩, ⟨false, [(!r1, false)], vS (Instr.loadAt 3 (.pointer (some ⟨g4, 1, none⟩))), .int .i64 g2⟩, ⟨false, [(!r1, false)], callFunc 74 #[.int .i64 (w64 (y1 + (w64 (dy1 * i1)))), .int .i64 0, .int .i64 (w64 (g2 - 1))], .bool r2⟩, ⟨false, [((!r1) || (!r2), false)], vS (Instr.loadAt 34 (.pointer (some ⟨g4, 2, none⟩))), .slice A1 g3.length c1⟩, ⟨false, [((!r1) || (!r2), false)], vS (Instr.loadAt 3 (.pointer (some ⟨g4, 0, none⟩))), .int .i64 g1⟩, ⟨true, [((!r1) || (!r2), false)], vS (Instr.indexAt 34 (.slice A1 g3.length c1) (.int .i64 (w64 ((w64 ((w64 (y1 + (w64 (dy1 * i1)))) * g1)) + (w64 (x1 + (w64 (dx1 * i1)))))))), .pointer (some (sAddr A1 (w64 ((w64 ((w64 (y1 + (w64 (dy1 * i1)))) * g1)) + (w64 (x1 + (w64 (dx1 * i1))))))))⟩, ⟨false, [((!r1) || (!r2), false)], vS (Instr.loadAt 3 (.pointer (some (sAddr A1 (w64 ((w64 ((w64 (y1 + (w64 (dy1 * i1)))) * g1)) + (w64 (x1 + (w64 (dx1 * i1)))))))))), .int .i64 (geti g3 (w64 ((w64 ((w64 (y1 + (w64 (dy1 * i1)))) * g1)) + (w64 (x1 + (w64 (dx1 * i1)))))))⟩] [none, none, some (.int .i64 g1), none, some (.bool r1), none, none, none, none, some (.int .i64 g2), none, some (.bool r2), none, none, none, none, some (.slice A1 g3.length c1), none, none, some (.int .i64 g1), none, none, none, some (.pointer (some (sAddr A1 (w64 ((w64 ((w64 (y1 + (w64 (dy1 * i1)))) * g1)) + (w64 (x1 + (w64 (dx1 * i1))))))))), some (.int .i64 (geti g3 (w64 ((w64 ((w64 (y1 + (w64 (dy1 * i1)))) * g1)) + (w64 (x1 + (w64 (dx1 * i1)))))))), none, none, none] [1, 2, 3, 4, 5, 6, 13, 14, 69] [pl 1 (.int .i64 x1), pl 2 (.int .i64 y1), pl 3 (.int .i64 dx1), pl 4 (.int .i64 dy1), pl 5 (.int .i64 k1), pl 6 (.pointer (some ⟨g4, 0, none⟩)), pl 13 (.int .i64 (geti g3 (w64 ((w64 (y1 * g1)) + x1)))), pl 14 (.int .i64 i1), pl 69 (.bool (((!r1) || (!r2)) || ((geti g3 (w64 ((w64 ((w64 (y1 + (w64 (dy1 * i1)))) * g1)) + (w64 (x1 + (w64 (dx1 * i1))))))) != (geti g3 (w64 ((w64 (y1 * g1)) + x1))))))] hF hS Fol (by kernel_rfl) (by kernel_rfl) (by kernel_rfl) ?_ (fun a w hF hS => ?_)
        · exact obs_cons (ob_load Agg3 (fun _ _ hS => (hS.at_ 0 rfl).cell rfl)) <| obs_cons (ob_call Try.func74 (by kernel_rfl) rfl (fun _ _ hS => gameroomref_within_w hr1 hS )) <| obs_cons (ob_load Agg3 (fun _ _ hS => (hS.at_ 0 rfl).cell rfl)) <| obs_cons (ob_call Try.func74 (by kernel_rfl) rfl (fun hy _ hS => gameroomref_within_w (ite_some hr2 (by rw [show (!r1) = false from hy (!r1, false) (by simp)]; try rfl)) hS )) <| obs_cons (ob_load Agg34 (fun _ _ hS => (hS.at_ 0 rfl).cell rfl)) <| obs_cons (ob_load Agg3 (fun _ _ hS => (hS.at_ 0 rfl).cell rfl)) <| obs_cons (ob_ix1 (f := (Value.int .i64)) (m := g3) Und34 hi3 hs3 (hr_g3 _ (hS.dropN 1)) rfl (fun hy => hp2 (hy ((!r1) || (!r2), false) (by simp)))) <| obs_cons (ob_get1 (n := g3.length) (m := g3) (Value.int .i64) (0 : Int) Agg3 (fun _ hS => ⟨_, (hr_g3 _ (hS.dropN 1))⟩) (fun _ hS => rfl) (fun hy => hp2 (hy ((!r1) || (!r2), false) (by simp)))) <| obs_nil
        refine cond_ev (t := 69) (b := ((!r1) || (!r2)) || ((geti g3 (w64 ((w64 ((w64 (y1 + (w64 (dy1 * i1)))) * g1)) + (w64 (x1 + (w64 (dx1 * i1))))))) != (geti g3 (w64 ((w64 (y1 * g1)) + x1))))) hF (by kernel_rfl) (fun hb => ?_) (fun hb => ?_)
        · replace hm := if_t hm hb
          refine reg [] [] [12] [pl 12 (.int .i64 0)] hF hS Fol (by kernel_rfl) (by kernel_rfl) (by kernel_rfl) ?_ (fun a w hF hS => ?_)
          · exact obs_nil
          refine wp_ret ?_
          refine block_r (then_r (then_r (block_r (then_r ?_))))
          rw [← hφ1] at hm
          replace hm := done_b hm
          unfold gameroomref_rowFrom_K1 at hm
          try dsimp only at hm
          have hS := hS.pickN 1 [] (by decide)
          have hm : some 0 = some r := hm
          obtain rfl := Option.some.inj hm
          exact retV (rs := [.tmp 12]) (vs := [.int .i64 0]) hF rfl (rv_t (by kernel_rfl) <| rv_nil) rfl ⟨rfl, hS⟩
        · replace hm := if_f hm hb
          refine wp_skip ?_
          refine block_n ?_
          refine then_n ?_
          exact ⟨hF.weak [1, 2, 3, 4, 5, 6, 13, 14] (by kernel_rfl), hS, hm⟩
    · refine reg [] [] [1, 2, 3, 4, 5, 6, 13, 14, 29] [pl 1 (.int .i64 x1), pl 2 (.int .i64 y1), pl 3 (.int .i64 dx1), pl 4 (.int .i64 dy1), pl 5 (.int .i64 k1), pl 6 (.pointer (some ⟨g4, 0, none⟩)), pl 13 (.int .i64 (geti g3 (w64 ((w64 (y1 * g1)) + x1)))), pl 14 (.int .i64 i1), pl 29 (.bool (decide (i1 < k1)))] hF hS Fol (by kernel_rfl) (by kernel_rfl) (by kernel_rfl) ?_ (fun a w hF hS => ?_)
      · exact obs_nil
      refine cond_ev (t := 29) (b := decide (i1 < k1)) hF (by kernel_rfl) (fun hb => ?_) (fun hb => ?_)
      · replace hm := if_t hm hb
        refine wp_skip ?_
        refine then_n ?_
        exact ⟨hF.weak [1, 2, 3, 4, 5, 6, 13, 14] (by kernel_rfl), hS, hm⟩
      · replace hm := if_f hm hb
        refine wp_exit ?_
        refine then_e (then_e (block_e (then_n ?_)))
        have hS := hS.pickN 1 [] (by decide)
        rw [← hφ1] at hm
        replace hm := done_b hm
        unfold gameroomref_rowFrom_K1 at hm
        try dsimp only at hm
        have hm : ((gameroomref_rowFrom_J1 g1 g3 x1 y1)).bind some = some r := hm
        exact ⟨hF.weak [13] (by kernel_rfl), hS, hm⟩

noncomputable def gameroomref_WonOf_J10 (g1 : Int) (y1 : Int) (x1 : Int) (d1 : Int) (in7 : List Bool) (i1 : Int) : Option (St (List Bool × Int) (List Bool × Bool × Bool)) :=
  some (.next ((in7.set (Int.toNat (w64 ((w64 ((w64 ((w64 (y1 + (w64 ((geti ([0, 1, 1, (-1)] : List Int) d1) * i1)))) * g1)) + x1)) + (w64 ((geti ([1, 0, 1, 1] : List Int) d1) * i1))))) true), (w64 (i1 + 1))))

noncomputable def gameroomref_WonOf_J9 (g1 : Int) (g3 : List Int) (y1 : Int) (x1 : Int) (d1 : Int) (in7 : List Bool) (i1 : Int) : Option (St (List Bool × Int) (List Bool × Bool × Bool)) :=
  asrt (0 ≤ (w64 ((w64 ((w64 ((w64 (y1 + (w64 ((geti ([0, 1, 1, (-1)] : List Int) d1) * i1)))) * g1)) + x1)) + (w64 ((geti ([1, 0, 1, 1] : List Int) d1) * i1)))) ∧ (w64 ((w64 ((w64 ((w64 (y1 + (w64 ((geti ([0, 1, 1, (-1)] : List Int) d1) * i1)))) * g1)) + x1)) + (w64 ((geti ([1, 0, 1, 1] : List Int) d1) * i1)))) < (((Int.toNat (g3.length : Int)) : Nat) : Int)) <| (gameroomref_WonOf_J10 g1 y1 x1 d1 in7 i1)

noncomputable def gameroomref_WonOf_J7 (d1 : Int) (in8 : List Bool) (one7 : Bool) (two7 : Bool) : Option (St (List Bool × Bool × Bool × Int) (List Bool × Bool × Bool)) :=
  some (.next (in8, one7, two7, (w64 (d1 + 1))))

noncomputable def gameroomref_WonOf_K4 (d1 : Int) : (List Bool × Bool × Bool) → Option (St (List Bool × Bool × Bool × Int) (List Bool × Bool × Bool)) :=
  fun (x : (List Bool × Bool × Bool)) => match x with | (in8, one7, two7) => (gameroomref_WonOf_J7 d1) in8 one7 two7

noncomputable def gameroomref_WonOf_L4 (g1 : Int) (g3 : List Int) (k1 : Int) (y1 : Int) (x1 : Int) (one5 : Bool) (two5 : Bool) (d1 : Int) (r1 : Int) : (List Bool × Int) → Option (St (List Bool × Int) (List Bool × Bool × Bool)) :=
  fun (x : (List Bool × Int)) => match x with | (in7, i1) => if ((decide (i1 < k1)) && (decide ((0 : Int) < r1))) then ((gameroomref_WonOf_J9 g1 g3 y1 x1 d1 in7 i1)) else (some (.done (in7, (one5 || (r1 == 1)), (two5 || (r1 == 2)))))

noncomputable def gameroomref_WonOf_J8 (g1 : Int) (g2 : Int) (g3 : List Int) (k1 : Int) (y1 : Int) (x1 : Int) (in5 : List Bool) (one5 : Bool) (two5 : Bool) (d1 : Int) : Option (St (List Bool × Bool × Bool × Int) (List Bool × Bool × Bool)) :=
  (gameroomref_rowFrom_m g1 g2 g3 x1 y1 (geti ([1, 0, 1, 1] : List Int) d1) (geti ([0, 1, 1, (-1)] : List Int) d1) k1).bind fun r1 => (loop (gameroomref_WonOf_L4 g1 g3 k1 y1 x1 one5 two5 d1 r1) (in5, 0)).bind (gameroomref_WonOf_K4 d1)

noncomputable def gameroomref_WonOf_J6 (g1 : Int) (g2 : Int) (g3 : List Int) (k1 : Int) (y1 : Int) (x1 : Int) (in5 : List Bool) (one5 : Bool) (two5 : Bool) (d1 : Int) : Option (St (List Bool × Bool × Bool × Int) (List Bool × Bool × Bool)) :=
  asrt (0 ≤ d1 ∧ d1 < 4) <| asrt (0 ≤ d1 ∧ d1 < 4) <| (gameroomref_WonOf_J8 g1 g2 g3 k1 y1 x1 in5 one5 two5 d1)

noncomputable def gameroomref_WonOf_J5 (x1 : Int) (in6 : List Bool) (one6 : Bool) (two6 : Bool) : Option (St (List Bool × Bool × Bool × Int) (List Bool × Bool × Bool)) :=
  some (.next (in6, one6, two6, (w64 (x1 + 1))))

noncomputable def gameroomref_WonOf_K3 (x1 : Int) : (List Bool × Bool × Bool) → Option (St (List Bool × Bool × Bool × Int) (List Bool × Bool × Bool)) :=
  fun (x : (List Bool × Bool × Bool)) => match x with | (in6, one6, two6) => (gameroomref_WonOf_J5 x1) in6 one6 two6

noncomputable def gameroomref_WonOf_L3 (g1 : Int) (g2 : Int) (g3 : List Int) (k1 : Int) (y1 : Int) (x1 : Int) : (List Bool × Bool × Bool × Int) → Option (St (List Bool × Bool × Bool × Int) (List Bool × Bool × Bool)) :=
  fun (x : (List Bool × Bool × Bool × Int)) => match x with | (in5, one5, two5, d1) => if (decide (d1 < 4)) then ((gameroomref_WonOf_J6 g1 g2 g3 k1 y1 x1 in5 one5 two5 d1)) else (some (.done (in5, one5, two5)))

noncomputable def gameroomref_WonOf_J4 (g1 : Int) (g2 : Int) (g3 : List Int) (k1 : Int) (y1 : Int) (in3 : List Bool) (one3 : Bool) (two3 : Bool) (x1 : Int) : Option (St (List Bool × Bool × Bool × Int) (List Bool × Bool × Bool)) :=
  (loop (gameroomref_WonOf_L3 g1 g2 g3 k1 y1 x1) (in3, one3, two3, 0)).bind (gameroomref_WonOf_K3 x1)

noncomputable def gameroomref_WonOf_J3 (y1 : Int) (in4 : List Bool) (one4 : Bool) (two4 : Bool) : Option (St (List Bool × Bool × Bool × Int) (List Bool × Bool × Bool)) :=
  some (.next (in4, one4, two4, (w64 (y1 + 1))))

noncomputable def gameroomref_WonOf_K2 (y1 : Int) : (List Bool × Bool × Bool) → Option (St (List Bool × Bool × Bool × Int) (List Bool × Bool × Bool)) :=
  fun (x : (List Bool × Bool × Bool)) => match x with | (in4, one4, two4) => (gameroomref_WonOf_J3 y1) in4 one4 two4

noncomputable def gameroomref_WonOf_L2 (g1 : Int) (g2 : Int) (g3 : List Int) (k1 : Int) (y1 : Int) : (List Bool × Bool × Bool × Int) → Option (St (List Bool × Bool × Bool × Int) (List Bool × Bool × Bool)) :=
  fun (x : (List Bool × Bool × Bool × Int)) => match x with | (in3, one3, two3, x1) => if (decide (x1 < g1)) then ((gameroomref_WonOf_J4 g1 g2 g3 k1 y1 in3 one3 two3 x1)) else (some (.done (in3, one3, two3)))

noncomputable def gameroomref_WonOf_J2 (g1 : Int) (g2 : Int) (g3 : List Int) (k1 : Int) (in1 : List Bool) (one1 : Bool) (two1 : Bool) (y1 : Int) : Option (St (List Bool × Bool × Bool × Int) (List Bool × Bool × Bool)) :=
  (loop (gameroomref_WonOf_L2 g1 g2 g3 k1 y1) (in1, one1, two1, 0)).bind (gameroomref_WonOf_K2 y1)

noncomputable def gameroomref_WonOf_J15 (i2 : Int) (l3 : List Int) : Option (St (List Int × Int) (List Int)) :=
  some (.next (l3, (w64 (i2 + 1))))

noncomputable def gameroomref_WonOf_J14 (g3 : List Int) (in2 : List Bool) (l1 : List Int) (i2 : Int) : Option (St (List Int × Int) (List Int)) :=
  asrt (0 ≤ i2 ∧ i2 < (((Int.toNat (g3.length : Int)) : Nat) : Int)) <| if (getb in2 i2) then (asrt ((l1.length : Int) + 1 ≤ bigN) <| (gameroomref_WonOf_J15 i2) (l1 ++ ([i2] : List Int))) else ((gameroomref_WonOf_J15 i2) l1)

noncomputable def gameroomref_WonOf_L5 (g3 : List Int) (in2 : List Bool) : (List Int × Int) → Option (St (List Int × Int) (List Int)) :=
  fun (x : (List Int × Int)) => match x with | (l1, i2) => if (decide (i2 < (((Int.toNat (g3.length : Int)) : Nat) : Int))) then ((gameroomref_WonOf_J14 g3 in2 l1 i2)) else (some (.done l1))

noncomputable def gameroomref_WonOf_J13 (n3 : Int) (l2 : List Int) : Option (Int × List Int) :=
  some (n3, l2)

noncomputable def gameroomref_WonOf_K5 (n3 : Int) : (List Int) → Option (Int × List Int) :=
  fun (x : (List Int)) => match x with | l2 => (gameroomref_WonOf_J13 n3) l2

noncomputable def gameroomref_WonOf_J12 (g3 : List Int) (in2 : List Bool) (n3 : Int) : Option (Int × List Int) :=
  (loop (gameroomref_WonOf_L5 g3 in2) (([] : List Int), 0)).bind (gameroomref_WonOf_K5 n3)

noncomputable def gameroomref_WonOf_J11 (g3 : List Int) (in2 : List Bool) (two2 : Bool) (n2 : Int) : Option (Int × List Int) :=
  if two2 then ((gameroomref_WonOf_J12 g3 in2) (w64 (n2 + 2))) else ((gameroomref_WonOf_J12 g3 in2) n2)

noncomputable def gameroomref_WonOf_J1 (g3 : List Int) (in2 : List Bool) (one2 : Bool) (two2 : Bool) : Option (Int × List Int) :=
  if one2 then ((gameroomref_WonOf_J11 g3 in2 two2) 1) else ((gameroomref_WonOf_J11 g3 in2 two2) 0)

noncomputable def gameroomref_WonOf_K1 (g3 : List Int) : (List Bool × Bool × Bool) → Option (Int × List Int) :=
  fun (x : (List Bool × Bool × Bool)) => match x with | (in2, one2, two2) => (gameroomref_WonOf_J1 g3) in2 one2 two2

noncomputable def gameroomref_WonOf_L1 (g1 : Int) (g2 : Int) (g3 : List Int) (k1 : Int) : (List Bool × Bool × Bool × Int) → Option (St (List Bool × Bool × Bool × Int) (List Bool × Bool × Bool)) :=
  fun (x : (List Bool × Bool × Bool × Int)) => match x with | (in1, one1, two1, y1) => if (decide (y1 < g2)) then ((gameroomref_WonOf_J2 g1 g2 g3 k1 in1 one1 two1 y1)) else (some (.done (in1, one1, two1)))
end Go.Proofs.Ytgafnmnacolgbaa
