/-
  Models and walks, printed by our own program (wip/gen).
-/
import Derived.Test.YtlkdblflibgfpaaFB
import Derived.Test.YtlkdblflibgfpaaLibMV
import Derived.Test.YtlkdblflibgfpaaSF
namespace Go.Proofs.Ytlkdblflibgfpaa
set_option linter.unusedVariables false
open Go Go.GL Go.RowKit




noncomputable def gameroomref_Ints_m  (l1 : List Int) : Option (List Int) :=
  asrt ((0 : Int) + (l1.length : Int) ≤ bigN) <| some ([] ++ l1)

set_option maxRecDepth 100000 in
set_option maxHeartbeats 4000000 in
theorem gameroomref_Ints_w {A1 : Option Addr} {c1 : Nat} {n1 : Nat} {l1 : List Int} {r : (List Int)} {w0 w : World} {B : Nat} {fs : List HP} (hm : gameroomref_Ints_m l1 = some r) (hS : Sep w0 B w (fs)) (hr_l1 : RdF w0 B fs A1 (vI l1)) (_hc_l1 : l1.length ≤ c1) (_hn_l1 : n1 = l1.length) :
    Calls Try.prog 100 #[.slice A1 n1 c1] w fun e w' => ∃ v, e = .returned v ∧ ∃ (A3 : Option Addr) (c3 : Nat), v = .slice A3 r.length c3 ∧ Sep w0 B w' (own 3 (.slice A3 r.length c3) (vI r) :: fs) := by
  obtain ⟨i3, hi3, hz3, hs3, hb3⟩ := info_parts Info3
  obtain rfl := _hn_l1
  unfold gameroomref_Ints_m at hm
  replace hm := start_b hm
  refine enter (l := [.slice A1 l1.length c1]) (n := 5) Try.func100 rfl rfl (by simp) (fun a hF => ?_)
  refine reg [] [] [0] [pl 0 (.slice A1 l1.length c1)] hF hS Fol (by kernel_rfl) (by kernel_rfl) (by kernel_rfl) ?_ (fun a w hF hS => ?_)
  · exact obs_nil
  refine seqR ?_
  obtain ⟨hp1, hm⟩ := asrt_b hm
  refine at_run 1 [] [] [3] [pl 3 (.slice A1 l1.length c1)] hF hS (by kernel_rfl) (by kernel_rfl) ?_ (fun a w hF hS => ?_)
  · exact obs_nil
  have hS : Sep w0 B w (own 3 (.slice none 0 0) (vI ([] : List Int)) :: fs) := hS.nil 3
  obtain ⟨A2, c2, w, hrun, hS⟩ := run_app1 (P := Try.prog) (t := 22) (m := ([] : List Int)) (ys := l1) (A2 := A1) (m2 := l1.length) (c2 := c1) (Value.int .i64) (0 : Int) (hS.at_ 0 rfl) (hr_l1 _ (hS.dropN 1)) rfl 22 Und22 hi3 hz3 hs3 (by omega) rfl (fun _ => rfl) hp1
  have hS : Sep w0 B w (own 3 (.slice A2 (([] ++ l1).length) c2) (vI ([] ++ l1)) :: fs) := hS
  refine at_do (d := 4) hF (by kernel_rfl) (by kernel_rfl) hrun (fun a hF => ?_)
  refine at_run 1 [] [] [2] [pl 2 (.slice A2 (([] ++ l1).length) c2)] hF hS (by kernel_rfl) (by kernel_rfl) ?_ (fun a w hF hS => ?_)
  · exact obs_nil
  refine at_end [2] [pl 2 (.slice A2 (([] ++ l1).length) c2)] hF rfl (by kernel_rfl) (fun hF => ?_)
  refine then_n ?_
  refine wpIn_ret ?_
  have hm : some ([] ++ l1) = some r := hm
  obtain rfl := Option.some.inj hm
  exact retV (rs := [.tmp 2]) (vs := [.slice A2 (([] ++ l1).length) c2]) hF rfl (rv_t (by kernel_rfl) <| rv_nil) rfl ⟨_, rfl, A2, c2, rfl, hS⟩

noncomputable def gameroomref_GridOf_m  (g1 : Int) (g2 : Int) (g3 : List Int) : Option (Int × Int × List Int) :=
  (gameroomref_Ints_m g3).bind fun r1 => some (g1, g2, r1)

set_option maxRecDepth 100000 in
set_option maxHeartbeats 4000000 in
theorem gameroomref_GridOf_w {g1 : Int} {g2 : Int} {A1 : Option Addr} {c1 : Nat} {n1 : Nat} {g3 : List Int} {r : (Int × Int × List Int)} {w0 w : World} {B : Nat} {fs : List HP} (hm : gameroomref_GridOf_m g1 g2 g3 = some r) (hS : Sep w0 B w (fs)) (hr_g3 : RdF w0 B fs A1 (vI g3)) (_hc_g3 : g3.length ≤ c1) (_hn_g3 : n1 = g3.length) :
    Calls Try.prog 30 #[.agg #[.int .i64 g1, .int .i64 g2, .slice A1 n1 c1]] w fun e w' => ∃ v, e = .returned v ∧ ∃ (A3 : Option Addr) (c3 : Nat), v = .agg #[.int .i64 r.1, .int .i64 r.2.1, .slice A3 r.2.2.length c3] ∧ Sep w0 B w' (own 3 (.slice A3 r.2.2.length c3) (vI r.2.2) :: fs) := by
  obtain ⟨i3, hi3, hz3, hs3, hb3⟩ := info_parts Info3
  obtain ⟨i22, hi22, hz22, hs22, hb22⟩ := info_parts Info22
  obtain rfl := _hn_g3
  unfold gameroomref_GridOf_m at hm
  replace hm := start_b hm
  refine enter (l := [.agg #[.int .i64 g1, .int .i64 g2, .slice A1 g3.length c1]]) (n := 8) Try.func30 rfl rfl (by simp) (fun a hF => ?_)
  refine seqR ?_
  refine at_do (d := 1) (s := vS (Instr.box 41 (.agg #[.int .i64 g1, .int .i64 g2, .slice A1 g3.length c1]))) (v := .pointer (some ⟨w.heap.size, 0, none⟩)) (w' := w.alloc (.cells #[.int .i64 g1, .int .i64 g2, .slice A1 g3.length c1] 41)) hF (by kernel_rfl) (by kernel_rfl) (by kernel_rfl) (fun a hF => ?_)
  have hS : Sep w0 B (w.alloc (.cells #[.int .i64 g1, .int .i64 g2, .slice A1 g3.length c1] 41)) (blk w.heap.size 41 #[.int .i64 g1, .int .i64 g2, .slice A1 g3.length c1] :: (fs)) := hS.box 41 #[.int .i64 g1, .int .i64 g2, .slice A1 g3.length c1]
  generalize w.heap.size = g4 at hF hS
  generalize w.alloc (.cells #[.int .i64 g1, .int .i64 g2, .slice A1 g3.length c1] 41) = w at hS ⊢
  refine at_do (d := 2) (s := vS (Instr.alloc 41 true (.tuple #[]))) (v := .pointer (some ⟨w.heap.size, 0, none⟩)) (w' := w.alloc (.cells #[.int .i64 0, .int .i64 0, .slice none 0 0] 41)) hF (by kernel_rfl) (by kernel_rfl) (by kernel_rfl) (fun a hF => ?_)
  have hS : Sep w0 B (w.alloc (.cells #[.int .i64 0, .int .i64 0, .slice none 0 0] 41)) (blk w.heap.size 41 #[.int .i64 0, .int .i64 0, .slice none 0 0] :: (blk g4 41 #[.int .i64 g1, .int .i64 g2, .slice A1 g3.length c1] :: fs)) := hS.box 41 #[.int .i64 0, .int .i64 0, .slice none 0 0]
  generalize w.heap.size = g5 at hF hS
  generalize w.alloc (.cells #[.int .i64 0, .int .i64 0, .slice none 0 0] 41) = w at hS ⊢
  refine at_end [1, 2] [pl 1 (.pointer (some ⟨g4, 0, none⟩)), pl 2 (.pointer (some ⟨g5, 0, none⟩))] hF rfl (by kernel_rfl) (fun hF => ?_)
  refine then_n ?_
  refine seqR ?_
  obtain ⟨r1, hr1, hm⟩ := call_b hm
  refine at_run 2 [⟨false, [], vS (Instr.loadAt 22 (.pointer (some ⟨g4, 2, none⟩))), .slice A1 g3.length c1⟩] [none, some (.slice A1 g3.length c1)] [1, 2, 4] [pl 1 (.pointer (some ⟨g4, 0, none⟩)), pl 2 (.pointer (some ⟨g5, 0, none⟩)), pl 4 (.slice A1 g3.length c1)] hF hS (by kernel_rfl) (by kernel_rfl) ?_ (fun a w hF hS => ?_)
  · exact obs_cons (ob_load Agg22 (fun _ _ hS => (hS.at_ 1 rfl).cell rfl)) <| obs_nil
  refine at_call (f := 100) (args := #[.slice A1 g3.length c1]) (d := 5) hF (by kernel_rfl) (by kernel_rfl) Try.func100 (by kernel_rfl) rfl (gameroomref_Ints_w hr1 hS (fun _ hS => (hr_g3 _ (hS.dropN 2))) _hc_g3 rfl) (fun v a w hR hF => ?_)
  clear hS
  obtain ⟨A2, c2, rfl, hS⟩ := hR
  have hS : Sep w0 B w (own 3 (.slice A2 r1.length c2) (vI r1) :: blk g5 41 #[.int .i64 0, .int .i64 0, .slice none 0 0] :: blk g4 41 #[.int .i64 g1, .int .i64 g2, .slice A1 g3.length c1] :: fs) := hS
  refine at_run 1 [] [] [1, 2, 5, 6] [pl 1 (.pointer (some ⟨g4, 0, none⟩)), pl 2 (.pointer (some ⟨g5, 0, none⟩)), pl 5 (.slice A2 r1.length c2), pl 6 (.pointer (some ⟨g4, 2, none⟩))] hF hS (by kernel_rfl) (by kernel_rfl) ?_ (fun a w hF hS => ?_)
  · exact obs_nil
  obtain ⟨w, hrun, hS⟩ := run_put (P := Try.prog) (t := 22) (u := .slice A2 r1.length c2) (i := 2) (hS.at_ 2 rfl) hi22 hs22 rfl (Nat.lt_of_lt_of_eq (Nat.lt_of_succ_le (Nat.le_of_ble_eq_true (by kernel_rfl))) rfl)
  refine at_skip hF (by kernel_rfl) hrun ?_
  have hS : Sep w0 B w (own 3 (.slice A2 r1.length c2) (vI r1) :: blk g5 41 #[.int .i64 0, .int .i64 0, .slice none 0 0] :: blk g4 41 #[.int .i64 g1, .int .i64 g2, .slice A2 r1.length c2] :: fs) := hS
  refine at_end [1, 2] [pl 1 (.pointer (some ⟨g4, 0, none⟩)), pl 2 (.pointer (some ⟨g5, 0, none⟩))] hF rfl (by kernel_rfl) (fun hF => ?_)
  refine then_n ?_
  refine seqR ?_
  refine at_run 1 [⟨false, [], vS (Instr.loadAt 41 (.pointer (some ⟨g4, 0, none⟩))), .agg #[.int .i64 g1, .int .i64 g2, .slice A2 r1.length c2]⟩] [some (.agg #[.int .i64 g1, .int .i64 g2, .slice A2 r1.length c2])] [2, 7] [pl 2 (.pointer (some ⟨g5, 0, none⟩)), pl 7 (.agg #[.int .i64 g1, .int .i64 g2, .slice A2 r1.length c2])] hF hS (by kernel_rfl) (by kernel_rfl) ?_ (fun a w hF hS => ?_)
  · exact obs_cons (ob_loadA (cs := #[.int .i64 g1, .int .i64 g2, .slice A2 r1.length c2]) (by kernel_rfl) (by kernel_rfl) (fun _ _ hS => (hS.at_ 2 rfl).cellsAt 0 (by rfl))) <| obs_nil
  obtain ⟨w, hrun, hS⟩ := run_putA (P := Try.prog) (t := 41) (us := #[.int .i64 g1, .int .i64 g2, .slice A2 r1.length c2]) (o := 0) (hS.at_ 1 rfl) (by kernel_rfl) (all_one (by kernel_rfl)) (Nat.le_of_ble_eq_true (by kernel_rfl))
  refine at_skip hF (by kernel_rfl) hrun ?_
  have hS : Sep w0 B w (own 3 (.slice A2 r1.length c2) (vI r1) :: blk g5 41 #[.int .i64 g1, .int .i64 g2, .slice A2 r1.length c2] :: blk g4 41 #[.int .i64 g1, .int .i64 g2, .slice A2 r1.length c2] :: fs) := hS
  refine at_end [2] [pl 2 (.pointer (some ⟨g5, 0, none⟩))] hF rfl (by kernel_rfl) (fun hF => ?_)
  refine then_n ?_
  refine wpIn_ret ?_
  have hld0 := run_loadVarA (P := Try.prog) (t := 41) (cs := #[.int .i64 g1, .int .i64 g2, .slice A2 r1.length c2]) (by kernel_rfl) (by kernel_rfl) ((hS.at_ 1 rfl).cellsAt 0 (by rfl))
  have hS := hS.pickN 3 [0] (by decide)
  have hm : some (g1, g2, r1) = some r := hm
  obtain rfl := Option.some.inj hm
  exact retV (rs := [.cell 2 41]) (vs := [.agg #[.int .i64 g1, .int .i64 g2, .slice A2 r1.length c2]]) hF rfl (rv_c (by kernel_rfl) hld0 <| rv_nil) rfl ⟨_, rfl, A2, c2, rfl, hS⟩

noncomputable def rows_May_1_m  (c1 : Int) : Option Bool :=
  some ((decide (c1 < 0)) || (decide ((2 : Int) < c1)))

set_option maxRecDepth 100000 in
set_option maxHeartbeats 4000000 in
theorem rows_May_1_w {c1 : Int} {r : Bool} {w0 w : World} {B : Nat} {fs : List HP} (hm : rows_May_1_m c1 = some r) (hS : Sep w0 B w (fs)) :
    Calls Try.prog 169 #[.int .i64 c1] w fun e w' => e = .returned (.bool r) ∧ Sep w0 B w' (fs) := by
  unfold rows_May_1_m at hm
  replace hm := start_b hm
  refine enter (l := [.int .i64 c1]) (n := 9) Try.func169 rfl rfl (by simp) (fun a hF => ?_)
  refine reg [] [] [0] [pl 0 (.int .i64 c1)] hF hS Fol (by kernel_rfl) (by kernel_rfl) (by kernel_rfl) ?_ (fun a w hF hS => ?_)
  · exact obs_nil
  refine reg [] [] [2] [pl 2 (.bool ((decide (c1 < 0)) || (decide ((2 : Int) < c1))))] hF hS Fol (by kernel_rfl) (by kernel_rfl) (by kernel_rfl) ?_ (fun a w hF hS => ?_)
  · exact obs_nil
  refine wpIn_ret ?_
  have hm : some ((decide (c1 < 0)) || (decide ((2 : Int) < c1))) = some r := hm
  obtain rfl := Option.some.inj hm
  exact retV (rs := [.tmp 2]) (vs := [.bool ((decide (c1 < 0)) || (decide ((2 : Int) < c1)))]) hF rfl (rv_t (by kernel_rfl) <| rv_nil) rfl ⟨rfl, hS⟩

noncomputable def slices_IndexFunc_J3  (z1 : Int) : Option (St Int (Fl Unit Int)) :=
  some (.next (w64 (z1 + 1)))

noncomputable def slices_IndexFunc_J2  (s1 : List Int) (z1 : Int) : Option (St Int (Fl Unit Int)) :=
  asrt (0 ≤ z1 ∧ z1 < (s1.length : Int)) <| (rows_May_1_m (geti s1 z1)).bind fun r1 => if r1 then (some (.done (.ret z1))) else ((slices_IndexFunc_J3 z1))

noncomputable def slices_IndexFunc_J1  : Option Int :=
  some (-1)

noncomputable def slices_IndexFunc_K1  : (Fl Unit Int) → Option Int :=
  fun (x : (Fl Unit Int)) => match x with | .go _ => slices_IndexFunc_J1 | .ret x => some x

noncomputable def slices_IndexFunc_L1  (s1 : List Int) : Int → Option (St Int (Fl Unit Int)) :=
  fun (x : Int) => match x with | z1 => if (decide (z1 < (s1.length : Int))) then ((slices_IndexFunc_J2 s1 z1)) else (some (.done (.go ())))

noncomputable def slices_IndexFunc_m  (s1 : List Int) : Option Int :=
  (loop (slices_IndexFunc_L1 s1) 0).bind slices_IndexFunc_K1

set_option maxRecDepth 100000 in
set_option maxHeartbeats 4000000 in
theorem slices_IndexFunc_w {A1 : Option Addr} {c1 : Nat} {n1 : Nat} {s1 : List Int} {r : Int} {w0 w : World} {B : Nat} {fs : List HP} (hm : slices_IndexFunc_m s1 = some r) (hS : Sep w0 B w (fs)) (hr_s1 : RdF w0 B fs A1 (vI s1)) (_hc_s1 : s1.length ≤ c1) (_hn_s1 : n1 = s1.length) :
    Calls Try.prog 167 #[.slice A1 n1 c1, .func (.func 169) #[] #[]] w fun e w' => e = .returned (.int .i64 r) ∧ Sep w0 B w' (fs) := by
  obtain ⟨i3, hi3, hz3, hs3, hb3⟩ := info_parts Info3
  obtain rfl := _hn_s1
  unfold slices_IndexFunc_m at hm
  replace hm := start_b hm
  refine enter (l := [.slice A1 s1.length c1, .func (.func 169) #[] #[]]) (n := 19) Try.func167 rfl rfl (by simp) (fun a hF => ?_)
  refine reg [] [] [0, 1] [pl 0 (.slice A1 s1.length c1), pl 1 (.func (.func 169) #[] #[])] hF hS Fol (by kernel_rfl) (by kernel_rfl) (by kernel_rfl) ?_ (fun a w hF hS => ?_)
  · exact obs_nil
  refine seq_cut (fun a w => Fr 19 [] a ∧ Sep w0 B w (fs) ∧ (slices_IndexFunc_J1).bind some = some r) ?_ ?_
  · rintro a w ⟨hF, hS, hm⟩
    unfold slices_IndexFunc_J1 at hm
    refine reg [] [] [4] [pl 4 (.int .i64 (-1))] hF hS Fol (by kernel_rfl) (by kernel_rfl) (by kernel_rfl) ?_ (fun a w hF hS => ?_)
    · exact obs_nil
    refine wpIn_ret ?_
    have hm : some (-1) = some r := hm
    obtain rfl := Option.some.inj hm
    exact retV (rs := [.tmp 4]) (vs := [.int .i64 (-1)]) hF rfl (rv_t (by kernel_rfl) <| rv_nil) rfl ⟨rfl, hS⟩
  · refine reg [] [] [0, 1, 7, 8] [pl 0 (.slice A1 s1.length c1), pl 1 (.func (.func 169) #[] #[]), pl 7 (.int .i64 (s1.length : Int)), pl 8 (.int .i64 0)] hF hS Fol (by kernel_rfl) (by kernel_rfl) (by kernel_rfl) ?_ (fun a w hF hS => ?_)
    · exact obs_nil
    refine wpIn_block ?_
    refine wp_loop_model (S := Int) (R := (Fl Unit Int)) (slices_IndexFunc_L1 s1) (fun x => (slices_IndexFunc_K1 x).bind some) r (fun (x : Int) a w => Fr 19 [pl 0 (.slice A1 s1.length c1), pl 1 (.func (.func 169) #[] #[]), pl 7 (.int .i64 (s1.length : Int)), pl 8 (.int .i64 x)] a ∧ Sep w0 B w (fs)) (assoc_b hm) ⟨hF.weak [0, 1, 7, 8] (by kernel_rfl), hS⟩ ?_
    clear hF hS hm
    rintro nn1 z1 a w ⟨hF, hS⟩ hm
    generalize hφ1 : stK (slices_IndexFunc_L1 s1) nn1 (fun x => (slices_IndexFunc_K1 x).bind some) = φ1 at hm
    unfold slices_IndexFunc_L1 at hm
    dsimp only at hm
    refine reg [] [] [0, 1, 7, 8, 9] [pl 0 (.slice A1 s1.length c1), pl 1 (.func (.func 169) #[] #[]), pl 7 (.int .i64 (s1.length : Int)), pl 8 (.int .i64 z1), pl 9 (.bool (decide (z1 < (s1.length : Int))))] hF hS Fol (by kernel_rfl) (by kernel_rfl) (by kernel_rfl) ?_ (fun a w hF hS => ?_)
    · exact obs_nil
    refine seq_cut (fun a w => Fr 19 [pl 0 (.slice A1 s1.length c1), pl 1 (.func (.func 169) #[] #[]), pl 7 (.int .i64 (s1.length : Int)), pl 8 (.int .i64 z1)] a ∧ Sep w0 B w (fs) ∧ ((slices_IndexFunc_J2 s1 z1)).bind φ1 = some r) ?_ ?_
    · rintro a w ⟨hF, hS, hm⟩
      unfold slices_IndexFunc_J2 at hm
      refine seq_cut (fun a w => Fr 19 [pl 0 (.slice A1 s1.length c1), pl 1 (.func (.func 169) #[] #[]), pl 7 (.int .i64 (s1.length : Int)), pl 8 (.int .i64 z1)] a ∧ Sep w0 B w (fs) ∧ ((slices_IndexFunc_J3 z1)).bind φ1 = some r) ?_ ?_
      · rintro a w ⟨hF, hS, hm⟩
        unfold slices_IndexFunc_J3 at hm
        refine reg1 [] [] [0, 1, 7, 8] [pl 0 (.slice A1 s1.length c1), pl 1 (.func (.func 169) #[] #[]), pl 7 (.int .i64 (s1.length : Int)), pl 8 (.int .i64 (w64 (z1 + 1)))] hF hS Fol (by kernel_rfl) (by kernel_rfl) (by kernel_rfl) ?_ (fun a w hF hS => ?_)
        · exact obs_nil
        refine then_n ?_
        rw [← hφ1] at hm
        exact ⟨(w64 (z1 + 1)), ⟨hF.weak [0, 1, 7, 8] (by kernel_rfl), hS⟩, hm⟩
      · refine wpIn_block ?_
        refine reg [] [] [0, 1, 5, 7, 8] [pl 0 (.slice A1 s1.length c1), pl 1 (.func (.func 169) #[] #[]), pl 5 (.int .i64 z1), pl 7 (.int .i64 (s1.length : Int)), pl 8 (.int .i64 z1)] hF hS Fol (by kernel_rfl) (by kernel_rfl) (by kernel_rfl) ?_ (fun a w hF hS => ?_)
        · exact obs_nil
        obtain ⟨hp1, hm⟩ := asrt_b hm
        obtain ⟨r1, hr1, hm⟩ := call_b hm
        refine reg [⟨true, [], vS (Instr.indexAt 22 (.slice A1 s1.length c1) (.int .i64 z1)), .pointer (some (sAddr A1 z1))⟩, ⟨false, [], vS (Instr.loadAt 3 (.pointer (some (sAddr A1 z1)))), .int .i64 (geti s1 z1)⟩, ⟨false, [], callFunc 169 #[.int .i64 (geti s1 z1)], .bool r1⟩] [none, none, none, some (.pointer (some (sAddr A1 z1))), some (.int .i64 (geti s1 z1)), some (.bool r1)] [0, 1, 5, 7, 8, 16] [pl 0 (.slice A1 s1.length c1), pl 1 (.func (.func 169) #[] #[]), pl 5 (.int .i64 z1), pl 7 (.int .i64 (s1.length : Int)), pl 8 (.int .i64 z1), pl 16 (.bool r1)] hF hS Fol (by kernel_rfl) (by kernel_rfl) (by kernel_rfl) ?_ (fun a w hF hS => ?_)
        · exact obs_cons (ob_ix1 (f := (Value.int .i64)) (m := s1) Und22 hi3 hs3 (hr_s1 _ (hS.dropN 0)) rfl (fun _ => hp1)) <| obs_cons (ob_get1 (n := s1.length) (m := s1) (Value.int .i64) (0 : Int) Agg3 (fun _ hS => ⟨_, (hr_s1 _ (hS.dropN 0))⟩) (fun _ hS => rfl) (fun _ => hp1)) <| obs_cons (ob_call Try.func169 (by kernel_rfl) rfl (fun _ _ hS => rows_May_1_w hr1 hS )) <| obs_nil
        refine cond_ev (t := 16) (b := r1) hF (by kernel_rfl) (fun hb => ?_) (fun hb => ?_)
        · replace hm := if_t hm hb
          refine reg [] [] [4] [pl 4 (.int .i64 z1)] hF hS Fol (by kernel_rfl) (by kernel_rfl) (by kernel_rfl) ?_ (fun a w hF hS => ?_)
          · exact obs_nil
          refine wpIn_ret ?_
          refine block_r (then_r (then_r (block_r (then_r ?_))))
          rw [← hφ1] at hm
          replace hm := done_b hm
          unfold slices_IndexFunc_K1 at hm
          try dsimp only at hm
          have hm : some z1 = some r := hm
          obtain rfl := Option.some.inj hm
          exact retV (rs := [.tmp 4]) (vs := [.int .i64 z1]) hF rfl (rv_t (by kernel_rfl) <| rv_nil) rfl ⟨rfl, hS⟩
        · replace hm := if_f hm hb
          refine wpIn_skip ?_
          refine block_n ?_
          refine then_n ?_
          exact ⟨hF.weak [0, 1, 7, 8] (by kernel_rfl), hS, hm⟩
    · refine cond_ev (t := 9) (b := decide (z1 < (s1.length : Int))) hF (by kernel_rfl) (fun hb => ?_) (fun hb => ?_)
      · replace hm := if_t hm hb
        refine wpIn_skip ?_
        refine then_n ?_
        exact ⟨hF.weak [0, 1, 7, 8] (by kernel_rfl), hS, hm⟩
      · replace hm := if_f hm hb
        refine wpIn_exit ?_
        refine then_e (then_e (block_e (then_n ?_)))
        rw [← hφ1] at hm
        replace hm := done_b hm
        unfold slices_IndexFunc_K1 at hm
        try dsimp only at hm
        have hm : (slices_IndexFunc_J1).bind some = some r := hm
        exact ⟨hF.weak [] (by kernel_rfl), hS, hm⟩

noncomputable def slices_ContainsFunc_m  (s1 : List Int) : Option Bool :=
  (slices_IndexFunc_m s1).bind fun r1 => some (decide ((0 : Int) ≤ r1))

set_option maxRecDepth 100000 in
set_option maxHeartbeats 4000000 in
theorem slices_ContainsFunc_w {A1 : Option Addr} {c1 : Nat} {n1 : Nat} {s1 : List Int} {r : Bool} {w0 w : World} {B : Nat} {fs : List HP} (hm : slices_ContainsFunc_m s1 = some r) (hS : Sep w0 B w (fs)) (hr_s1 : RdF w0 B fs A1 (vI s1)) (_hc_s1 : s1.length ≤ c1) (_hn_s1 : n1 = s1.length) :
    Calls Try.prog 91 #[.slice A1 n1 c1, .func (.func 169) #[] #[]] w fun e w' => e = .returned (.bool r) ∧ Sep w0 B w' (fs) := by
  obtain ⟨i3, hi3, hz3, hs3, hb3⟩ := info_parts Info3
  obtain rfl := _hn_s1
  unfold slices_ContainsFunc_m at hm
  replace hm := start_b hm
  refine enter (l := [.slice A1 s1.length c1, .func (.func 169) #[] #[]]) (n := 9) Try.func91 rfl rfl (by simp) (fun a hF => ?_)
  refine reg [] [] [0, 1] [pl 0 (.slice A1 s1.length c1), pl 1 (.func (.func 169) #[] #[])] hF hS Fol (by kernel_rfl) (by kernel_rfl) (by kernel_rfl) ?_ (fun a w hF hS => ?_)
  · exact obs_nil
  obtain ⟨r1, hr1, hm⟩ := call_b hm
  refine reg [⟨false, [], callFunc 167 #[.slice A1 s1.length c1, .func (.func 169) #[] #[]], .int .i64 r1⟩] [none, none, some (.int .i64 r1), none, none] [4] [pl 4 (.bool (decide ((0 : Int) ≤ r1)))] hF hS Fol (by kernel_rfl) (by kernel_rfl) (by kernel_rfl) ?_ (fun a w hF hS => ?_)
  · exact obs_cons (ob_call Try.func167 (by kernel_rfl) rfl (fun _ _ hS => slices_IndexFunc_w hr1 hS (fun _ hS => (hr_s1 _ (hS.dropN 0))) _hc_s1 rfl)) <| obs_nil
  refine wpIn_ret ?_
  have hm : some (decide ((0 : Int) ≤ r1)) = some r := hm
  obtain rfl := Option.some.inj hm
  exact retV (rs := [.tmp 4]) (vs := [.bool (decide ((0 : Int) ≤ r1))]) hF rfl (rv_t (by kernel_rfl) <| rv_nil) rfl ⟨rfl, hS⟩

noncomputable def rows_May_m  (g1 : Int) (g2 : Int) (g3 : List Int) : Option Bool :=
  ((if (((((decide ((1 : Int) ≤ g1)) && (decide (g1 ≤ 10))) && (decide ((1 : Int) ≤ g2))) && (decide (g2 ≤ 10))) && ((g3.length : Int) == (w64 (g1 * g2)))) then slices_ContainsFunc_m g3 else some false)).bind fun r1 => some ((((((decide ((1 : Int) ≤ g1)) && (decide (g1 ≤ 10))) && (decide ((1 : Int) ≤ g2))) && (decide (g2 ≤ 10))) && ((g3.length : Int) == (w64 (g1 * g2)))) && (!r1))

set_option maxRecDepth 100000 in
set_option maxHeartbeats 4000000 in
theorem rows_May_w {g1 : Int} {g2 : Int} {A1 : Option Addr} {c1 : Nat} {n1 : Nat} {g3 : List Int} {r : Bool} {w0 w : World} {B : Nat} {fs : List HP} (hm : rows_May_m g1 g2 g3 = some r) (hS : Sep w0 B w (fs)) (hr_g3 : RdF w0 B fs A1 (vI g3)) (_hc_g3 : g3.length ≤ c1) (_hn_g3 : n1 = g3.length) :
    Calls Try.prog 96 #[.agg #[.int .i64 g1, .int .i64 g2, .slice A1 n1 c1]] w fun e w' => e = .returned (.bool r) ∧ Sep w0 B w' (fs) := by
  obtain ⟨i3, hi3, hz3, hs3, hb3⟩ := info_parts Info3
  obtain rfl := _hn_g3
  unfold rows_May_m at hm
  replace hm := start_b hm
  refine enter (l := [.agg #[.int .i64 g1, .int .i64 g2, .slice A1 g3.length c1]]) (n := 38) Try.func96 rfl rfl (by simp) (fun a hF => ?_)
  refine seqR ?_
  refine at_do (d := 1) (s := vS (Instr.box 41 (.agg #[.int .i64 g1, .int .i64 g2, .slice A1 g3.length c1]))) (v := .pointer (some ⟨w.heap.size, 0, none⟩)) (w' := w.alloc (.cells #[.int .i64 g1, .int .i64 g2, .slice A1 g3.length c1] 41)) hF (by kernel_rfl) (by kernel_rfl) (by kernel_rfl) (fun a hF => ?_)
  have hS : Sep w0 B (w.alloc (.cells #[.int .i64 g1, .int .i64 g2, .slice A1 g3.length c1] 41)) (blk w.heap.size 41 #[.int .i64 g1, .int .i64 g2, .slice A1 g3.length c1] :: (fs)) := hS.box 41 #[.int .i64 g1, .int .i64 g2, .slice A1 g3.length c1]
  generalize w.heap.size = g4 at hF hS
  generalize w.alloc (.cells #[.int .i64 g1, .int .i64 g2, .slice A1 g3.length c1] 41) = w at hS ⊢
  refine at_run 1 [] [] [1] [pl 1 (.pointer (some ⟨g4, 0, none⟩))] hF hS (by kernel_rfl) (by kernel_rfl) ?_ (fun a w hF hS => ?_)
  · exact obs_nil
  refine at_end [1] [pl 1 (.pointer (some ⟨g4, 0, none⟩))] hF rfl (by kernel_rfl) (fun hF => ?_)
  refine then_n ?_
  obtain ⟨r1, hr1, hm⟩ := call_b hm
  refine reg [⟨false, [], vS (Instr.loadAt 3 (.pointer (some ⟨g4, 0, none⟩))), .int .i64 g1⟩, ⟨false, [(decide ((1 : Int) ≤ g1), true)], vS (Instr.loadAt 3 (.pointer (some ⟨g4, 0, none⟩))), .int .i64 g1⟩, ⟨false, [((decide ((1 : Int) ≤ g1)) && (decide (g1 ≤ 10)), true)], vS (Instr.loadAt 3 (.pointer (some ⟨g4, 1, none⟩))), .int .i64 g2⟩, ⟨false, [(((decide ((1 : Int) ≤ g1)) && (decide (g1 ≤ 10))) && (decide ((1 : Int) ≤ g2)), true)], vS (Instr.loadAt 3 (.pointer (some ⟨g4, 1, none⟩))), .int .i64 g2⟩, ⟨false, [((((decide ((1 : Int) ≤ g1)) && (decide (g1 ≤ 10))) && (decide ((1 : Int) ≤ g2))) && (decide (g2 ≤ 10)), true)], vS (Instr.loadAt 22 (.pointer (some ⟨g4, 2, none⟩))), .slice A1 g3.length c1⟩, ⟨false, [((((decide ((1 : Int) ≤ g1)) && (decide (g1 ≤ 10))) && (decide ((1 : Int) ≤ g2))) && (decide (g2 ≤ 10)), true)], vS (Instr.loadAt 3 (.pointer (some ⟨g4, 0, none⟩))), .int .i64 g1⟩, ⟨false, [((((decide ((1 : Int) ≤ g1)) && (decide (g1 ≤ 10))) && (decide ((1 : Int) ≤ g2))) && (decide (g2 ≤ 10)), true)], vS (Instr.loadAt 3 (.pointer (some ⟨g4, 1, none⟩))), .int .i64 g2⟩, ⟨false, [(((((decide ((1 : Int) ≤ g1)) && (decide (g1 ≤ 10))) && (decide ((1 : Int) ≤ g2))) && (decide (g2 ≤ 10))) && ((g3.length : Int) == (w64 (g1 * g2))), true)], vS (Instr.loadAt 22 (.pointer (some ⟨g4, 2, none⟩))), .slice A1 g3.length c1⟩, ⟨false, [(((((decide ((1 : Int) ≤ g1)) && (decide (g1 ≤ 10))) && (decide ((1 : Int) ≤ g2))) && (decide (g2 ≤ 10))) && ((g3.length : Int) == (w64 (g1 * g2))), true)], callFunc 91 #[.slice A1 g3.length c1, .func (.func 169) #[] #[]], .bool r1⟩] [none, some (.int .i64 g1), none, none, none, some (.int .i64 g1), none, none, none, none, some (.int .i64 g2), none, none, none, none, some (.int .i64 g2), none, none, none, none, some (.slice A1 g3.length c1), none, none, some (.int .i64 g1), none, some (.int .i64 g2), none, none, none, none, none, some (.slice A1 g3.length c1), some (.bool r1), none, none, none] [2] [pl 2 (.bool ((((((decide ((1 : Int) ≤ g1)) && (decide (g1 ≤ 10))) && (decide ((1 : Int) ≤ g2))) && (decide (g2 ≤ 10))) && ((g3.length : Int) == (w64 (g1 * g2)))) && (!r1)))] hF hS Fol (by kernel_rfl) (by kernel_rfl) (by kernel_rfl) ?_ (fun a w hF hS => ?_)
  · exact obs_cons (ob_load Agg3 (fun _ _ hS => (hS.at_ 0 rfl).cell rfl)) <| obs_cons (ob_load Agg3 (fun _ _ hS => (hS.at_ 0 rfl).cell rfl)) <| obs_cons (ob_load Agg3 (fun _ _ hS => (hS.at_ 0 rfl).cell rfl)) <| obs_cons (ob_load Agg3 (fun _ _ hS => (hS.at_ 0 rfl).cell rfl)) <| obs_cons (ob_load Agg22 (fun _ _ hS => (hS.at_ 0 rfl).cell rfl)) <| obs_cons (ob_load Agg3 (fun _ _ hS => (hS.at_ 0 rfl).cell rfl)) <| obs_cons (ob_load Agg3 (fun _ _ hS => (hS.at_ 0 rfl).cell rfl)) <| obs_cons (ob_load Agg22 (fun _ _ hS => (hS.at_ 0 rfl).cell rfl)) <| obs_cons (ob_call Try.func91 (by kernel_rfl) rfl (fun hy _ hS => slices_ContainsFunc_w (ite_some hr1 (by rw [show (((((decide ((1 : Int) ≤ g1)) && (decide (g1 ≤ 10))) && (decide ((1 : Int) ≤ g2))) && (decide (g2 ≤ 10))) && ((g3.length : Int) == (w64 (g1 * g2)))) = true from hy (((((decide ((1 : Int) ≤ g1)) && (decide (g1 ≤ 10))) && (decide ((1 : Int) ≤ g2))) && (decide (g2 ≤ 10))) && ((g3.length : Int) == (w64 (g1 * g2))), true) (by simp)]; try rfl)) hS (fun _ hS => (hr_g3 _ (hS.dropN 1))) _hc_g3 rfl)) <| obs_nil
  refine wpIn_ret ?_
  have hS := hS.pickN 1 [] (by decide)
  have hm : some ((((((decide ((1 : Int) ≤ g1)) && (decide (g1 ≤ 10))) && (decide ((1 : Int) ≤ g2))) && (decide (g2 ≤ 10))) && ((g3.length : Int) == (w64 (g1 * g2)))) && (!r1)) = some r := hm
  obtain rfl := Option.some.inj hm
  exact retV (rs := [.tmp 2]) (vs := [.bool ((((((decide ((1 : Int) ≤ g1)) && (decide (g1 ≤ 10))) && (decide ((1 : Int) ≤ g2))) && (decide (g2 ≤ 10))) && ((g3.length : Int) == (w64 (g1 * g2)))) && (!r1))]) hF rfl (rv_t (by kernel_rfl) <| rv_nil) rfl ⟨rfl, hS⟩

noncomputable def pegs_jump_2_m (x1 : List (Int × Int × Int)) : Option (List (Int × Int × Int)) :=
  asrt (midOk x1) <| asrt ((x1.length : Int) ≤ bigN) <| some (sortK cfJ x1)

theorem pegs_jump_2_w {A1 : Option Addr} {c1 : Nat} {n1 : Nat} {x1 : List (Int × Int × Int)} {r : (List (Int × Int × Int))} {w0 w : World} {B : Nat} {fs : List HP} (hm : pegs_jump_2_m x1 = some r) (hS : Sep w0 B w (ownK 128 3 A1 n1 c1 (List.flatMap enc128 x1) :: fs)) :
    Calls Try.prog 170 #[.slice A1 n1 c1, .func (.func 171) #[] #[]] w fun e w' => ∃ v, e = .returned v ∧ v = .tuple #[] ∧ Sep w0 B w' (ownK 128 3 A1 n1 c1 (List.flatMap enc128 r) :: fs) := by
  unfold pegs_jump_2_m at hm
  obtain ⟨hd, hm⟩ := asrt_b (start_b hm)
  obtain ⟨hb, hm⟩ := asrt_b hm
  obtain rfl := Option.some.inj hm
  exact sortJ_own SortFL encK128 SortFA SortFZ SortFE SortFC hd hS hb

noncomputable def pegs_jumps_J5  (z2 : Int) (l5 : List (Int × Int × Int)) : Option (St (List (Int × Int × Int) × Int) (List (Int × Int × Int))) :=
  some (.next (l5, (w64 (z2 + 1))))

noncomputable def pegs_jumps_J6  (g1 : Int) (g3 : List Int) (z1 : Int) (l3 : List (Int × Int × Int)) (z2 : Int) : Option (St (List (Int × Int × Int) × Int) (List (Int × Int × Int))) :=
  asrt (0 ≤ z1 ∧ z1 < (g3.length : Int)) <| asrt (((geti g3 z1) != 2) = true → 0 ≤ (w64 ((w64 ((w64 ((w64 ((w64 (Int.tdiv z1 g1)) + (geti ([1, 0, (-1), 0, 0, 1, 0, (-1)] : List Int) (z2 * 2 + 1)))) * g1)) + (Int.tmod z1 g1))) + (geti ([1, 0, (-1), 0, 0, 1, 0, (-1)] : List Int) (z2 * 2)))) ∧ (w64 ((w64 ((w64 ((w64 ((w64 (Int.tdiv z1 g1)) + (geti ([1, 0, (-1), 0, 0, 1, 0, (-1)] : List Int) (z2 * 2 + 1)))) * g1)) + (Int.tmod z1 g1))) + (geti ([1, 0, (-1), 0, 0, 1, 0, (-1)] : List Int) (z2 * 2)))) < (g3.length : Int)) <| asrt ((((geti g3 z1) != 2) && ((geti g3 (w64 ((w64 ((w64 ((w64 ((w64 (Int.tdiv z1 g1)) + (geti ([1, 0, (-1), 0, 0, 1, 0, (-1)] : List Int) (z2 * 2 + 1)))) * g1)) + (Int.tmod z1 g1))) + (geti ([1, 0, (-1), 0, 0, 1, 0, (-1)] : List Int) (z2 * 2))))) != 2)) = true → 0 ≤ (w64 ((w64 ((w64 ((w64 (Int.tdiv z1 g1)) + (w64 (2 * (geti ([1, 0, (-1), 0, 0, 1, 0, (-1)] : List Int) (z2 * 2 + 1)))))) * g1)) + (w64 ((Int.tmod z1 g1) + (w64 (2 * (geti ([1, 0, (-1), 0, 0, 1, 0, (-1)] : List Int) (z2 * 2)))))))) ∧ (w64 ((w64 ((w64 ((w64 (Int.tdiv z1 g1)) + (w64 (2 * (geti ([1, 0, (-1), 0, 0, 1, 0, (-1)] : List Int) (z2 * 2 + 1)))))) * g1)) + (w64 ((Int.tmod z1 g1) + (w64 (2 * (geti ([1, 0, (-1), 0, 0, 1, 0, (-1)] : List Int) (z2 * 2)))))))) < (g3.length : Int)) <| if ((((geti g3 z1) != 2) && ((geti g3 (w64 ((w64 ((w64 ((w64 ((w64 (Int.tdiv z1 g1)) + (geti ([1, 0, (-1), 0, 0, 1, 0, (-1)] : List Int) (z2 * 2 + 1)))) * g1)) + (Int.tmod z1 g1))) + (geti ([1, 0, (-1), 0, 0, 1, 0, (-1)] : List Int) (z2 * 2))))) != 2)) && ((geti g3 (w64 ((w64 ((w64 ((w64 (Int.tdiv z1 g1)) + (w64 (2 * (geti ([1, 0, (-1), 0, 0, 1, 0, (-1)] : List Int) (z2 * 2 + 1)))))) * g1)) + (w64 ((Int.tmod z1 g1) + (w64 (2 * (geti ([1, 0, (-1), 0, 0, 1, 0, (-1)] : List Int) (z2 * 2))))))))) != 2)) then (asrt ((l3.length : Int) + 1 ≤ bigT) <| (pegs_jumps_J5 z2) (l3 ++ ([(z1, w64 ((w64 ((w64 ((w64 ((w64 (Int.tdiv z1 g1)) + (geti ([1, 0, (-1), 0, 0, 1, 0, (-1)] : List Int) (z2 * 2 + 1)))) * g1)) + (Int.tmod z1 g1))) + (geti ([1, 0, (-1), 0, 0, 1, 0, (-1)] : List Int) (z2 * 2))), w64 ((w64 ((w64 ((w64 (Int.tdiv z1 g1)) + (w64 (2 * (geti ([1, 0, (-1), 0, 0, 1, 0, (-1)] : List Int) (z2 * 2 + 1)))))) * g1)) + (w64 ((Int.tmod z1 g1) + (w64 (2 * (geti ([1, 0, (-1), 0, 0, 1, 0, (-1)] : List Int) (z2 * 2))))))))] : List (Int × Int × Int)))) else ((pegs_jumps_J5 z2) l3)

noncomputable def pegs_jumps_J4  (g1 : Int) (g2 : Int) (g3 : List Int) (z1 : Int) (l3 : List (Int × Int × Int)) (z2 : Int) : Option (St (List (Int × Int × Int) × Int) (List (Int × Int × Int))) :=
  asrt (0 ≤ z2 ∧ z2 < 4) <| if ((((decide ((w64 ((Int.tmod z1 g1) + (w64 (2 * (geti ([1, 0, (-1), 0, 0, 1, 0, (-1)] : List Int) (z2 * 2)))))) < 0)) || (decide (g1 ≤ (w64 ((Int.tmod z1 g1) + (w64 (2 * (geti ([1, 0, (-1), 0, 0, 1, 0, (-1)] : List Int) (z2 * 2))))))))) || (decide ((w64 ((w64 (Int.tdiv z1 g1)) + (w64 (2 * (geti ([1, 0, (-1), 0, 0, 1, 0, (-1)] : List Int) (z2 * 2 + 1)))))) < 0))) || (decide (g2 ≤ (w64 ((w64 (Int.tdiv z1 g1)) + (w64 (2 * (geti ([1, 0, (-1), 0, 0, 1, 0, (-1)] : List Int) (z2 * 2 + 1))))))))) then ((pegs_jumps_J5 z2) l3) else ((pegs_jumps_J6 g1 g3 z1 l3 z2))

noncomputable def pegs_jumps_J3  (z1 : Int) (l4 : List (Int × Int × Int)) : Option (St (List (Int × Int × Int) × Int) (List (Int × Int × Int))) :=
  some (.next (l4, (w64 (z1 + 1))))

noncomputable def pegs_jumps_K2  (z1 : Int) : (List (Int × Int × Int)) → Option (St (List (Int × Int × Int) × Int) (List (Int × Int × Int))) :=
  fun (x : (List (Int × Int × Int))) => match x with | l4 => (pegs_jumps_J3 z1) l4

noncomputable def pegs_jumps_L2  (g1 : Int) (g2 : Int) (g3 : List Int) (z1 : Int) : (List (Int × Int × Int) × Int) → Option (St (List (Int × Int × Int) × Int) (List (Int × Int × Int))) :=
  fun (x : (List (Int × Int × Int) × Int)) => match x with | (l3, z2) => if (decide (z2 < 4)) then ((pegs_jumps_J4 g1 g2 g3 z1 l3 z2)) else (some (.done l3))

noncomputable def pegs_jumps_J2  (g1 : Int) (g2 : Int) (g3 : List Int) (l1 : List (Int × Int × Int)) (z1 : Int) : Option (St (List (Int × Int × Int) × Int) (List (Int × Int × Int))) :=
  asrt (g1 ≠ (0 : Int)) <| asrt (g1 ≠ (0 : Int)) <| (loop (pegs_jumps_L2 g1 g2 g3 z1) (l1, 0)).bind (pegs_jumps_K2 z1)

noncomputable def pegs_jumps_J1  (l2 : List (Int × Int × Int)) : Option (List (Int × Int × Int)) :=
  (pegs_jump_2_m l2).bind fun r1 => some r1

noncomputable def pegs_jumps_K1  : (List (Int × Int × Int)) → Option (List (Int × Int × Int)) :=
  fun (x : (List (Int × Int × Int))) => match x with | l2 => pegs_jumps_J1 l2

noncomputable def pegs_jumps_L1  (g1 : Int) (g2 : Int) (g3 : List Int) : (List (Int × Int × Int) × Int) → Option (St (List (Int × Int × Int) × Int) (List (Int × Int × Int))) :=
  fun (x : (List (Int × Int × Int) × Int)) => match x with | (l1, z1) => if (decide (z1 < (g3.length : Int))) then ((pegs_jumps_J2 g1 g2 g3 l1 z1)) else (some (.done l1))

noncomputable def pegs_jumps_m  (g1 : Int) (g2 : Int) (g3 : List Int) : Option (List (Int × Int × Int)) :=
  (loop (pegs_jumps_L1 g1 g2 g3) (([] : List (Int × Int × Int)), 0)).bind pegs_jumps_K1

set_option maxRecDepth 100000 in
set_option maxHeartbeats 4000000 in
theorem pegs_jumps_w {g1 : Int} {g2 : Int} {A1 : Option Addr} {c1 : Nat} {n1 : Nat} {g3 : List Int} {r : (List (Int × Int × Int))} {w0 w : World} {B : Nat} {fs : List HP} (hm : pegs_jumps_m g1 g2 g3 = some r) (hS : Sep w0 B w (fs)) (hr_g3 : RdF w0 B fs A1 (vI g3)) (_hc_g3 : g3.length ≤ c1) (_hn_g3 : n1 = g3.length) :
    Calls Try.prog 97 #[.agg #[.int .i64 g1, .int .i64 g2, .slice A1 n1 c1]] w fun e w' => ∃ v, e = .returned v ∧ ∃ (A8 : Option Addr) (c8 : Nat), v = .slice A8 r.length c8 ∧ Sep w0 B w' (ownK 128 3 A8 r.length c8 (List.flatMap enc128 r) :: fs) := by
  obtain ⟨i3, hi3, hz3, hs3, hb3⟩ := info_parts Info3
  obtain ⟨i128, hi128, hz128, hs128, hb128⟩ := info_parts Info128
  obtain rfl := _hn_g3
  unfold pegs_jumps_m at hm
  replace hm := start_b hm
  refine enter (l := [.agg #[.int .i64 g1, .int .i64 g2, .slice A1 g3.length c1]]) (n := 118) Try.func97 rfl rfl (by simp) (fun a hF => ?_)
  refine seqR ?_
  refine at_do (d := 1) (s := vS (Instr.box 41 (.agg #[.int .i64 g1, .int .i64 g2, .slice A1 g3.length c1]))) (v := .pointer (some ⟨w.heap.size, 0, none⟩)) (w' := w.alloc (.cells #[.int .i64 g1, .int .i64 g2, .slice A1 g3.length c1] 41)) hF (by kernel_rfl) (by kernel_rfl) (by kernel_rfl) (fun a hF => ?_)
  have hS : Sep w0 B (w.alloc (.cells #[.int .i64 g1, .int .i64 g2, .slice A1 g3.length c1] 41)) (blk w.heap.size 41 #[.int .i64 g1, .int .i64 g2, .slice A1 g3.length c1] :: (fs)) := hS.box 41 #[.int .i64 g1, .int .i64 g2, .slice A1 g3.length c1]
  generalize w.heap.size = g4 at hF hS
  generalize w.alloc (.cells #[.int .i64 g1, .int .i64 g2, .slice A1 g3.length c1] 41) = w at hS ⊢
  refine at_run 1 [] [] [1] [pl 1 (.pointer (some ⟨g4, 0, none⟩))] hF hS (by kernel_rfl) (by kernel_rfl) ?_ (fun a w hF hS => ?_)
  · exact obs_nil
  refine at_end [1] [pl 1 (.pointer (some ⟨g4, 0, none⟩))] hF rfl (by kernel_rfl) (fun hF => ?_)
  refine then_n ?_
  refine reg [] [] [1, 3] [pl 1 (.pointer (some ⟨g4, 0, none⟩)), pl 3 (.slice none 0 0)] hF hS Fol (by kernel_rfl) (by kernel_rfl) (by kernel_rfl) ?_ (fun a w hF hS => ?_)
  · exact obs_nil
  refine seq_cut (fun a w => ∃ (l2 : List (Int × Int × Int)) (A3 : Option Addr) (c3 : Nat), Fr 118 [pl 3 (.slice A3 l2.length c3)] a ∧ Sep w0 B w (ownK 128 3 A3 l2.length c3 (List.flatMap enc128 l2) :: fs) ∧ (pegs_jumps_J1 l2).bind some = some r) ?_ ?_
  · rintro a w ⟨l2, A3, c3, hF, hS, hm⟩
    unfold pegs_jumps_J1 at hm
    refine seqR ?_
    obtain ⟨r1, hr1, hm⟩ := call_b hm
    refine at_run 1 [] [] [3, 115] [pl 3 (.slice A3 l2.length c3), pl 115 (.slice A3 l2.length c3)] hF hS (by kernel_rfl) (by kernel_rfl) ?_ (fun a w hF hS => ?_)
    · exact obs_nil
    refine at_call (f := 170) (args := #[.slice A3 l2.length c3, .func (.func 171) #[] #[]]) (d := 116) hF (by kernel_rfl) (by kernel_rfl) Try.func170 (by kernel_rfl) rfl (pegs_jump_2_w hr1 hS ) (fun v a w hR hF => ?_)
    clear hS
    obtain ⟨rfl, hS⟩ := hR
    have hS : Sep w0 B w (ownK 128 3 A3 l2.length c3 (List.flatMap enc128 r1) :: fs) := hS
    refine at_end [3] [pl 3 (.slice A3 l2.length c3)] hF rfl (by kernel_rfl) (fun hF => ?_)
    refine then_n ?_
    refine reg [] [] [2] [pl 2 (.slice A3 l2.length c3)] hF hS Fol (by kernel_rfl) (by kernel_rfl) (by kernel_rfl) ?_ (fun a w hF hS => ?_)
    · exact obs_nil
    refine wpIn_ret ?_
    have hl2 := (hS.at_ 0 rfl).lenK encK128
    have hS := (hS.at_ 0 rfl).reNK hl2
    have hS : Sep w0 B w (ownK 128 3 A3 r1.length c3 (List.flatMap enc128 r1) :: fs) := hS
    have hF := hF.cast (t := 2) (v := .slice A3 l2.length c3) (v' := .slice A3 r1.length c3) rfl rfl (congrArg (fun k => Value.slice A3 k c3) hl2)
    have hm : some r1 = some r := hm
    obtain rfl := Option.some.inj hm
    exact retV (rs := [.tmp 2]) (vs := [.slice A3 r1.length c3]) hF rfl (rv_t (by kernel_rfl) <| rv_nil) rfl ⟨_, rfl, A3, c3, rfl, hS⟩
  · refine reg [⟨false, [], vS (Instr.loadAt 22 (.pointer (some ⟨g4, 2, none⟩))), .slice A1 g3.length c1⟩] [none, some (.slice A1 g3.length c1), none, none] [1, 3, 14, 15] [pl 1 (.pointer (some ⟨g4, 0, none⟩)), pl 3 (.slice none 0 0), pl 14 (.int .i64 (g3.length : Int)), pl 15 (.int .i64 0)] hF hS Fol (by kernel_rfl) (by kernel_rfl) (by kernel_rfl) ?_ (fun a w hF hS => ?_)
    · exact obs_cons (ob_load Agg22 (fun _ _ hS => (hS.at_ 0 rfl).cell rfl)) <| obs_nil
    refine wpIn_block ?_
    have hS : Sep w0 B w (ownK 128 3 none 0 0 (List.flatMap enc128 ([] : List (Int × Int × Int))) :: blk g4 41 #[.int .i64 g1, .int .i64 g2, .slice A1 g3.length c1] :: fs) := hS.nilK 128 3 enc128
    have hl1 := (hS.at_ 0 rfl).lenK encK128
    have hS := (hS.at_ 0 rfl).reNK hl1
    have hS : Sep w0 B w (ownK 128 3 none (([] : List (Int × Int × Int)).length) 0 (List.flatMap enc128 ([] : List (Int × Int × Int))) :: blk g4 41 #[.int .i64 g1, .int .i64 g2, .slice A1 g3.length c1] :: fs) := hS
    have hF := hF.cast (t := 3) (v := .slice none 0 0) (v' := .slice none (([] : List (Int × Int × Int)).length) 0) rfl rfl (congrArg (fun k => Value.slice none k 0) hl1)
    have hS := hS.pickN 2 [1, 0] (by decide)
    refine wp_loop_model (S := (List (Int × Int × Int) × Int)) (R := (List (Int × Int × Int))) (pegs_jumps_L1 g1 g2 g3) (fun x => (pegs_jumps_K1 x).bind some) r (fun (x : (List (Int × Int × Int) × Int)) a w => ∃ (A2 : Option Addr) (c2 : Nat), Fr 118 [pl 1 (.pointer (some ⟨g4, 0, none⟩)), pl 3 (.slice A2 x.1.length c2), pl 14 (.int .i64 (g3.length : Int)), pl 15 (.int .i64 x.2)] a ∧ Sep w0 B w (blk g4 41 #[.int .i64 g1, .int .i64 g2, .slice A1 g3.length c1] :: ownK 128 3 A2 x.1.length c2 (List.flatMap enc128 x.1) :: fs)) (assoc_b hm) ⟨none, 0, hF.weak [1, 3, 14, 15] (by kernel_rfl), hS⟩ ?_
    clear hF hS hm
    rintro nn1 ⟨l1, z1⟩ a w ⟨A2, c2, hF, hS⟩ hm
    generalize hφ1 : stK (pegs_jumps_L1 g1 g2 g3) nn1 (fun x => (pegs_jumps_K1 x).bind some) = φ1 at hm
    unfold pegs_jumps_L1 at hm
    dsimp only at hF hS hm
    refine reg [] [] [1, 3, 14, 15, 16] [pl 1 (.pointer (some ⟨g4, 0, none⟩)), pl 3 (.slice A2 l1.length c2), pl 14 (.int .i64 (g3.length : Int)), pl 15 (.int .i64 z1), pl 16 (.bool (decide (z1 < (g3.length : Int))))] hF hS Fol (by kernel_rfl) (by kernel_rfl) (by kernel_rfl) ?_ (fun a w hF hS => ?_)
    · exact obs_nil
    refine seq_cut (fun a w => Fr 118 [pl 1 (.pointer (some ⟨g4, 0, none⟩)), pl 3 (.slice A2 l1.length c2), pl 14 (.int .i64 (g3.length : Int)), pl 15 (.int .i64 z1)] a ∧ Sep w0 B w (blk g4 41 #[.int .i64 g1, .int .i64 g2, .slice A1 g3.length c1] :: ownK 128 3 A2 l1.length c2 (List.flatMap enc128 l1) :: fs) ∧ ((pegs_jumps_J2 g1 g2 g3 l1 z1)).bind φ1 = some r) ?_ ?_
    · rintro a w ⟨hF, hS, hm⟩
      unfold pegs_jumps_J2 at hm
      refine seq_cut (fun a w => ∃ (l4 : List (Int × Int × Int)) (A5 : Option Addr) (c5 : Nat), Fr 118 [pl 1 (.pointer (some ⟨g4, 0, none⟩)), pl 3 (.slice A5 l4.length c5), pl 14 (.int .i64 (g3.length : Int)), pl 15 (.int .i64 z1)] a ∧ Sep w0 B w (blk g4 41 #[.int .i64 g1, .int .i64 g2, .slice A1 g3.length c1] :: ownK 128 3 A5 l4.length c5 (List.flatMap enc128 l4) :: fs) ∧ ((pegs_jumps_J3 z1) l4).bind φ1 = some r) ?_ ?_
      · rintro a w ⟨l4, A5, c5, hF, hS, hm⟩
        unfold pegs_jumps_J3 at hm
        refine reg1 [] [] [1, 3, 14, 15] [pl 1 (.pointer (some ⟨g4, 0, none⟩)), pl 3 (.slice A5 l4.length c5), pl 14 (.int .i64 (g3.length : Int)), pl 15 (.int .i64 (w64 (z1 + 1)))] hF hS Fol (by kernel_rfl) (by kernel_rfl) (by kernel_rfl) ?_ (fun a w hF hS => ?_)
        · exact obs_nil
        refine then_n ?_
        rw [← hφ1] at hm
        exact ⟨(l4, (w64 (z1 + 1))), ⟨A5, c5, hF.weak [1, 3, 14, 15] (by kernel_rfl), hS⟩, hm⟩
      · refine wpIn_block ?_
        refine reg [] [] [1, 3, 4, 14, 15] [pl 1 (.pointer (some ⟨g4, 0, none⟩)), pl 3 (.slice A2 l1.length c2), pl 4 (.int .i64 z1), pl 14 (.int .i64 (g3.length : Int)), pl 15 (.int .i64 z1)] hF hS Fol (by kernel_rfl) (by kernel_rfl) (by kernel_rfl) ?_ (fun a w hF hS => ?_)
        · exact obs_nil
        obtain ⟨hp1, hm⟩ := asrt_b hm
        obtain ⟨hp2, hm⟩ := asrt_b hm
        refine reg [⟨false, [], vS (Instr.loadAt 3 (.pointer (some ⟨g4, 0, none⟩))), .int .i64 g1⟩, ⟨true, [], vS (Op.intDiv .rem .i64 z1 g1), .int .i64 (Int.tmod z1 g1)⟩, ⟨false, [], vS (Instr.loadAt 3 (.pointer (some ⟨g4, 0, none⟩))), .int .i64 g1⟩, ⟨true, [], vS (Op.intDiv .quo .i64 z1 g1), .int .i64 (w64 (Int.tdiv z1 g1))⟩] [none, none, some (.int .i64 g1), some (.int .i64 (Int.tmod z1 g1)), none, none, some (.int .i64 g1), some (.int .i64 (w64 (Int.tdiv z1 g1))), none, none] [1, 3, 4, 5, 6, 14, 15] [pl 1 (.pointer (some ⟨g4, 0, none⟩)), pl 3 (.slice A2 l1.length c2), pl 4 (.int .i64 z1), pl 5 (.int .i64 (Int.tmod z1 g1)), pl 6 (.int .i64 (w64 (Int.tdiv z1 g1))), pl 14 (.int .i64 (g3.length : Int)), pl 15 (.int .i64 z1)] hF hS Fol (by kernel_rfl) (by kernel_rfl) (by kernel_rfl) ?_ (fun a w hF hS => ?_)
        · exact obs_cons (ob_load Agg3 (fun _ _ hS => (hS.at_ 0 rfl).cell rfl)) <| obs_cons (ob_rem rfl (fun _ => hp1)) <| obs_cons (ob_load Agg3 (fun _ _ hS => (hS.at_ 0 rfl).cell rfl)) <| obs_cons (ob_quo rfl (fun _ => hp2)) <| obs_nil
        refine reg [] [] [1, 3, 4, 5, 6, 14, 15, 30, 31] [pl 1 (.pointer (some ⟨g4, 0, none⟩)), pl 3 (.slice A2 l1.length c2), pl 4 (.int .i64 z1), pl 5 (.int .i64 (Int.tmod z1 g1)), pl 6 (.int .i64 (w64 (Int.tdiv z1 g1))), pl 14 (.int .i64 (g3.length : Int)), pl 15 (.int .i64 z1), pl 30 (.agg (List.toArray (([] : List Value) ++ (arr1 (Value.int .i64) (0 : Int) 8 ([1, 0, (-1), 0, 0, 1, 0, (-1)] : List Int) ++ ([] : List Value))))), pl 31 (.int .i64 0)] hF hS Fol (by kernel_rfl) (by kernel_rfl) (by kernel_rfl) ?_ (fun a w hF hS => ?_)
        · exact obs_nil
        refine wpIn_block ?_
        refine wp_loop_model (S := (List (Int × Int × Int) × Int)) (R := (List (Int × Int × Int))) (pegs_jumps_L2 g1 g2 g3 z1) (fun x => ((pegs_jumps_K2 z1) x).bind φ1) r (fun (x : (List (Int × Int × Int) × Int)) a w => ∃ (A4 : Option Addr) (c4 : Nat), Fr 118 [pl 1 (.pointer (some ⟨g4, 0, none⟩)), pl 3 (.slice A4 x.1.length c4), pl 4 (.int .i64 z1), pl 5 (.int .i64 (Int.tmod z1 g1)), pl 6 (.int .i64 (w64 (Int.tdiv z1 g1))), pl 14 (.int .i64 (g3.length : Int)), pl 15 (.int .i64 z1), pl 30 (.agg (List.toArray (([] : List Value) ++ (arr1 (Value.int .i64) (0 : Int) 8 ([1, 0, (-1), 0, 0, 1, 0, (-1)] : List Int) ++ ([] : List Value))))), pl 31 (.int .i64 x.2)] a ∧ Sep w0 B w (blk g4 41 #[.int .i64 g1, .int .i64 g2, .slice A1 g3.length c1] :: ownK 128 3 A4 x.1.length c4 (List.flatMap enc128 x.1) :: fs)) (assoc_b hm) ⟨A2, c2, hF.weak [1, 3, 4, 5, 6, 14, 15, 30, 31] (by kernel_rfl), hS⟩ ?_
        clear hF hS hm
        rintro nn2 ⟨l3, z2⟩ a w ⟨A4, c4, hF, hS⟩ hm
        generalize hφ2 : stK (pegs_jumps_L2 g1 g2 g3 z1) nn2 (fun x => ((pegs_jumps_K2 z1) x).bind φ1) = φ2 at hm
        unfold pegs_jumps_L2 at hm
        dsimp only at hF hS hm
        refine reg [] [] [1, 3, 4, 5, 6, 14, 15, 30, 31, 32] [pl 1 (.pointer (some ⟨g4, 0, none⟩)), pl 3 (.slice A4 l3.length c4), pl 4 (.int .i64 z1), pl 5 (.int .i64 (Int.tmod z1 g1)), pl 6 (.int .i64 (w64 (Int.tdiv z1 g1))), pl 14 (.int .i64 (g3.length : Int)), pl 15 (.int .i64 z1), pl 30 (.agg (List.toArray (([] : List Value) ++ (arr1 (Value.int .i64) (0 : Int) 8 ([1, 0, (-1), 0, 0, 1, 0, (-1)] : List Int) ++ ([] : List Value))))), pl 31 (.int .i64 z2), pl 32 (.bool (decide (z2 < 4)))] hF hS Fol (by kernel_rfl) (by kernel_rfl) (by kernel_rfl) ?_ (fun a w hF hS => ?_)
        · exact obs_nil
        refine seq_cut (fun a w => Fr 118 [pl 1 (.pointer (some ⟨g4, 0, none⟩)), pl 3 (.slice A4 l3.length c4), pl 4 (.int .i64 z1), pl 5 (.int .i64 (Int.tmod z1 g1)), pl 6 (.int .i64 (w64 (Int.tdiv z1 g1))), pl 14 (.int .i64 (g3.length : Int)), pl 15 (.int .i64 z1), pl 30 (.agg (List.toArray (([] : List Value) ++ (arr1 (Value.int .i64) (0 : Int) 8 ([1, 0, (-1), 0, 0, 1, 0, (-1)] : List Int) ++ ([] : List Value))))), pl 31 (.int .i64 z2)] a ∧ Sep w0 B w (blk g4 41 #[.int .i64 g1, .int .i64 g2, .slice A1 g3.length c1] :: ownK 128 3 A4 l3.length c4 (List.flatMap enc128 l3) :: fs) ∧ ((pegs_jumps_J4 g1 g2 g3 z1 l3 z2)).bind φ2 = some r) ?_ ?_
        · rintro a w ⟨hF, hS, hm⟩
          unfold pegs_jumps_J4 at hm
          refine seq_cut (fun a w => ∃ (l5 : List (Int × Int × Int)) (A6 : Option Addr) (c6 : Nat), Fr 118 [pl 1 (.pointer (some ⟨g4, 0, none⟩)), pl 3 (.slice A6 l5.length c6), pl 4 (.int .i64 z1), pl 5 (.int .i64 (Int.tmod z1 g1)), pl 6 (.int .i64 (w64 (Int.tdiv z1 g1))), pl 14 (.int .i64 (g3.length : Int)), pl 15 (.int .i64 z1), pl 30 (.agg (List.toArray (([] : List Value) ++ (arr1 (Value.int .i64) (0 : Int) 8 ([1, 0, (-1), 0, 0, 1, 0, (-1)] : List Int) ++ ([] : List Value))))), pl 31 (.int .i64 z2)] a ∧ Sep w0 B w (blk g4 41 #[.int .i64 g1, .int .i64 g2, .slice A1 g3.length c1] :: ownK 128 3 A6 l5.length c6 (List.flatMap enc128 l5) :: fs) ∧ ((pegs_jumps_J5 z2) l5).bind φ2 = some r) ?_ ?_
          · rintro a w ⟨l5, A6, c6, hF, hS, hm⟩
            unfold pegs_jumps_J5 at hm
            refine reg1 [] [] [1, 3, 4, 5, 6, 14, 15, 30, 31] [pl 1 (.pointer (some ⟨g4, 0, none⟩)), pl 3 (.slice A6 l5.length c6), pl 4 (.int .i64 z1), pl 5 (.int .i64 (Int.tmod z1 g1)), pl 6 (.int .i64 (w64 (Int.tdiv z1 g1))), pl 14 (.int .i64 (g3.length : Int)), pl 15 (.int .i64 z1), pl 30 (.agg (List.toArray (([] : List Value) ++ (arr1 (Value.int .i64) (0 : Int) 8 ([1, 0, (-1), 0, 0, 1, 0, (-1)] : List Int) ++ ([] : List Value))))), pl 31 (.int .i64 (w64 (z2 + 1)))] hF hS Fol (by kernel_rfl) (by kernel_rfl) (by kernel_rfl) ?_ (fun a w hF hS => ?_)
            · exact obs_nil
            refine then_n ?_
            rw [← hφ2] at hm
            exact ⟨(l5, (w64 (z2 + 1))), ⟨A6, c6, hF.weak [1, 3, 4, 5, 6, 14, 15, 30, 31] (by kernel_rfl), hS⟩, hm⟩
          · refine wpIn_block ?_
            refine seqR ?_
            obtain ⟨hp3, hm⟩ := asrt_b hm
            refine at_run 1 [⟨true, [], vS (Instr.index 195 (.agg (List.toArray (([] : List Value) ++ (arr1 (Value.int .i64) (0 : Int) 8 ([1, 0, (-1), 0, 0, 1, 0, (-1)] : List Int) ++ ([] : List Value))))) (.int .i64 z2)), .agg #[.int .i64 (geti ([1, 0, (-1), 0, 0, 1, 0, (-1)] : List Int) (z2 * 2)), .int .i64 (geti ([1, 0, (-1), 0, 0, 1, 0, (-1)] : List Int) (z2 * 2 + 1))]⟩] [some (.agg #[.int .i64 (geti ([1, 0, (-1), 0, 0, 1, 0, (-1)] : List Int) (z2 * 2)), .int .i64 (geti ([1, 0, (-1), 0, 0, 1, 0, (-1)] : List Int) (z2 * 2 + 1))])] [1, 3, 4, 5, 6, 14, 15, 30, 31, 33] [pl 1 (.pointer (some ⟨g4, 0, none⟩)), pl 3 (.slice A4 l3.length c4), pl 4 (.int .i64 z1), pl 5 (.int .i64 (Int.tmod z1 g1)), pl 6 (.int .i64 (w64 (Int.tdiv z1 g1))), pl 14 (.int .i64 (g3.length : Int)), pl 15 (.int .i64 z1), pl 30 (.agg (List.toArray (([] : List Value) ++ (arr1 (Value.int .i64) (0 : Int) 8 ([1, 0, (-1), 0, 0, 1, 0, (-1)] : List Int) ++ ([] : List Value))))), pl 31 (.int .i64 z2), pl 33 (.agg #[.int .i64 (geti ([1, 0, (-1), 0, 0, 1, 0, (-1)] : List Int) (z2 * 2)), .int .i64 (geti ([1, 0, (-1), 0, 0, 1, 0, (-1)] : List Int) (z2 * 2 + 1))])] hF hS (by kernel_rfl) (by kernel_rfl) ?_ (fun a w hF hS => ?_)
            · exact obs_cons (ob_idxP2 (f := (Value.int .i64)) (z := (0 : Int)) (m := ([1, 0, (-1), 0, 0, 1, 0, (-1)] : List Int)) UndA195 (by kernel_rfl) (by kernel_rfl) rfl (fun _ => hp3)) <| obs_nil
            refine at_do (d := 8) (s := vS (Instr.alloc 69 true (.tuple #[]))) (v := .pointer (some ⟨w.heap.size, 0, none⟩)) (w' := w.alloc (.cells #[.int .i64 0, .int .i64 0] 69)) hF (by kernel_rfl) (by kernel_rfl) (by kernel_rfl) (fun a hF => ?_)
            have hS : Sep w0 B (w.alloc (.cells #[.int .i64 0, .int .i64 0] 69)) (blk w.heap.size 69 #[.int .i64 0, .int .i64 0] :: (blk g4 41 #[.int .i64 g1, .int .i64 g2, .slice A1 g3.length c1] :: ownK 128 3 A4 l3.length c4 (List.flatMap enc128 l3) :: fs)) := hS.box 69 #[.int .i64 0, .int .i64 0]
            generalize w.heap.size = g5 at hF hS
            generalize w.alloc (.cells #[.int .i64 0, .int .i64 0] 69) = w at hS ⊢
            obtain ⟨w, hrun, hS⟩ := run_putA (P := Try.prog) (t := 69) (us := #[.int .i64 (geti ([1, 0, (-1), 0, 0, 1, 0, (-1)] : List Int) (z2 * 2)), .int .i64 (geti ([1, 0, (-1), 0, 0, 1, 0, (-1)] : List Int) (z2 * 2 + 1))]) (o := 0) (hS.at_ 0 rfl) (by kernel_rfl) (all_one (by kernel_rfl)) (Nat.le_of_ble_eq_true (by kernel_rfl))
            refine at_skip hF (by kernel_rfl) hrun ?_
            have hS : Sep w0 B w (blk g5 69 #[.int .i64 (geti ([1, 0, (-1), 0, 0, 1, 0, (-1)] : List Int) (z2 * 2)), .int .i64 (geti ([1, 0, (-1), 0, 0, 1, 0, (-1)] : List Int) (z2 * 2 + 1))] :: blk g4 41 #[.int .i64 g1, .int .i64 g2, .slice A1 g3.length c1] :: ownK 128 3 A4 l3.length c4 (List.flatMap enc128 l3) :: fs) := hS
            refine at_end [1, 3, 4, 5, 6, 8, 14, 15, 30, 31] [pl 1 (.pointer (some ⟨g4, 0, none⟩)), pl 3 (.slice A4 l3.length c4), pl 4 (.int .i64 z1), pl 5 (.int .i64 (Int.tmod z1 g1)), pl 6 (.int .i64 (w64 (Int.tdiv z1 g1))), pl 8 (.pointer (some ⟨g5, 0, none⟩)), pl 14 (.int .i64 (g3.length : Int)), pl 15 (.int .i64 z1), pl 30 (.agg (List.toArray (([] : List Value) ++ (arr1 (Value.int .i64) (0 : Int) 8 ([1, 0, (-1), 0, 0, 1, 0, (-1)] : List Int) ++ ([] : List Value))))), pl 31 (.int .i64 z2)] hF rfl (by kernel_rfl) (fun hF => ?_)
            refine then_n ?_
            refine reg [⟨false, [], vS (Instr.loadAt 3 (.pointer (some ⟨g5, 0, none⟩))), .int .i64 (geti ([1, 0, (-1), 0, 0, 1, 0, (-1)] : List Int) (z2 * 2))⟩, ⟨false, [], vS (Instr.loadAt 3 (.pointer (some ⟨g5, 1, none⟩))), .int .i64 (geti ([1, 0, (-1), 0, 0, 1, 0, (-1)] : List Int) (z2 * 2 + 1))⟩] [none, none, some (.int .i64 (geti ([1, 0, (-1), 0, 0, 1, 0, (-1)] : List Int) (z2 * 2))), none, none, none, none, some (.int .i64 (geti ([1, 0, (-1), 0, 0, 1, 0, (-1)] : List Int) (z2 * 2 + 1))), none, none, none, none] [1, 3, 4, 5, 6, 8, 9, 10, 14, 15, 30, 31] [pl 1 (.pointer (some ⟨g4, 0, none⟩)), pl 3 (.slice A4 l3.length c4), pl 4 (.int .i64 z1), pl 5 (.int .i64 (Int.tmod z1 g1)), pl 6 (.int .i64 (w64 (Int.tdiv z1 g1))), pl 8 (.pointer (some ⟨g5, 0, none⟩)), pl 9 (.int .i64 (w64 ((Int.tmod z1 g1) + (w64 (2 * (geti ([1, 0, (-1), 0, 0, 1, 0, (-1)] : List Int) (z2 * 2))))))), pl 10 (.int .i64 (w64 ((w64 (Int.tdiv z1 g1)) + (w64 (2 * (geti ([1, 0, (-1), 0, 0, 1, 0, (-1)] : List Int) (z2 * 2 + 1))))))), pl 14 (.int .i64 (g3.length : Int)), pl 15 (.int .i64 z1), pl 30 (.agg (List.toArray (([] : List Value) ++ (arr1 (Value.int .i64) (0 : Int) 8 ([1, 0, (-1), 0, 0, 1, 0, (-1)] : List Int) ++ ([] : List Value))))), pl 31 (.int .i64 z2)] hF hS Fol (by kernel_rfl) (by kernel_rfl) (by kernel_rfl) ?_ (fun a w hF hS => ?_)
            · exact obs_cons (ob_load Agg3 (fun _ _ hS => (hS.at_ 0 rfl).cell rfl)) <| obs_cons (ob_load Agg3 (fun _ _ hS => (hS.at_ 0 rfl).cell rfl)) <| obs_nil
            refine seq_cut (fun a w => Fr 118 [pl 1 (.pointer (some ⟨g4, 0, none⟩)), pl 3 (.slice A4 l3.length c4), pl 4 (.int .i64 z1), pl 5 (.int .i64 (Int.tmod z1 g1)), pl 6 (.int .i64 (w64 (Int.tdiv z1 g1))), pl 8 (.pointer (some ⟨g5, 0, none⟩)), pl 9 (.int .i64 (w64 ((Int.tmod z1 g1) + (w64 (2 * (geti ([1, 0, (-1), 0, 0, 1, 0, (-1)] : List Int) (z2 * 2))))))), pl 10 (.int .i64 (w64 ((w64 (Int.tdiv z1 g1)) + (w64 (2 * (geti ([1, 0, (-1), 0, 0, 1, 0, (-1)] : List Int) (z2 * 2 + 1))))))), pl 14 (.int .i64 (g3.length : Int)), pl 15 (.int .i64 z1), pl 30 (.agg (List.toArray (([] : List Value) ++ (arr1 (Value.int .i64) (0 : Int) 8 ([1, 0, (-1), 0, 0, 1, 0, (-1)] : List Int) ++ ([] : List Value))))), pl 31 (.int .i64 z2)] a ∧ Sep w0 B w (blk g4 41 #[.int .i64 g1, .int .i64 g2, .slice A1 g3.length c1] :: ownK 128 3 A4 l3.length c4 (List.flatMap enc128 l3) :: blk g5 69 #[.int .i64 (geti ([1, 0, (-1), 0, 0, 1, 0, (-1)] : List Int) (z2 * 2)), .int .i64 (geti ([1, 0, (-1), 0, 0, 1, 0, (-1)] : List Int) (z2 * 2 + 1))] :: fs) ∧ ((pegs_jumps_J6 g1 g3 z1 l3 z2)).bind φ2 = some r) ?_ ?_
            · rintro a w ⟨hF, hS, hm⟩
              unfold pegs_jumps_J6 at hm
              refine reg [⟨false, [], vS (Instr.loadAt 3 (.pointer (some ⟨g5, 1, none⟩))), .int .i64 (geti ([1, 0, (-1), 0, 0, 1, 0, (-1)] : List Int) (z2 * 2 + 1))⟩, ⟨false, [], vS (Instr.loadAt 3 (.pointer (some ⟨g4, 0, none⟩))), .int .i64 g1⟩, ⟨false, [], vS (Instr.loadAt 3 (.pointer (some ⟨g5, 0, none⟩))), .int .i64 (geti ([1, 0, (-1), 0, 0, 1, 0, (-1)] : List Int) (z2 * 2))⟩] [none, none, some (.int .i64 (geti ([1, 0, (-1), 0, 0, 1, 0, (-1)] : List Int) (z2 * 2 + 1))), none, none, some (.int .i64 g1), none, none, none, none, some (.int .i64 (geti ([1, 0, (-1), 0, 0, 1, 0, (-1)] : List Int) (z2 * 2))), none, none] [1, 3, 4, 5, 6, 9, 10, 11, 14, 15, 30, 31] [pl 1 (.pointer (some ⟨g4, 0, none⟩)), pl 3 (.slice A4 l3.length c4), pl 4 (.int .i64 z1), pl 5 (.int .i64 (Int.tmod z1 g1)), pl 6 (.int .i64 (w64 (Int.tdiv z1 g1))), pl 9 (.int .i64 (w64 ((Int.tmod z1 g1) + (w64 (2 * (geti ([1, 0, (-1), 0, 0, 1, 0, (-1)] : List Int) (z2 * 2))))))), pl 10 (.int .i64 (w64 ((w64 (Int.tdiv z1 g1)) + (w64 (2 * (geti ([1, 0, (-1), 0, 0, 1, 0, (-1)] : List Int) (z2 * 2 + 1))))))), pl 11 (.int .i64 (w64 ((w64 ((w64 ((w64 ((w64 (Int.tdiv z1 g1)) + (geti ([1, 0, (-1), 0, 0, 1, 0, (-1)] : List Int) (z2 * 2 + 1)))) * g1)) + (Int.tmod z1 g1))) + (geti ([1, 0, (-1), 0, 0, 1, 0, (-1)] : List Int) (z2 * 2))))), pl 14 (.int .i64 (g3.length : Int)), pl 15 (.int .i64 z1), pl 30 (.agg (List.toArray (([] : List Value) ++ (arr1 (Value.int .i64) (0 : Int) 8 ([1, 0, (-1), 0, 0, 1, 0, (-1)] : List Int) ++ ([] : List Value))))), pl 31 (.int .i64 z2)] hF hS Fol (by kernel_rfl) (by kernel_rfl) (by kernel_rfl) ?_ (fun a w hF hS => ?_)
              · exact obs_cons (ob_load Agg3 (fun _ _ hS => (hS.at_ 2 rfl).cell rfl)) <| obs_cons (ob_load Agg3 (fun _ _ hS => (hS.at_ 0 rfl).cell rfl)) <| obs_cons (ob_load Agg3 (fun _ _ hS => (hS.at_ 2 rfl).cell rfl)) <| obs_nil
              obtain ⟨hp4, hm⟩ := asrt_b hm
              obtain ⟨hp5, hm⟩ := asrt_b hm
              obtain ⟨hp6, hm⟩ := asrt_b hm
              refine reg [⟨false, [], vS (Instr.loadAt 22 (.pointer (some ⟨g4, 2, none⟩))), .slice A1 g3.length c1⟩, ⟨true, [], vS (Instr.indexAt 22 (.slice A1 g3.length c1) (.int .i64 z1)), .pointer (some (sAddr A1 z1))⟩, ⟨false, [], vS (Instr.loadAt 3 (.pointer (some (sAddr A1 z1)))), .int .i64 (geti g3 z1)⟩, ⟨false, [(((geti g3 z1) != 2), true)], vS (Instr.loadAt 22 (.pointer (some ⟨g4, 2, none⟩))), .slice A1 g3.length c1⟩, ⟨true, [(((geti g3 z1) != 2), true)], vS (Instr.indexAt 22 (.slice A1 g3.length c1) (.int .i64 (w64 ((w64 ((w64 ((w64 ((w64 (Int.tdiv z1 g1)) + (geti ([1, 0, (-1), 0, 0, 1, 0, (-1)] : List Int) (z2 * 2 + 1)))) * g1)) + (Int.tmod z1 g1))) + (geti ([1, 0, (-1), 0, 0, 1, 0, (-1)] : List Int) (z2 * 2)))))), .pointer (some (sAddr A1 (w64 ((w64 ((w64 ((w64 ((w64 (Int.tdiv z1 g1)) + (geti ([1, 0, (-1), 0, 0, 1, 0, (-1)] : List Int) (z2 * 2 + 1)))) * g1)) + (Int.tmod z1 g1))) + (geti ([1, 0, (-1), 0, 0, 1, 0, (-1)] : List Int) (z2 * 2))))))⟩, ⟨false, [(((geti g3 z1) != 2), true)], vS (Instr.loadAt 3 (.pointer (some (sAddr A1 (w64 ((w64 ((w64 ((w64 ((w64 (Int.tdiv z1 g1)) + (geti ([1, 0, (-1), 0, 0, 1, 0, (-1)] : List Int) (z2 * 2 + 1)))) * g1)) + (Int.tmod z1 g1))) + (geti ([1, 0, (-1), 0, 0, 1, 0, (-1)] : List Int) (z2 * 2)))))))), .int .i64 (geti g3 (w64 ((w64 ((w64 ((w64 ((w64 (Int.tdiv z1 g1)) + (geti ([1, 0, (-1), 0, 0, 1, 0, (-1)] : List Int) (z2 * 2 + 1)))) * g1)) + (Int.tmod z1 g1))) + (geti ([1, 0, (-1), 0, 0, 1, 0, (-1)] : List Int) (z2 * 2)))))⟩, ⟨false, [(((geti g3 z1) != 2) && ((geti g3 (w64 ((w64 ((w64 ((w64 ((w64 (Int.tdiv z1 g1)) + (geti ([1, 0, (-1), 0, 0, 1, 0, (-1)] : List Int) (z2 * 2 + 1)))) * g1)) + (Int.tmod z1 g1))) + (geti ([1, 0, (-1), 0, 0, 1, 0, (-1)] : List Int) (z2 * 2))))) != 2), true)], vS (Instr.loadAt 22 (.pointer (some ⟨g4, 2, none⟩))), .slice A1 g3.length c1⟩, ⟨false, [(((geti g3 z1) != 2) && ((geti g3 (w64 ((w64 ((w64 ((w64 ((w64 (Int.tdiv z1 g1)) + (geti ([1, 0, (-1), 0, 0, 1, 0, (-1)] : List Int) (z2 * 2 + 1)))) * g1)) + (Int.tmod z1 g1))) + (geti ([1, 0, (-1), 0, 0, 1, 0, (-1)] : List Int) (z2 * 2))))) != 2), true)], vS (Instr.loadAt 3 (.pointer (some ⟨g4, 0, none⟩))), .int .i64 g1⟩, ⟨true, [(((geti g3 z1) != 2) && ((geti g3 (w64 ((w64 ((w64 ((w64 ((w64 (Int.tdiv z1 g1)) + (geti ([1, 0, (-1), 0, 0, 1, 0, (-1)] : List Int) (z2 * 2 + 1)))) * g1)) + (Int.tmod z1 g1))) + (geti ([1, 0, (-1), 0, 0, 1, 0, (-1)] : List Int) (z2 * 2))))) != 2), true)], vS (Instr.indexAt 22 (.slice A1 g3.length c1) (.int .i64 (w64 ((w64 ((w64 ((w64 (Int.tdiv z1 g1)) + (w64 (2 * (geti ([1, 0, (-1), 0, 0, 1, 0, (-1)] : List Int) (z2 * 2 + 1)))))) * g1)) + (w64 ((Int.tmod z1 g1) + (w64 (2 * (geti ([1, 0, (-1), 0, 0, 1, 0, (-1)] : List Int) (z2 * 2)))))))))), .pointer (some (sAddr A1 (w64 ((w64 ((w64 ((w64 (Int.tdiv z1 g1)) + (w64 (2 * (geti ([1, 0, (-1), 0, 0, 1, 0, (-1)] : List Int) (z2 * 2 + 1)))))) * g1)) + (w64 ((Int.tmod z1 g1) + (w64 (2 * (geti ([1, 0, (-1), 0, 0, 1, 0, (-1)] : List Int) (z2 * 2))))))))))⟩, ⟨false, [(((geti g3 z1) != 2) && ((geti g3 (w64 ((w64 ((w64 ((w64 ((w64 (Int.tdiv z1 g1)) + (geti ([1, 0, (-1), 0, 0, 1, 0, (-1)] : List Int) (z2 * 2 + 1)))) * g1)) + (Int.tmod z1 g1))) + (geti ([1, 0, (-1), 0, 0, 1, 0, (-1)] : List Int) (z2 * 2))))) != 2), true)], vS (Instr.loadAt 3 (.pointer (some (sAddr A1 (w64 ((w64 ((w64 ((w64 (Int.tdiv z1 g1)) + (w64 (2 * (geti ([1, 0, (-1), 0, 0, 1, 0, (-1)] : List Int) (z2 * 2 + 1)))))) * g1)) + (w64 ((Int.tmod z1 g1) + (w64 (2 * (geti ([1, 0, (-1), 0, 0, 1, 0, (-1)] : List Int) (z2 * 2)))))))))))), .int .i64 (geti g3 (w64 ((w64 ((w64 ((w64 (Int.tdiv z1 g1)) + (w64 (2 * (geti ([1, 0, (-1), 0, 0, 1, 0, (-1)] : List Int) (z2 * 2 + 1)))))) * g1)) + (w64 ((Int.tmod z1 g1) + (w64 (2 * (geti ([1, 0, (-1), 0, 0, 1, 0, (-1)] : List Int) (z2 * 2)))))))))⟩] [none, some (.slice A1 g3.length c1), none, some (.pointer (some (sAddr A1 z1))), some (.int .i64 (geti g3 z1)), none, none, none, some (.slice A1 g3.length c1), none, some (.pointer (some (sAddr A1 (w64 ((w64 ((w64 ((w64 ((w64 (Int.tdiv z1 g1)) + (geti ([1, 0, (-1), 0, 0, 1, 0, (-1)] : List Int) (z2 * 2 + 1)))) * g1)) + (Int.tmod z1 g1))) + (geti ([1, 0, (-1), 0, 0, 1, 0, (-1)] : List Int) (z2 * 2))))))), some (.int .i64 (geti g3 (w64 ((w64 ((w64 ((w64 ((w64 (Int.tdiv z1 g1)) + (geti ([1, 0, (-1), 0, 0, 1, 0, (-1)] : List Int) (z2 * 2 + 1)))) * g1)) + (Int.tmod z1 g1))) + (geti ([1, 0, (-1), 0, 0, 1, 0, (-1)] : List Int) (z2 * 2)))))), none, none, none, none, some (.slice A1 g3.length c1), none, none, some (.int .i64 g1), none, none, none, some (.pointer (some (sAddr A1 (w64 ((w64 ((w64 ((w64 (Int.tdiv z1 g1)) + (w64 (2 * (geti ([1, 0, (-1), 0, 0, 1, 0, (-1)] : List Int) (z2 * 2 + 1)))))) * g1)) + (w64 ((Int.tmod z1 g1) + (w64 (2 * (geti ([1, 0, (-1), 0, 0, 1, 0, (-1)] : List Int) (z2 * 2))))))))))), some (.int .i64 (geti g3 (w64 ((w64 ((w64 ((w64 (Int.tdiv z1 g1)) + (w64 (2 * (geti ([1, 0, (-1), 0, 0, 1, 0, (-1)] : List Int) (z2 * 2 + 1)))))) * g1)) + (w64 ((Int.tmod z1 g1) + (w64 (2 * (geti ([1, 0, (-1), 0, 0, 1, 0, (-1)] : List Int) (z2 * 2)))))))))), none, none] [1, 3, 4, 5, 6, 9, 10, 11, 14, 15, 30, 31, 100] [pl 1 (.pointer (some ⟨g4, 0, none⟩)), pl 3 (.slice A4 l3.length c4), pl 4 (.int .i64 z1), pl 5 (.int .i64 (Int.tmod z1 g1)), pl 6 (.int .i64 (w64 (Int.tdiv z1 g1))), pl 9 (.int .i64 (w64 ((Int.tmod z1 g1) + (w64 (2 * (geti ([1, 0, (-1), 0, 0, 1, 0, (-1)] : List Int) (z2 * 2))))))), pl 10 (.int .i64 (w64 ((w64 (Int.tdiv z1 g1)) + (w64 (2 * (geti ([1, 0, (-1), 0, 0, 1, 0, (-1)] : List Int) (z2 * 2 + 1))))))), pl 11 (.int .i64 (w64 ((w64 ((w64 ((w64 ((w64 (Int.tdiv z1 g1)) + (geti ([1, 0, (-1), 0, 0, 1, 0, (-1)] : List Int) (z2 * 2 + 1)))) * g1)) + (Int.tmod z1 g1))) + (geti ([1, 0, (-1), 0, 0, 1, 0, (-1)] : List Int) (z2 * 2))))), pl 14 (.int .i64 (g3.length : Int)), pl 15 (.int .i64 z1), pl 30 (.agg (List.toArray (([] : List Value) ++ (arr1 (Value.int .i64) (0 : Int) 8 ([1, 0, (-1), 0, 0, 1, 0, (-1)] : List Int) ++ ([] : List Value))))), pl 31 (.int .i64 z2), pl 100 (.bool ((((geti g3 z1) != 2) && ((geti g3 (w64 ((w64 ((w64 ((w64 ((w64 (Int.tdiv z1 g1)) + (geti ([1, 0, (-1), 0, 0, 1, 0, (-1)] : List Int) (z2 * 2 + 1)))) * g1)) + (Int.tmod z1 g1))) + (geti ([1, 0, (-1), 0, 0, 1, 0, (-1)] : List Int) (z2 * 2))))) != 2)) && ((geti g3 (w64 ((w64 ((w64 ((w64 (Int.tdiv z1 g1)) + (w64 (2 * (geti ([1, 0, (-1), 0, 0, 1, 0, (-1)] : List Int) (z2 * 2 + 1)))))) * g1)) + (w64 ((Int.tmod z1 g1) + (w64 (2 * (geti ([1, 0, (-1), 0, 0, 1, 0, (-1)] : List Int) (z2 * 2))))))))) != 2)))] hF hS Fol (by kernel_rfl) (by kernel_rfl) (by kernel_rfl) ?_ (fun a w hF hS => ?_)
              · exact obs_cons (ob_load Agg22 (fun _ _ hS => (hS.at_ 0 rfl).cell rfl)) <| obs_cons (ob_ix1 (f := (Value.int .i64)) (m := g3) Und22 hi3 hs3 (hr_g3 _ (hS.dropN 3)) rfl (fun _ => hp4)) <| obs_cons (ob_get1 (n := g3.length) (m := g3) (Value.int .i64) (0 : Int) Agg3 (fun _ hS => ⟨_, (hr_g3 _ (hS.dropN 3))⟩) (fun _ hS => rfl) (fun _ => hp4)) <| obs_cons (ob_load Agg22 (fun _ _ hS => (hS.at_ 0 rfl).cell rfl)) <| obs_cons (ob_ix1 (f := (Value.int .i64)) (m := g3) Und22 hi3 hs3 (hr_g3 _ (hS.dropN 3)) rfl (fun hy => hp5 (hy (((geti g3 z1) != 2), true) (by simp)))) <| obs_cons (ob_get1 (n := g3.length) (m := g3) (Value.int .i64) (0 : Int) Agg3 (fun _ hS => ⟨_, (hr_g3 _ (hS.dropN 3))⟩) (fun _ hS => rfl) (fun hy => hp5 (hy (((geti g3 z1) != 2), true) (by simp)))) <| obs_cons (ob_load Agg22 (fun _ _ hS => (hS.at_ 0 rfl).cell rfl)) <| obs_cons (ob_load Agg3 (fun _ _ hS => (hS.at_ 0 rfl).cell rfl)) <| obs_cons (ob_ix1 (f := (Value.int .i64)) (m := g3) Und22 hi3 hs3 (hr_g3 _ (hS.dropN 3)) rfl (fun hy => hp6 (hy (((geti g3 z1) != 2) && ((geti g3 (w64 ((w64 ((w64 ((w64 ((w64 (Int.tdiv z1 g1)) + (geti ([1, 0, (-1), 0, 0, 1, 0, (-1)] : List Int) (z2 * 2 + 1)))) * g1)) + (Int.tmod z1 g1))) + (geti ([1, 0, (-1), 0, 0, 1, 0, (-1)] : List Int) (z2 * 2))))) != 2), true) (by simp)))) <| obs_cons (ob_get1 (n := g3.length) (m := g3) (Value.int .i64) (0 : Int) Agg3 (fun _ hS => ⟨_, (hr_g3 _ (hS.dropN 3))⟩) (fun _ hS => rfl) (fun hy => hp6 (hy (((geti g3 z1) != 2) && ((geti g3 (w64 ((w64 ((w64 ((w64 ((w64 (Int.tdiv z1 g1)) + (geti ([1, 0, (-1), 0, 0, 1, 0, (-1)] : List Int) (z2 * 2 + 1)))) * g1)) + (Int.tmod z1 g1))) + (geti ([1, 0, (-1), 0, 0, 1, 0, (-1)] : List Int) (z2 * 2))))) != 2), true) (by simp)))) <| obs_nil
              refine cond_ev (t := 100) (b := (((geti g3 z1) != 2) && ((geti g3 (w64 ((w64 ((w64 ((w64 ((w64 (Int.tdiv z1 g1)) + (geti ([1, 0, (-1), 0, 0, 1, 0, (-1)] : List Int) (z2 * 2 + 1)))) * g1)) + (Int.tmod z1 g1))) + (geti ([1, 0, (-1), 0, 0, 1, 0, (-1)] : List Int) (z2 * 2))))) != 2)) && ((geti g3 (w64 ((w64 ((w64 ((w64 (Int.tdiv z1 g1)) + (w64 (2 * (geti ([1, 0, (-1), 0, 0, 1, 0, (-1)] : List Int) (z2 * 2 + 1)))))) * g1)) + (w64 ((Int.tmod z1 g1) + (w64 (2 * (geti ([1, 0, (-1), 0, 0, 1, 0, (-1)] : List Int) (z2 * 2))))))))) != 2)) hF (by kernel_rfl) (fun hb => ?_) (fun hb => ?_)
              · replace hm := if_t hm hb
                refine oneR ?_
                obtain ⟨hp7, hm⟩ := asrt_b hm
                refine at_run 10 [⟨false, [], vS (Instr.loadAt 3 (.pointer (some ⟨g4, 0, none⟩))), .int .i64 g1⟩] [none, none, none, none, none, some (.int .i64 g1), none, none, none, none] [1, 4, 5, 6, 14, 15, 30, 31, 101, 110] [pl 1 (.pointer (some ⟨g4, 0, none⟩)), pl 4 (.int .i64 z1), pl 5 (.int .i64 (Int.tmod z1 g1)), pl 6 (.int .i64 (w64 (Int.tdiv z1 g1))), pl 14 (.int .i64 (g3.length : Int)), pl 15 (.int .i64 z1), pl 30 (.agg (List.toArray (([] : List Value) ++ (arr1 (Value.int .i64) (0 : Int) 8 ([1, 0, (-1), 0, 0, 1, 0, (-1)] : List Int) ++ ([] : List Value))))), pl 31 (.int .i64 z2), pl 101 (.slice A4 l3.length c4), pl 110 (.agg #[.int .i64 z1, .int .i64 (w64 ((w64 ((w64 ((w64 ((w64 (Int.tdiv z1 g1)) + (geti ([1, 0, (-1), 0, 0, 1, 0, (-1)] : List Int) (z2 * 2 + 1)))) * g1)) + (Int.tmod z1 g1))) + (geti ([1, 0, (-1), 0, 0, 1, 0, (-1)] : List Int) (z2 * 2)))), .int .i64 (w64 ((w64 ((w64 ((w64 (Int.tdiv z1 g1)) + (w64 (2 * (geti ([1, 0, (-1), 0, 0, 1, 0, (-1)] : List Int) (z2 * 2 + 1)))))) * g1)) + (w64 ((Int.tmod z1 g1) + (w64 (2 * (geti ([1, 0, (-1), 0, 0, 1, 0, (-1)] : List Int) (z2 * 2))))))))])] hF hS (by kernel_rfl) (by kernel_rfl) ?_ (fun a w hF hS => ?_)
                · exact obs_cons (ob_load Agg3 (fun _ _ hS => (hS.at_ 0 rfl).cell rfl)) <| obs_nil
                refine at_do (d := 111) (s := vS (Instr.buildSlice 125 1 #[(0, .agg #[.int .i64 z1, .int .i64 (w64 ((w64 ((w64 ((w64 ((w64 (Int.tdiv z1 g1)) + (geti ([1, 0, (-1), 0, 0, 1, 0, (-1)] : List Int) (z2 * 2 + 1)))) * g1)) + (Int.tmod z1 g1))) + (geti ([1, 0, (-1), 0, 0, 1, 0, (-1)] : List Int) (z2 * 2)))), .int .i64 (w64 ((w64 ((w64 ((w64 (Int.tdiv z1 g1)) + (w64 (2 * (geti ([1, 0, (-1), 0, 0, 1, 0, (-1)] : List Int) (z2 * 2 + 1)))))) * g1)) + (w64 ((Int.tmod z1 g1) + (w64 (2 * (geti ([1, 0, (-1), 0, 0, 1, 0, (-1)] : List Int) (z2 * 2))))))))])])) (v := .slice (some ⟨w.heap.size, 0, none⟩) 1 1) (w' := w.alloc (.cells #[.int .i64 z1, .int .i64 (w64 ((w64 ((w64 ((w64 ((w64 (Int.tdiv z1 g1)) + (geti ([1, 0, (-1), 0, 0, 1, 0, (-1)] : List Int) (z2 * 2 + 1)))) * g1)) + (Int.tmod z1 g1))) + (geti ([1, 0, (-1), 0, 0, 1, 0, (-1)] : List Int) (z2 * 2)))), .int .i64 (w64 ((w64 ((w64 ((w64 (Int.tdiv z1 g1)) + (w64 (2 * (geti ([1, 0, (-1), 0, 0, 1, 0, (-1)] : List Int) (z2 * 2 + 1)))))) * g1)) + (w64 ((Int.tmod z1 g1) + (w64 (2 * (geti ([1, 0, (-1), 0, 0, 1, 0, (-1)] : List Int) (z2 * 2))))))))] 128)) hF (by kernel_rfl) (by kernel_rfl) (by kernel_rfl) (fun a hF => ?_)
                have hS : Sep w0 B (w.alloc (.cells #[.int .i64 z1, .int .i64 (w64 ((w64 ((w64 ((w64 ((w64 (Int.tdiv z1 g1)) + (geti ([1, 0, (-1), 0, 0, 1, 0, (-1)] : List Int) (z2 * 2 + 1)))) * g1)) + (Int.tmod z1 g1))) + (geti ([1, 0, (-1), 0, 0, 1, 0, (-1)] : List Int) (z2 * 2)))), .int .i64 (w64 ((w64 ((w64 ((w64 (Int.tdiv z1 g1)) + (w64 (2 * (geti ([1, 0, (-1), 0, 0, 1, 0, (-1)] : List Int) (z2 * 2 + 1)))))) * g1)) + (w64 ((Int.tmod z1 g1) + (w64 (2 * (geti ([1, 0, (-1), 0, 0, 1, 0, (-1)] : List Int) (z2 * 2))))))))] 128)) (ownK 128 3 (some (⟨w.heap.size, 0, none⟩ : Addr)) 1 1 (List.flatMap enc128 ([(z1, w64 ((w64 ((w64 ((w64 ((w64 (Int.tdiv z1 g1)) + (geti ([1, 0, (-1), 0, 0, 1, 0, (-1)] : List Int) (z2 * 2 + 1)))) * g1)) + (Int.tmod z1 g1))) + (geti ([1, 0, (-1), 0, 0, 1, 0, (-1)] : List Int) (z2 * 2))), w64 ((w64 ((w64 ((w64 (Int.tdiv z1 g1)) + (w64 (2 * (geti ([1, 0, (-1), 0, 0, 1, 0, (-1)] : List Int) (z2 * 2 + 1)))))) * g1)) + (w64 ((Int.tmod z1 g1) + (w64 (2 * (geti ([1, 0, (-1), 0, 0, 1, 0, (-1)] : List Int) (z2 * 2))))))))] : List (Int × Int × Int))) :: (blk g4 41 #[.int .i64 g1, .int .i64 g2, .slice A1 g3.length c1] :: ownK 128 3 A4 l3.length c4 (List.flatMap enc128 l3) :: blk g5 69 #[.int .i64 (geti ([1, 0, (-1), 0, 0, 1, 0, (-1)] : List Int) (z2 * 2)), .int .i64 (geti ([1, 0, (-1), 0, 0, 1, 0, (-1)] : List Int) (z2 * 2 + 1))] :: fs)) := hS.litK 128 3 #[.int .i64 z1, .int .i64 (w64 ((w64 ((w64 ((w64 ((w64 (Int.tdiv z1 g1)) + (geti ([1, 0, (-1), 0, 0, 1, 0, (-1)] : List Int) (z2 * 2 + 1)))) * g1)) + (Int.tmod z1 g1))) + (geti ([1, 0, (-1), 0, 0, 1, 0, (-1)] : List Int) (z2 * 2)))), .int .i64 (w64 ((w64 ((w64 ((w64 (Int.tdiv z1 g1)) + (w64 (2 * (geti ([1, 0, (-1), 0, 0, 1, 0, (-1)] : List Int) (z2 * 2 + 1)))))) * g1)) + (w64 ((Int.tmod z1 g1) + (w64 (2 * (geti ([1, 0, (-1), 0, 0, 1, 0, (-1)] : List Int) (z2 * 2))))))))] 1 rfl (by omega)
                generalize (some (⟨w.heap.size, 0, none⟩ : Addr)) = g6 at hF hS
                generalize w.alloc (.cells #[.int .i64 z1, .int .i64 (w64 ((w64 ((w64 ((w64 ((w64 (Int.tdiv z1 g1)) + (geti ([1, 0, (-1), 0, 0, 1, 0, (-1)] : List Int) (z2 * 2 + 1)))) * g1)) + (Int.tmod z1 g1))) + (geti ([1, 0, (-1), 0, 0, 1, 0, (-1)] : List Int) (z2 * 2)))), .int .i64 (w64 ((w64 ((w64 ((w64 (Int.tdiv z1 g1)) + (w64 (2 * (geti ([1, 0, (-1), 0, 0, 1, 0, (-1)] : List Int) (z2 * 2 + 1)))))) * g1)) + (w64 ((Int.tmod z1 g1) + (w64 (2 * (geti ([1, 0, (-1), 0, 0, 1, 0, (-1)] : List Int) (z2 * 2))))))))] 128) = w at hS ⊢
                obtain ⟨A7, c7, w, hrun, hS⟩ := run_appK3 (P := Try.prog) (t := 125) (m := l3) (ys := ([(z1, w64 ((w64 ((w64 ((w64 ((w64 (Int.tdiv z1 g1)) + (geti ([1, 0, (-1), 0, 0, 1, 0, (-1)] : List Int) (z2 * 2 + 1)))) * g1)) + (Int.tmod z1 g1))) + (geti ([1, 0, (-1), 0, 0, 1, 0, (-1)] : List Int) (z2 * 2))), w64 ((w64 ((w64 ((w64 (Int.tdiv z1 g1)) + (w64 (2 * (geti ([1, 0, (-1), 0, 0, 1, 0, (-1)] : List Int) (z2 * 2 + 1)))))) * g1)) + (w64 ((Int.tmod z1 g1) + (w64 (2 * (geti ([1, 0, (-1), 0, 0, 1, 0, (-1)] : List Int) (z2 * 2))))))))] : List (Int × Int × Int))) (A2 := g6) (m2 := 1) (c2 := 1) encK128 (hS.at_ 2 rfl) (hS.at_ 0 rfl).rdK ((hS.at_ 0 rfl).lenK encK128) 125 Und125 hi128 hz128 hs128 rfl (by omega) hp7
                have hS : Sep w0 B w (ownK 128 3 g6 1 1 (List.flatMap enc128 ([(z1, w64 ((w64 ((w64 ((w64 ((w64 (Int.tdiv z1 g1)) + (geti ([1, 0, (-1), 0, 0, 1, 0, (-1)] : List Int) (z2 * 2 + 1)))) * g1)) + (Int.tmod z1 g1))) + (geti ([1, 0, (-1), 0, 0, 1, 0, (-1)] : List Int) (z2 * 2))), w64 ((w64 ((w64 ((w64 (Int.tdiv z1 g1)) + (w64 (2 * (geti ([1, 0, (-1), 0, 0, 1, 0, (-1)] : List Int) (z2 * 2 + 1)))))) * g1)) + (w64 ((Int.tmod z1 g1) + (w64 (2 * (geti ([1, 0, (-1), 0, 0, 1, 0, (-1)] : List Int) (z2 * 2))))))))] : List (Int × Int × Int))) :: blk g4 41 #[.int .i64 g1, .int .i64 g2, .slice A1 g3.length c1] :: ownK 128 3 A7 ((l3 ++ ([(z1, w64 ((w64 ((w64 ((w64 ((w64 (Int.tdiv z1 g1)) + (geti ([1, 0, (-1), 0, 0, 1, 0, (-1)] : List Int) (z2 * 2 + 1)))) * g1)) + (Int.tmod z1 g1))) + (geti ([1, 0, (-1), 0, 0, 1, 0, (-1)] : List Int) (z2 * 2))), w64 ((w64 ((w64 ((w64 (Int.tdiv z1 g1)) + (w64 (2 * (geti ([1, 0, (-1), 0, 0, 1, 0, (-1)] : List Int) (z2 * 2 + 1)))))) * g1)) + (w64 ((Int.tmod z1 g1) + (w64 (2 * (geti ([1, 0, (-1), 0, 0, 1, 0, (-1)] : List Int) (z2 * 2))))))))] : List (Int × Int × Int))).length) c7 (List.flatMap enc128 (l3 ++ ([(z1, w64 ((w64 ((w64 ((w64 ((w64 (Int.tdiv z1 g1)) + (geti ([1, 0, (-1), 0, 0, 1, 0, (-1)] : List Int) (z2 * 2 + 1)))) * g1)) + (Int.tmod z1 g1))) + (geti ([1, 0, (-1), 0, 0, 1, 0, (-1)] : List Int) (z2 * 2))), w64 ((w64 ((w64 ((w64 (Int.tdiv z1 g1)) + (w64 (2 * (geti ([1, 0, (-1), 0, 0, 1, 0, (-1)] : List Int) (z2 * 2 + 1)))))) * g1)) + (w64 ((Int.tmod z1 g1) + (w64 (2 * (geti ([1, 0, (-1), 0, 0, 1, 0, (-1)] : List Int) (z2 * 2))))))))] : List (Int × Int × Int)))) :: blk g5 69 #[.int .i64 (geti ([1, 0, (-1), 0, 0, 1, 0, (-1)] : List Int) (z2 * 2)), .int .i64 (geti ([1, 0, (-1), 0, 0, 1, 0, (-1)] : List Int) (z2 * 2 + 1))] :: fs) := hS
                refine at_do (d := 112) hF (by kernel_rfl) (by kernel_rfl) hrun (fun a hF => ?_)
                refine at_run 1 [] [] [1, 3, 4, 5, 6, 14, 15, 30, 31] [pl 1 (.pointer (some ⟨g4, 0, none⟩)), pl 3 (.slice A7 ((l3 ++ ([(z1, w64 ((w64 ((w64 ((w64 ((w64 (Int.tdiv z1 g1)) + (geti ([1, 0, (-1), 0, 0, 1, 0, (-1)] : List Int) (z2 * 2 + 1)))) * g1)) + (Int.tmod z1 g1))) + (geti ([1, 0, (-1), 0, 0, 1, 0, (-1)] : List Int) (z2 * 2))), w64 ((w64 ((w64 ((w64 (Int.tdiv z1 g1)) + (w64 (2 * (geti ([1, 0, (-1), 0, 0, 1, 0, (-1)] : List Int) (z2 * 2 + 1)))))) * g1)) + (w64 ((Int.tmod z1 g1) + (w64 (2 * (geti ([1, 0, (-1), 0, 0, 1, 0, (-1)] : List Int) (z2 * 2))))))))] : List (Int × Int × Int))).length) c7), pl 4 (.int .i64 z1), pl 5 (.int .i64 (Int.tmod z1 g1)), pl 6 (.int .i64 (w64 (Int.tdiv z1 g1))), pl 14 (.int .i64 (g3.length : Int)), pl 15 (.int .i64 z1), pl 30 (.agg (List.toArray (([] : List Value) ++ (arr1 (Value.int .i64) (0 : Int) 8 ([1, 0, (-1), 0, 0, 1, 0, (-1)] : List Int) ++ ([] : List Value))))), pl 31 (.int .i64 z2)] hF hS (by kernel_rfl) (by kernel_rfl) ?_ (fun a w hF hS => ?_)
                · exact obs_nil
                refine at_end [1, 3, 4, 5, 6, 14, 15, 30, 31] [pl 1 (.pointer (some ⟨g4, 0, none⟩)), pl 3 (.slice A7 ((l3 ++ ([(z1, w64 ((w64 ((w64 ((w64 ((w64 (Int.tdiv z1 g1)) + (geti ([1, 0, (-1), 0, 0, 1, 0, (-1)] : List Int) (z2 * 2 + 1)))) * g1)) + (Int.tmod z1 g1))) + (geti ([1, 0, (-1), 0, 0, 1, 0, (-1)] : List Int) (z2 * 2))), w64 ((w64 ((w64 ((w64 (Int.tdiv z1 g1)) + (w64 (2 * (geti ([1, 0, (-1), 0, 0, 1, 0, (-1)] : List Int) (z2 * 2 + 1)))))) * g1)) + (w64 ((Int.tmod z1 g1) + (w64 (2 * (geti ([1, 0, (-1), 0, 0, 1, 0, (-1)] : List Int) (z2 * 2))))))))] : List (Int × Int × Int))).length) c7), pl 4 (.int .i64 z1), pl 5 (.int .i64 (Int.tmod z1 g1)), pl 6 (.int .i64 (w64 (Int.tdiv z1 g1))), pl 14 (.int .i64 (g3.length : Int)), pl 15 (.int .i64 z1), pl 30 (.agg (List.toArray (([] : List Value) ++ (arr1 (Value.int .i64) (0 : Int) 8 ([1, 0, (-1), 0, 0, 1, 0, (-1)] : List Int) ++ ([] : List Value))))), pl 31 (.int .i64 z2)] hF rfl (by kernel_rfl) (fun hF => ?_)
                refine block_n ?_
                refine then_n ?_
                have hS := hS.pickN 4 [1, 2] (by decide)
                exact ⟨(l3 ++ ([(z1, w64 ((w64 ((w64 ((w64 ((w64 (Int.tdiv z1 g1)) + (geti ([1, 0, (-1), 0, 0, 1, 0, (-1)] : List Int) (z2 * 2 + 1)))) * g1)) + (Int.tmod z1 g1))) + (geti ([1, 0, (-1), 0, 0, 1, 0, (-1)] : List Int) (z2 * 2))), w64 ((w64 ((w64 ((w64 (Int.tdiv z1 g1)) + (w64 (2 * (geti ([1, 0, (-1), 0, 0, 1, 0, (-1)] : List Int) (z2 * 2 + 1)))))) * g1)) + (w64 ((Int.tmod z1 g1) + (w64 (2 * (geti ([1, 0, (-1), 0, 0, 1, 0, (-1)] : List Int) (z2 * 2))))))))] : List (Int × Int × Int))), A7, c7, hF.weak [1, 3, 4, 5, 6, 14, 15, 30, 31] (by kernel_rfl), hS, hm⟩
              · replace hm := if_f hm hb
                refine wpIn_skip ?_
                refine block_n ?_
                refine then_n ?_
                have hS := hS.pickN 3 [0, 1] (by decide)
                exact ⟨l3, A4, c4, hF.weak [1, 3, 4, 5, 6, 14, 15, 30, 31] (by kernel_rfl), hS, hm⟩
            · refine reg [⟨false, [(decide ((w64 ((Int.tmod z1 g1) + (w64 (2 * (geti ([1, 0, (-1), 0, 0, 1, 0, (-1)] : List Int) (z2 * 2)))))) < 0), false)], vS (Instr.loadAt 3 (.pointer (some ⟨g4, 0, none⟩))), .int .i64 g1⟩, ⟨false, [(((decide ((w64 ((Int.tmod z1 g1) + (w64 (2 * (geti ([1, 0, (-1), 0, 0, 1, 0, (-1)] : List Int) (z2 * 2)))))) < 0)) || (decide (g1 ≤ (w64 ((Int.tmod z1 g1) + (w64 (2 * (geti ([1, 0, (-1), 0, 0, 1, 0, (-1)] : List Int) (z2 * 2))))))))) || (decide ((w64 ((w64 (Int.tdiv z1 g1)) + (w64 (2 * (geti ([1, 0, (-1), 0, 0, 1, 0, (-1)] : List Int) (z2 * 2 + 1)))))) < 0)), false)], vS (Instr.loadAt 3 (.pointer (some ⟨g4, 1, none⟩))), .int .i64 g2⟩] [none, none, none, none, none, some (.int .i64 g1), none, none, none, none, none, none, none, none, none, some (.int .i64 g2), none, none] [1, 3, 4, 5, 6, 8, 9, 10, 14, 15, 30, 31, 61] [pl 1 (.pointer (some ⟨g4, 0, none⟩)), pl 3 (.slice A4 l3.length c4), pl 4 (.int .i64 z1), pl 5 (.int .i64 (Int.tmod z1 g1)), pl 6 (.int .i64 (w64 (Int.tdiv z1 g1))), pl 8 (.pointer (some ⟨g5, 0, none⟩)), pl 9 (.int .i64 (w64 ((Int.tmod z1 g1) + (w64 (2 * (geti ([1, 0, (-1), 0, 0, 1, 0, (-1)] : List Int) (z2 * 2))))))), pl 10 (.int .i64 (w64 ((w64 (Int.tdiv z1 g1)) + (w64 (2 * (geti ([1, 0, (-1), 0, 0, 1, 0, (-1)] : List Int) (z2 * 2 + 1))))))), pl 14 (.int .i64 (g3.length : Int)), pl 15 (.int .i64 z1), pl 30 (.agg (List.toArray (([] : List Value) ++ (arr1 (Value.int .i64) (0 : Int) 8 ([1, 0, (-1), 0, 0, 1, 0, (-1)] : List Int) ++ ([] : List Value))))), pl 31 (.int .i64 z2), pl 61 (.bool ((((decide ((w64 ((Int.tmod z1 g1) + (w64 (2 * (geti ([1, 0, (-1), 0, 0, 1, 0, (-1)] : List Int) (z2 * 2)))))) < 0)) || (decide (g1 ≤ (w64 ((Int.tmod z1 g1) + (w64 (2 * (geti ([1, 0, (-1), 0, 0, 1, 0, (-1)] : List Int) (z2 * 2))))))))) || (decide ((w64 ((w64 (Int.tdiv z1 g1)) + (w64 (2 * (geti ([1, 0, (-1), 0, 0, 1, 0, (-1)] : List Int) (z2 * 2 + 1)))))) < 0))) || (decide (g2 ≤ (w64 ((w64 (Int.tdiv z1 g1)) + (w64 (2 * (geti ([1, 0, (-1), 0, 0, 1, 0, (-1)] : List Int) (z2 * 2 + 1))))))))))] hF hS Fol (by kernel_rfl) (by kernel_rfl) (by kernel_rfl) ?_ (fun a w hF hS => ?_)
              · exact obs_cons (ob_load Agg3 (fun _ _ hS => (hS.at_ 1 rfl).cell rfl)) <| obs_cons (ob_load Agg3 (fun _ _ hS => (hS.at_ 1 rfl).cell rfl)) <| obs_nil
              refine cond_ev (t := 61) (b := (((decide ((w64 ((Int.tmod z1 g1) + (w64 (2 * (geti ([1, 0, (-1), 0, 0, 1, 0, (-1)] : List Int) (z2 * 2)))))) < 0)) || (decide (g1 ≤ (w64 ((Int.tmod z1 g1) + (w64 (2 * (geti ([1, 0, (-1), 0, 0, 1, 0, (-1)] : List Int) (z2 * 2))))))))) || (decide ((w64 ((w64 (Int.tdiv z1 g1)) + (w64 (2 * (geti ([1, 0, (-1), 0, 0, 1, 0, (-1)] : List Int) (z2 * 2 + 1)))))) < 0))) || (decide (g2 ≤ (w64 ((w64 (Int.tdiv z1 g1)) + (w64 (2 * (geti ([1, 0, (-1), 0, 0, 1, 0, (-1)] : List Int) (z2 * 2 + 1))))))))) hF (by kernel_rfl) (fun hb => ?_) (fun hb => ?_)
              · replace hm := if_t hm hb
                refine wpIn_exit ?_
                refine then_e (block_e (then_n ?_))
                have hS := hS.pickN 3 [1, 2] (by decide)
                exact ⟨l3, A4, c4, hF.weak [1, 3, 4, 5, 6, 14, 15, 30, 31] (by kernel_rfl), hS, hm⟩
              · replace hm := if_f hm hb
                refine wpIn_skip ?_
                refine then_n ?_
                have hS := hS.pickN 3 [1, 2, 0] (by decide)
                exact ⟨hF.weak [1, 3, 4, 5, 6, 8, 9, 10, 14, 15, 30, 31] (by kernel_rfl), hS, hm⟩
        · refine cond_ev (t := 32) (b := decide (z2 < 4)) hF (by kernel_rfl) (fun hb => ?_) (fun hb => ?_)
          · replace hm := if_t hm hb
            refine wpIn_skip ?_
            refine then_n ?_
            exact ⟨hF.weak [1, 3, 4, 5, 6, 14, 15, 30, 31] (by kernel_rfl), hS, hm⟩
          · replace hm := if_f hm hb
            refine wpIn_exit ?_
            refine then_e (then_e (block_e (block_n (then_n ?_))))
            rw [← hφ2] at hm
            replace hm := done_b hm
            unfold pegs_jumps_K2 at hm
            try dsimp only at hm
            have hm : ((pegs_jumps_J3 z1) l3).bind φ1 = some r := hm
            exact ⟨l3, A4, c4, hF.weak [1, 3, 14, 15] (by kernel_rfl), hS, hm⟩
    · refine cond_ev (t := 16) (b := decide (z1 < (g3.length : Int))) hF (by kernel_rfl) (fun hb => ?_) (fun hb => ?_)
      · replace hm := if_t hm hb
        refine wpIn_skip ?_
        refine then_n ?_
        exact ⟨hF.weak [1, 3, 14, 15] (by kernel_rfl), hS, hm⟩
      · replace hm := if_f hm hb
        refine wpIn_exit ?_
        refine then_e (then_e (block_e (then_n ?_)))
        have hS := hS.pickN 2 [1] (by decide)
        rw [← hφ1] at hm
        replace hm := done_b hm
        unfold pegs_jumps_K1 at hm
        try dsimp only at hm
        have hm : (pegs_jumps_J1 l1).bind some = some r := hm
        exact ⟨l1, A2, c2, hF.weak [3] (by kernel_rfl), hS, hm⟩

noncomputable def pegs_jump_can_m  (j1 : Int) (j2 : Int) (j3 : Int) (cells1 : List Int) : Option Bool :=
  asrt (0 ≤ j1 ∧ j1 < (cells1.length : Int)) <| asrt (((geti cells1 j1) == 1) = true → 0 ≤ j2 ∧ j2 < (cells1.length : Int)) <| asrt ((((geti cells1 j1) == 1) && ((geti cells1 j2) == 1)) = true → 0 ≤ j3 ∧ j3 < (cells1.length : Int)) <| some ((((geti cells1 j1) == 1) && ((geti cells1 j2) == 1)) && ((geti cells1 j3) == 0))

set_option maxRecDepth 100000 in
set_option maxHeartbeats 4000000 in
theorem pegs_jump_can_w {j1 : Int} {j2 : Int} {j3 : Int} {A1 : Option Addr} {c1 : Nat} {n1 : Nat} {cells1 : List Int} {r : Bool} {w0 w : World} {B : Nat} {fs : List HP} (hm : pegs_jump_can_m j1 j2 j3 cells1 = some r) (hS : Sep w0 B w (fs)) (hr_cells1 : RdF w0 B fs A1 (vI cells1)) (_hc_cells1 : cells1.length ≤ c1) (_hn_cells1 : n1 = cells1.length) :
    Calls Try.prog 98 #[.agg #[.int .i64 j1, .int .i64 j2, .int .i64 j3], .slice A1 n1 c1] w fun e w' => e = .returned (.bool r) ∧ Sep w0 B w' (fs) := by
  obtain ⟨i3, hi3, hz3, hs3, hb3⟩ := info_parts Info3
  obtain rfl := _hn_cells1
  unfold pegs_jump_can_m at hm
  replace hm := start_b hm
  refine enter (l := [.agg #[.int .i64 j1, .int .i64 j2, .int .i64 j3], .slice A1 cells1.length c1]) (n := 27) Try.func98 rfl rfl (by simp) (fun a hF => ?_)
  refine seqR ?_
  refine at_do (d := 2) (s := vS (Instr.box 128 (.agg #[.int .i64 j1, .int .i64 j2, .int .i64 j3]))) (v := .pointer (some ⟨w.heap.size, 0, none⟩)) (w' := w.alloc (.cells #[.int .i64 j1, .int .i64 j2, .int .i64 j3] 128)) hF (by kernel_rfl) (by kernel_rfl) (by kernel_rfl) (fun a hF => ?_)
  have hS : Sep w0 B (w.alloc (.cells #[.int .i64 j1, .int .i64 j2, .int .i64 j3] 128)) (blk w.heap.size 128 #[.int .i64 j1, .int .i64 j2, .int .i64 j3] :: (fs)) := hS.box 128 #[.int .i64 j1, .int .i64 j2, .int .i64 j3]
  generalize w.heap.size = g1 at hF hS
  generalize w.alloc (.cells #[.int .i64 j1, .int .i64 j2, .int .i64 j3] 128) = w at hS ⊢
  refine at_run 1 [] [] [1, 2] [pl 1 (.slice A1 cells1.length c1), pl 2 (.pointer (some ⟨g1, 0, none⟩))] hF hS (by kernel_rfl) (by kernel_rfl) ?_ (fun a w hF hS => ?_)
  · exact obs_nil
  refine at_end [1, 2] [pl 1 (.slice A1 cells1.length c1), pl 2 (.pointer (some ⟨g1, 0, none⟩))] hF rfl (by kernel_rfl) (fun hF => ?_)
  refine then_n ?_
  obtain ⟨hp1, hm⟩ := asrt_b hm
  obtain ⟨hp2, hm⟩ := asrt_b hm
  obtain ⟨hp3, hm⟩ := asrt_b hm
  refine reg [⟨false, [], vS (Instr.loadAt 3 (.pointer (some ⟨g1, 0, none⟩))), .int .i64 j1⟩, ⟨true, [], vS (Instr.indexAt 22 (.slice A1 cells1.length c1) (.int .i64 j1)), .pointer (some (sAddr A1 j1))⟩, ⟨false, [], vS (Instr.loadAt 3 (.pointer (some (sAddr A1 j1)))), .int .i64 (geti cells1 j1)⟩, ⟨false, [(((geti cells1 j1) == 1), true)], vS (Instr.loadAt 3 (.pointer (some ⟨g1, 1, none⟩))), .int .i64 j2⟩, ⟨true, [(((geti cells1 j1) == 1), true)], vS (Instr.indexAt 22 (.slice A1 cells1.length c1) (.int .i64 j2)), .pointer (some (sAddr A1 j2))⟩, ⟨false, [(((geti cells1 j1) == 1), true)], vS (Instr.loadAt 3 (.pointer (some (sAddr A1 j2)))), .int .i64 (geti cells1 j2)⟩, ⟨false, [(((geti cells1 j1) == 1) && ((geti cells1 j2) == 1), true)], vS (Instr.loadAt 3 (.pointer (some ⟨g1, 2, none⟩))), .int .i64 j3⟩, ⟨true, [(((geti cells1 j1) == 1) && ((geti cells1 j2) == 1), true)], vS (Instr.indexAt 22 (.slice A1 cells1.length c1) (.int .i64 j3)), .pointer (some (sAddr A1 j3))⟩, ⟨false, [(((geti cells1 j1) == 1) && ((geti cells1 j2) == 1), true)], vS (Instr.loadAt 3 (.pointer (some (sAddr A1 j3)))), .int .i64 (geti cells1 j3)⟩] [none, none, some (.int .i64 j1), some (.pointer (some (sAddr A1 j1))), some (.int .i64 (geti cells1 j1)), none, none, none, none, some (.int .i64 j2), some (.pointer (some (sAddr A1 j2))), some (.int .i64 (geti cells1 j2)), none, none, none, none, none, some (.int .i64 j3), some (.pointer (some (sAddr A1 j3))), some (.int .i64 (geti cells1 j3)), none, none, none] [4] [pl 4 (.bool ((((geti cells1 j1) == 1) && ((geti cells1 j2) == 1)) && ((geti cells1 j3) == 0)))] hF hS Fol (by kernel_rfl) (by kernel_rfl) (by kernel_rfl) ?_ (fun a w hF hS => ?_)
  · exact obs_cons (ob_load Agg3 (fun _ _ hS => (hS.at_ 0 rfl).cell rfl)) <| obs_cons (ob_ix1 (f := (Value.int .i64)) (m := cells1) Und22 hi3 hs3 (hr_cells1 _ (hS.dropN 1)) rfl (fun _ => hp1)) <| obs_cons (ob_get1 (n := cells1.length) (m := cells1) (Value.int .i64) (0 : Int) Agg3 (fun _ hS => ⟨_, (hr_cells1 _ (hS.dropN 1))⟩) (fun _ hS => rfl) (fun _ => hp1)) <| obs_cons (ob_load Agg3 (fun _ _ hS => (hS.at_ 0 rfl).cell rfl)) <| obs_cons (ob_ix1 (f := (Value.int .i64)) (m := cells1) Und22 hi3 hs3 (hr_cells1 _ (hS.dropN 1)) rfl (fun hy => hp2 (hy (((geti cells1 j1) == 1), true) (by simp)))) <| obs_cons (ob_get1 (n := cells1.length) (m := cells1) (Value.int .i64) (0 : Int) Agg3 (fun _ hS => ⟨_, (hr_cells1 _ (hS.dropN 1))⟩) (fun _ hS => rfl) (fun hy => hp2 (hy (((geti cells1 j1) == 1), true) (by simp)))) <| obs_cons (ob_load Agg3 (fun _ _ hS => (hS.at_ 0 rfl).cell rfl)) <| obs_cons (ob_ix1 (f := (Value.int .i64)) (m := cells1) Und22 hi3 hs3 (hr_cells1 _ (hS.dropN 1)) rfl (fun hy => hp3 (hy (((geti cells1 j1) == 1) && ((geti cells1 j2) == 1), true) (by simp)))) <| obs_cons (ob_get1 (n := cells1.length) (m := cells1) (Value.int .i64) (0 : Int) Agg3 (fun _ hS => ⟨_, (hr_cells1 _ (hS.dropN 1))⟩) (fun _ hS => rfl) (fun hy => hp3 (hy (((geti cells1 j1) == 1) && ((geti cells1 j2) == 1), true) (by simp)))) <| obs_nil
  refine wpIn_ret ?_
  have hS := hS.pickN 1 [] (by decide)
  have hm : some ((((geti cells1 j1) == 1) && ((geti cells1 j2) == 1)) && ((geti cells1 j3) == 0)) = some r := hm
  obtain rfl := Option.some.inj hm
  exact retV (rs := [.tmp 4]) (vs := [.bool ((((geti cells1 j1) == 1) && ((geti cells1 j2) == 1)) && ((geti cells1 j3) == 0))]) hF rfl (rv_t (by kernel_rfl) <| rv_nil) rfl ⟨rfl, hS⟩

noncomputable def pegs_jump_move_m  (j1 : Int) (j2 : Int) (j3 : Int) : Option (Int × Int × Int) :=
  some (j1, j3, 0)

set_option maxRecDepth 100000 in
set_option maxHeartbeats 4000000 in
theorem pegs_jump_move_w {j1 : Int} {j2 : Int} {j3 : Int} {r : (Int × Int × Int)} {w0 w : World} {B : Nat} {fs : List HP} (hm : pegs_jump_move_m j1 j2 j3 = some r) (hS : Sep w0 B w (fs)) :
    Calls Try.prog 99 #[.agg #[.int .i64 j1, .int .i64 j2, .int .i64 j3]] w fun e w' => e = .returned (.agg #[.int .i64 r.1, .int .i64 r.2.1, .int .i64 r.2.2]) ∧ Sep w0 B w' (fs) := by
  unfold pegs_jump_move_m at hm
  replace hm := start_b hm
  refine enter (l := [.agg #[.int .i64 j1, .int .i64 j2, .int .i64 j3]]) (n := 8) Try.func99 rfl rfl (by simp) (fun a hF => ?_)
  refine seqR ?_
  refine at_do (d := 1) (s := vS (Instr.box 128 (.agg #[.int .i64 j1, .int .i64 j2, .int .i64 j3]))) (v := .pointer (some ⟨w.heap.size, 0, none⟩)) (w' := w.alloc (.cells #[.int .i64 j1, .int .i64 j2, .int .i64 j3] 128)) hF (by kernel_rfl) (by kernel_rfl) (by kernel_rfl) (fun a hF => ?_)
  have hS : Sep w0 B (w.alloc (.cells #[.int .i64 j1, .int .i64 j2, .int .i64 j3] 128)) (blk w.heap.size 128 #[.int .i64 j1, .int .i64 j2, .int .i64 j3] :: (fs)) := hS.box 128 #[.int .i64 j1, .int .i64 j2, .int .i64 j3]
  generalize w.heap.size = g1 at hF hS
  generalize w.alloc (.cells #[.int .i64 j1, .int .i64 j2, .int .i64 j3] 128) = w at hS ⊢
  refine at_do (d := 2) (s := vS (Instr.alloc 54 true (.tuple #[]))) (v := .pointer (some ⟨w.heap.size, 0, none⟩)) (w' := w.alloc (.cells #[.int .i64 0, .int .i64 0, .int .i64 0] 54)) hF (by kernel_rfl) (by kernel_rfl) (by kernel_rfl) (fun a hF => ?_)
  have hS : Sep w0 B (w.alloc (.cells #[.int .i64 0, .int .i64 0, .int .i64 0] 54)) (blk w.heap.size 54 #[.int .i64 0, .int .i64 0, .int .i64 0] :: (blk g1 128 #[.int .i64 j1, .int .i64 j2, .int .i64 j3] :: fs)) := hS.box 54 #[.int .i64 0, .int .i64 0, .int .i64 0]
  generalize w.heap.size = g2 at hF hS
  generalize w.alloc (.cells #[.int .i64 0, .int .i64 0, .int .i64 0] 54) = w at hS ⊢
  refine at_end [1, 2] [pl 1 (.pointer (some ⟨g1, 0, none⟩)), pl 2 (.pointer (some ⟨g2, 0, none⟩))] hF rfl (by kernel_rfl) (fun hF => ?_)
  refine then_n ?_
  refine seqR ?_
  refine at_run 5 [⟨false, [], vS (Instr.loadAt 3 (.pointer (some ⟨g1, 0, none⟩))), .int .i64 j1⟩, ⟨false, [], vS (Instr.loadAt 3 (.pointer (some ⟨g1, 2, none⟩))), .int .i64 j3⟩] [none, some (.int .i64 j1), none, some (.int .i64 j3), none] [2, 7] [pl 2 (.pointer (some ⟨g2, 0, none⟩)), pl 7 (.agg #[.int .i64 j1, .int .i64 j3, .int .i64 0])] hF hS (by kernel_rfl) (by kernel_rfl) ?_ (fun a w hF hS => ?_)
  · exact obs_cons (ob_load Agg3 (fun _ _ hS => (hS.at_ 1 rfl).cell rfl)) <| obs_cons (ob_load Agg3 (fun _ _ hS => (hS.at_ 1 rfl).cell rfl)) <| obs_nil
  obtain ⟨w, hrun, hS⟩ := run_putA (P := Try.prog) (t := 54) (us := #[.int .i64 j1, .int .i64 j3, .int .i64 0]) (o := 0) (hS.at_ 0 rfl) (by kernel_rfl) (all_one (by kernel_rfl)) (Nat.le_of_ble_eq_true (by kernel_rfl))
  refine at_skip hF (by kernel_rfl) hrun ?_
  have hS : Sep w0 B w (blk g2 54 #[.int .i64 j1, .int .i64 j3, .int .i64 0] :: blk g1 128 #[.int .i64 j1, .int .i64 j2, .int .i64 j3] :: fs) := hS
  refine at_end [2] [pl 2 (.pointer (some ⟨g2, 0, none⟩))] hF rfl (by kernel_rfl) (fun hF => ?_)
  refine then_n ?_
  refine wpIn_ret ?_
  have hld0 := run_loadVarA (P := Try.prog) (t := 54) (cs := #[.int .i64 j1, .int .i64 j3, .int .i64 0]) (by kernel_rfl) (by kernel_rfl) ((hS.at_ 0 rfl).cellsAt 0 (by rfl))
  have hS := hS.pickN 2 [] (by decide)
  have hm : some (j1, j3, 0) = some r := hm
  obtain rfl := Option.some.inj hm
  exact retV (rs := [.cell 2 54]) (vs := [.agg #[.int .i64 j1, .int .i64 j3, .int .i64 0]]) hF rfl (rv_c (by kernel_rfl) hld0 <| rv_nil) rfl ⟨rfl, hS⟩

noncomputable def pegs_Jumps_J4  (z1 : Int) (l3 : List (Int × Int × Int)) : Option (St (List (Int × Int × Int) × Int) (List (Int × Int × Int))) :=
  some (.next (l3, (w64 (z1 + 1))))

noncomputable def pegs_Jumps_J3  (g3 : List Int) (r2 : (List (Int × Int × Int))) (l1 : List (Int × Int × Int)) (z1 : Int) : Option (St (List (Int × Int × Int) × Int) (List (Int × Int × Int))) :=
  asrt (0 ≤ z1 ∧ z1 < (r2.length : Int)) <| (pegs_jump_can_m ((getd ((0, 0, 0) : (Int × Int × Int)) r2 z1).1) ((getd ((0, 0, 0) : (Int × Int × Int)) r2 z1).2.1) ((getd ((0, 0, 0) : (Int × Int × Int)) r2 z1).2.2) g3).bind fun r3 => if r3 then ((pegs_jump_move_m ((getd ((0, 0, 0) : (Int × Int × Int)) r2 z1).1) ((getd ((0, 0, 0) : (Int × Int × Int)) r2 z1).2.1) ((getd ((0, 0, 0) : (Int × Int × Int)) r2 z1).2.2)).bind fun r4 => asrt ((l1.length : Int) + 1 ≤ bigT) <| (pegs_Jumps_J4 z1) (l1 ++ ([r4] : List (Int × Int × Int)))) else ((pegs_Jumps_J4 z1) l1)

noncomputable def pegs_Jumps_J2  (l2 : List (Int × Int × Int)) : Option (List (Int × Int × Int) × Int) :=
  some (l2, 0)

noncomputable def pegs_Jumps_K1  : (List (Int × Int × Int)) → Option (List (Int × Int × Int) × Int) :=
  fun (x : (List (Int × Int × Int))) => match x with | l2 => pegs_Jumps_J2 l2

noncomputable def pegs_Jumps_L1  (g3 : List Int) (r2 : (List (Int × Int × Int))) : (List (Int × Int × Int) × Int) → Option (St (List (Int × Int × Int) × Int) (List (Int × Int × Int))) :=
  fun (x : (List (Int × Int × Int) × Int)) => match x with | (l1, z1) => if (decide (z1 < (r2.length : Int))) then ((pegs_Jumps_J3 g3 r2 l1 z1)) else (some (.done l1))

noncomputable def pegs_Jumps_J1  (g1 : Int) (g2 : Int) (g3 : List Int) : Option (List (Int × Int × Int) × Int) :=
  (pegs_jumps_m g1 g2 g3).bind fun r2 => (loop (pegs_Jumps_L1 g3 r2) (([] : List (Int × Int × Int)), 0)).bind pegs_Jumps_K1

noncomputable def pegs_Jumps_m  (g1 : Int) (g2 : Int) (g3 : List Int) : Option (List (Int × Int × Int) × Int) :=
  (rows_May_m g1 g2 g3).bind fun r1 => if (!r1) then (some (([] : List (Int × Int × Int)), 12)) else ((pegs_Jumps_J1 g1 g2 g3))

set_option maxRecDepth 100000 in
set_option maxHeartbeats 4000000 in
theorem pegs_Jumps_w {g1 : Int} {g2 : Int} {A1 : Option Addr} {c1 : Nat} {n1 : Nat} {g3 : List Int} {r : (List (Int × Int × Int) × Int)} {w0 w : World} {B : Nat} {fs : List HP} (hm : pegs_Jumps_m g1 g2 g3 = some r) (hS : Sep w0 B w (fs)) (hr_g3 : RdF w0 B fs A1 (vI g3)) (_hc_g3 : g3.length ≤ c1) (_hn_g3 : n1 = g3.length) :
    Calls Try.prog 29 #[.agg #[.int .i64 g1, .int .i64 g2, .slice A1 n1 c1]] w fun e w' => ∃ v, e = .returned v ∧ ∃ (A7 : Option Addr) (c7 : Nat), v = .tuple #[.slice A7 r.1.length c7, .int .i64 r.2] ∧ Sep w0 B w' (ownK 54 3 A7 r.1.length c7 (List.flatMap enc54 r.1) :: fs) := by
  obtain ⟨i3, hi3, hz3, hs3, hb3⟩ := info_parts Info3
  obtain ⟨i54, hi54, hz54, hs54, hb54⟩ := info_parts Info54
  obtain ⟨i128, hi128, hz128, hs128, hb128⟩ := info_parts Info128
  obtain rfl := _hn_g3
  unfold pegs_Jumps_m at hm
  replace hm := start_b hm
  refine enter (l := [.agg #[.int .i64 g1, .int .i64 g2, .slice A1 g3.length c1]]) (n := 28) Try.func29 rfl rfl (by simp) (fun a hF => ?_)
  refine seqR ?_
  refine at_do (d := 1) (s := vS (Instr.box 41 (.agg #[.int .i64 g1, .int .i64 g2, .slice A1 g3.length c1]))) (v := .pointer (some ⟨w.heap.size, 0, none⟩)) (w' := w.alloc (.cells #[.int .i64 g1, .int .i64 g2, .slice A1 g3.length c1] 41)) hF (by kernel_rfl) (by kernel_rfl) (by kernel_rfl) (fun a hF => ?_)
  have hS : Sep w0 B (w.alloc (.cells #[.int .i64 g1, .int .i64 g2, .slice A1 g3.length c1] 41)) (blk w.heap.size 41 #[.int .i64 g1, .int .i64 g2, .slice A1 g3.length c1] :: (fs)) := hS.box 41 #[.int .i64 g1, .int .i64 g2, .slice A1 g3.length c1]
  generalize w.heap.size = g4 at hF hS
  generalize w.alloc (.cells #[.int .i64 g1, .int .i64 g2, .slice A1 g3.length c1] 41) = w at hS ⊢
  refine at_run 2 [] [] [1] [pl 1 (.pointer (some ⟨g4, 0, none⟩))] hF hS (by kernel_rfl) (by kernel_rfl) ?_ (fun a w hF hS => ?_)
  · exact obs_nil
  refine at_end [1] [pl 1 (.pointer (some ⟨g4, 0, none⟩))] hF rfl (by kernel_rfl) (fun hF => ?_)
  refine then_n ?_
  refine seq_cut (fun a w => Fr 28 [pl 1 (.pointer (some ⟨g4, 0, none⟩))] a ∧ Sep w0 B w (blk g4 41 #[.int .i64 g1, .int .i64 g2, .slice A1 g3.length c1] :: fs) ∧ ((pegs_Jumps_J1 g1 g2 g3)).bind some = some r) ?_ ?_
  · rintro a w ⟨hF, hS, hm⟩
    unfold pegs_Jumps_J1 at hm
    refine reg [] [] [1, 4] [pl 1 (.pointer (some ⟨g4, 0, none⟩)), pl 4 (.slice none 0 0)] hF hS Fol (by kernel_rfl) (by kernel_rfl) (by kernel_rfl) ?_ (fun a w hF hS => ?_)
    · exact obs_nil
    refine seq_cut (fun a w => ∃ (l2 : List (Int × Int × Int)) (A4 : Option Addr) (c4 : Nat), Fr 28 [pl 4 (.slice A4 l2.length c4)] a ∧ Sep w0 B w (ownK 54 3 A4 l2.length c4 (List.flatMap enc54 l2) :: fs) ∧ (pegs_Jumps_J2 l2).bind some = some r) ?_ ?_
    · rintro a w ⟨l2, A4, c4, hF, hS, hm⟩
      unfold pegs_Jumps_J2 at hm
      refine reg [] [] [2, 3] [pl 2 (.slice A4 l2.length c4), pl 3 (.int .i64 0)] hF hS Fol (by kernel_rfl) (by kernel_rfl) (by kernel_rfl) ?_ (fun a w hF hS => ?_)
      · exact obs_nil
      refine wpIn_ret ?_
      have hm : some (l2, 0) = some r := hm
      obtain rfl := Option.some.inj hm
      exact retV (rs := [.tmp 2, .tmp 3]) (vs := [.slice A4 l2.length c4, .int .i64 0]) hF rfl (rv_t (by kernel_rfl) <| rv_t (by kernel_rfl) <| rv_nil) rfl ⟨_, rfl, A4, c4, rfl, hS⟩
    · refine seqR ?_
      obtain ⟨r2, hr2, hm⟩ := call_b hm
      refine at_run 1 [⟨false, [], vS (Instr.loadAt 41 (.pointer (some ⟨g4, 0, none⟩))), .agg #[.int .i64 g1, .int .i64 g2, .slice A1 g3.length c1]⟩] [some (.agg #[.int .i64 g1, .int .i64 g2, .slice A1 g3.length c1])] [1, 4, 10] [pl 1 (.pointer (some ⟨g4, 0, none⟩)), pl 4 (.slice none 0 0), pl 10 (.agg #[.int .i64 g1, .int .i64 g2, .slice A1 g3.length c1])] hF hS (by kernel_rfl) (by kernel_rfl) ?_ (fun a w hF hS => ?_)
      · exact obs_cons (ob_loadA (cs := #[.int .i64 g1, .int .i64 g2, .slice A1 g3.length c1]) (by kernel_rfl) (by kernel_rfl) (fun _ _ hS => (hS.at_ 0 rfl).cellsAt 0 (by rfl))) <| obs_nil
      refine at_call (f := 97) (args := #[.agg #[.int .i64 g1, .int .i64 g2, .slice A1 g3.length c1]]) (d := 11) hF (by kernel_rfl) (by kernel_rfl) Try.func97 (by kernel_rfl) rfl (pegs_jumps_w hr2 hS (fun _ hS => (hr_g3 _ (hS.dropN 1))) _hc_g3 rfl) (fun v a w hR hF => ?_)
      clear hS
      obtain ⟨A2, c2, rfl, hS⟩ := hR
      have hS : Sep w0 B w (ownK 128 3 A2 r2.length c2 (List.flatMap enc128 r2) :: blk g4 41 #[.int .i64 g1, .int .i64 g2, .slice A1 g3.length c1] :: fs) := hS
      refine at_run 2 [] [] [1, 4, 11, 12, 13] [pl 1 (.pointer (some ⟨g4, 0, none⟩)), pl 4 (.slice none 0 0), pl 11 (.slice A2 r2.length c2), pl 12 (.int .i64 (r2.length : Int)), pl 13 (.int .i64 0)] hF hS (by kernel_rfl) (by kernel_rfl) ?_ (fun a w hF hS => ?_)
      · exact obs_nil
      refine at_end [1, 4, 11, 12, 13] [pl 1 (.pointer (some ⟨g4, 0, none⟩)), pl 4 (.slice none 0 0), pl 11 (.slice A2 r2.length c2), pl 12 (.int .i64 (r2.length : Int)), pl 13 (.int .i64 0)] hF rfl (by kernel_rfl) (fun hF => ?_)
      refine then_n ?_
      refine wpIn_block ?_
      have hS : Sep w0 B w (ownK 54 3 none 0 0 (List.flatMap enc54 ([] : List (Int × Int × Int))) :: ownK 128 3 A2 r2.length c2 (List.flatMap enc128 r2) :: blk g4 41 #[.int .i64 g1, .int .i64 g2, .slice A1 g3.length c1] :: fs) := hS.nilK 54 3 enc54
      have hl2 := (hS.at_ 0 rfl).lenK encK54
      have hS := (hS.at_ 0 rfl).reNK hl2
      have hS : Sep w0 B w (ownK 54 3 none (([] : List (Int × Int × Int)).length) 0 (List.flatMap enc54 ([] : List (Int × Int × Int))) :: ownK 128 3 A2 r2.length c2 (List.flatMap enc128 r2) :: blk g4 41 #[.int .i64 g1, .int .i64 g2, .slice A1 g3.length c1] :: fs) := hS
      have hF := hF.cast (t := 4) (v := .slice none 0 0) (v' := .slice none (([] : List (Int × Int × Int)).length) 0) rfl rfl (congrArg (fun k => Value.slice none k 0) hl2)
      have hS := hS.pickN 3 [2, 0, 1] (by decide)
      refine wp_loop_model (S := (List (Int × Int × Int) × Int)) (R := (List (Int × Int × Int))) (pegs_Jumps_L1 g3 r2) (fun x => (pegs_Jumps_K1 x).bind some) r (fun (x : (List (Int × Int × Int) × Int)) a w => ∃ (A3 : Option Addr) (c3 : Nat), Fr 28 [pl 1 (.pointer (some ⟨g4, 0, none⟩)), pl 4 (.slice A3 x.1.length c3), pl 11 (.slice A2 r2.length c2), pl 12 (.int .i64 (r2.length : Int)), pl 13 (.int .i64 x.2)] a ∧ Sep w0 B w (blk g4 41 #[.int .i64 g1, .int .i64 g2, .slice A1 g3.length c1] :: ownK 54 3 A3 x.1.length c3 (List.flatMap enc54 x.1) :: ownK 128 3 A2 r2.length c2 (List.flatMap enc128 r2) :: fs)) (assoc_b hm) ⟨none, 0, hF.weak [1, 4, 11, 12, 13] (by kernel_rfl), hS⟩ ?_
      clear hF hS hm
      rintro nn1 ⟨l1, z1⟩ a w ⟨A3, c3, hF, hS⟩ hm
      generalize hφ1 : stK (pegs_Jumps_L1 g3 r2) nn1 (fun x => (pegs_Jumps_K1 x).bind some) = φ1 at hm
      unfold pegs_Jumps_L1 at hm
      dsimp only at hF hS hm
      refine reg [] [] [1, 4, 11, 12, 13, 14] [pl 1 (.pointer (some ⟨g4, 0, none⟩)), pl 4 (.slice A3 l1.length c3), pl 11 (.slice A2 r2.length c2), pl 12 (.int .i64 (r2.length : Int)), pl 13 (.int .i64 z1), pl 14 (.bool (decide (z1 < (r2.length : Int))))] hF hS Fol (by kernel_rfl) (by kernel_rfl) (by kernel_rfl) ?_ (fun a w hF hS => ?_)
      · exact obs_nil
      refine seq_cut (fun a w => Fr 28 [pl 1 (.pointer (some ⟨g4, 0, none⟩)), pl 4 (.slice A3 l1.length c3), pl 11 (.slice A2 r2.length c2), pl 12 (.int .i64 (r2.length : Int)), pl 13 (.int .i64 z1)] a ∧ Sep w0 B w (blk g4 41 #[.int .i64 g1, .int .i64 g2, .slice A1 g3.length c1] :: ownK 54 3 A3 l1.length c3 (List.flatMap enc54 l1) :: ownK 128 3 A2 r2.length c2 (List.flatMap enc128 r2) :: fs) ∧ ((pegs_Jumps_J3 g3 r2 l1 z1)).bind φ1 = some r) ?_ ?_
      · rintro a w ⟨hF, hS, hm⟩
        unfold pegs_Jumps_J3 at hm
        refine seq_cut (fun a w => ∃ (l3 : List (Int × Int × Int)) (A6 : Option Addr) (c6 : Nat), Fr 28 [pl 1 (.pointer (some ⟨g4, 0, none⟩)), pl 4 (.slice A6 l3.length c6), pl 11 (.slice A2 r2.length c2), pl 12 (.int .i64 (r2.length : Int)), pl 13 (.int .i64 z1)] a ∧ Sep w0 B w (blk g4 41 #[.int .i64 g1, .int .i64 g2, .slice A1 g3.length c1] :: ownK 54 3 A6 l3.length c6 (List.flatMap enc54 l3) :: ownK 128 3 A2 r2.length c2 (List.flatMap enc128 r2) :: fs) ∧ ((pegs_Jumps_J4 z1) l3).bind φ1 = some r) ?_ ?_
        · rintro a w ⟨l3, A6, c6, hF, hS, hm⟩
          unfold pegs_Jumps_J4 at hm
          refine reg1 [] [] [1, 4, 11, 12, 13] [pl 1 (.pointer (some ⟨g4, 0, none⟩)), pl 4 (.slice A6 l3.length c6), pl 11 (.slice A2 r2.length c2), pl 12 (.int .i64 (r2.length : Int)), pl 13 (.int .i64 (w64 (z1 + 1)))] hF hS Fol (by kernel_rfl) (by kernel_rfl) (by kernel_rfl) ?_ (fun a w hF hS => ?_)
          · exact obs_nil
          refine then_n ?_
          rw [← hφ1] at hm
          exact ⟨(l3, (w64 (z1 + 1))), ⟨A6, c6, hF.weak [1, 4, 11, 12, 13] (by kernel_rfl), hS⟩, hm⟩
        · refine wpIn_block ?_
          refine seqR ?_
          obtain ⟨hp1, hm⟩ := asrt_b hm
          refine at_run 2 [⟨true, [], vS (Instr.indexAt 125 (.slice A2 r2.length c2) (.int .i64 z1)), .pointer (some (sAddrK A2 3 z1))⟩, ⟨false, [], vS (Instr.loadAt 128 (.pointer (some (sAddrK A2 3 z1)))), .agg #[.int .i64 ((getd ((0, 0, 0) : (Int × Int × Int)) r2 z1).1), .int .i64 ((getd ((0, 0, 0) : (Int × Int × Int)) r2 z1).2.1), .int .i64 ((getd ((0, 0, 0) : (Int × Int × Int)) r2 z1).2.2)]⟩] [some (.pointer (some (sAddrK A2 3 z1))), some (.agg #[.int .i64 ((getd ((0, 0, 0) : (Int × Int × Int)) r2 z1).1), .int .i64 ((getd ((0, 0, 0) : (Int × Int × Int)) r2 z1).2.1), .int .i64 ((getd ((0, 0, 0) : (Int × Int × Int)) r2 z1).2.2)])] [1, 4, 11, 12, 13, 16] [pl 1 (.pointer (some ⟨g4, 0, none⟩)), pl 4 (.slice A3 l1.length c3), pl 11 (.slice A2 r2.length c2), pl 12 (.int .i64 (r2.length : Int)), pl 13 (.int .i64 z1), pl 16 (.agg #[.int .i64 ((getd ((0, 0, 0) : (Int × Int × Int)) r2 z1).1), .int .i64 ((getd ((0, 0, 0) : (Int × Int × Int)) r2 z1).2.1), .int .i64 ((getd ((0, 0, 0) : (Int × Int × Int)) r2 z1).2.2)])] hF hS (by kernel_rfl) (by kernel_rfl) ?_ (fun a w hF hS => ?_)
          · exact obs_cons (ob_ixK (m := r2) encK128 Und125 hi128 hs128 (hS.at_ 2 rfl).rdK rfl (fun _ => hp1)) <| obs_cons (ob_getK (n := r2.length) (m := r2) encK128 ((0, 0, 0) : (Int × Int × Int)) (by kernel_rfl) (by kernel_rfl) (fun _ hS => ⟨_, (hS.at_ 2 rfl).rdK⟩) (fun _ hS => rfl) (fun _ => hp1)) <| obs_nil
          refine at_do (d := 6) (s := vS (Instr.alloc 128 true (.tuple #[]))) (v := .pointer (some ⟨w.heap.size, 0, none⟩)) (w' := w.alloc (.cells #[.int .i64 0, .int .i64 0, .int .i64 0] 128)) hF (by kernel_rfl) (by kernel_rfl) (by kernel_rfl) (fun a hF => ?_)
          have hS : Sep w0 B (w.alloc (.cells #[.int .i64 0, .int .i64 0, .int .i64 0] 128)) (blk w.heap.size 128 #[.int .i64 0, .int .i64 0, .int .i64 0] :: (blk g4 41 #[.int .i64 g1, .int .i64 g2, .slice A1 g3.length c1] :: ownK 54 3 A3 l1.length c3 (List.flatMap enc54 l1) :: ownK 128 3 A2 r2.length c2 (List.flatMap enc128 r2) :: fs)) := hS.box 128 #[.int .i64 0, .int .i64 0, .int .i64 0]
          generalize w.heap.size = g5 at hF hS
          generalize w.alloc (.cells #[.int .i64 0, .int .i64 0, .int .i64 0] 128) = w at hS ⊢
          obtain ⟨w, hrun, hS⟩ := run_putA (P := Try.prog) (t := 128) (us := #[.int .i64 ((getd ((0, 0, 0) : (Int × Int × Int)) r2 z1).1), .int .i64 ((getd ((0, 0, 0) : (Int × Int × Int)) r2 z1).2.1), .int .i64 ((getd ((0, 0, 0) : (Int × Int × Int)) r2 z1).2.2)]) (o := 0) (hS.at_ 0 rfl) (by kernel_rfl) (all_one (by kernel_rfl)) (Nat.le_of_ble_eq_true (by kernel_rfl))
          refine at_skip hF (by kernel_rfl) hrun ?_
          have hS : Sep w0 B w (blk g5 128 #[.int .i64 ((getd ((0, 0, 0) : (Int × Int × Int)) r2 z1).1), .int .i64 ((getd ((0, 0, 0) : (Int × Int × Int)) r2 z1).2.1), .int .i64 ((getd ((0, 0, 0) : (Int × Int × Int)) r2 z1).2.2)] :: blk g4 41 #[.int .i64 g1, .int .i64 g2, .slice A1 g3.length c1] :: ownK 54 3 A3 l1.length c3 (List.flatMap enc54 l1) :: ownK 128 3 A2 r2.length c2 (List.flatMap enc128 r2) :: fs) := hS
          refine at_end [1, 4, 6, 11, 12, 13] [pl 1 (.pointer (some ⟨g4, 0, none⟩)), pl 4 (.slice A3 l1.length c3), pl 6 (.pointer (some ⟨g5, 0, none⟩)), pl 11 (.slice A2 r2.length c2), pl 12 (.int .i64 (r2.length : Int)), pl 13 (.int .i64 z1)] hF rfl (by kernel_rfl) (fun hF => ?_)
          refine then_n ?_
          obtain ⟨r3, hr3, hm⟩ := call_b hm
          refine reg [⟨false, [], vS (Instr.loadAt 128 (.pointer (some ⟨g5, 0, none⟩))), .agg #[.int .i64 ((getd ((0, 0, 0) : (Int × Int × Int)) r2 z1).1), .int .i64 ((getd ((0, 0, 0) : (Int × Int × Int)) r2 z1).2.1), .int .i64 ((getd ((0, 0, 0) : (Int × Int × Int)) r2 z1).2.2)]⟩, ⟨false, [], vS (Instr.loadAt 22 (.pointer (some ⟨g4, 2, none⟩))), .slice A1 g3.length c1⟩, ⟨false, [], callFunc 98 #[.agg #[.int .i64 ((getd ((0, 0, 0) : (Int × Int × Int)) r2 z1).1), .int .i64 ((getd ((0, 0, 0) : (Int × Int × Int)) r2 z1).2.1), .int .i64 ((getd ((0, 0, 0) : (Int × Int × Int)) r2 z1).2.2)], .slice A1 g3.length c1], .bool r3⟩] [some (.agg #[.int .i64 ((getd ((0, 0, 0) : (Int × Int × Int)) r2 z1).1), .int .i64 ((getd ((0, 0, 0) : (Int × Int × Int)) r2 z1).2.1), .int .i64 ((getd ((0, 0, 0) : (Int × Int × Int)) r2 z1).2.2)]), none, some (.slice A1 g3.length c1), some (.bool r3)] [1, 4, 6, 11, 12, 13, 20] [pl 1 (.pointer (some ⟨g4, 0, none⟩)), pl 4 (.slice A3 l1.length c3), pl 6 (.pointer (some ⟨g5, 0, none⟩)), pl 11 (.slice A2 r2.length c2), pl 12 (.int .i64 (r2.length : Int)), pl 13 (.int .i64 z1), pl 20 (.bool r3)] hF hS Fol (by kernel_rfl) (by kernel_rfl) (by kernel_rfl) ?_ (fun a w hF hS => ?_)
          · exact obs_cons (ob_loadA (cs := #[.int .i64 ((getd ((0, 0, 0) : (Int × Int × Int)) r2 z1).1), .int .i64 ((getd ((0, 0, 0) : (Int × Int × Int)) r2 z1).2.1), .int .i64 ((getd ((0, 0, 0) : (Int × Int × Int)) r2 z1).2.2)]) (by kernel_rfl) (by kernel_rfl) (fun _ _ hS => (hS.at_ 0 rfl).cellsAt 0 (by rfl))) <| obs_cons (ob_load Agg22 (fun _ _ hS => (hS.at_ 1 rfl).cell rfl)) <| obs_cons (ob_call Try.func98 (by kernel_rfl) rfl (fun _ _ hS => pegs_jump_can_w hr3 hS (fun _ hS => (hr_g3 _ (hS.dropN 4))) _hc_g3 rfl)) <| obs_nil
          refine cond_ev (t := 20) (b := r3) hF (by kernel_rfl) (fun hb => ?_) (fun hb => ?_)
          · replace hm := if_t hm hb
            refine oneR ?_
            obtain ⟨r4, hr4, hm⟩ := call_b hm
            obtain ⟨hp2, hm⟩ := asrt_b hm
            refine at_run 3 [⟨false, [], vS (Instr.loadAt 128 (.pointer (some ⟨g5, 0, none⟩))), .agg #[.int .i64 ((getd ((0, 0, 0) : (Int × Int × Int)) r2 z1).1), .int .i64 ((getd ((0, 0, 0) : (Int × Int × Int)) r2 z1).2.1), .int .i64 ((getd ((0, 0, 0) : (Int × Int × Int)) r2 z1).2.2)]⟩, ⟨false, [], callFunc 99 #[.agg #[.int .i64 ((getd ((0, 0, 0) : (Int × Int × Int)) r2 z1).1), .int .i64 ((getd ((0, 0, 0) : (Int × Int × Int)) r2 z1).2.1), .int .i64 ((getd ((0, 0, 0) : (Int × Int × Int)) r2 z1).2.2)]], .agg #[.int .i64 r4.1, .int .i64 r4.2.1, .int .i64 r4.2.2]⟩] [none, some (.agg #[.int .i64 ((getd ((0, 0, 0) : (Int × Int × Int)) r2 z1).1), .int .i64 ((getd ((0, 0, 0) : (Int × Int × Int)) r2 z1).2.1), .int .i64 ((getd ((0, 0, 0) : (Int × Int × Int)) r2 z1).2.2)]), some (.agg #[.int .i64 r4.1, .int .i64 r4.2.1, .int .i64 r4.2.2])] [1, 11, 12, 13, 21, 23] [pl 1 (.pointer (some ⟨g4, 0, none⟩)), pl 11 (.slice A2 r2.length c2), pl 12 (.int .i64 (r2.length : Int)), pl 13 (.int .i64 z1), pl 21 (.slice A3 l1.length c3), pl 23 (.agg #[.int .i64 r4.1, .int .i64 r4.2.1, .int .i64 r4.2.2])] hF hS (by kernel_rfl) (by kernel_rfl) ?_ (fun a w hF hS => ?_)
            · exact obs_cons (ob_loadA (cs := #[.int .i64 ((getd ((0, 0, 0) : (Int × Int × Int)) r2 z1).1), .int .i64 ((getd ((0, 0, 0) : (Int × Int × Int)) r2 z1).2.1), .int .i64 ((getd ((0, 0, 0) : (Int × Int × Int)) r2 z1).2.2)]) (by kernel_rfl) (by kernel_rfl) (fun _ _ hS => (hS.at_ 0 rfl).cellsAt 0 (by rfl))) <| obs_cons (ob_call Try.func99 (by kernel_rfl) rfl (fun _ _ hS => pegs_jump_move_w hr4 hS )) <| obs_nil
            refine at_do (d := 24) (s := vS (Instr.buildSlice 42 1 #[(0, .agg #[.int .i64 r4.1, .int .i64 r4.2.1, .int .i64 r4.2.2])])) (v := .slice (some ⟨w.heap.size, 0, none⟩) 1 1) (w' := w.alloc (.cells #[.int .i64 r4.1, .int .i64 r4.2.1, .int .i64 r4.2.2] 54)) hF (by kernel_rfl) (by kernel_rfl) (by kernel_rfl) (fun a hF => ?_)
            have hS : Sep w0 B (w.alloc (.cells #[.int .i64 r4.1, .int .i64 r4.2.1, .int .i64 r4.2.2] 54)) (ownK 54 3 (some (⟨w.heap.size, 0, none⟩ : Addr)) 1 1 (List.flatMap enc54 ([r4] : List (Int × Int × Int))) :: (blk g5 128 #[.int .i64 ((getd ((0, 0, 0) : (Int × Int × Int)) r2 z1).1), .int .i64 ((getd ((0, 0, 0) : (Int × Int × Int)) r2 z1).2.1), .int .i64 ((getd ((0, 0, 0) : (Int × Int × Int)) r2 z1).2.2)] :: blk g4 41 #[.int .i64 g1, .int .i64 g2, .slice A1 g3.length c1] :: ownK 54 3 A3 l1.length c3 (List.flatMap enc54 l1) :: ownK 128 3 A2 r2.length c2 (List.flatMap enc128 r2) :: fs)) := hS.litK 54 3 #[.int .i64 r4.1, .int .i64 r4.2.1, .int .i64 r4.2.2] 1 rfl (by omega)
            generalize (some (⟨w.heap.size, 0, none⟩ : Addr)) = g6 at hF hS
            generalize w.alloc (.cells #[.int .i64 r4.1, .int .i64 r4.2.1, .int .i64 r4.2.2] 54) = w at hS ⊢
            obtain ⟨A5, c5, w, hrun, hS⟩ := run_appK3 (P := Try.prog) (t := 42) (m := l1) (ys := ([r4] : List (Int × Int × Int))) (A2 := g6) (m2 := 1) (c2 := 1) encK54 (hS.at_ 3 rfl) (hS.at_ 0 rfl).rdK ((hS.at_ 0 rfl).lenK encK54) 42 Und42 hi54 hz54 hs54 rfl (by omega) hp2
            have hS : Sep w0 B w (ownK 54 3 g6 1 1 (List.flatMap enc54 ([r4] : List (Int × Int × Int))) :: blk g5 128 #[.int .i64 ((getd ((0, 0, 0) : (Int × Int × Int)) r2 z1).1), .int .i64 ((getd ((0, 0, 0) : (Int × Int × Int)) r2 z1).2.1), .int .i64 ((getd ((0, 0, 0) : (Int × Int × Int)) r2 z1).2.2)] :: blk g4 41 #[.int .i64 g1, .int .i64 g2, .slice A1 g3.length c1] :: ownK 54 3 A5 ((l1 ++ ([r4] : List (Int × Int × Int))).length) c5 (List.flatMap enc54 (l1 ++ ([r4] : List (Int × Int × Int)))) :: ownK 128 3 A2 r2.length c2 (List.flatMap enc128 r2) :: fs) := hS
            refine at_do (d := 25) hF (by kernel_rfl) (by kernel_rfl) hrun (fun a hF => ?_)
            refine at_run 1 [] [] [1, 4, 11, 12, 13] [pl 1 (.pointer (some ⟨g4, 0, none⟩)), pl 4 (.slice A5 ((l1 ++ ([r4] : List (Int × Int × Int))).length) c5), pl 11 (.slice A2 r2.length c2), pl 12 (.int .i64 (r2.length : Int)), pl 13 (.int .i64 z1)] hF hS (by kernel_rfl) (by kernel_rfl) ?_ (fun a w hF hS => ?_)
            · exact obs_nil
            refine at_end [1, 4, 11, 12, 13] [pl 1 (.pointer (some ⟨g4, 0, none⟩)), pl 4 (.slice A5 ((l1 ++ ([r4] : List (Int × Int × Int))).length) c5), pl 11 (.slice A2 r2.length c2), pl 12 (.int .i64 (r2.length : Int)), pl 13 (.int .i64 z1)] hF rfl (by kernel_rfl) (fun hF => ?_)
            refine block_n ?_
            refine then_n ?_
            have hS := hS.pickN 5 [2, 3, 4] (by decide)
            exact ⟨(l1 ++ ([r4] : List (Int × Int × Int))), A5, c5, hF.weak [1, 4, 11, 12, 13] (by kernel_rfl), hS, hm⟩
          · replace hm := if_f hm hb
            refine wpIn_skip ?_
            refine block_n ?_
            refine then_n ?_
            have hS := hS.pickN 4 [1, 2, 3] (by decide)
            exact ⟨l1, A3, c3, hF.weak [1, 4, 11, 12, 13] (by kernel_rfl), hS, hm⟩
      · refine cond_ev (t := 14) (b := decide (z1 < (r2.length : Int))) hF (by kernel_rfl) (fun hb => ?_) (fun hb => ?_)
        · replace hm := if_t hm hb
          refine wpIn_skip ?_
          refine then_n ?_
          exact ⟨hF.weak [1, 4, 11, 12, 13] (by kernel_rfl), hS, hm⟩
        · replace hm := if_f hm hb
          refine wpIn_exit ?_
          refine then_e (then_e (block_e (then_n ?_)))
          have hS := hS.pickN 3 [1] (by decide)
          rw [← hφ1] at hm
          replace hm := done_b hm
          unfold pegs_Jumps_K1 at hm
          try dsimp only at hm
          have hm : (pegs_Jumps_J2 l1).bind some = some r := hm
          exact ⟨l1, A3, c3, hF.weak [4] (by kernel_rfl), hS, hm⟩
  · obtain ⟨r1, hr1, hm⟩ := call_b hm
    refine reg [⟨false, [], vS (Instr.loadAt 41 (.pointer (some ⟨g4, 0, none⟩))), .agg #[.int .i64 g1, .int .i64 g2, .slice A1 g3.length c1]⟩, ⟨false, [], callFunc 96 #[.agg #[.int .i64 g1, .int .i64 g2, .slice A1 g3.length c1]], .bool r1⟩] [some (.agg #[.int .i64 g1, .int .i64 g2, .slice A1 g3.length c1]), some (.bool r1), none] [1, 9] [pl 1 (.pointer (some ⟨g4, 0, none⟩)), pl 9 (.bool (!r1))] hF hS Fol (by kernel_rfl) (by kernel_rfl) (by kernel_rfl) ?_ (fun a w hF hS => ?_)
    · exact obs_cons (ob_loadA (cs := #[.int .i64 g1, .int .i64 g2, .slice A1 g3.length c1]) (by kernel_rfl) (by kernel_rfl) (fun _ _ hS => (hS.at_ 0 rfl).cellsAt 0 (by rfl))) <| obs_cons (ob_call Try.func96 (by kernel_rfl) rfl (fun _ _ hS => rows_May_w hr1 hS (fun _ hS => (hr_g3 _ (hS.dropN 1))) _hc_g3 rfl)) <| obs_nil
    refine cond_ev (t := 9) (b := !r1) hF (by kernel_rfl) (fun hb => ?_) (fun hb => ?_)
    · replace hm := if_t hm hb
      refine reg [] [] [2, 3] [pl 2 (.slice none 0 0), pl 3 (.int .i64 12)] hF hS Fol (by kernel_rfl) (by kernel_rfl) (by kernel_rfl) ?_ (fun a w hF hS => ?_)
      · exact obs_nil
      refine wpIn_ret ?_
      refine then_r ?_
      have hS : Sep w0 B w (ownK 54 3 none 0 0 (List.flatMap enc54 ([] : List (Int × Int × Int))) :: blk g4 41 #[.int .i64 g1, .int .i64 g2, .slice A1 g3.length c1] :: fs) := hS.nilK 54 3 enc54
      have hl1 := (hS.at_ 0 rfl).lenK encK54
      have hS := (hS.at_ 0 rfl).reNK hl1
      have hS : Sep w0 B w (ownK 54 3 none (([] : List (Int × Int × Int)).length) 0 (List.flatMap enc54 ([] : List (Int × Int × Int))) :: blk g4 41 #[.int .i64 g1, .int .i64 g2, .slice A1 g3.length c1] :: fs) := hS
      have hS := hS.pickN 2 [0] (by decide)
      have hm : some (([] : List (Int × Int × Int)), 12) = some r := hm
      obtain rfl := Option.some.inj hm
      exact retV (rs := [.tmp 2, .tmp 3]) (vs := [.slice none (([] : List (Int × Int × Int)).length) 0, .int .i64 12]) hF rfl (rv_t (by kernel_rfl) <| rv_t (by kernel_rfl) <| rv_nil) rfl ⟨_, rfl, none, 0, rfl, hS⟩
    · replace hm := if_f hm hb
      refine wpIn_skip ?_
      refine then_n ?_
      exact ⟨hF.weak [1] (by kernel_rfl), hS, hm⟩

noncomputable def gameroomlaw_list_m  (l1 : List (Int × Int × Int)) : Option (List (Int × Int × Int)) :=
  asrt ((0 : Int) + (l1.length : Int) ≤ bigT) <| some (([] : List (Int × Int × Int)) ++ l1)

set_option maxRecDepth 100000 in
set_option maxHeartbeats 4000000 in
theorem gameroomlaw_list_w {A1 : Option Addr} {c1 : Nat} {n1 : Nat} {l1 : List (Int × Int × Int)} {r : (List (Int × Int × Int))} {w0 w : World} {B : Nat} {fs : List HP} (hm : gameroomlaw_list_m l1 = some r) (hS : Sep w0 B w (fs)) (hr_l1 : RdF w0 B fs A1 ((List.flatMap enc54 l1))) (_hc_l1 : l1.length ≤ c1) (_hn_l1 : n1 = l1.length) :
    Calls Try.prog 32 #[.slice A1 n1 c1] w fun e w' => ∃ v, e = .returned v ∧ ∃ (A3 : Option Addr) (c3 : Nat), v = .slice A3 r.length c3 ∧ Sep w0 B w' (ownK 54 3 A3 r.length c3 (List.flatMap enc54 r) :: fs) := by
  obtain ⟨i54, hi54, hz54, hs54, hb54⟩ := info_parts Info54
  obtain rfl := _hn_l1
  unfold gameroomlaw_list_m at hm
  replace hm := start_b hm
  refine enter (l := [.slice A1 l1.length c1]) (n := 5) Try.func32 rfl rfl (by simp) (fun a hF => ?_)
  refine reg [] [] [0] [pl 0 (.slice A1 l1.length c1)] hF hS Fol (by kernel_rfl) (by kernel_rfl) (by kernel_rfl) ?_ (fun a w hF hS => ?_)
  · exact obs_nil
  refine seqR ?_
  obtain ⟨hp1, hm⟩ := asrt_b hm
  refine at_run 1 [] [] [3] [pl 3 (.slice A1 l1.length c1)] hF hS (by kernel_rfl) (by kernel_rfl) ?_ (fun a w hF hS => ?_)
  · exact obs_nil
  have hS : Sep w0 B w (ownK 54 3 none 0 0 (List.flatMap enc54 ([] : List (Int × Int × Int))) :: fs) := hS.nilK 54 3 enc54
  obtain ⟨A2, c2, w, hrun, hS⟩ := run_appK3 (P := Try.prog) (t := 42) (m := ([] : List (Int × Int × Int))) (ys := l1) (A2 := A1) (m2 := l1.length) (c2 := c1) encK54 (hS.at_ 0 rfl) (hr_l1 _ (hS.dropN 1)) rfl 42 Und42 hi54 hz54 hs54 rfl (by omega) hp1
  have hS : Sep w0 B w (ownK 54 3 A2 ((([] : List (Int × Int × Int)) ++ l1).length) c2 (List.flatMap enc54 (([] : List (Int × Int × Int)) ++ l1)) :: fs) := hS
  refine at_do (d := 4) hF (by kernel_rfl) (by kernel_rfl) hrun (fun a hF => ?_)
  refine at_run 1 [] [] [2] [pl 2 (.slice A2 ((([] : List (Int × Int × Int)) ++ l1).length) c2)] hF hS (by kernel_rfl) (by kernel_rfl) ?_ (fun a w hF hS => ?_)
  · exact obs_nil
  refine at_end [2] [pl 2 (.slice A2 ((([] : List (Int × Int × Int)) ++ l1).length) c2)] hF rfl (by kernel_rfl) (fun hF => ?_)
  refine then_n ?_
  refine wpIn_ret ?_
  have hm : some (([] : List (Int × Int × Int)) ++ l1) = some r := hm
  obtain rfl := Option.some.inj hm
  exact retV (rs := [.tmp 2]) (vs := [.slice A2 ((([] : List (Int × Int × Int)) ++ l1).length) c2]) hF rfl (rv_t (by kernel_rfl) <| rv_nil) rfl ⟨_, rfl, A2, c2, rfl, hS⟩

noncomputable def slices_Clone_J1  (s1 : List Int) : Option (List Int) :=
  asrt ((0 : Int) + (s1.length : Int) ≤ bigN) <| some (([] : List Int) ++ s1)

noncomputable def slices_Clone_m  (s1 : List Int) : Option (List Int) :=
  (slices_Clone_J1 s1)

set_option maxRecDepth 100000 in
set_option maxHeartbeats 4000000 in
theorem slices_Clone_w {A1 : Option Addr} {c1 : Nat} {n1 : Nat} {s1 : List Int} {r : (List Int)} {w0 w : World} {B : Nat} {fs : List HP} (hm : slices_Clone_m s1 = some r) (hS : Sep w0 B w (fs)) (hr_s1 : RdF w0 B fs A1 (vI s1)) (_hc_s1 : s1.length ≤ c1) (_hn_s1 : n1 = s1.length) :
    Calls Try.prog 101 #[.slice A1 n1 c1] w fun e w' => ∃ v, e = .returned v ∧ ∃ (A3 : Option Addr) (c3 : Nat), v = .slice A3 r.length c3 ∧ Sep w0 B w' (own 3 (.slice A3 r.length c3) (vI r) :: fs) := by
  obtain ⟨i3, hi3, hz3, hs3, hb3⟩ := info_parts Info3
  obtain rfl := _hn_s1
  unfold slices_Clone_m at hm
  replace hm := start_b hm
  refine enter (l := [.slice A1 s1.length c1]) (n := 8) Try.func101 rfl rfl (by simp) (fun a hF => ?_)
  refine reg [] [] [0] [pl 0 (.slice A1 s1.length c1)] hF hS Fol (by kernel_rfl) (by kernel_rfl) (by kernel_rfl) ?_ (fun a w hF hS => ?_)
  · exact obs_nil
  refine seq_cut (fun a w => Fr 8 [pl 0 (.slice A1 s1.length c1)] a ∧ Sep w0 B w (fs) ∧ ((slices_Clone_J1 s1)).bind some = some r) ?_ ?_
  · rintro a w ⟨hF, hS, hm⟩
    unfold slices_Clone_J1 at hm
    refine seqR ?_
    obtain ⟨hp1, hm⟩ := asrt_b hm
    refine at_do (d := 5) (s := vS (Instr.buildSlice 22 0 #[])) (v := .slice (some ⟨w.heap.size, 0, none⟩) 0 0) (w' := w.alloc (.cells #[] 3)) hF (by kernel_rfl) (by kernel_rfl) (by kernel_rfl) (fun a hF => ?_)
    have hS : Sep w0 B (w.alloc (.cells #[] 3)) (own 3 (.slice (some (⟨w.heap.size, 0, none⟩ : Addr)) 0 0) (vI ([] : List Int)) :: (fs)) := hS.lit 3 #[] 0 rfl (by omega)
    generalize (some (⟨w.heap.size, 0, none⟩ : Addr)) = g1 at hF hS
    generalize w.alloc (.cells #[] 3) = w at hS ⊢
    refine at_run 1 [] [] [5, 6] [pl 5 (.slice g1 0 0), pl 6 (.slice A1 s1.length c1)] hF hS (by kernel_rfl) (by kernel_rfl) ?_ (fun a w hF hS => ?_)
    · exact obs_nil
    obtain ⟨A2, c2, w, hrun, hS⟩ := run_app1 (P := Try.prog) (t := 22) (m := ([] : List Int)) (ys := s1) (A2 := A1) (m2 := s1.length) (c2 := c1) (Value.int .i64) (0 : Int) (hS.at_ 0 rfl) (hr_s1 _ (hS.dropN 1)) rfl 22 Und22 hi3 hz3 hs3 (by omega) rfl (fun _ => rfl) hp1
    have hS : Sep w0 B w (own 3 (.slice A2 ((([] : List Int) ++ s1).length) c2) (vI (([] : List Int) ++ s1)) :: fs) := hS
    refine at_do (d := 7) hF (by kernel_rfl) (by kernel_rfl) hrun (fun a hF => ?_)
    refine at_run 1 [] [] [2] [pl 2 (.slice A2 ((([] : List Int) ++ s1).length) c2)] hF hS (by kernel_rfl) (by kernel_rfl) ?_ (fun a w hF hS => ?_)
    · exact obs_nil
    refine at_end [2] [pl 2 (.slice A2 ((([] : List Int) ++ s1).length) c2)] hF rfl (by kernel_rfl) (fun hF => ?_)
    refine then_n ?_
    refine wpIn_ret ?_
    have hm : some (([] : List Int) ++ s1) = some r := hm
    obtain rfl := Option.some.inj hm
    exact retV (rs := [.tmp 2]) (vs := [.slice A2 ((([] : List Int) ++ s1).length) c2]) hF rfl (rv_t (by kernel_rfl) <| rv_nil) rfl ⟨_, rfl, A2, c2, rfl, hS⟩
  · refine reg [⟨true, [], vS (binOp .eql 22 (.slice A1 s1.length c1) (.slice none 0 0)), .bool A1.isNone⟩] [none, some (.bool A1.isNone)] [0, 4] [pl 0 (.slice A1 s1.length c1), pl 4 (.bool A1.isNone)] hF hS Fol (by kernel_rfl) (by kernel_rfl) (by kernel_rfl) ?_ (fun a w hF hS => ?_)
    · exact obs_cons (ob_isnil Und22 rfl) <| obs_nil
    refine cond_ev (t := 4) (b := A1.isNone) hF (by kernel_rfl) (fun hb => ?_) (fun hb => ?_)
    · have hA9 := Option.isNone_iff_eq_none.1 hb
      have hnil9 : s1 = [] := by have h9 := (hr_s1 _ (hS.dropN 0)); rw [hA9] at h9; exact h9.none_nil
      have hm : (some ([] : List Int)).bind some = some r := by rw [hnil9] at hm; simpa [asrt, bigN, slices_Clone_J1] using hm
      refine reg [] [] [2] [pl 2 (.slice none 0 0)] hF hS Fol (by kernel_rfl) (by kernel_rfl) (by kernel_rfl) ?_ (fun a w hF hS => ?_)
      · exact obs_nil
      refine wpIn_ret ?_
      refine then_r ?_
      have hS : Sep w0 B w (own 3 (.slice none 0 0) (vI ([] : List Int)) :: fs) := hS.nil 3
      have hl1 := (hS.at_ 0 rfl).len1
      have hS := (hS.at_ 0 rfl).reN hl1
      have hS : Sep w0 B w (own 3 (.slice none (([] : List Int).length) 0) (vI ([] : List Int)) :: fs) := hS
      have hm : some ([] : List Int) = some r := hm
      obtain rfl := Option.some.inj hm
      exact retV (rs := [.tmp 2]) (vs := [.slice none (([] : List Int).length) 0]) hF rfl (rv_t (by kernel_rfl) <| rv_nil) rfl ⟨_, rfl, none, 0, rfl, hS⟩
    · refine wpIn_skip ?_
      refine then_n ?_
      exact ⟨hF.weak [0] (by kernel_rfl), hS, hm⟩

noncomputable def pegs_Do_1_m  (j1 : Int) (j2 : Int) (j3 : Int) (p1_From1 : Int) (p1_To1 : Int) (p1_Into1 : Int) (p2_W1 : Int) (p2_H1 : Int) (p2_Cells1 : List Int) : Option Bool :=
  (pegs_jump_move_m j1 j2 j3).bind fun r1 => ((if ((r1.1 == p1_From1) && ((r1.2.1 == p1_To1) && (r1.2.2 == p1_Into1))) then pegs_jump_can_m j1 j2 j3 p2_Cells1 else some false)).bind fun r2 => some (((r1.1 == p1_From1) && ((r1.2.1 == p1_To1) && (r1.2.2 == p1_Into1))) && r2)

set_option maxRecDepth 100000 in
set_option maxHeartbeats 4000000 in
theorem pegs_Do_1_w {j1 : Int} {j2 : Int} {j3 : Int} {g1 : Nat} {p1_From1 : Int} {p1_To1 : Int} {p1_Into1 : Int} {g2 : Nat} {p2_W1 : Int} {p2_H1 : Int} {A1 : Option Addr} {c1 : Nat} {n1 : Nat} {p2_Cells1 : List Int} {r : Bool} {w0 w : World} {B : Nat} {fs : List HP} (hm : pegs_Do_1_m j1 j2 j3 p1_From1 p1_To1 p1_Into1 p2_W1 p2_H1 p2_Cells1 = some r) (hS : Sep w0 B w (blk g1 54 #[.int .i64 p1_From1, .int .i64 p1_To1, .int .i64 p1_Into1] :: blk g2 41 #[.int .i64 p2_W1, .int .i64 p2_H1, .slice A1 n1 c1] :: own 3 (.slice A1 n1 c1) (vI p2_Cells1) :: fs)) :
    Calls Try.prog 103 #[.agg #[.int .i64 j1, .int .i64 j2, .int .i64 j3], .pointer (some ⟨g1, 0, none⟩), .pointer (some ⟨g2, 0, none⟩)] w fun e w' => e = .returned (.bool r) ∧ Sep w0 B w' (blk g1 54 #[.int .i64 p1_From1, .int .i64 p1_To1, .int .i64 p1_Into1] :: blk g2 41 #[.int .i64 p2_W1, .int .i64 p2_H1, .slice A1 n1 c1] :: own 3 (.slice A1 n1 c1) (vI p2_Cells1) :: fs) := by
  obtain ⟨i3, hi3, hz3, hs3, hb3⟩ := info_parts Info3
  obtain rfl := (hS.at_ 2 rfl).len1
  unfold pegs_Do_1_m at hm
  replace hm := start_b hm
  refine enter (l := [.agg #[.int .i64 j1, .int .i64 j2, .int .i64 j3], .pointer (some ⟨g1, 0, none⟩), .pointer (some ⟨g2, 0, none⟩)]) (n := 15) Try.func103 rfl rfl (by simp) (fun a hF => ?_)
  refine seqR ?_
  refine at_do (d := 3) (s := vS (Instr.box 128 (.agg #[.int .i64 j1, .int .i64 j2, .int .i64 j3]))) (v := .pointer (some ⟨w.heap.size, 0, none⟩)) (w' := w.alloc (.cells #[.int .i64 j1, .int .i64 j2, .int .i64 j3] 128)) hF (by kernel_rfl) (by kernel_rfl) (by kernel_rfl) (fun a hF => ?_)
  have hS : Sep w0 B (w.alloc (.cells #[.int .i64 j1, .int .i64 j2, .int .i64 j3] 128)) (blk w.heap.size 128 #[.int .i64 j1, .int .i64 j2, .int .i64 j3] :: (blk g1 54 #[.int .i64 p1_From1, .int .i64 p1_To1, .int .i64 p1_Into1] :: blk g2 41 #[.int .i64 p2_W1, .int .i64 p2_H1, .slice A1 p2_Cells1.length c1] :: own 3 (.slice A1 p2_Cells1.length c1) (vI p2_Cells1) :: fs)) := hS.box 128 #[.int .i64 j1, .int .i64 j2, .int .i64 j3]
  generalize w.heap.size = g3 at hF hS
  generalize w.alloc (.cells #[.int .i64 j1, .int .i64 j2, .int .i64 j3] 128) = w at hS ⊢
  refine at_run 1 [] [] [1, 2, 3] [pl 1 (.pointer (some ⟨g1, 0, none⟩)), pl 2 (.pointer (some ⟨g2, 0, none⟩)), pl 3 (.pointer (some ⟨g3, 0, none⟩))] hF hS (by kernel_rfl) (by kernel_rfl) ?_ (fun a w hF hS => ?_)
  · exact obs_nil
  refine at_end [1, 2, 3] [pl 1 (.pointer (some ⟨g1, 0, none⟩)), pl 2 (.pointer (some ⟨g2, 0, none⟩)), pl 3 (.pointer (some ⟨g3, 0, none⟩))] hF rfl (by kernel_rfl) (fun hF => ?_)
  refine then_n ?_
  obtain ⟨r1, hr1, hm⟩ := call_b hm
  obtain ⟨r2, hr2, hm⟩ := call_b hm
  refine reg [⟨false, [], vS (Instr.loadAt 128 (.pointer (some ⟨g3, 0, none⟩))), .agg #[.int .i64 j1, .int .i64 j2, .int .i64 j3]⟩, ⟨false, [], callFunc 99 #[.agg #[.int .i64 j1, .int .i64 j2, .int .i64 j3]], .agg #[.int .i64 r1.1, .int .i64 r1.2.1, .int .i64 r1.2.2]⟩, ⟨false, [], vS (Instr.loadAt 54 (.pointer (some ⟨g1, 0, none⟩))), .agg #[.int .i64 p1_From1, .int .i64 p1_To1, .int .i64 p1_Into1]⟩, ⟨true, [], vS (do eqGuard .eql 54 (.tmp 6) (.tmp 7) (.agg #[.int .i64 r1.1, .int .i64 r1.2.1, .int .i64 r1.2.2]) (.agg #[.int .i64 p1_From1, .int .i64 p1_To1, .int .i64 p1_Into1]); binOp .eql 54 (.agg #[.int .i64 r1.1, .int .i64 r1.2.1, .int .i64 r1.2.2]) (.agg #[.int .i64 p1_From1, .int .i64 p1_To1, .int .i64 p1_Into1])), .bool (((r1.1 == p1_From1) && ((r1.2.1 == p1_To1) && (r1.2.2 == p1_Into1))))⟩, ⟨false, [(((r1.1 == p1_From1) && ((r1.2.1 == p1_To1) && (r1.2.2 == p1_Into1))), true)], vS (Instr.loadAt 128 (.pointer (some ⟨g3, 0, none⟩))), .agg #[.int .i64 j1, .int .i64 j2, .int .i64 j3]⟩, ⟨false, [(((r1.1 == p1_From1) && ((r1.2.1 == p1_To1) && (r1.2.2 == p1_Into1))), true)], vS (Instr.loadAt 22 (.pointer (some ⟨g2, 2, none⟩))), .slice A1 p2_Cells1.length c1⟩, ⟨false, [(((r1.1 == p1_From1) && ((r1.2.1 == p1_To1) && (r1.2.2 == p1_Into1))), true)], callFunc 98 #[.agg #[.int .i64 j1, .int .i64 j2, .int .i64 j3], .slice A1 p2_Cells1.length c1], .bool r2⟩] [some (.agg #[.int .i64 j1, .int .i64 j2, .int .i64 j3]), some (.agg #[.int .i64 r1.1, .int .i64 r1.2.1, .int .i64 r1.2.2]), some (.agg #[.int .i64 p1_From1, .int .i64 p1_To1, .int .i64 p1_Into1]), some (.bool (((r1.1 == p1_From1) && ((r1.2.1 == p1_To1) && (r1.2.2 == p1_Into1))))), none, some (.agg #[.int .i64 j1, .int .i64 j2, .int .i64 j3]), none, some (.slice A1 p2_Cells1.length c1), some (.bool r2), none, none] [4] [pl 4 (.bool (((r1.1 == p1_From1) && ((r1.2.1 == p1_To1) && (r1.2.2 == p1_Into1))) && r2))] hF hS Fol (by kernel_rfl) (by kernel_rfl) (by kernel_rfl) ?_ (fun a w hF hS => ?_)
  · exact obs_cons (ob_loadA (cs := #[.int .i64 j1, .int .i64 j2, .int .i64 j3]) (by kernel_rfl) (by kernel_rfl) (fun _ _ hS => (hS.at_ 0 rfl).cellsAt 0 (by rfl))) <| obs_cons (ob_call Try.func99 (by kernel_rfl) rfl (fun _ _ hS => pegs_jump_move_w hr1 hS )) <| obs_cons (ob_loadA (cs := #[.int .i64 p1_From1, .int .i64 p1_To1, .int .i64 p1_Into1]) (by kernel_rfl) (by kernel_rfl) (fun _ _ hS => (hS.at_ 1 rfl).cellsAt 0 (by rfl))) <| obs_cons (ob_eql rfl (by kernel_rfl) (fun w => Eql54 w)) <| obs_cons (ob_loadA (cs := #[.int .i64 j1, .int .i64 j2, .int .i64 j3]) (by kernel_rfl) (by kernel_rfl) (fun _ _ hS => (hS.at_ 0 rfl).cellsAt 0 (by rfl))) <| obs_cons (ob_load Agg22 (fun _ _ hS => (hS.at_ 2 rfl).cell rfl)) <| obs_cons (ob_call Try.func98 (by kernel_rfl) rfl (fun hy _ hS => pegs_jump_can_w (ite_some hr2 (by rw [show ((r1.1 == p1_From1) && ((r1.2.1 == p1_To1) && (r1.2.2 == p1_Into1))) = true from hy (((r1.1 == p1_From1) && ((r1.2.1 == p1_To1) && (r1.2.2 == p1_Into1))), true) (by simp)]; try rfl)) hS (fun _ hS => (hS.at_ 3 rfl).rd) ((hS.at_ 3 rfl).cap1) rfl)) <| obs_nil
  refine wpIn_ret ?_
  have hS := hS.pickN 4 [1, 2, 3] (by decide)
  have hm : some (((r1.1 == p1_From1) && ((r1.2.1 == p1_To1) && (r1.2.2 == p1_Into1))) && r2) = some r := hm
  obtain rfl := Option.some.inj hm
  exact retV (rs := [.tmp 4]) (vs := [.bool (((r1.1 == p1_From1) && ((r1.2.1 == p1_To1) && (r1.2.2 == p1_Into1))) && r2)]) hF rfl (rv_t (by kernel_rfl) <| rv_nil) rfl ⟨rfl, hS⟩

noncomputable def pegs_jump_3_J3  (z1 : Int) : Option (St Int (Fl Unit Int)) :=
  some (.next (w64 (z1 + 1)))

noncomputable def pegs_jump_3_J2  (s1 : List (Int × Int × Int)) (v_From1 : Int) (v_To1 : Int) (v_Into1 : Int) (v_W1 : Int) (v_H1 : Int) (v_Cells1 : List Int) (z1 : Int) : Option (St Int (Fl Unit Int)) :=
  asrt (0 ≤ z1 ∧ z1 < (s1.length : Int)) <| (pegs_Do_1_m ((getd ((0, 0, 0) : (Int × Int × Int)) s1 z1).1) ((getd ((0, 0, 0) : (Int × Int × Int)) s1 z1).2.1) ((getd ((0, 0, 0) : (Int × Int × Int)) s1 z1).2.2) v_From1 v_To1 v_Into1 v_W1 v_H1 v_Cells1).bind fun r1 => if r1 then (some (.done (.ret z1))) else ((pegs_jump_3_J3 z1))

noncomputable def pegs_jump_3_J1  : Option Int :=
  some (-1)

noncomputable def pegs_jump_3_K1  : (Fl Unit Int) → Option Int :=
  fun (x : (Fl Unit Int)) => match x with | .go _ => pegs_jump_3_J1 | .ret x => some x

noncomputable def pegs_jump_3_L1  (s1 : List (Int × Int × Int)) (v_From1 : Int) (v_To1 : Int) (v_Into1 : Int) (v_W1 : Int) (v_H1 : Int) (v_Cells1 : List Int) : Int → Option (St Int (Fl Unit Int)) :=
  fun (x : Int) => match x with | z1 => if (decide (z1 < (s1.length : Int))) then ((pegs_jump_3_J2 s1 v_From1 v_To1 v_Into1 v_W1 v_H1 v_Cells1 z1)) else (some (.done (.go ())))

noncomputable def pegs_jump_3_m  (s1 : List (Int × Int × Int)) (v_From1 : Int) (v_To1 : Int) (v_Into1 : Int) (v_W1 : Int) (v_H1 : Int) (v_Cells1 : List Int) : Option Int :=
  (loop (pegs_jump_3_L1 s1 v_From1 v_To1 v_Into1 v_W1 v_H1 v_Cells1) 0).bind pegs_jump_3_K1

set_option maxRecDepth 100000 in
set_option maxHeartbeats 4000000 in
theorem pegs_jump_3_w {A1 : Option Addr} {c1 : Nat} {n1 : Nat} {s1 : List (Int × Int × Int)} {g1 : Nat} {v_From1 : Int} {v_To1 : Int} {v_Into1 : Int} {g2 : Nat} {v_W1 : Int} {v_H1 : Int} {A2 : Option Addr} {c2 : Nat} {n2 : Nat} {v_Cells1 : List Int} {r : Int} {w0 w : World} {B : Nat} {fs : List HP} (hm : pegs_jump_3_m s1 v_From1 v_To1 v_Into1 v_W1 v_H1 v_Cells1 = some r) (hS : Sep w0 B w (blk g1 54 #[.int .i64 v_From1, .int .i64 v_To1, .int .i64 v_Into1] :: blk g2 41 #[.int .i64 v_W1, .int .i64 v_H1, .slice A2 n2 c2] :: own 3 (.slice A2 n2 c2) (vI v_Cells1) :: fs)) (hr_s1 : RdF w0 B fs A1 ((List.flatMap enc128 s1))) (_hc_s1 : s1.length ≤ c1) (_hn_s1 : n1 = s1.length) :
    Calls Try.prog 102 #[.slice A1 n1 c1, .func (.func 103) #[] #[.pointer (some ⟨g1, 0, none⟩), .pointer (some ⟨g2, 0, none⟩)]] w fun e w' => e = .returned (.int .i64 r) ∧ Sep w0 B w' (blk g1 54 #[.int .i64 v_From1, .int .i64 v_To1, .int .i64 v_Into1] :: blk g2 41 #[.int .i64 v_W1, .int .i64 v_H1, .slice A2 n2 c2] :: own 3 (.slice A2 n2 c2) (vI v_Cells1) :: fs) := by
  obtain ⟨i3, hi3, hz3, hs3, hb3⟩ := info_parts Info3
  obtain ⟨i128, hi128, hz128, hs128, hb128⟩ := info_parts Info128
  obtain rfl := (hS.at_ 2 rfl).len1
  obtain rfl := _hn_s1
  unfold pegs_jump_3_m at hm
  replace hm := start_b hm
  refine enter (l := [.slice A1 s1.length c1, .func (.func 103) #[] #[.pointer (some ⟨g1, 0, none⟩), .pointer (some ⟨g2, 0, none⟩)]]) (n := 19) Try.func102 rfl rfl (by simp) (fun a hF => ?_)
  refine reg [] [] [0, 1] [pl 0 (.slice A1 s1.length c1), pl 1 (.func (.func 103) #[] #[.pointer (some ⟨g1, 0, none⟩), .pointer (some ⟨g2, 0, none⟩)])] hF hS Fol (by kernel_rfl) (by kernel_rfl) (by kernel_rfl) ?_ (fun a w hF hS => ?_)
  · exact obs_nil
  refine seq_cut (fun a w => Fr 19 [] a ∧ Sep w0 B w (blk g1 54 #[.int .i64 v_From1, .int .i64 v_To1, .int .i64 v_Into1] :: blk g2 41 #[.int .i64 v_W1, .int .i64 v_H1, .slice A2 v_Cells1.length c2] :: own 3 (.slice A2 v_Cells1.length c2) (vI v_Cells1) :: fs) ∧ (pegs_jump_3_J1).bind some = some r) ?_ ?_
  · rintro a w ⟨hF, hS, hm⟩
    unfold pegs_jump_3_J1 at hm
    refine reg [] [] [4] [pl 4 (.int .i64 (-1))] hF hS Fol (by kernel_rfl) (by kernel_rfl) (by kernel_rfl) ?_ (fun a w hF hS => ?_)
    · exact obs_nil
    refine wpIn_ret ?_
    have hm : some (-1) = some r := hm
    obtain rfl := Option.some.inj hm
    exact retV (rs := [.tmp 4]) (vs := [.int .i64 (-1)]) hF rfl (rv_t (by kernel_rfl) <| rv_nil) rfl ⟨rfl, hS⟩
  · refine reg [] [] [0, 1, 7, 8] [pl 0 (.slice A1 s1.length c1), pl 1 (.func (.func 103) #[] #[.pointer (some ⟨g1, 0, none⟩), .pointer (some ⟨g2, 0, none⟩)]), pl 7 (.int .i64 (s1.length : Int)), pl 8 (.int .i64 0)] hF hS Fol (by kernel_rfl) (by kernel_rfl) (by kernel_rfl) ?_ (fun a w hF hS => ?_)
    · exact obs_nil
    refine wpIn_block ?_
    refine wp_loop_model (S := Int) (R := (Fl Unit Int)) (pegs_jump_3_L1 s1 v_From1 v_To1 v_Into1 v_W1 v_H1 v_Cells1) (fun x => (pegs_jump_3_K1 x).bind some) r (fun (x : Int) a w => Fr 19 [pl 0 (.slice A1 s1.length c1), pl 1 (.func (.func 103) #[] #[.pointer (some ⟨g1, 0, none⟩), .pointer (some ⟨g2, 0, none⟩)]), pl 7 (.int .i64 (s1.length : Int)), pl 8 (.int .i64 x)] a ∧ Sep w0 B w (blk g1 54 #[.int .i64 v_From1, .int .i64 v_To1, .int .i64 v_Into1] :: blk g2 41 #[.int .i64 v_W1, .int .i64 v_H1, .slice A2 v_Cells1.length c2] :: own 3 (.slice A2 v_Cells1.length c2) (vI v_Cells1) :: fs)) (assoc_b hm) ⟨hF.weak [0, 1, 7, 8] (by kernel_rfl), hS⟩ ?_
    clear hF hS hm
    rintro nn1 z1 a w ⟨hF, hS⟩ hm
    generalize hφ1 : stK (pegs_jump_3_L1 s1 v_From1 v_To1 v_Into1 v_W1 v_H1 v_Cells1) nn1 (fun x => (pegs_jump_3_K1 x).bind some) = φ1 at hm
    unfold pegs_jump_3_L1 at hm
    dsimp only at hm
    refine reg [] [] [0, 1, 7, 8, 9] [pl 0 (.slice A1 s1.length c1), pl 1 (.func (.func 103) #[] #[.pointer (some ⟨g1, 0, none⟩), .pointer (some ⟨g2, 0, none⟩)]), pl 7 (.int .i64 (s1.length : Int)), pl 8 (.int .i64 z1), pl 9 (.bool (decide (z1 < (s1.length : Int))))] hF hS Fol (by kernel_rfl) (by kernel_rfl) (by kernel_rfl) ?_ (fun a w hF hS => ?_)
    · exact obs_nil
    refine seq_cut (fun a w => Fr 19 [pl 0 (.slice A1 s1.length c1), pl 1 (.func (.func 103) #[] #[.pointer (some ⟨g1, 0, none⟩), .pointer (some ⟨g2, 0, none⟩)]), pl 7 (.int .i64 (s1.length : Int)), pl 8 (.int .i64 z1)] a ∧ Sep w0 B w (blk g1 54 #[.int .i64 v_From1, .int .i64 v_To1, .int .i64 v_Into1] :: blk g2 41 #[.int .i64 v_W1, .int .i64 v_H1, .slice A2 v_Cells1.length c2] :: own 3 (.slice A2 v_Cells1.length c2) (vI v_Cells1) :: fs) ∧ ((pegs_jump_3_J2 s1 v_From1 v_To1 v_Into1 v_W1 v_H1 v_Cells1 z1)).bind φ1 = some r) ?_ ?_
    · rintro a w ⟨hF, hS, hm⟩
      unfold pegs_jump_3_J2 at hm
      refine seq_cut (fun a w => Fr 19 [pl 0 (.slice A1 s1.length c1), pl 1 (.func (.func 103) #[] #[.pointer (some ⟨g1, 0, none⟩), .pointer (some ⟨g2, 0, none⟩)]), pl 7 (.int .i64 (s1.length : Int)), pl 8 (.int .i64 z1)] a ∧ Sep w0 B w (blk g1 54 #[.int .i64 v_From1, .int .i64 v_To1, .int .i64 v_Into1] :: blk g2 41 #[.int .i64 v_W1, .int .i64 v_H1, .slice A2 v_Cells1.length c2] :: own 3 (.slice A2 v_Cells1.length c2) (vI v_Cells1) :: fs) ∧ ((pegs_jump_3_J3 z1)).bind φ1 = some r) ?_ ?_
      · rintro a w ⟨hF, hS, hm⟩
        unfold pegs_jump_3_J3 at hm
        refine reg1 [] [] [0, 1, 7, 8] [pl 0 (.slice A1 s1.length c1), pl 1 (.func (.func 103) #[] #[.pointer (some ⟨g1, 0, none⟩), .pointer (some ⟨g2, 0, none⟩)]), pl 7 (.int .i64 (s1.length : Int)), pl 8 (.int .i64 (w64 (z1 + 1)))] hF hS Fol (by kernel_rfl) (by kernel_rfl) (by kernel_rfl) ?_ (fun a w hF hS => ?_)
        · exact obs_nil
        refine then_n ?_
        rw [← hφ1] at hm
        exact ⟨(w64 (z1 + 1)), ⟨hF.weak [0, 1, 7, 8] (by kernel_rfl), hS⟩, hm⟩
      · refine wpIn_block ?_
        refine reg [] [] [0, 1, 5, 7, 8] [pl 0 (.slice A1 s1.length c1), pl 1 (.func (.func 103) #[] #[.pointer (some ⟨g1, 0, none⟩), .pointer (some ⟨g2, 0, none⟩)]), pl 5 (.int .i64 z1), pl 7 (.int .i64 (s1.length : Int)), pl 8 (.int .i64 z1)] hF hS Fol (by kernel_rfl) (by kernel_rfl) (by kernel_rfl) ?_ (fun a w hF hS => ?_)
        · exact obs_nil
        obtain ⟨hp1, hm⟩ := asrt_b hm
        obtain ⟨r1, hr1, hm⟩ := call_b hm
        refine reg [⟨true, [], vS (Instr.indexAt 125 (.slice A1 s1.length c1) (.int .i64 z1)), .pointer (some (sAddrK A1 3 z1))⟩, ⟨false, [], vS (Instr.loadAt 128 (.pointer (some (sAddrK A1 3 z1)))), .agg #[.int .i64 ((getd ((0, 0, 0) : (Int × Int × Int)) s1 z1).1), .int .i64 ((getd ((0, 0, 0) : (Int × Int × Int)) s1 z1).2.1), .int .i64 ((getd ((0, 0, 0) : (Int × Int × Int)) s1 z1).2.2)]⟩, ⟨false, [], callFunc 103 #[.agg #[.int .i64 ((getd ((0, 0, 0) : (Int × Int × Int)) s1 z1).1), .int .i64 ((getd ((0, 0, 0) : (Int × Int × Int)) s1 z1).2.1), .int .i64 ((getd ((0, 0, 0) : (Int × Int × Int)) s1 z1).2.2)], .pointer (some ⟨g1, 0, none⟩), .pointer (some ⟨g2, 0, none⟩)], .bool r1⟩] [none, none, none, some (.pointer (some (sAddrK A1 3 z1))), some (.agg #[.int .i64 ((getd ((0, 0, 0) : (Int × Int × Int)) s1 z1).1), .int .i64 ((getd ((0, 0, 0) : (Int × Int × Int)) s1 z1).2.1), .int .i64 ((getd ((0, 0, 0) : (Int × Int × Int)) s1 z1).2.2)]), some (.bool r1)] [0, 1, 5, 7, 8, 16] [pl 0 (.slice A1 s1.length c1), pl 1 (.func (.func 103) #[] #[.pointer (some ⟨g1, 0, none⟩), .pointer (some ⟨g2, 0, none⟩)]), pl 5 (.int .i64 z1), pl 7 (.int .i64 (s1.length : Int)), pl 8 (.int .i64 z1), pl 16 (.bool r1)] hF hS Fol (by kernel_rfl) (by kernel_rfl) (by kernel_rfl) ?_ (fun a w hF hS => ?_)
        · exact obs_cons (ob_ixK (m := s1) encK128 Und125 hi128 hs128 (hr_s1 _ (hS.dropN 3)) rfl (fun _ => hp1)) <| obs_cons (ob_getK (n := s1.length) (m := s1) encK128 ((0, 0, 0) : (Int × Int × Int)) (by kernel_rfl) (by kernel_rfl) (fun _ hS => ⟨_, (hr_s1 _ (hS.dropN 3))⟩) (fun _ hS => rfl) (fun _ => hp1)) <| obs_cons (ob_call Try.func103 (by kernel_rfl) rfl (fun _ _ hS => pegs_Do_1_w hr1 hS )) <| obs_nil
        refine cond_ev (t := 16) (b := r1) hF (by kernel_rfl) (fun hb => ?_) (fun hb => ?_)
        · replace hm := if_t hm hb
          refine reg [] [] [4] [pl 4 (.int .i64 z1)] hF hS Fol (by kernel_rfl) (by kernel_rfl) (by kernel_rfl) ?_ (fun a w hF hS => ?_)
          · exact obs_nil
          refine wpIn_ret ?_
          refine block_r (then_r (then_r (block_r (then_r ?_))))
          rw [← hφ1] at hm
          replace hm := done_b hm
          unfold pegs_jump_3_K1 at hm
          try dsimp only at hm
          have hm : some z1 = some r := hm
          obtain rfl := Option.some.inj hm
          exact retV (rs := [.tmp 4]) (vs := [.int .i64 z1]) hF rfl (rv_t (by kernel_rfl) <| rv_nil) rfl ⟨rfl, hS⟩
        · replace hm := if_f hm hb
          refine wpIn_skip ?_
          refine block_n ?_
          refine then_n ?_
          exact ⟨hF.weak [0, 1, 7, 8] (by kernel_rfl), hS, hm⟩
    · refine cond_ev (t := 9) (b := decide (z1 < (s1.length : Int))) hF (by kernel_rfl) (fun hb => ?_) (fun hb => ?_)
      · replace hm := if_t hm hb
        refine wpIn_skip ?_
        refine then_n ?_
        exact ⟨hF.weak [0, 1, 7, 8] (by kernel_rfl), hS, hm⟩
      · replace hm := if_f hm hb
        refine wpIn_exit ?_
        refine then_e (then_e (block_e (then_n ?_)))
        rw [← hφ1] at hm
        replace hm := done_b hm
        unfold pegs_jump_3_K1 at hm
        try dsimp only at hm
        have hm : (pegs_jump_3_J1).bind some = some r := hm
        exact ⟨hF.weak [] (by kernel_rfl), hS, hm⟩

noncomputable def pegs_jump_turn_2_J3  (j1 : Int) (j2 : Int) (j3 : Int) (cells3 : List Int) (z1 : Int) : Option (St (List Int × Int) (List Int)) :=
  some (.next ((cells3.set (Int.toNat (geti ([j1, j2, j3] : List Int) z1)) (bXor (geti cells3 (geti ([j1, j2, j3] : List Int) z1)) 1)), (w64 (z1 + 1))))

noncomputable def pegs_jump_turn_2_J2  (j1 : Int) (j2 : Int) (j3 : Int) (cells1 : List Int) (cells3 : List Int) (z1 : Int) : Option (St (List Int × Int) (List Int)) :=
  asrt (0 ≤ z1 ∧ z1 < 3) <| asrt (0 ≤ (geti ([j1, j2, j3] : List Int) z1) ∧ (geti ([j1, j2, j3] : List Int) z1) < (cells1.length : Int)) <| asrt (0 ≤ (geti ([j1, j2, j3] : List Int) z1) ∧ (geti ([j1, j2, j3] : List Int) z1) < (cells1.length : Int)) <| (pegs_jump_turn_2_J3 j1 j2 j3 cells3 z1)

noncomputable def pegs_jump_turn_2_J1  (cells4 : List Int) : Option (List Int) :=
  some cells4

noncomputable def pegs_jump_turn_2_K1  : (List Int) → Option (List Int) :=
  fun (x : (List Int)) => match x with | cells4 => pegs_jump_turn_2_J1 cells4

noncomputable def pegs_jump_turn_2_L1  (j1 : Int) (j2 : Int) (j3 : Int) (cells1 : List Int) : (List Int × Int) → Option (St (List Int × Int) (List Int)) :=
  fun (x : (List Int × Int)) => match x with | (cells3, z1) => if (decide (z1 < 3)) then ((pegs_jump_turn_2_J2 j1 j2 j3 cells1 cells3 z1)) else (some (.done cells3))

noncomputable def pegs_jump_turn_2_m  (j1 : Int) (j2 : Int) (j3 : Int) (cells1 : List Int) : Option (List Int) :=
  (loop (pegs_jump_turn_2_L1 j1 j2 j3 cells1) (cells1, 0)).bind pegs_jump_turn_2_K1

set_option maxRecDepth 100000 in
set_option maxHeartbeats 4000000 in
theorem pegs_jump_turn_2_w {j1 : Int} {j2 : Int} {j3 : Int} {A1 : Option Addr} {c1 : Nat} {n1 : Nat} {cells1 : List Int} {r : (List Int)} {w0 w : World} {B : Nat} {fs : List HP} (hm : pegs_jump_turn_2_m j1 j2 j3 cells1 = some r) (hS : Sep w0 B w (own 3 (.slice A1 n1 c1) (vI cells1) :: fs)) :
    Calls Try.prog 104 #[.agg #[.int .i64 j1, .int .i64 j2, .int .i64 j3], .slice A1 n1 c1] w fun e w' => ∃ v, e = .returned v ∧ v = .tuple #[] ∧ Sep w0 B w' (own 3 (.slice A1 n1 c1) (vI r) :: fs) := by
  obtain ⟨i3, hi3, hz3, hs3, hb3⟩ := info_parts Info3
  obtain rfl := (hS.at_ 0 rfl).len1
  unfold pegs_jump_turn_2_m at hm
  replace hm := start_b hm
  refine enter (l := [.agg #[.int .i64 j1, .int .i64 j2, .int .i64 j3], .slice A1 cells1.length c1]) (n := 23) Try.func104 rfl rfl (by simp) (fun a hF => ?_)
  refine end_cut (fun a w => ∃ (cells4 : List Int), Fr 23 [] a ∧ Sep w0 B w (own 3 (.slice A1 cells1.length c1) (vI cells4) :: fs) ∧ (pegs_jump_turn_2_J1 cells4).bind some = some r) ?_ ?_
  · rintro a w ⟨cells4, hF, hS, hm⟩
    unfold pegs_jump_turn_2_J1 at hm
    have hm : some cells4 = some r := hm
    obtain rfl := Option.some.inj hm
    exact endV (rs := []) (vs := []) hF rfl (rv_nil) rfl ⟨_, rfl, rfl, hS⟩ rfl
  · refine seqR ?_
    refine at_do (d := 2) (s := vS (Instr.box 128 (.agg #[.int .i64 j1, .int .i64 j2, .int .i64 j3]))) (v := .pointer (some ⟨w.heap.size, 0, none⟩)) (w' := w.alloc (.cells #[.int .i64 j1, .int .i64 j2, .int .i64 j3] 128)) hF (by kernel_rfl) (by kernel_rfl) (by kernel_rfl) (fun a hF => ?_)
    have hS : Sep w0 B (w.alloc (.cells #[.int .i64 j1, .int .i64 j2, .int .i64 j3] 128)) (blk w.heap.size 128 #[.int .i64 j1, .int .i64 j2, .int .i64 j3] :: (own 3 (.slice A1 cells1.length c1) (vI cells1) :: fs)) := hS.box 128 #[.int .i64 j1, .int .i64 j2, .int .i64 j3]
    generalize w.heap.size = g1 at hF hS
    generalize w.alloc (.cells #[.int .i64 j1, .int .i64 j2, .int .i64 j3] 128) = w at hS ⊢
    refine at_end [1, 2] [pl 1 (.slice A1 cells1.length c1), pl 2 (.pointer (some ⟨g1, 0, none⟩))] hF rfl (by kernel_rfl) (fun hF => ?_)
    refine then_n ?_
    refine reg [⟨false, [], vS (Instr.loadAt 3 (.pointer (some ⟨g1, 0, none⟩))), .int .i64 j1⟩, ⟨false, [], vS (Instr.loadAt 3 (.pointer (some ⟨g1, 1, none⟩))), .int .i64 j2⟩, ⟨false, [], vS (Instr.loadAt 3 (.pointer (some ⟨g1, 2, none⟩))), .int .i64 j3⟩] [none, some (.int .i64 j1), none, some (.int .i64 j2), none, some (.int .i64 j3), none, none] [1, 12, 13] [pl 1 (.slice A1 cells1.length c1), pl 12 (.agg (List.toArray (([] : List Value) ++ (arr1 (Value.int .i64) (0 : Int) 3 ([j1, j2, j3] : List Int) ++ ([] : List Value))))), pl 13 (.int .i64 0)] hF hS Fol (by kernel_rfl) (by kernel_rfl) (by kernel_rfl) ?_ (fun a w hF hS => ?_)
    · exact obs_cons (ob_load Agg3 (fun _ _ hS => (hS.at_ 0 rfl).cell rfl)) <| obs_cons (ob_load Agg3 (fun _ _ hS => (hS.at_ 0 rfl).cell rfl)) <| obs_cons (ob_load Agg3 (fun _ _ hS => (hS.at_ 0 rfl).cell rfl)) <| obs_nil
    refine wpIn_block ?_
    have hS := hS.pickN 2 [1] (by decide)
    refine wp_loop_model (S := (List Int × Int)) (R := (List Int)) (pegs_jump_turn_2_L1 j1 j2 j3 cells1) (fun x => (pegs_jump_turn_2_K1 x).bind some) r (fun (x : (List Int × Int)) a w => Fr 23 [pl 1 (.slice A1 cells1.length c1), pl 12 (.agg (List.toArray (([] : List Value) ++ (arr1 (Value.int .i64) (0 : Int) 3 ([j1, j2, j3] : List Int) ++ ([] : List Value))))), pl 13 (.int .i64 x.2)] a ∧ Sep w0 B w (own 3 (.slice A1 cells1.length c1) (vI x.1) :: fs)) (assoc_b hm) ⟨hF.weak [1, 12, 13] (by kernel_rfl), hS⟩ ?_
    clear hF hS hm
    rintro nn1 ⟨cells3, z1⟩ a w ⟨hF, hS⟩ hm
    generalize hφ1 : stK (pegs_jump_turn_2_L1 j1 j2 j3 cells1) nn1 (fun x => (pegs_jump_turn_2_K1 x).bind some) = φ1 at hm
    unfold pegs_jump_turn_2_L1 at hm
    dsimp only at hF hS hm
    refine reg [] [] [1, 12, 13, 14] [pl 1 (.slice A1 cells1.length c1), pl 12 (.agg (List.toArray (([] : List Value) ++ (arr1 (Value.int .i64) (0 : Int) 3 ([j1, j2, j3] : List Int) ++ ([] : List Value))))), pl 13 (.int .i64 z1), pl 14 (.bool (decide (z1 < 3)))] hF hS Fol (by kernel_rfl) (by kernel_rfl) (by kernel_rfl) ?_ (fun a w hF hS => ?_)
    · exact obs_nil
    refine seq_cut (fun a w => Fr 23 [pl 1 (.slice A1 cells1.length c1), pl 12 (.agg (List.toArray (([] : List Value) ++ (arr1 (Value.int .i64) (0 : Int) 3 ([j1, j2, j3] : List Int) ++ ([] : List Value))))), pl 13 (.int .i64 z1)] a ∧ Sep w0 B w (own 3 (.slice A1 cells1.length c1) (vI cells3) :: fs) ∧ ((pegs_jump_turn_2_J2 j1 j2 j3 cells1 cells3 z1)).bind φ1 = some r) ?_ ?_
    · rintro a w ⟨hF, hS, hm⟩
      unfold pegs_jump_turn_2_J2 at hm
      refine seq_cut (fun a w => Fr 23 [pl 1 (.slice A1 cells1.length c1), pl 12 (.agg (List.toArray (([] : List Value) ++ (arr1 (Value.int .i64) (0 : Int) 3 ([j1, j2, j3] : List Int) ++ ([] : List Value))))), pl 13 (.int .i64 z1)] a ∧ Sep w0 B w (own 3 (.slice A1 cells1.length c1) (vI (cells3.set (Int.toNat (geti ([j1, j2, j3] : List Int) z1)) (bXor (geti cells3 (geti ([j1, j2, j3] : List Int) z1)) 1))) :: fs) ∧ ((pegs_jump_turn_2_J3 j1 j2 j3 cells3 z1)).bind φ1 = some r) ?_ ?_
      · rintro a w ⟨hF, hS, hm⟩
        unfold pegs_jump_turn_2_J3 at hm
        refine reg1 [] [] [1, 12, 13] [pl 1 (.slice A1 cells1.length c1), pl 12 (.agg (List.toArray (([] : List Value) ++ (arr1 (Value.int .i64) (0 : Int) 3 ([j1, j2, j3] : List Int) ++ ([] : List Value))))), pl 13 (.int .i64 (w64 (z1 + 1)))] hF hS Fol (by kernel_rfl) (by kernel_rfl) (by kernel_rfl) ?_ (fun a w hF hS => ?_)
        · exact obs_nil
        refine then_n ?_
        rw [← hφ1] at hm
        exact ⟨((cells3.set (Int.toNat (geti ([j1, j2, j3] : List Int) z1)) (bXor (geti cells3 (geti ([j1, j2, j3] : List Int) z1)) 1)), (w64 (z1 + 1))), ⟨hF.weak [1, 12, 13] (by kernel_rfl), hS⟩, hm⟩
      · refine wpIn_block ?_
        obtain ⟨hp1, hm⟩ := asrt_b hm
        refine reg [⟨true, [], vS (Instr.index 186 (.agg (List.toArray (([] : List Value) ++ (arr1 (Value.int .i64) (0 : Int) 3 ([j1, j2, j3] : List Int) ++ ([] : List Value))))) (.int .i64 z1)), .int .i64 (geti ([j1, j2, j3] : List Int) z1)⟩] [some (.int .i64 (geti ([j1, j2, j3] : List Int) z1)), none] [1, 5, 12, 13] [pl 1 (.slice A1 cells1.length c1), pl 5 (.int .i64 (geti ([j1, j2, j3] : List Int) z1)), pl 12 (.agg (List.toArray (([] : List Value) ++ (arr1 (Value.int .i64) (0 : Int) 3 ([j1, j2, j3] : List Int) ++ ([] : List Value))))), pl 13 (.int .i64 z1)] hF hS Fol (by kernel_rfl) (by kernel_rfl) (by kernel_rfl) ?_ (fun a w hF hS => ?_)
        · exact obs_cons (ob_idx1 (f := (Value.int .i64)) (z := (0 : Int)) (m := ([j1, j2, j3] : List Int)) UndA186 (by kernel_rfl) (by kernel_rfl) (fun _ => hp1)) <| obs_nil
        refine oneR ?_
        obtain ⟨hp2, hm⟩ := asrt_b hm
        obtain ⟨hp3, hm⟩ := asrt_b hm
        refine at_run 6 [⟨true, [], vS (Instr.indexAt 22 (.slice A1 cells1.length c1) (.int .i64 (geti ([j1, j2, j3] : List Int) z1))), .pointer (some (sAddr A1 (geti ([j1, j2, j3] : List Int) z1)))⟩, ⟨false, [], vS (Instr.loadAt 3 (.pointer (some (sAddr A1 (geti ([j1, j2, j3] : List Int) z1))))), .int .i64 (geti cells3 (geti ([j1, j2, j3] : List Int) z1))⟩, ⟨true, [], vS (Instr.indexAt 22 (.slice A1 cells1.length c1) (.int .i64 (geti ([j1, j2, j3] : List Int) z1))), .pointer (some (sAddr A1 (geti ([j1, j2, j3] : List Int) z1)))⟩] [none, none, some (.pointer (some (sAddr A1 (geti ([j1, j2, j3] : List Int) z1)))), some (.int .i64 (geti cells3 (geti ([j1, j2, j3] : List Int) z1))), none, some (.pointer (some (sAddr A1 (geti ([j1, j2, j3] : List Int) z1))))] [1, 12, 13, 20, 21] [pl 1 (.slice A1 cells1.length c1), pl 12 (.agg (List.toArray (([] : List Value) ++ (arr1 (Value.int .i64) (0 : Int) 3 ([j1, j2, j3] : List Int) ++ ([] : List Value))))), pl 13 (.int .i64 z1), pl 20 (.int .i64 (bXor (geti cells3 (geti ([j1, j2, j3] : List Int) z1)) 1)), pl 21 (.pointer (some (sAddr A1 (geti ([j1, j2, j3] : List Int) z1))))] hF hS (by kernel_rfl) (by kernel_rfl) ?_ (fun a w hF hS => ?_)
        · exact obs_cons (ob_ix1 (f := (Value.int .i64)) (m := cells3) Und22 hi3 hs3 (hS.at_ 0 rfl).rd ((hS.at_ 0 rfl).len1) (fun _ => hp2)) <| obs_cons (ob_get1 (n := cells1.length) (m := cells3) (Value.int .i64) (0 : Int) Agg3 (fun _ hS => ⟨_, (hS.at_ 0 rfl).rd⟩) (fun _ hS => ((hS.at_ 0 rfl).len1)) (fun _ => hp2)) <| obs_cons (ob_ix1 (f := (Value.int .i64)) (m := cells3) Und22 hi3 hs3 (hS.at_ 0 rfl).rd ((hS.at_ 0 rfl).len1) (fun _ => hp3)) <| obs_nil
        obtain ⟨w, hrun, hS⟩ := run_set1 (P := Try.prog) (t := 3) (x := (bXor (geti cells3 (geti ([j1, j2, j3] : List Int) z1)) 1)) (Value.int .i64) (hS.at_ 0 rfl) hi3 hs3 rfl rfl hp3
        refine at_skip hF (by kernel_rfl) hrun ?_
        have hS : Sep w0 B w (own 3 (.slice A1 cells1.length c1) (vI (cells3.set (Int.toNat (geti ([j1, j2, j3] : List Int) z1)) (bXor (geti cells3 (geti ([j1, j2, j3] : List Int) z1)) 1))) :: fs) := hS
        refine at_end [1, 12, 13] [pl 1 (.slice A1 cells1.length c1), pl 12 (.agg (List.toArray (([] : List Value) ++ (arr1 (Value.int .i64) (0 : Int) 3 ([j1, j2, j3] : List Int) ++ ([] : List Value))))), pl 13 (.int .i64 z1)] hF rfl (by kernel_rfl) (fun hF => ?_)
        refine block_n ?_
        refine then_n ?_
        exact ⟨hF.weak [1, 12, 13] (by kernel_rfl), hS, hm⟩
    · refine cond_ev (t := 14) (b := decide (z1 < 3)) hF (by kernel_rfl) (fun hb => ?_) (fun hb => ?_)
      · replace hm := if_t hm hb
        refine wpIn_skip ?_
        refine then_n ?_
        exact ⟨hF.weak [1, 12, 13] (by kernel_rfl), hS, hm⟩
      · replace hm := if_f hm hb
        refine wpIn_exit ?_
        refine then_e (then_e (block_e (then_n ?_)))
        rw [← hφ1] at hm
        replace hm := done_b hm
        unfold pegs_jump_turn_2_K1 at hm
        try dsimp only at hm
        have hm : (pegs_jump_turn_2_J1 cells3).bind some = some r := hm
        exact ⟨cells3, hF.weak [] (by kernel_rfl), hS, hm⟩

noncomputable def pegs_Do_J4  (z1 : Int) (g9 : List Int) : Option (St (List Int × Int) (Fl (List Int) (Int × Int × List Int × Int × Int))) :=
  some (.next (g9, (w64 (z1 + 1))))

noncomputable def pegs_Do_J5  (r3 : (List (Int × Int × Int))) (g6 : List Int) (z1 : Int) (r4 : Int) : Option (St (List Int × Int) (Fl (List Int) (Int × Int × List Int × Int × Int))) :=
  asrt (0 ≤ r4 ∧ r4 < (r3.length : Int)) <| (pegs_jump_turn_2_m ((getd ((0, 0, 0) : (Int × Int × Int)) r3 r4).1) ((getd ((0, 0, 0) : (Int × Int × Int)) r3 r4).2.1) ((getd ((0, 0, 0) : (Int × Int × Int)) r3 r4).2.2) g6).bind fun r5 => (pegs_Do_J4 z1) r5

noncomputable def pegs_Do_J3  (g1 : Int) (g2 : Int) (l1 : List (Int × Int × Int)) (r3 : (List (Int × Int × Int))) (g6 : List Int) (z1 : Int) : Option (St (List Int × Int) (Fl (List Int) (Int × Int × List Int × Int × Int))) :=
  asrt (0 ≤ z1 ∧ z1 < (l1.length : Int)) <| (pegs_jump_3_m r3 ((getd ((0, 0, 0) : (Int × Int × Int)) l1 z1).1) ((getd ((0, 0, 0) : (Int × Int × Int)) l1 z1).2.1) ((getd ((0, 0, 0) : (Int × Int × Int)) l1 z1).2.2) g1 g2 g6).bind fun r4 => if (decide (r4 < 0)) then (some (.done (.ret (g1, g2, g6, z1, 8)))) else ((pegs_Do_J5 r3 g6 z1 r4))

noncomputable def pegs_Do_J2  (g1 : Int) (g2 : Int) (l1 : List (Int × Int × Int)) (g7 : List Int) : Option (Int × Int × List Int × Int × Int) :=
  some (g1, g2, g7, (l1.length : Int), 0)

noncomputable def pegs_Do_K1  (g1 : Int) (g2 : Int) (l1 : List (Int × Int × Int)) : (Fl (List Int) (Int × Int × List Int × Int × Int)) → Option (Int × Int × List Int × Int × Int) :=
  fun (x : (Fl (List Int) (Int × Int × List Int × Int × Int))) => match x with | .go g7 => (pegs_Do_J2 g1 g2 l1) g7 | .ret x => some x

noncomputable def pegs_Do_L1  (g1 : Int) (g2 : Int) (l1 : List (Int × Int × Int)) (r3 : (List (Int × Int × Int))) : (List Int × Int) → Option (St (List Int × Int) (Fl (List Int) (Int × Int × List Int × Int × Int))) :=
  fun (x : (List Int × Int)) => match x with | (g6, z1) => if (decide (z1 < (l1.length : Int))) then ((pegs_Do_J3 g1 g2 l1 r3 g6 z1)) else (some (.done (.go g6)))

noncomputable def pegs_Do_J1  (g1 : Int) (g2 : Int) (g3 : List Int) (l1 : List (Int × Int × Int)) : Option (Int × Int × List Int × Int × Int) :=
  (slices_Clone_m g3).bind fun r2 => (pegs_jumps_m g1 g2 r2).bind fun r3 => (loop (pegs_Do_L1 g1 g2 l1 r3) (r2, 0)).bind (pegs_Do_K1 g1 g2 l1)

noncomputable def pegs_Do_m  (g1 : Int) (g2 : Int) (g3 : List Int) (l1 : List (Int × Int × Int)) : Option (Int × Int × List Int × Int × Int) :=
  (rows_May_m g1 g2 g3).bind fun r1 => if (!r1) then (some (0, 0, ([] : List Int), 0, 12)) else ((pegs_Do_J1 g1 g2 g3 l1))

set_option maxRecDepth 100000 in
set_option maxHeartbeats 4000000 in
theorem pegs_Do_w {g1 : Int} {g2 : Int} {A1 : Option Addr} {c1 : Nat} {n1 : Nat} {g3 : List Int} {A2 : Option Addr} {c2 : Nat} {n2 : Nat} {l1 : List (Int × Int × Int)} {r : (Int × Int × List Int × Int × Int)} {w0 w : World} {B : Nat} {fs : List HP} (hm : pegs_Do_m g1 g2 g3 l1 = some r) (hS : Sep w0 B w (fs)) (hr_g3 : RdF w0 B fs A1 (vI g3)) (_hc_g3 : g3.length ≤ c1) (_hn_g3 : n1 = g3.length) (hr_l1 : RdF w0 B fs A2 ((List.flatMap enc54 l1))) (_hc_l1 : l1.length ≤ c2) (_hn_l1 : n2 = l1.length) :
    Calls Try.prog 31 #[.agg #[.int .i64 g1, .int .i64 g2, .slice A1 n1 c1], .slice A2 n2 c2] w fun e w' => ∃ v, e = .returned v ∧ ∃ (A5 : Option Addr) (c5 : Nat), v = .tuple #[.agg #[.int .i64 r.1, .int .i64 r.2.1, .slice A5 r.2.2.1.length c5], .int .i64 r.2.2.2.1, .int .i64 r.2.2.2.2] ∧ Sep w0 B w' (own 3 (.slice A5 r.2.2.1.length c5) (vI r.2.2.1) :: fs) := by
  obtain ⟨i3, hi3, hz3, hs3, hb3⟩ := info_parts Info3
  obtain ⟨i22, hi22, hz22, hs22, hb22⟩ := info_parts Info22
  obtain ⟨i54, hi54, hz54, hs54, hb54⟩ := info_parts Info54
  obtain ⟨i128, hi128, hz128, hs128, hb128⟩ := info_parts Info128
  obtain rfl := _hn_g3
  obtain rfl := _hn_l1
  unfold pegs_Do_m at hm
  replace hm := start_b hm
  refine enter (l := [.agg #[.int .i64 g1, .int .i64 g2, .slice A1 g3.length c1], .slice A2 l1.length c2]) (n := 46) Try.func31 rfl rfl (by simp) (fun a hF => ?_)
  refine seqR ?_
  refine at_do (d := 2) (s := vS (Instr.box 41 (.agg #[.int .i64 g1, .int .i64 g2, .slice A1 g3.length c1]))) (v := .pointer (some ⟨w.heap.size, 0, none⟩)) (w' := w.alloc (.cells #[.int .i64 g1, .int .i64 g2, .slice A1 g3.length c1] 41)) hF (by kernel_rfl) (by kernel_rfl) (by kernel_rfl) (fun a hF => ?_)
  have hS : Sep w0 B (w.alloc (.cells #[.int .i64 g1, .int .i64 g2, .slice A1 g3.length c1] 41)) (blk w.heap.size 41 #[.int .i64 g1, .int .i64 g2, .slice A1 g3.length c1] :: (fs)) := hS.box 41 #[.int .i64 g1, .int .i64 g2, .slice A1 g3.length c1]
  generalize w.heap.size = g4 at hF hS
  generalize w.alloc (.cells #[.int .i64 g1, .int .i64 g2, .slice A1 g3.length c1] 41) = w at hS ⊢
  refine at_do (d := 4) (s := vS (Instr.alloc 41 true (.tuple #[]))) (v := .pointer (some ⟨w.heap.size, 0, none⟩)) (w' := w.alloc (.cells #[.int .i64 0, .int .i64 0, .slice none 0 0] 41)) hF (by kernel_rfl) (by kernel_rfl) (by kernel_rfl) (fun a hF => ?_)
  have hS : Sep w0 B (w.alloc (.cells #[.int .i64 0, .int .i64 0, .slice none 0 0] 41)) (blk w.heap.size 41 #[.int .i64 0, .int .i64 0, .slice none 0 0] :: (blk g4 41 #[.int .i64 g1, .int .i64 g2, .slice A1 g3.length c1] :: fs)) := hS.box 41 #[.int .i64 0, .int .i64 0, .slice none 0 0]
  generalize w.heap.size = g5 at hF hS
  generalize w.alloc (.cells #[.int .i64 0, .int .i64 0, .slice none 0 0] 41) = w at hS ⊢
  refine at_run 2 [] [] [1, 2, 4] [pl 1 (.slice A2 l1.length c2), pl 2 (.pointer (some ⟨g4, 0, none⟩)), pl 4 (.pointer (some ⟨g5, 0, none⟩))] hF hS (by kernel_rfl) (by kernel_rfl) ?_ (fun a w hF hS => ?_)
  · exact obs_nil
  refine at_end [1, 2, 4] [pl 1 (.slice A2 l1.length c2), pl 2 (.pointer (some ⟨g4, 0, none⟩)), pl 4 (.pointer (some ⟨g5, 0, none⟩))] hF rfl (by kernel_rfl) (fun hF => ?_)
  refine then_n ?_
  refine seq_cut (fun a w => Fr 46 [pl 1 (.slice A2 l1.length c2), pl 2 (.pointer (some ⟨g4, 0, none⟩)), pl 4 (.pointer (some ⟨g5, 0, none⟩))] a ∧ Sep w0 B w (blk g4 41 #[.int .i64 g1, .int .i64 g2, .slice A1 g3.length c1] :: blk g5 41 #[.int .i64 0, .int .i64 0, .slice none 0 0] :: fs) ∧ ((pegs_Do_J1 g1 g2 g3 l1)).bind some = some r) ?_ ?_
  · rintro a w ⟨hF, hS, hm⟩
    unfold pegs_Do_J1 at hm
    refine seqR ?_
    obtain ⟨r2, hr2, hm⟩ := call_b hm
    refine at_run 2 [⟨false, [], vS (Instr.loadAt 22 (.pointer (some ⟨g4, 2, none⟩))), .slice A1 g3.length c1⟩] [none, some (.slice A1 g3.length c1)] [1, 2, 4, 16] [pl 1 (.slice A2 l1.length c2), pl 2 (.pointer (some ⟨g4, 0, none⟩)), pl 4 (.pointer (some ⟨g5, 0, none⟩)), pl 16 (.slice A1 g3.length c1)] hF hS (by kernel_rfl) (by kernel_rfl) ?_ (fun a w hF hS => ?_)
    · exact obs_cons (ob_load Agg22 (fun _ _ hS => (hS.at_ 0 rfl).cell rfl)) <| obs_nil
    refine at_call (f := 101) (args := #[.slice A1 g3.length c1]) (d := 17) hF (by kernel_rfl) (by kernel_rfl) Try.func101 (by kernel_rfl) rfl (slices_Clone_w hr2 hS (fun _ hS => (hr_g3 _ (hS.dropN 2))) _hc_g3 rfl) (fun v a w hR hF => ?_)
    clear hS
    obtain ⟨A3, c3, rfl, hS⟩ := hR
    have hS : Sep w0 B w (own 3 (.slice A3 r2.length c3) (vI r2) :: blk g4 41 #[.int .i64 g1, .int .i64 g2, .slice A1 g3.length c1] :: blk g5 41 #[.int .i64 0, .int .i64 0, .slice none 0 0] :: fs) := hS
    refine at_run 1 [] [] [1, 2, 4, 17, 18] [pl 1 (.slice A2 l1.length c2), pl 2 (.pointer (some ⟨g4, 0, none⟩)), pl 4 (.pointer (some ⟨g5, 0, none⟩)), pl 17 (.slice A3 r2.length c3), pl 18 (.pointer (some ⟨g4, 2, none⟩))] hF hS (by kernel_rfl) (by kernel_rfl) ?_ (fun a w hF hS => ?_)
    · exact obs_nil
    obtain ⟨w, hrun, hS⟩ := run_put (P := Try.prog) (t := 22) (u := .slice A3 r2.length c3) (i := 2) (hS.at_ 1 rfl) hi22 hs22 rfl (Nat.lt_of_lt_of_eq (Nat.lt_of_succ_le (Nat.le_of_ble_eq_true (by kernel_rfl))) rfl)
    refine at_skip hF (by kernel_rfl) hrun ?_
    have hS : Sep w0 B w (own 3 (.slice A3 r2.length c3) (vI r2) :: blk g4 41 #[.int .i64 g1, .int .i64 g2, .slice A3 r2.length c3] :: blk g5 41 #[.int .i64 0, .int .i64 0, .slice none 0 0] :: fs) := hS
    refine at_end [1, 2, 4] [pl 1 (.slice A2 l1.length c2), pl 2 (.pointer (some ⟨g4, 0, none⟩)), pl 4 (.pointer (some ⟨g5, 0, none⟩))] hF rfl (by kernel_rfl) (fun hF => ?_)
    refine then_n ?_
    refine seqR ?_
    obtain ⟨r3, hr3, hm⟩ := call_b hm
    refine at_run 1 [⟨false, [], vS (Instr.loadAt 41 (.pointer (some ⟨g4, 0, none⟩))), .agg #[.int .i64 g1, .int .i64 g2, .slice A3 r2.length c3]⟩] [some (.agg #[.int .i64 g1, .int .i64 g2, .slice A3 r2.length c3])] [1, 2, 4, 19] [pl 1 (.slice A2 l1.length c2), pl 2 (.pointer (some ⟨g4, 0, none⟩)), pl 4 (.pointer (some ⟨g5, 0, none⟩)), pl 19 (.agg #[.int .i64 g1, .int .i64 g2, .slice A3 r2.length c3])] hF hS (by kernel_rfl) (by kernel_rfl) ?_ (fun a w hF hS => ?_)
    · exact obs_cons (ob_loadA (cs := #[.int .i64 g1, .int .i64 g2, .slice A3 r2.length c3]) (by kernel_rfl) (by kernel_rfl) (fun _ _ hS => (hS.at_ 1 rfl).cellsAt 0 (by rfl))) <| obs_nil
    refine at_call (f := 97) (args := #[.agg #[.int .i64 g1, .int .i64 g2, .slice A3 r2.length c3]]) (d := 20) hF (by kernel_rfl) (by kernel_rfl) Try.func97 (by kernel_rfl) rfl (pegs_jumps_w hr3 hS (fun _ hS => (hS.at_ 0 rfl).rd) ((hS.at_ 0 rfl).cap1) rfl) (fun v a w hR hF => ?_)
    clear hS
    obtain ⟨A4, c4, rfl, hS⟩ := hR
    have hS : Sep w0 B w (ownK 128 3 A4 r3.length c4 (List.flatMap enc128 r3) :: own 3 (.slice A3 r2.length c3) (vI r2) :: blk g4 41 #[.int .i64 g1, .int .i64 g2, .slice A3 r2.length c3] :: blk g5 41 #[.int .i64 0, .int .i64 0, .slice none 0 0] :: fs) := hS
    refine at_run 1 [] [] [1, 2, 4, 7] [pl 1 (.slice A2 l1.length c2), pl 2 (.pointer (some ⟨g4, 0, none⟩)), pl 4 (.pointer (some ⟨g5, 0, none⟩)), pl 7 (.slice A4 r3.length c4)] hF hS (by kernel_rfl) (by kernel_rfl) ?_ (fun a w hF hS => ?_)
    · exact obs_nil
    refine at_end [1, 2, 4, 7] [pl 1 (.slice A2 l1.length c2), pl 2 (.pointer (some ⟨g4, 0, none⟩)), pl 4 (.pointer (some ⟨g5, 0, none⟩)), pl 7 (.slice A4 r3.length c4)] hF rfl (by kernel_rfl) (fun hF => ?_)
    refine then_n ?_
    refine seq_cut (fun a w => ∃ (g7 : List Int), Fr 46 [pl 1 (.slice A2 l1.length c2), pl 2 (.pointer (some ⟨g4, 0, none⟩)), pl 4 (.pointer (some ⟨g5, 0, none⟩))] a ∧ Sep w0 B w (blk g4 41 #[.int .i64 g1, .int .i64 g2, .slice A3 r2.length c3] :: own 3 (.slice A3 r2.length c3) (vI g7) :: blk g5 41 #[.int .i64 0, .int .i64 0, .slice none 0 0] :: fs) ∧ ((pegs_Do_J2 g1 g2 l1) g7).bind some = some r) ?_ ?_
    · rintro a w ⟨g7, hF, hS, hm⟩
      unfold pegs_Do_J2 at hm
      refine seqR ?_
      refine at_run 3 [⟨false, [], vS (Instr.loadAt 41 (.pointer (some ⟨g4, 0, none⟩))), .agg #[.int .i64 g1, .int .i64 g2, .slice A3 r2.length c3]⟩] [some (.agg #[.int .i64 g1, .int .i64 g2, .slice A3 r2.length c3]), none, none] [4, 43, 45] [pl 4 (.pointer (some ⟨g5, 0, none⟩)), pl 43 (.agg #[.int .i64 g1, .int .i64 g2, .slice A3 r2.length c3]), pl 45 (.int .i64 (l1.length : Int))] hF hS (by kernel_rfl) (by kernel_rfl) ?_ (fun a w hF hS => ?_)
      · exact obs_cons (ob_loadA (cs := #[.int .i64 g1, .int .i64 g2, .slice A3 r2.length c3]) (by kernel_rfl) (by kernel_rfl) (fun _ _ hS => (hS.at_ 0 rfl).cellsAt 0 (by rfl))) <| obs_nil
      obtain ⟨w, hrun, hS⟩ := run_putA (P := Try.prog) (t := 41) (us := #[.int .i64 g1, .int .i64 g2, .slice A3 r2.length c3]) (o := 0) (hS.at_ 2 rfl) (by kernel_rfl) (all_one (by kernel_rfl)) (Nat.le_of_ble_eq_true (by kernel_rfl))
      refine at_skip hF (by kernel_rfl) hrun ?_
      have hS : Sep w0 B w (blk g4 41 #[.int .i64 g1, .int .i64 g2, .slice A3 r2.length c3] :: own 3 (.slice A3 r2.length c3) (vI g7) :: blk g5 41 #[.int .i64 g1, .int .i64 g2, .slice A3 r2.length c3] :: fs) := hS
      refine at_run 2 [] [] [4, 5, 6] [pl 4 (.pointer (some ⟨g5, 0, none⟩)), pl 5 (.int .i64 (l1.length : Int)), pl 6 (.int .i64 0)] hF hS (by kernel_rfl) (by kernel_rfl) ?_ (fun a w hF hS => ?_)
      · exact obs_nil
      refine at_end [4, 5, 6] [pl 4 (.pointer (some ⟨g5, 0, none⟩)), pl 5 (.int .i64 (l1.length : Int)), pl 6 (.int .i64 0)] hF rfl (by kernel_rfl) (fun hF => ?_)
      refine then_n ?_
      refine wpIn_ret ?_
      have hl3 := (hS.at_ 1 rfl).len1
      have hS := (hS.at_ 1 rfl).reN hl3
      have hS := (hS.at_ 0 rfl).reBlk (congrArg (fun k9 => (#[.int .i64 g1, .int .i64 g2, .slice A3 k9 c3] : Array Value)) hl3)
      have hS := (hS.at_ 2 rfl).reBlk (congrArg (fun k9 => (#[.int .i64 g1, .int .i64 g2, .slice A3 k9 c3] : Array Value)) hl3)
      have hS : Sep w0 B w (blk g4 41 #[.int .i64 g1, .int .i64 g2, .slice A3 g7.length c3] :: own 3 (.slice A3 g7.length c3) (vI g7) :: blk g5 41 #[.int .i64 g1, .int .i64 g2, .slice A3 g7.length c3] :: fs) := hS
      have hld0 := run_loadVarA (P := Try.prog) (t := 41) (cs := #[.int .i64 g1, .int .i64 g2, .slice A3 g7.length c3]) (by kernel_rfl) (by kernel_rfl) ((hS.at_ 2 rfl).cellsAt 0 (by rfl))
      have hS := hS.pickN 3 [1] (by decide)
      have hm : some (g1, g2, g7, (l1.length : Int), 0) = some r := hm
      obtain rfl := Option.some.inj hm
      exact retV (rs := [.cell 4 41, .tmp 5, .tmp 6]) (vs := [.agg #[.int .i64 g1, .int .i64 g2, .slice A3 g7.length c3], .int .i64 (l1.length : Int), .int .i64 0]) hF rfl (rv_c (by kernel_rfl) hld0 <| rv_t (by kernel_rfl) <| rv_t (by kernel_rfl) <| rv_nil) rfl ⟨_, rfl, A3, c3, rfl, hS⟩
    · refine reg [] [] [1, 2, 4, 7, 21, 22, 23] [pl 1 (.slice A2 l1.length c2), pl 2 (.pointer (some ⟨g4, 0, none⟩)), pl 4 (.pointer (some ⟨g5, 0, none⟩)), pl 7 (.slice A4 r3.length c4), pl 21 (.slice A2 l1.length c2), pl 22 (.int .i64 (l1.length : Int)), pl 23 (.int .i64 0)] hF hS Fol (by kernel_rfl) (by kernel_rfl) (by kernel_rfl) ?_ (fun a w hF hS => ?_)
      · exact obs_nil
      refine wpIn_block ?_
      have hS := hS.pickN 4 [2, 1, 3, 0] (by decide)
      refine wp_loop_model (S := (List Int × Int)) (R := (Fl (List Int) (Int × Int × List Int × Int × Int))) (pegs_Do_L1 g1 g2 l1 r3) (fun x => ((pegs_Do_K1 g1 g2 l1) x).bind some) r (fun (x : (List Int × Int)) a w => Fr 46 [pl 1 (.slice A2 l1.length c2), pl 2 (.pointer (some ⟨g4, 0, none⟩)), pl 4 (.pointer (some ⟨g5, 0, none⟩)), pl 7 (.slice A4 r3.length c4), pl 21 (.slice A2 l1.length c2), pl 22 (.int .i64 (l1.length : Int)), pl 23 (.int .i64 x.2)] a ∧ Sep w0 B w (blk g4 41 #[.int .i64 g1, .int .i64 g2, .slice A3 r2.length c3] :: own 3 (.slice A3 r2.length c3) (vI x.1) :: blk g5 41 #[.int .i64 0, .int .i64 0, .slice none 0 0] :: ownK 128 3 A4 r3.length c4 (List.flatMap enc128 r3) :: fs)) (assoc_b hm) ⟨hF.weak [1, 2, 4, 7, 21, 22, 23] (by kernel_rfl), hS⟩ ?_
      clear hF hS hm
      rintro nn1 ⟨g6, z1⟩ a w ⟨hF, hS⟩ hm
      generalize hφ1 : stK (pegs_Do_L1 g1 g2 l1 r3) nn1 (fun x => ((pegs_Do_K1 g1 g2 l1) x).bind some) = φ1 at hm
      unfold pegs_Do_L1 at hm
      dsimp only at hF hS hm
      refine reg [] [] [1, 2, 4, 7, 21, 22, 23, 24] [pl 1 (.slice A2 l1.length c2), pl 2 (.pointer (some ⟨g4, 0, none⟩)), pl 4 (.pointer (some ⟨g5, 0, none⟩)), pl 7 (.slice A4 r3.length c4), pl 21 (.slice A2 l1.length c2), pl 22 (.int .i64 (l1.length : Int)), pl 23 (.int .i64 z1), pl 24 (.bool (decide (z1 < (l1.length : Int))))] hF hS Fol (by kernel_rfl) (by kernel_rfl) (by kernel_rfl) ?_ (fun a w hF hS => ?_)
      · exact obs_nil
      refine seq_cut (fun a w => Fr 46 [pl 1 (.slice A2 l1.length c2), pl 2 (.pointer (some ⟨g4, 0, none⟩)), pl 4 (.pointer (some ⟨g5, 0, none⟩)), pl 7 (.slice A4 r3.length c4), pl 21 (.slice A2 l1.length c2), pl 22 (.int .i64 (l1.length : Int)), pl 23 (.int .i64 z1)] a ∧ Sep w0 B w (blk g4 41 #[.int .i64 g1, .int .i64 g2, .slice A3 r2.length c3] :: own 3 (.slice A3 r2.length c3) (vI g6) :: blk g5 41 #[.int .i64 0, .int .i64 0, .slice none 0 0] :: ownK 128 3 A4 r3.length c4 (List.flatMap enc128 r3) :: fs) ∧ ((pegs_Do_J3 g1 g2 l1 r3 g6 z1)).bind φ1 = some r) ?_ ?_
      · rintro a w ⟨hF, hS, hm⟩
        unfold pegs_Do_J3 at hm
        refine seq_cut (fun a w => ∃ (g9 : List Int), Fr 46 [pl 1 (.slice A2 l1.length c2), pl 2 (.pointer (some ⟨g4, 0, none⟩)), pl 4 (.pointer (some ⟨g5, 0, none⟩)), pl 7 (.slice A4 r3.length c4), pl 21 (.slice A2 l1.length c2), pl 22 (.int .i64 (l1.length : Int)), pl 23 (.int .i64 z1)] a ∧ Sep w0 B w (blk g4 41 #[.int .i64 g1, .int .i64 g2, .slice A3 r2.length c3] :: own 3 (.slice A3 r2.length c3) (vI g9) :: blk g5 41 #[.int .i64 0, .int .i64 0, .slice none 0 0] :: ownK 128 3 A4 r3.length c4 (List.flatMap enc128 r3) :: fs) ∧ ((pegs_Do_J4 z1) g9).bind φ1 = some r) ?_ ?_
        · rintro a w ⟨g9, hF, hS, hm⟩
          unfold pegs_Do_J4 at hm
          refine reg1 [] [] [1, 2, 4, 7, 21, 22, 23] [pl 1 (.slice A2 l1.length c2), pl 2 (.pointer (some ⟨g4, 0, none⟩)), pl 4 (.pointer (some ⟨g5, 0, none⟩)), pl 7 (.slice A4 r3.length c4), pl 21 (.slice A2 l1.length c2), pl 22 (.int .i64 (l1.length : Int)), pl 23 (.int .i64 (w64 (z1 + 1)))] hF hS Fol (by kernel_rfl) (by kernel_rfl) (by kernel_rfl) ?_ (fun a w hF hS => ?_)
          · exact obs_nil
          refine then_n ?_
          rw [← hφ1] at hm
          exact ⟨(g9, (w64 (z1 + 1))), ⟨hF.weak [1, 2, 4, 7, 21, 22, 23] (by kernel_rfl), hS⟩, hm⟩
        · refine wpIn_block ?_
          refine seqR ?_
          obtain ⟨hp1, hm⟩ := asrt_b hm
          refine at_run 3 [⟨true, [], vS (Instr.indexAt 42 (.slice A2 l1.length c2) (.int .i64 z1)), .pointer (some (sAddrK A2 3 z1))⟩, ⟨false, [], vS (Instr.loadAt 54 (.pointer (some (sAddrK A2 3 z1)))), .agg #[.int .i64 ((getd ((0, 0, 0) : (Int × Int × Int)) l1 z1).1), .int .i64 ((getd ((0, 0, 0) : (Int × Int × Int)) l1 z1).2.1), .int .i64 ((getd ((0, 0, 0) : (Int × Int × Int)) l1 z1).2.2)]⟩] [none, some (.pointer (some (sAddrK A2 3 z1))), some (.agg #[.int .i64 ((getd ((0, 0, 0) : (Int × Int × Int)) l1 z1).1), .int .i64 ((getd ((0, 0, 0) : (Int × Int × Int)) l1 z1).2.1), .int .i64 ((getd ((0, 0, 0) : (Int × Int × Int)) l1 z1).2.2)])] [1, 2, 4, 7, 21, 22, 23, 25, 27] [pl 1 (.slice A2 l1.length c2), pl 2 (.pointer (some ⟨g4, 0, none⟩)), pl 4 (.pointer (some ⟨g5, 0, none⟩)), pl 7 (.slice A4 r3.length c4), pl 21 (.slice A2 l1.length c2), pl 22 (.int .i64 (l1.length : Int)), pl 23 (.int .i64 z1), pl 25 (.int .i64 z1), pl 27 (.agg #[.int .i64 ((getd ((0, 0, 0) : (Int × Int × Int)) l1 z1).1), .int .i64 ((getd ((0, 0, 0) : (Int × Int × Int)) l1 z1).2.1), .int .i64 ((getd ((0, 0, 0) : (Int × Int × Int)) l1 z1).2.2)])] hF hS (by kernel_rfl) (by kernel_rfl) ?_ (fun a w hF hS => ?_)
          · exact obs_cons (ob_ixK (m := l1) encK54 Und42 hi54 hs54 (hr_l1 _ (hS.dropN 4)) rfl (fun _ => hp1)) <| obs_cons (ob_getK (n := l1.length) (m := l1) encK54 ((0, 0, 0) : (Int × Int × Int)) (by kernel_rfl) (by kernel_rfl) (fun _ hS => ⟨_, (hr_l1 _ (hS.dropN 4))⟩) (fun _ hS => rfl) (fun _ => hp1)) <| obs_nil
          refine at_do (d := 9) (s := vS (Instr.alloc 54 true (.tuple #[]))) (v := .pointer (some ⟨w.heap.size, 0, none⟩)) (w' := w.alloc (.cells #[.int .i64 0, .int .i64 0, .int .i64 0] 54)) hF (by kernel_rfl) (by kernel_rfl) (by kernel_rfl) (fun a hF => ?_)
          have hS : Sep w0 B (w.alloc (.cells #[.int .i64 0, .int .i64 0, .int .i64 0] 54)) (blk w.heap.size 54 #[.int .i64 0, .int .i64 0, .int .i64 0] :: (blk g4 41 #[.int .i64 g1, .int .i64 g2, .slice A3 r2.length c3] :: own 3 (.slice A3 r2.length c3) (vI g6) :: blk g5 41 #[.int .i64 0, .int .i64 0, .slice none 0 0] :: ownK 128 3 A4 r3.length c4 (List.flatMap enc128 r3) :: fs)) := hS.box 54 #[.int .i64 0, .int .i64 0, .int .i64 0]
          generalize w.heap.size = g8 at hF hS
          generalize w.alloc (.cells #[.int .i64 0, .int .i64 0, .int .i64 0] 54) = w at hS ⊢
          refine at_run 1 [] [] [1, 2, 4, 7, 8, 9, 21, 22, 23, 27] [pl 1 (.slice A2 l1.length c2), pl 2 (.pointer (some ⟨g4, 0, none⟩)), pl 4 (.pointer (some ⟨g5, 0, none⟩)), pl 7 (.slice A4 r3.length c4), pl 8 (.int .i64 z1), pl 9 (.pointer (some ⟨g8, 0, none⟩)), pl 21 (.slice A2 l1.length c2), pl 22 (.int .i64 (l1.length : Int)), pl 23 (.int .i64 z1), pl 27 (.agg #[.int .i64 ((getd ((0, 0, 0) : (Int × Int × Int)) l1 z1).1), .int .i64 ((getd ((0, 0, 0) : (Int × Int × Int)) l1 z1).2.1), .int .i64 ((getd ((0, 0, 0) : (Int × Int × Int)) l1 z1).2.2)])] hF hS (by kernel_rfl) (by kernel_rfl) ?_ (fun a w hF hS => ?_)
          · exact obs_nil
          obtain ⟨w, hrun, hS⟩ := run_putA (P := Try.prog) (t := 54) (us := #[.int .i64 ((getd ((0, 0, 0) : (Int × Int × Int)) l1 z1).1), .int .i64 ((getd ((0, 0, 0) : (Int × Int × Int)) l1 z1).2.1), .int .i64 ((getd ((0, 0, 0) : (Int × Int × Int)) l1 z1).2.2)]) (o := 0) (hS.at_ 0 rfl) (by kernel_rfl) (all_one (by kernel_rfl)) (Nat.le_of_ble_eq_true (by kernel_rfl))
          refine at_skip hF (by kernel_rfl) hrun ?_
          have hS : Sep w0 B w (blk g8 54 #[.int .i64 ((getd ((0, 0, 0) : (Int × Int × Int)) l1 z1).1), .int .i64 ((getd ((0, 0, 0) : (Int × Int × Int)) l1 z1).2.1), .int .i64 ((getd ((0, 0, 0) : (Int × Int × Int)) l1 z1).2.2)] :: blk g4 41 #[.int .i64 g1, .int .i64 g2, .slice A3 r2.length c3] :: own 3 (.slice A3 r2.length c3) (vI g6) :: blk g5 41 #[.int .i64 0, .int .i64 0, .slice none 0 0] :: ownK 128 3 A4 r3.length c4 (List.flatMap enc128 r3) :: fs) := hS
          refine at_end [1, 2, 4, 7, 8, 9, 21, 22, 23] [pl 1 (.slice A2 l1.length c2), pl 2 (.pointer (some ⟨g4, 0, none⟩)), pl 4 (.pointer (some ⟨g5, 0, none⟩)), pl 7 (.slice A4 r3.length c4), pl 8 (.int .i64 z1), pl 9 (.pointer (some ⟨g8, 0, none⟩)), pl 21 (.slice A2 l1.length c2), pl 22 (.int .i64 (l1.length : Int)), pl 23 (.int .i64 z1)] hF rfl (by kernel_rfl) (fun hF => ?_)
          refine then_n ?_
          obtain ⟨r4, hr4, hm⟩ := call_b hm
          refine reg [⟨false, [], callFunc 102 #[.slice A4 r3.length c4, .func (.func 103) #[] #[.pointer (some ⟨g8, 0, none⟩), .pointer (some ⟨g4, 0, none⟩)]], .int .i64 r4⟩] [none, none, some (.int .i64 r4), none] [1, 2, 4, 7, 8, 10, 21, 22, 23] [pl 1 (.slice A2 l1.length c2), pl 2 (.pointer (some ⟨g4, 0, none⟩)), pl 4 (.pointer (some ⟨g5, 0, none⟩)), pl 7 (.slice A4 r3.length c4), pl 8 (.int .i64 z1), pl 10 (.int .i64 r4), pl 21 (.slice A2 l1.length c2), pl 22 (.int .i64 (l1.length : Int)), pl 23 (.int .i64 z1)] hF hS Fol (by kernel_rfl) (by kernel_rfl) (by kernel_rfl) ?_ (fun a w hF hS => ?_)
          · exact obs_cons (ob_call Try.func102 (by kernel_rfl) rfl (fun _ _ hS => pegs_jump_3_w hr4 hS (fun _ hS => (hS.at_ 1 rfl).rdK) (((hS.dropN 3).at_ 1 rfl).capK encK128) rfl)) <| obs_nil
          refine seq_cut (fun a w => Fr 46 [pl 1 (.slice A2 l1.length c2), pl 2 (.pointer (some ⟨g4, 0, none⟩)), pl 4 (.pointer (some ⟨g5, 0, none⟩)), pl 7 (.slice A4 r3.length c4), pl 10 (.int .i64 r4), pl 21 (.slice A2 l1.length c2), pl 22 (.int .i64 (l1.length : Int)), pl 23 (.int .i64 z1)] a ∧ Sep w0 B w (blk g4 41 #[.int .i64 g1, .int .i64 g2, .slice A3 r2.length c3] :: own 3 (.slice A3 r2.length c3) (vI g6) :: blk g5 41 #[.int .i64 0, .int .i64 0, .slice none 0 0] :: ownK 128 3 A4 r3.length c4 (List.flatMap enc128 r3) :: fs) ∧ ((pegs_Do_J5 r3 g6 z1 r4)).bind φ1 = some r) ?_ ?_
          · rintro a w ⟨hF, hS, hm⟩
            unfold pegs_Do_J5 at hm
            obtain ⟨hp2, hm⟩ := asrt_b hm
            obtain ⟨r5, hr5, hm⟩ := call_b hm
            refine regMix4 [0, 1, 2, 3, 4, 5] [6] [⟨true, [], vS (Instr.indexAt 125 (.slice A4 r3.length c4) (.int .i64 r4)), .pointer (some (sAddrK A4 3 r4))⟩, ⟨false, [], vS (Instr.loadAt 128 (.pointer (some (sAddrK A4 3 r4)))), .agg #[.int .i64 ((getd ((0, 0, 0) : (Int × Int × Int)) r3 r4).1), .int .i64 ((getd ((0, 0, 0) : (Int × Int × Int)) r3 r4).2.1), .int .i64 ((getd ((0, 0, 0) : (Int × Int × Int)) r3 r4).2.2)]⟩, ⟨false, [], vS (Instr.loadAt 22 (.pointer (some ⟨g4, 2, none⟩))), .slice A3 r2.length c3⟩] [none, none, some (.pointer (some (sAddrK A4 3 r4))), some (.agg #[.int .i64 ((getd ((0, 0, 0) : (Int × Int × Int)) r3 r4).1), .int .i64 ((getd ((0, 0, 0) : (Int × Int × Int)) r3 r4).2.1), .int .i64 ((getd ((0, 0, 0) : (Int × Int × Int)) r3 r4).2.2)]), none, some (.slice A3 r2.length c3)] [1, 2, 4, 7, 21, 22, 23, 38, 40] [pl 1 (.slice A2 l1.length c2), pl 2 (.pointer (some ⟨g4, 0, none⟩)), pl 4 (.pointer (some ⟨g5, 0, none⟩)), pl 7 (.slice A4 r3.length c4), pl 21 (.slice A2 l1.length c2), pl 22 (.int .i64 (l1.length : Int)), pl 23 (.int .i64 z1), pl 38 (.agg #[.int .i64 ((getd ((0, 0, 0) : (Int × Int × Int)) r3 r4).1), .int .i64 ((getd ((0, 0, 0) : (Int × Int × Int)) r3 r4).2.1), .int .i64 ((getd ((0, 0, 0) : (Int × Int × Int)) r3 r4).2.2)]), pl 40 (.slice A3 r2.length c3)] hF hS Fol (by kernel_rfl) (by kernel_rfl) (by kernel_rfl) (by kernel_rfl) (by kernel_rfl) ?_ (fun a w hF hS => ?_)
            · exact obs_cons (ob_ixK (m := r3) encK128 Und125 hi128 hs128 (hS.at_ 3 rfl).rdK rfl (fun _ => hp2)) <| obs_cons (ob_getK (n := r3.length) (m := r3) encK128 ((0, 0, 0) : (Int × Int × Int)) (by kernel_rfl) (by kernel_rfl) (fun _ hS => ⟨_, (hS.at_ 3 rfl).rdK⟩) (fun _ hS => rfl) (fun _ => hp2)) <| obs_cons (ob_load Agg22 (fun _ _ hS => (hS.at_ 0 rfl).cell rfl)) <| obs_nil
            have hS : Sep w0 B w (own 3 (.slice A3 r2.length c3) (vI g6) :: blk g4 41 #[.int .i64 g1, .int .i64 g2, .slice A3 r2.length c3] :: blk g5 41 #[.int .i64 0, .int .i64 0, .slice none 0 0] :: ownK 128 3 A4 r3.length c4 (List.flatMap enc128 r3) :: fs) := hS.pickN 4 [1, 0, 2, 3] (by decide)
            refine at_call (f := 104) (args := #[.agg #[.int .i64 ((getd ((0, 0, 0) : (Int × Int × Int)) r3 r4).1), .int .i64 ((getd ((0, 0, 0) : (Int × Int × Int)) r3 r4).2.1), .int .i64 ((getd ((0, 0, 0) : (Int × Int × Int)) r3 r4).2.2)], .slice A3 r2.length c3]) (d := 41) hF (by kernel_rfl) (by kernel_rfl) Try.func104 (by kernel_rfl) rfl (pegs_jump_turn_2_w hr5 hS ) (fun v a w hR hF => ?_)
            clear hS
            obtain ⟨rfl, hS⟩ := hR
            have hS : Sep w0 B w (own 3 (.slice A3 r2.length c3) (vI r5) :: blk g4 41 #[.int .i64 g1, .int .i64 g2, .slice A3 r2.length c3] :: blk g5 41 #[.int .i64 0, .int .i64 0, .slice none 0 0] :: ownK 128 3 A4 r3.length c4 (List.flatMap enc128 r3) :: fs) := hS
            refine at_end [1, 2, 4, 7, 21, 22, 23] [pl 1 (.slice A2 l1.length c2), pl 2 (.pointer (some ⟨g4, 0, none⟩)), pl 4 (.pointer (some ⟨g5, 0, none⟩)), pl 7 (.slice A4 r3.length c4), pl 21 (.slice A2 l1.length c2), pl 22 (.int .i64 (l1.length : Int)), pl 23 (.int .i64 z1)] hF rfl (by kernel_rfl) (fun hF => ?_)
            refine np_n ?_
            refine block_n ?_
            refine then_n ?_
            have hS := hS.pickN 4 [1, 0, 2, 3] (by decide)
            exact ⟨r5, hF.weak [1, 2, 4, 7, 21, 22, 23] (by kernel_rfl), hS, hm⟩
          · refine reg [] [] [1, 2, 4, 7, 8, 10, 21, 22, 23, 32] [pl 1 (.slice A2 l1.length c2), pl 2 (.pointer (some ⟨g4, 0, none⟩)), pl 4 (.pointer (some ⟨g5, 0, none⟩)), pl 7 (.slice A4 r3.length c4), pl 8 (.int .i64 z1), pl 10 (.int .i64 r4), pl 21 (.slice A2 l1.length c2), pl 22 (.int .i64 (l1.length : Int)), pl 23 (.int .i64 z1), pl 32 (.bool (decide (r4 < 0)))] hF hS Fol (by kernel_rfl) (by kernel_rfl) (by kernel_rfl) ?_ (fun a w hF hS => ?_)
            · exact obs_nil
            refine cond_ev (t := 32) (b := decide (r4 < 0)) hF (by kernel_rfl) (fun hb => ?_) (fun hb => ?_)
            · replace hm := if_t hm hb
              refine seqR ?_
              refine at_run 2 [⟨false, [], vS (Instr.loadAt 41 (.pointer (some ⟨g4, 0, none⟩))), .agg #[.int .i64 g1, .int .i64 g2, .slice A3 r2.length c3]⟩] [some (.agg #[.int .i64 g1, .int .i64 g2, .slice A3 r2.length c3]), none] [4, 33, 34] [pl 4 (.pointer (some ⟨g5, 0, none⟩)), pl 33 (.agg #[.int .i64 g1, .int .i64 g2, .slice A3 r2.length c3]), pl 34 (.int .i64 z1)] hF hS (by kernel_rfl) (by kernel_rfl) ?_ (fun a w hF hS => ?_)
              · exact obs_cons (ob_loadA (cs := #[.int .i64 g1, .int .i64 g2, .slice A3 r2.length c3]) (by kernel_rfl) (by kernel_rfl) (fun _ _ hS => (hS.at_ 1 rfl).cellsAt 0 (by rfl))) <| obs_nil
              obtain ⟨w, hrun, hS⟩ := run_putA (P := Try.prog) (t := 41) (us := #[.int .i64 g1, .int .i64 g2, .slice A3 r2.length c3]) (o := 0) (hS.at_ 3 rfl) (by kernel_rfl) (all_one (by kernel_rfl)) (Nat.le_of_ble_eq_true (by kernel_rfl))
              refine at_skip hF (by kernel_rfl) hrun ?_
              have hS : Sep w0 B w (blk g8 54 #[.int .i64 ((getd ((0, 0, 0) : (Int × Int × Int)) l1 z1).1), .int .i64 ((getd ((0, 0, 0) : (Int × Int × Int)) l1 z1).2.1), .int .i64 ((getd ((0, 0, 0) : (Int × Int × Int)) l1 z1).2.2)] :: blk g4 41 #[.int .i64 g1, .int .i64 g2, .slice A3 r2.length c3] :: own 3 (.slice A3 r2.length c3) (vI g6) :: blk g5 41 #[.int .i64 g1, .int .i64 g2, .slice A3 r2.length c3] :: ownK 128 3 A4 r3.length c4 (List.flatMap enc128 r3) :: fs) := hS
              refine at_run 2 [] [] [4, 5, 6] [pl 4 (.pointer (some ⟨g5, 0, none⟩)), pl 5 (.int .i64 z1), pl 6 (.int .i64 8)] hF hS (by kernel_rfl) (by kernel_rfl) ?_ (fun a w hF hS => ?_)
              · exact obs_nil
              refine at_end [4, 5, 6] [pl 4 (.pointer (some ⟨g5, 0, none⟩)), pl 5 (.int .i64 z1), pl 6 (.int .i64 8)] hF rfl (by kernel_rfl) (fun hF => ?_)
              refine then_n ?_
              refine wpIn_ret ?_
              refine then_r (block_r (then_r (then_r (block_r (then_r ?_)))))
              rw [← hφ1] at hm
              replace hm := done_b hm
              unfold pegs_Do_K1 at hm
              try dsimp only at hm
              have hl2 := (hS.at_ 2 rfl).len1
              have hS := (hS.at_ 2 rfl).reN hl2
              have hS := (hS.at_ 1 rfl).reBlk (congrArg (fun k9 => (#[.int .i64 g1, .int .i64 g2, .slice A3 k9 c3] : Array Value)) hl2)
              have hS := (hS.at_ 3 rfl).reBlk (congrArg (fun k9 => (#[.int .i64 g1, .int .i64 g2, .slice A3 k9 c3] : Array Value)) hl2)
              have hS : Sep w0 B w (blk g8 54 #[.int .i64 ((getd ((0, 0, 0) : (Int × Int × Int)) l1 z1).1), .int .i64 ((getd ((0, 0, 0) : (Int × Int × Int)) l1 z1).2.1), .int .i64 ((getd ((0, 0, 0) : (Int × Int × Int)) l1 z1).2.2)] :: blk g4 41 #[.int .i64 g1, .int .i64 g2, .slice A3 g6.length c3] :: own 3 (.slice A3 g6.length c3) (vI g6) :: blk g5 41 #[.int .i64 g1, .int .i64 g2, .slice A3 g6.length c3] :: ownK 128 3 A4 r3.length c4 (List.flatMap enc128 r3) :: fs) := hS
              have hld0 := run_loadVarA (P := Try.prog) (t := 41) (cs := #[.int .i64 g1, .int .i64 g2, .slice A3 g6.length c3]) (by kernel_rfl) (by kernel_rfl) ((hS.at_ 3 rfl).cellsAt 0 (by rfl))
              have hS := hS.pickN 5 [2] (by decide)
              have hm : some (g1, g2, g6, z1, 8) = some r := hm
              obtain rfl := Option.some.inj hm
              exact retV (rs := [.cell 4 41, .tmp 5, .tmp 6]) (vs := [.agg #[.int .i64 g1, .int .i64 g2, .slice A3 g6.length c3], .int .i64 z1, .int .i64 8]) hF rfl (rv_c (by kernel_rfl) hld0 <| rv_t (by kernel_rfl) <| rv_t (by kernel_rfl) <| rv_nil) rfl ⟨_, rfl, A3, c3, rfl, hS⟩
            · replace hm := if_f hm hb
              refine wpIn_skip ?_
              refine then_n ?_
              have hS := hS.pickN 5 [1, 2, 3, 4] (by decide)
              exact ⟨hF.weak [1, 2, 4, 7, 10, 21, 22, 23] (by kernel_rfl), hS, hm⟩
      · refine cond_ev (t := 24) (b := decide (z1 < (l1.length : Int))) hF (by kernel_rfl) (fun hb => ?_) (fun hb => ?_)
        · replace hm := if_t hm hb
          refine wpIn_skip ?_
          refine then_n ?_
          exact ⟨hF.weak [1, 2, 4, 7, 21, 22, 23] (by kernel_rfl), hS, hm⟩
        · replace hm := if_f hm hb
          refine wpIn_exit ?_
          refine then_e (then_e (block_e (then_n ?_)))
          have hS := hS.pickN 4 [0, 1, 2] (by decide)
          rw [← hφ1] at hm
          replace hm := done_b hm
          unfold pegs_Do_K1 at hm
          try dsimp only at hm
          have hm : ((pegs_Do_J2 g1 g2 l1) g6).bind some = some r := hm
          exact ⟨g6, hF.weak [1, 2, 4] (by kernel_rfl), hS, hm⟩
  · obtain ⟨r1, hr1, hm⟩ := call_b hm
    refine reg [⟨false, [], vS (Instr.loadAt 41 (.pointer (some ⟨g4, 0, none⟩))), .agg #[.int .i64 g1, .int .i64 g2, .slice A1 g3.length c1]⟩, ⟨false, [], callFunc 96 #[.agg #[.int .i64 g1, .int .i64 g2, .slice A1 g3.length c1]], .bool r1⟩] [some (.agg #[.int .i64 g1, .int .i64 g2, .slice A1 g3.length c1]), some (.bool r1), none] [1, 2, 4, 13] [pl 1 (.slice A2 l1.length c2), pl 2 (.pointer (some ⟨g4, 0, none⟩)), pl 4 (.pointer (some ⟨g5, 0, none⟩)), pl 13 (.bool (!r1))] hF hS Fol (by kernel_rfl) (by kernel_rfl) (by kernel_rfl) ?_ (fun a w hF hS => ?_)
    · exact obs_cons (ob_loadA (cs := #[.int .i64 g1, .int .i64 g2, .slice A1 g3.length c1]) (by kernel_rfl) (by kernel_rfl) (fun _ _ hS => (hS.at_ 1 rfl).cellsAt 0 (by rfl))) <| obs_cons (ob_call Try.func96 (by kernel_rfl) rfl (fun _ _ hS => rows_May_w hr1 hS (fun _ hS => (hr_g3 _ (hS.dropN 2))) _hc_g3 rfl)) <| obs_nil
    refine cond_ev (t := 13) (b := !r1) hF (by kernel_rfl) (fun hb => ?_) (fun hb => ?_)
    · replace hm := if_t hm hb
      refine seqR ?_
      refine at_run 1 [] [] [4, 14] [pl 4 (.pointer (some ⟨g5, 0, none⟩)), pl 14 (.agg #[.int .i64 0, .int .i64 0, .slice none 0 0])] hF hS (by kernel_rfl) (by kernel_rfl) ?_ (fun a w hF hS => ?_)
      · exact obs_nil
      obtain ⟨w, hrun, hS⟩ := run_putA (P := Try.prog) (t := 41) (us := #[.int .i64 0, .int .i64 0, .slice none 0 0]) (o := 0) (hS.at_ 0 rfl) (by kernel_rfl) (all_one (by kernel_rfl)) (Nat.le_of_ble_eq_true (by kernel_rfl))
      refine at_skip hF (by kernel_rfl) hrun ?_
      have hS : Sep w0 B w (blk g5 41 #[.int .i64 0, .int .i64 0, .slice none 0 0] :: blk g4 41 #[.int .i64 g1, .int .i64 g2, .slice A1 g3.length c1] :: fs) := hS
      refine at_run 2 [] [] [4, 5, 6] [pl 4 (.pointer (some ⟨g5, 0, none⟩)), pl 5 (.int .i64 0), pl 6 (.int .i64 12)] hF hS (by kernel_rfl) (by kernel_rfl) ?_ (fun a w hF hS => ?_)
      · exact obs_nil
      refine at_end [4, 5, 6] [pl 4 (.pointer (some ⟨g5, 0, none⟩)), pl 5 (.int .i64 0), pl 6 (.int .i64 12)] hF rfl (by kernel_rfl) (fun hF => ?_)
      refine then_n ?_
      refine wpIn_ret ?_
      refine then_r ?_
      have hS : Sep w0 B w (own 3 (.slice none 0 0) (vI ([] : List Int)) :: blk g5 41 #[.int .i64 0, .int .i64 0, .slice none 0 0] :: blk g4 41 #[.int .i64 g1, .int .i64 g2, .slice A1 g3.length c1] :: fs) := hS.nil 3
      have hl1 := (hS.at_ 0 rfl).len1
      have hS := (hS.at_ 0 rfl).reN hl1
      have hS : Sep w0 B w (own 3 (.slice none (([] : List Int).length) 0) (vI ([] : List Int)) :: blk g5 41 #[.int .i64 0, .int .i64 0, .slice none 0 0] :: blk g4 41 #[.int .i64 g1, .int .i64 g2, .slice A1 g3.length c1] :: fs) := hS
      have hld0 := run_loadVarA (P := Try.prog) (t := 41) (cs := #[.int .i64 0, .int .i64 0, .slice none (([] : List Int).length) 0]) (by kernel_rfl) (by kernel_rfl) ((hS.at_ 1 rfl).cellsAt 0 (by rfl))
      have hS := hS.pickN 3 [0] (by decide)
      have hm : some (0, 0, ([] : List Int), 0, 12) = some r := hm
      obtain rfl := Option.some.inj hm
      exact retV (rs := [.cell 4 41, .tmp 5, .tmp 6]) (vs := [.agg #[.int .i64 0, .int .i64 0, .slice none (([] : List Int).length) 0], .int .i64 0, .int .i64 12]) hF rfl (rv_c (by kernel_rfl) hld0 <| rv_t (by kernel_rfl) <| rv_t (by kernel_rfl) <| rv_nil) rfl ⟨_, rfl, none, 0, rfl, hS⟩
    · replace hm := if_f hm hb
      refine wpIn_skip ?_
      refine then_n ?_
      have hS := hS.pickN 2 [1, 0] (by decide)
      exact ⟨hF.weak [1, 2, 4] (by kernel_rfl), hS, hm⟩

noncomputable def pegs_Class_J7  (z2 : Int) (c7 : List Int) : Option (St (List Int × Int) (List Int)) :=
  some (.next (c7, (w64 (z2 + 1))))

noncomputable def pegs_Class_J8  (g1 : Int) (z1 : Int) (z2 : Int) (c6 : List Int) : Option (St (List Int × Int) (List Int)) :=
  if (decide ((0 : Int) < (geti ([Int.tmod (w64 ((Int.tmod z1 g1) + (w64 (Int.tdiv z1 g1)))) 3, Int.tmod (w64 ((w64 ((Int.tmod z1 g1) - (w64 (Int.tdiv z1 g1)))) + 30)) 3] : List Int) z2))) then (asrt (0 ≤ (w64 ((w64 (2 * z2)) + 1)) ∧ (w64 ((w64 (2 * z2)) + 1)) < 4) <| asrt (0 ≤ (w64 ((w64 (2 * z2)) + 1)) ∧ (w64 ((w64 (2 * z2)) + 1)) < 4) <| asrt ((w64 ((w64 (2 * z2)) + 1)) < (c6.length : Int)) <| (pegs_Class_J7 z2) (c6.set (Int.toNat (w64 ((w64 (2 * z2)) + 1))) (bXor (geti c6 (w64 ((w64 (2 * z2)) + 1))) 1))) else ((pegs_Class_J7 z2) c6)

noncomputable def pegs_Class_J6  (g1 : Int) (z1 : Int) (c5 : List Int) (z2 : Int) : Option (St (List Int × Int) (List Int)) :=
  asrt (0 ≤ z2 ∧ z2 < 2) <| if (decide ((geti ([Int.tmod (w64 ((Int.tmod z1 g1) + (w64 (Int.tdiv z1 g1)))) 3, Int.tmod (w64 ((w64 ((Int.tmod z1 g1) - (w64 (Int.tdiv z1 g1)))) + 30)) 3] : List Int) z2) < 2)) then (asrt (0 ≤ (w64 (2 * z2)) ∧ (w64 (2 * z2)) < 4) <| asrt (0 ≤ (w64 (2 * z2)) ∧ (w64 (2 * z2)) < 4) <| asrt ((w64 (2 * z2)) < (c5.length : Int)) <| (pegs_Class_J8 g1 z1 z2) (c5.set (Int.toNat (w64 (2 * z2))) (bXor (geti c5 (w64 (2 * z2))) 1))) else ((pegs_Class_J8 g1 z1 z2) c5)

noncomputable def pegs_Class_J4  (z1 : Int) (c4 : List Int) : Option (St (List Int × Int) (List Int)) :=
  some (.next (c4, (w64 (z1 + 1))))

noncomputable def pegs_Class_K2  (z1 : Int) : (List Int) → Option (St (List Int × Int) (List Int)) :=
  fun (x : (List Int)) => match x with | c4 => (pegs_Class_J4 z1) c4

noncomputable def pegs_Class_L2  (g1 : Int) (z1 : Int) : (List Int × Int) → Option (St (List Int × Int) (List Int)) :=
  fun (x : (List Int × Int)) => match x with | (c5, z2) => if (decide (z2 < 2)) then ((pegs_Class_J6 g1 z1 c5 z2)) else (some (.done c5))

noncomputable def pegs_Class_J5  (g1 : Int) (c2 : List Int) (z1 : Int) : Option (St (List Int × Int) (List Int)) :=
  asrt (g1 ≠ (0 : Int)) <| asrt (g1 ≠ (0 : Int)) <| (loop (pegs_Class_L2 g1 z1) (c2, 0)).bind (pegs_Class_K2 z1)

noncomputable def pegs_Class_J3  (g1 : Int) (g3 : List Int) (c2 : List Int) (z1 : Int) : Option (St (List Int × Int) (List Int)) :=
  asrt (0 ≤ z1 ∧ z1 < (g3.length : Int)) <| if ((geti g3 z1) != 1) then ((pegs_Class_J4 z1) c2) else ((pegs_Class_J5 g1 c2 z1))

noncomputable def pegs_Class_J2  (c3 : List Int) : Option (List Int × Int) :=
  some (c3, 0)

noncomputable def pegs_Class_K1  : (List Int) → Option (List Int × Int) :=
  fun (x : (List Int)) => match x with | c3 => pegs_Class_J2 c3

noncomputable def pegs_Class_L1  (g1 : Int) (g3 : List Int) : (List Int × Int) → Option (St (List Int × Int) (List Int)) :=
  fun (x : (List Int × Int)) => match x with | (c2, z1) => if (decide (z1 < (g3.length : Int))) then ((pegs_Class_J3 g1 g3 c2 z1)) else (some (.done c2))

noncomputable def pegs_Class_J1  (g1 : Int) (g3 : List Int) : Option (List Int × Int) :=
  (loop (pegs_Class_L1 g1 g3) ((List.replicate 4 (0 : Int)), 0)).bind pegs_Class_K1

noncomputable def pegs_Class_m  (g1 : Int) (g2 : Int) (g3 : List Int) : Option (List Int × Int) :=
  (rows_May_m g1 g2 g3).bind fun r1 => if (!r1) then (some ((List.replicate 4 (0 : Int)), 12)) else ((pegs_Class_J1 g1 g3))

set_option maxRecDepth 100000 in
set_option maxHeartbeats 4000000 in
theorem pegs_Class_w {g1 : Int} {g2 : Int} {A1 : Option Addr} {c1 : Nat} {n1 : Nat} {g3 : List Int} {r : (List Int × Int)} {w0 w : World} {B : Nat} {fs : List HP} (hm : pegs_Class_m g1 g2 g3 = some r) (hS : Sep w0 B w (fs)) (hr_g3 : RdF w0 B fs A1 (vI g3)) (_hc_g3 : g3.length ≤ c1) (_hn_g3 : n1 = g3.length) :
    Calls Try.prog 33 #[.agg #[.int .i64 g1, .int .i64 g2, .slice A1 n1 c1]] w fun e w' => e = .returned (.tuple #[.agg (List.toArray (([] : List Value) ++ (arr1 (Value.int .i64) (0 : Int) 4 r.1 ++ ([] : List Value)))), .int .i64 r.2]) ∧ Sep w0 B w' (fs) := by
  obtain ⟨i3, hi3, hz3, hs3, hb3⟩ := info_parts Info3
  obtain rfl := _hn_g3
  unfold pegs_Class_m at hm
  replace hm := start_b hm
  refine enter (l := [.agg #[.int .i64 g1, .int .i64 g2, .slice A1 g3.length c1]]) (n := 66) Try.func33 rfl rfl (by simp) (fun a hF => ?_)
  refine seqR ?_
  refine at_do (d := 1) (s := vS (Instr.box 41 (.agg #[.int .i64 g1, .int .i64 g2, .slice A1 g3.length c1]))) (v := .pointer (some ⟨w.heap.size, 0, none⟩)) (w' := w.alloc (.cells #[.int .i64 g1, .int .i64 g2, .slice A1 g3.length c1] 41)) hF (by kernel_rfl) (by kernel_rfl) (by kernel_rfl) (fun a hF => ?_)
  have hS : Sep w0 B (w.alloc (.cells #[.int .i64 g1, .int .i64 g2, .slice A1 g3.length c1] 41)) (blk w.heap.size 41 #[.int .i64 g1, .int .i64 g2, .slice A1 g3.length c1] :: (fs)) := hS.box 41 #[.int .i64 g1, .int .i64 g2, .slice A1 g3.length c1]
  generalize w.heap.size = g4 at hF hS
  generalize w.alloc (.cells #[.int .i64 g1, .int .i64 g2, .slice A1 g3.length c1] 41) = w at hS ⊢
  refine at_do (d := 2) (s := vS (Instr.alloc 49 true (.tuple #[]))) (v := .pointer (some ⟨w.heap.size, 0, none⟩)) (w' := w.alloc (.cells (List.toArray (([] : List Value) ++ (arr1 (Value.int .i64) (0 : Int) 4 (List.replicate 4 (0 : Int)) ++ ([] : List Value)))) 49)) hF (by kernel_rfl) (by kernel_rfl) (by kernel_rfl) (fun a hF => ?_)
  have hS : Sep w0 B (w.alloc (.cells (List.toArray (([] : List Value) ++ (arr1 (Value.int .i64) (0 : Int) 4 (List.replicate 4 (0 : Int)) ++ ([] : List Value)))) 49)) (blk w.heap.size 49 (List.toArray (([] : List Value) ++ (arr1 (Value.int .i64) (0 : Int) 4 (List.replicate 4 (0 : Int)) ++ ([] : List Value)))) :: (blk g4 41 #[.int .i64 g1, .int .i64 g2, .slice A1 g3.length c1] :: fs)) := hS.box 49 (List.toArray (([] : List Value) ++ (arr1 (Value.int .i64) (0 : Int) 4 (List.replicate 4 (0 : Int)) ++ ([] : List Value))))
  generalize w.heap.size = g5 at hF hS
  generalize w.alloc (.cells (List.toArray (([] : List Value) ++ (arr1 (Value.int .i64) (0 : Int) 4 (List.replicate 4 (0 : Int)) ++ ([] : List Value)))) 49) = w at hS ⊢
  refine at_run 1 [] [] [1, 2] [pl 1 (.pointer (some ⟨g4, 0, none⟩)), pl 2 (.pointer (some ⟨g5, 0, none⟩))] hF hS (by kernel_rfl) (by kernel_rfl) ?_ (fun a w hF hS => ?_)
  · exact obs_nil
  refine at_end [1, 2] [pl 1 (.pointer (some ⟨g4, 0, none⟩)), pl 2 (.pointer (some ⟨g5, 0, none⟩))] hF rfl (by kernel_rfl) (fun hF => ?_)
  refine then_n ?_
  refine seq_cut (fun a w => Fr 66 [pl 1 (.pointer (some ⟨g4, 0, none⟩)), pl 2 (.pointer (some ⟨g5, 0, none⟩))] a ∧ Sep w0 B w (blk g4 41 #[.int .i64 g1, .int .i64 g2, .slice A1 g3.length c1] :: blk g5 49 (List.toArray (([] : List Value) ++ (arr1 (Value.int .i64) (0 : Int) 4 (List.replicate 4 (0 : Int)) ++ ([] : List Value)))) :: fs) ∧ ((pegs_Class_J1 g1 g3)).bind some = some r) ?_ ?_
  · rintro a w ⟨hF, hS, hm⟩
    unfold pegs_Class_J1 at hm
    refine seq_cut (fun a w => ∃ (c3 : List Int), Fr 66 [pl 2 (.pointer (some ⟨g5, 0, none⟩))] a ∧ Sep w0 B w (blk g5 49 (List.toArray (([] : List Value) ++ (arr1 (Value.int .i64) (0 : Int) 4 c3 ++ ([] : List Value)))) :: fs) ∧ (pegs_Class_J2 c3).bind some = some r) ?_ ?_
    · rintro a w ⟨c3, hF, hS, hm⟩
      unfold pegs_Class_J2 at hm
      refine seqR ?_
      refine at_run 1 [⟨false, [], vS (Instr.loadAt 49 (.pointer (some ⟨g5, 0, none⟩))), .agg (List.toArray (([] : List Value) ++ (arr1 (Value.int .i64) (0 : Int) 4 c3 ++ ([] : List Value))))⟩] [some (.agg (List.toArray (([] : List Value) ++ (arr1 (Value.int .i64) (0 : Int) 4 c3 ++ ([] : List Value)))))] [2, 65] [pl 2 (.pointer (some ⟨g5, 0, none⟩)), pl 65 (.agg (List.toArray (([] : List Value) ++ (arr1 (Value.int .i64) (0 : Int) 4 c3 ++ ([] : List Value)))))] hF hS (by kernel_rfl) (by kernel_rfl) ?_ (fun a w hF hS => ?_)
      · exact obs_cons (ob_loadA (cs := (List.toArray (([] : List Value) ++ (arr1 (Value.int .i64) (0 : Int) 4 c3 ++ ([] : List Value))))) (by kernel_rfl) (by kernel_rfl) (fun _ _ hS => (hS.at_ 0 rfl).cellsAt 0 (by rfl))) <| obs_nil
      obtain ⟨w, hrun, hS⟩ := run_putA (P := Try.prog) (t := 49) (us := (List.toArray (([] : List Value) ++ (arr1 (Value.int .i64) (0 : Int) 4 c3 ++ ([] : List Value))))) (o := 0) (hS.at_ 0 rfl) (by kernel_rfl) (all_one (by kernel_rfl)) (Nat.le_of_ble_eq_true (by kernel_rfl))
      refine at_skip hF (by kernel_rfl) hrun ?_
      have hS : Sep w0 B w (blk g5 49 (List.toArray (([] : List Value) ++ (arr1 (Value.int .i64) (0 : Int) 4 c3 ++ ([] : List Value)))) :: fs) := hS
      refine at_run 1 [] [] [2, 3] [pl 2 (.pointer (some ⟨g5, 0, none⟩)), pl 3 (.int .i64 0)] hF hS (by kernel_rfl) (by kernel_rfl) ?_ (fun a w hF hS => ?_)
      · exact obs_nil
      refine at_end [2, 3] [pl 2 (.pointer (some ⟨g5, 0, none⟩)), pl 3 (.int .i64 0)] hF rfl (by kernel_rfl) (fun hF => ?_)
      refine then_n ?_
      refine wpIn_ret ?_
      have hld0 := run_loadVarA (P := Try.prog) (t := 49) (cs := (List.toArray (([] : List Value) ++ (arr1 (Value.int .i64) (0 : Int) 4 c3 ++ ([] : List Value))))) (by kernel_rfl) (by kernel_rfl) ((hS.at_ 0 rfl).cellsAt 0 (by rfl))
      have hS := hS.pickN 1 [] (by decide)
      have hm : some (c3, 0) = some r := hm
      obtain rfl := Option.some.inj hm
      exact retV (rs := [.cell 2 49, .tmp 3]) (vs := [.agg (List.toArray (([] : List Value) ++ (arr1 (Value.int .i64) (0 : Int) 4 c3 ++ ([] : List Value)))), .int .i64 0]) hF rfl (rv_c (by kernel_rfl) hld0 <| rv_t (by kernel_rfl) <| rv_nil) rfl ⟨rfl, hS⟩
    · refine reg [⟨false, [], vS (Instr.loadAt 22 (.pointer (some ⟨g4, 2, none⟩))), .slice A1 g3.length c1⟩] [none, some (.slice A1 g3.length c1), none, none] [1, 2, 15, 16, 17] [pl 1 (.pointer (some ⟨g4, 0, none⟩)), pl 2 (.pointer (some ⟨g5, 0, none⟩)), pl 15 (.slice A1 g3.length c1), pl 16 (.int .i64 (g3.length : Int)), pl 17 (.int .i64 0)] hF hS Fol (by kernel_rfl) (by kernel_rfl) (by kernel_rfl) ?_ (fun a w hF hS => ?_)
      · exact obs_cons (ob_load Agg22 (fun _ _ hS => (hS.at_ 0 rfl).cell rfl)) <| obs_nil
      refine wpIn_block ?_
      refine wp_loop_model (S := (List Int × Int)) (R := (List Int)) (pegs_Class_L1 g1 g3) (fun x => (pegs_Class_K1 x).bind some) r (fun (x : (List Int × Int)) a w => Fr 66 [pl 1 (.pointer (some ⟨g4, 0, none⟩)), pl 2 (.pointer (some ⟨g5, 0, none⟩)), pl 15 (.slice A1 g3.length c1), pl 16 (.int .i64 (g3.length : Int)), pl 17 (.int .i64 x.2)] a ∧ Sep w0 B w (blk g4 41 #[.int .i64 g1, .int .i64 g2, .slice A1 g3.length c1] :: blk g5 49 (List.toArray (([] : List Value) ++ (arr1 (Value.int .i64) (0 : Int) 4 x.1 ++ ([] : List Value)))) :: fs)) (assoc_b hm) ⟨hF.weak [1, 2, 15, 16, 17] (by kernel_rfl), hS⟩ ?_
      clear hF hS hm
      rintro nn1 ⟨c2, z1⟩ a w ⟨hF, hS⟩ hm
      generalize hφ1 : stK (pegs_Class_L1 g1 g3) nn1 (fun x => (pegs_Class_K1 x).bind some) = φ1 at hm
      unfold pegs_Class_L1 at hm
      dsimp only at hF hS hm
      refine reg [] [] [1, 2, 15, 16, 17, 18] [pl 1 (.pointer (some ⟨g4, 0, none⟩)), pl 2 (.pointer (some ⟨g5, 0, none⟩)), pl 15 (.slice A1 g3.length c1), pl 16 (.int .i64 (g3.length : Int)), pl 17 (.int .i64 z1), pl 18 (.bool (decide (z1 < (g3.length : Int))))] hF hS Fol (by kernel_rfl) (by kernel_rfl) (by kernel_rfl) ?_ (fun a w hF hS => ?_)
      · exact obs_nil
      refine seq_cut (fun a w => Fr 66 [pl 1 (.pointer (some ⟨g4, 0, none⟩)), pl 2 (.pointer (some ⟨g5, 0, none⟩)), pl 15 (.slice A1 g3.length c1), pl 16 (.int .i64 (g3.length : Int)), pl 17 (.int .i64 z1)] a ∧ Sep w0 B w (blk g4 41 #[.int .i64 g1, .int .i64 g2, .slice A1 g3.length c1] :: blk g5 49 (List.toArray (([] : List Value) ++ (arr1 (Value.int .i64) (0 : Int) 4 c2 ++ ([] : List Value)))) :: fs) ∧ ((pegs_Class_J3 g1 g3 c2 z1)).bind φ1 = some r) ?_ ?_
      · rintro a w ⟨hF, hS, hm⟩
        unfold pegs_Class_J3 at hm
        refine seq_cut (fun a w => ∃ (c4 : List Int), Fr 66 [pl 1 (.pointer (some ⟨g4, 0, none⟩)), pl 2 (.pointer (some ⟨g5, 0, none⟩)), pl 15 (.slice A1 g3.length c1), pl 16 (.int .i64 (g3.length : Int)), pl 17 (.int .i64 z1)] a ∧ Sep w0 B w (blk g4 41 #[.int .i64 g1, .int .i64 g2, .slice A1 g3.length c1] :: blk g5 49 (List.toArray (([] : List Value) ++ (arr1 (Value.int .i64) (0 : Int) 4 c4 ++ ([] : List Value)))) :: fs) ∧ ((pegs_Class_J4 z1) c4).bind φ1 = some r) ?_ ?_
        · rintro a w ⟨c4, hF, hS, hm⟩
          unfold pegs_Class_J4 at hm
          refine reg1 [] [] [1, 2, 15, 16, 17] [pl 1 (.pointer (some ⟨g4, 0, none⟩)), pl 2 (.pointer (some ⟨g5, 0, none⟩)), pl 15 (.slice A1 g3.length c1), pl 16 (.int .i64 (g3.length : Int)), pl 17 (.int .i64 (w64 (z1 + 1)))] hF hS Fol (by kernel_rfl) (by kernel_rfl) (by kernel_rfl) ?_ (fun a w hF hS => ?_)
          · exact obs_nil
          refine then_n ?_
          rw [← hφ1] at hm
          exact ⟨(c4, (w64 (z1 + 1))), ⟨hF.weak [1, 2, 15, 16, 17] (by kernel_rfl), hS⟩, hm⟩
        · refine wpIn_block ?_
          obtain ⟨hp1, hm⟩ := asrt_b hm
          refine reg [⟨true, [], vS (Instr.indexAt 22 (.slice A1 g3.length c1) (.int .i64 z1)), .pointer (some (sAddr A1 z1))⟩, ⟨false, [], vS (Instr.loadAt 3 (.pointer (some (sAddr A1 z1)))), .int .i64 (geti g3 z1)⟩] [none, some (.pointer (some (sAddr A1 z1))), some (.int .i64 (geti g3 z1)), none, none] [1, 2, 4, 5, 15, 16, 17] [pl 1 (.pointer (some ⟨g4, 0, none⟩)), pl 2 (.pointer (some ⟨g5, 0, none⟩)), pl 4 (.int .i64 z1), pl 5 (.int .i64 (geti g3 z1)), pl 15 (.slice A1 g3.length c1), pl 16 (.int .i64 (g3.length : Int)), pl 17 (.int .i64 z1)] hF hS Fol (by kernel_rfl) (by kernel_rfl) (by kernel_rfl) ?_ (fun a w hF hS => ?_)
          · exact obs_cons (ob_ix1 (f := (Value.int .i64)) (m := g3) Und22 hi3 hs3 (hr_g3 _ (hS.dropN 2)) rfl (fun _ => hp1)) <| obs_cons (ob_get1 (n := g3.length) (m := g3) (Value.int .i64) (0 : Int) Agg3 (fun _ hS => ⟨_, (hr_g3 _ (hS.dropN 2))⟩) (fun _ hS => rfl) (fun _ => hp1)) <| obs_nil
          refine seq_cut (fun a w => Fr 66 [pl 1 (.pointer (some ⟨g4, 0, none⟩)), pl 2 (.pointer (some ⟨g5, 0, none⟩)), pl 4 (.int .i64 z1), pl 15 (.slice A1 g3.length c1), pl 16 (.int .i64 (g3.length : Int)), pl 17 (.int .i64 z1)] a ∧ Sep w0 B w (blk g4 41 #[.int .i64 g1, .int .i64 g2, .slice A1 g3.length c1] :: blk g5 49 (List.toArray (([] : List Value) ++ (arr1 (Value.int .i64) (0 : Int) 4 c2 ++ ([] : List Value)))) :: fs) ∧ ((pegs_Class_J5 g1 c2 z1)).bind φ1 = some r) ?_ ?_
          · rintro a w ⟨hF, hS, hm⟩
            unfold pegs_Class_J5 at hm
            obtain ⟨hp2, hm⟩ := asrt_b hm
            obtain ⟨hp3, hm⟩ := asrt_b hm
            refine reg [⟨false, [], vS (Instr.loadAt 3 (.pointer (some ⟨g4, 0, none⟩))), .int .i64 g1⟩, ⟨true, [], vS (Op.intDiv .rem .i64 z1 g1), .int .i64 (Int.tmod z1 g1)⟩, ⟨false, [], vS (Instr.loadAt 3 (.pointer (some ⟨g4, 0, none⟩))), .int .i64 g1⟩, ⟨true, [], vS (Op.intDiv .quo .i64 z1 g1), .int .i64 (w64 (Int.tdiv z1 g1))⟩] [none, none, some (.int .i64 g1), some (.int .i64 (Int.tmod z1 g1)), none, none, some (.int .i64 g1), some (.int .i64 (w64 (Int.tdiv z1 g1))), none, none] [1, 2, 6, 7, 15, 16, 17] [pl 1 (.pointer (some ⟨g4, 0, none⟩)), pl 2 (.pointer (some ⟨g5, 0, none⟩)), pl 6 (.int .i64 (Int.tmod z1 g1)), pl 7 (.int .i64 (w64 (Int.tdiv z1 g1))), pl 15 (.slice A1 g3.length c1), pl 16 (.int .i64 (g3.length : Int)), pl 17 (.int .i64 z1)] hF hS Fol (by kernel_rfl) (by kernel_rfl) (by kernel_rfl) ?_ (fun a w hF hS => ?_)
            · exact obs_cons (ob_load Agg3 (fun _ _ hS => (hS.at_ 0 rfl).cell rfl)) <| obs_cons (ob_rem rfl (fun _ => hp2)) <| obs_cons (ob_load Agg3 (fun _ _ hS => (hS.at_ 0 rfl).cell rfl)) <| obs_cons (ob_quo rfl (fun _ => hp3)) <| obs_nil
            refine reg [] [] [1, 2, 15, 16, 17, 41, 42] [pl 1 (.pointer (some ⟨g4, 0, none⟩)), pl 2 (.pointer (some ⟨g5, 0, none⟩)), pl 15 (.slice A1 g3.length c1), pl 16 (.int .i64 (g3.length : Int)), pl 17 (.int .i64 z1), pl 41 (.agg #[.int .i64 (Int.tmod (w64 ((Int.tmod z1 g1) + (w64 (Int.tdiv z1 g1)))) 3), .int .i64 (Int.tmod (w64 ((w64 ((Int.tmod z1 g1) - (w64 (Int.tdiv z1 g1)))) + 30)) 3)]), pl 42 (.int .i64 0)] hF hS Fol (by kernel_rfl) (by kernel_rfl) (by kernel_rfl) ?_ (fun a w hF hS => ?_)
            · exact obs_nil
            refine wpIn_block ?_
            refine wp_loop_model (S := (List Int × Int)) (R := (List Int)) (pegs_Class_L2 g1 z1) (fun x => ((pegs_Class_K2 z1) x).bind φ1) r (fun (x : (List Int × Int)) a w => Fr 66 [pl 1 (.pointer (some ⟨g4, 0, none⟩)), pl 2 (.pointer (some ⟨g5, 0, none⟩)), pl 15 (.slice A1 g3.length c1), pl 16 (.int .i64 (g3.length : Int)), pl 17 (.int .i64 z1), pl 41 (.agg #[.int .i64 (Int.tmod (w64 ((Int.tmod z1 g1) + (w64 (Int.tdiv z1 g1)))) 3), .int .i64 (Int.tmod (w64 ((w64 ((Int.tmod z1 g1) - (w64 (Int.tdiv z1 g1)))) + 30)) 3)]), pl 42 (.int .i64 x.2)] a ∧ Sep w0 B w (blk g4 41 #[.int .i64 g1, .int .i64 g2, .slice A1 g3.length c1] :: blk g5 49 (List.toArray (([] : List Value) ++ (arr1 (Value.int .i64) (0 : Int) 4 x.1 ++ ([] : List Value)))) :: fs)) (assoc_b hm) ⟨hF.weak [1, 2, 15, 16, 17, 41, 42] (by kernel_rfl), hS⟩ ?_
            clear hF hS hm
            rintro nn2 ⟨c5, z2⟩ a w ⟨hF, hS⟩ hm
            generalize hφ2 : stK (pegs_Class_L2 g1 z1) nn2 (fun x => ((pegs_Class_K2 z1) x).bind φ1) = φ2 at hm
            unfold pegs_Class_L2 at hm
            dsimp only at hF hS hm
            refine reg [] [] [1, 2, 15, 16, 17, 41, 42, 43] [pl 1 (.pointer (some ⟨g4, 0, none⟩)), pl 2 (.pointer (some ⟨g5, 0, none⟩)), pl 15 (.slice A1 g3.length c1), pl 16 (.int .i64 (g3.length : Int)), pl 17 (.int .i64 z1), pl 41 (.agg #[.int .i64 (Int.tmod (w64 ((Int.tmod z1 g1) + (w64 (Int.tdiv z1 g1)))) 3), .int .i64 (Int.tmod (w64 ((w64 ((Int.tmod z1 g1) - (w64 (Int.tdiv z1 g1)))) + 30)) 3)]), pl 42 (.int .i64 z2), pl 43 (.bool (decide (z2 < 2)))] hF hS Fol (by kernel_rfl) (by kernel_rfl) (by kernel_rfl) ?_ (fun a w hF hS => ?_)
            · exact obs_nil
            refine seq_cut (fun a w => Fr 66 [pl 1 (.pointer (some ⟨g4, 0, none⟩)), pl 2 (.pointer (some ⟨g5, 0, none⟩)), pl 15 (.slice A1 g3.length c1), pl 16 (.int .i64 (g3.length : Int)), pl 17 (.int .i64 z1), pl 41 (.agg #[.int .i64 (Int.tmod (w64 ((Int.tmod z1 g1) + (w64 (Int.tdiv z1 g1)))) 3), .int .i64 (Int.tmod (w64 ((w64 ((Int.tmod z1 g1) - (w64 (Int.tdiv z1 g1)))) + 30)) 3)]), pl 42 (.int .i64 z2)] a ∧ Sep w0 B w (blk g4 41 #[.int .i64 g1, .int .i64 g2, .slice A1 g3.length c1] :: blk g5 49 (List.toArray (([] : List Value) ++ (arr1 (Value.int .i64) (0 : Int) 4 c5 ++ ([] : List Value)))) :: fs) ∧ ((pegs_Class_J6 g1 z1 c5 z2)).bind φ2 = some r) ?_ ?_
            · rintro a w ⟨hF, hS, hm⟩
              unfold pegs_Class_J6 at hm
              refine seq_cut (fun a w => ∃ (c7 : List Int), Fr 66 [pl 1 (.pointer (some ⟨g4, 0, none⟩)), pl 2 (.pointer (some ⟨g5, 0, none⟩)), pl 15 (.slice A1 g3.length c1), pl 16 (.int .i64 (g3.length : Int)), pl 17 (.int .i64 z1), pl 41 (.agg #[.int .i64 (Int.tmod (w64 ((Int.tmod z1 g1) + (w64 (Int.tdiv z1 g1)))) 3), .int .i64 (Int.tmod (w64 ((w64 ((Int.tmod z1 g1) - (w64 (Int.tdiv z1 g1)))) + 30)) 3)]), pl 42 (.int .i64 z2)] a ∧ Sep w0 B w (blk g4 41 #[.int .i64 g1, .int .i64 g2, .slice A1 g3.length c1] :: blk g5 49 (List.toArray (([] : List Value) ++ (arr1 (Value.int .i64) (0 : Int) 4 c7 ++ ([] : List Value)))) :: fs) ∧ ((pegs_Class_J7 z2) c7).bind φ2 = some r) ?_ ?_
              · rintro a w ⟨c7, hF, hS, hm⟩
                unfold pegs_Class_J7 at hm
                refine reg1 [] [] [1, 2, 15, 16, 17, 41, 42] [pl 1 (.pointer (some ⟨g4, 0, none⟩)), pl 2 (.pointer (some ⟨g5, 0, none⟩)), pl 15 (.slice A1 g3.length c1), pl 16 (.int .i64 (g3.length : Int)), pl 17 (.int .i64 z1), pl 41 (.agg #[.int .i64 (Int.tmod (w64 ((Int.tmod z1 g1) + (w64 (Int.tdiv z1 g1)))) 3), .int .i64 (Int.tmod (w64 ((w64 ((Int.tmod z1 g1) - (w64 (Int.tdiv z1 g1)))) + 30)) 3)]), pl 42 (.int .i64 (w64 (z2 + 1)))] hF hS Fol (by kernel_rfl) (by kernel_rfl) (by kernel_rfl) ?_ (fun a w hF hS => ?_)
                · exact obs_nil
                refine then_n ?_
                rw [← hφ2] at hm
                exact ⟨(c7, (w64 (z2 + 1))), ⟨hF.weak [1, 2, 15, 16, 17, 41, 42] (by kernel_rfl), hS⟩, hm⟩
              · refine wpIn_block ?_
                obtain ⟨hp4, hm⟩ := asrt_b hm
                refine reg [⟨true, [], vS (Instr.index 69 (.agg (List.toArray (([] : List Value) ++ (arr1 (Value.int .i64) (0 : Int) 2 ([Int.tmod (w64 ((Int.tmod z1 g1) + (w64 (Int.tdiv z1 g1)))) 3, Int.tmod (w64 ((w64 ((Int.tmod z1 g1) - (w64 (Int.tdiv z1 g1)))) + 30)) 3] : List Int) ++ ([] : List Value))))) (.int .i64 z2)), .int .i64 (geti ([Int.tmod (w64 ((Int.tmod z1 g1) + (w64 (Int.tdiv z1 g1)))) 3, Int.tmod (w64 ((w64 ((Int.tmod z1 g1) - (w64 (Int.tdiv z1 g1)))) + 30)) 3] : List Int) z2)⟩] [none, some (.int .i64 (geti ([Int.tmod (w64 ((Int.tmod z1 g1) + (w64 (Int.tdiv z1 g1)))) 3, Int.tmod (w64 ((w64 ((Int.tmod z1 g1) - (w64 (Int.tdiv z1 g1)))) + 30)) 3] : List Int) z2)), none, none] [1, 2, 8, 9, 15, 16, 17, 41, 42] [pl 1 (.pointer (some ⟨g4, 0, none⟩)), pl 2 (.pointer (some ⟨g5, 0, none⟩)), pl 8 (.int .i64 z2), pl 9 (.int .i64 (geti ([Int.tmod (w64 ((Int.tmod z1 g1) + (w64 (Int.tdiv z1 g1)))) 3, Int.tmod (w64 ((w64 ((Int.tmod z1 g1) - (w64 (Int.tdiv z1 g1)))) + 30)) 3] : List Int) z2)), pl 15 (.slice A1 g3.length c1), pl 16 (.int .i64 (g3.length : Int)), pl 17 (.int .i64 z1), pl 41 (.agg #[.int .i64 (Int.tmod (w64 ((Int.tmod z1 g1) + (w64 (Int.tdiv z1 g1)))) 3), .int .i64 (Int.tmod (w64 ((w64 ((Int.tmod z1 g1) - (w64 (Int.tdiv z1 g1)))) + 30)) 3)]), pl 42 (.int .i64 z2)] hF hS Fol (by kernel_rfl) (by kernel_rfl) (by kernel_rfl) ?_ (fun a w hF hS => ?_)
                · exact obs_cons (ob_idx1 (f := (Value.int .i64)) (z := (0 : Int)) (m := ([Int.tmod (w64 ((Int.tmod z1 g1) + (w64 (Int.tdiv z1 g1)))) 3, Int.tmod (w64 ((w64 ((Int.tmod z1 g1) - (w64 (Int.tdiv z1 g1)))) + 30)) 3] : List Int)) UndA69 (by kernel_rfl) (by kernel_rfl) (fun _ => hp4)) <| obs_nil
                refine seq_cut (fun a w => ∃ (c6 : List Int), Fr 66 [pl 1 (.pointer (some ⟨g4, 0, none⟩)), pl 2 (.pointer (some ⟨g5, 0, none⟩)), pl 8 (.int .i64 z2), pl 9 (.int .i64 (geti ([Int.tmod (w64 ((Int.tmod z1 g1) + (w64 (Int.tdiv z1 g1)))) 3, Int.tmod (w64 ((w64 ((Int.tmod z1 g1) - (w64 (Int.tdiv z1 g1)))) + 30)) 3] : List Int) z2)), pl 15 (.slice A1 g3.length c1), pl 16 (.int .i64 (g3.length : Int)), pl 17 (.int .i64 z1), pl 41 (.agg #[.int .i64 (Int.tmod (w64 ((Int.tmod z1 g1) + (w64 (Int.tdiv z1 g1)))) 3), .int .i64 (Int.tmod (w64 ((w64 ((Int.tmod z1 g1) - (w64 (Int.tdiv z1 g1)))) + 30)) 3)]), pl 42 (.int .i64 z2)] a ∧ Sep w0 B w (blk g4 41 #[.int .i64 g1, .int .i64 g2, .slice A1 g3.length c1] :: blk g5 49 (List.toArray (([] : List Value) ++ (arr1 (Value.int .i64) (0 : Int) 4 c6 ++ ([] : List Value)))) :: fs) ∧ ((pegs_Class_J8 g1 z1 z2) c6).bind φ2 = some r) ?_ ?_
                · rintro a w ⟨c6, hF, hS, hm⟩
                  unfold pegs_Class_J8 at hm
                  refine reg [] [] [1, 2, 8, 15, 16, 17, 41, 42, 55] [pl 1 (.pointer (some ⟨g4, 0, none⟩)), pl 2 (.pointer (some ⟨g5, 0, none⟩)), pl 8 (.int .i64 z2), pl 15 (.slice A1 g3.length c1), pl 16 (.int .i64 (g3.length : Int)), pl 17 (.int .i64 z1), pl 41 (.agg #[.int .i64 (Int.tmod (w64 ((Int.tmod z1 g1) + (w64 (Int.tdiv z1 g1)))) 3), .int .i64 (Int.tmod (w64 ((w64 ((Int.tmod z1 g1) - (w64 (Int.tdiv z1 g1)))) + 30)) 3)]), pl 42 (.int .i64 z2), pl 55 (.bool (decide ((0 : Int) < (geti ([Int.tmod (w64 ((Int.tmod z1 g1) + (w64 (Int.tdiv z1 g1)))) 3, Int.tmod (w64 ((w64 ((Int.tmod z1 g1) - (w64 (Int.tdiv z1 g1)))) + 30)) 3] : List Int) z2))))] hF hS Fol (by kernel_rfl) (by kernel_rfl) (by kernel_rfl) ?_ (fun a w hF hS => ?_)
                  · exact obs_nil
                  refine cond_ev (t := 55) (b := decide ((0 : Int) < (geti ([Int.tmod (w64 ((Int.tmod z1 g1) + (w64 (Int.tdiv z1 g1)))) 3, Int.tmod (w64 ((w64 ((Int.tmod z1 g1) - (w64 (Int.tdiv z1 g1)))) + 30)) 3] : List Int) z2))) hF (by kernel_rfl) (fun hb => ?_) (fun hb => ?_)
                  · replace hm := if_t hm hb
                    refine oneR ?_
                    obtain ⟨hp8, hm⟩ := asrt_b hm
                    obtain ⟨hp9, hm⟩ := asrt_b hm
                    obtain ⟨hp10, hm⟩ := asrt_b hm
                    refine at_run 7 [⟨true, [], vS (Instr.indexAt 49 (.pointer (some ⟨g5, 0, none⟩)) (.int .i64 (w64 ((w64 (2 * z2)) + 1)))), .pointer (some ((⟨g5, 0, none⟩ : Addr).add (Int.toNat (w64 ((w64 (2 * z2)) + 1)) * 1)))⟩, ⟨false, [], vS (Instr.loadAt 3 (.pointer (some ((⟨g5, 0, none⟩ : Addr).add (Int.toNat (w64 ((w64 (2 * z2)) + 1)) * 1))))), .int .i64 (geti c6 (w64 ((w64 (2 * z2)) + 1)))⟩, ⟨true, [], vS (Instr.indexAt 49 (.pointer (some ⟨g5, 0, none⟩)) (.int .i64 (w64 ((w64 (2 * z2)) + 1)))), .pointer (some ((⟨g5, 0, none⟩ : Addr).add (Int.toNat (w64 ((w64 (2 * z2)) + 1)) * 1)))⟩] [none, none, none, some (.pointer (some ((⟨g5, 0, none⟩ : Addr).add (Int.toNat (w64 ((w64 (2 * z2)) + 1)) * 1)))), some (.int .i64 (geti c6 (w64 ((w64 (2 * z2)) + 1)))), none, some (.pointer (some ((⟨g5, 0, none⟩ : Addr).add (Int.toNat (w64 ((w64 (2 * z2)) + 1)) * 1))))] [1, 2, 15, 16, 17, 41, 42, 61, 62] [pl 1 (.pointer (some ⟨g4, 0, none⟩)), pl 2 (.pointer (some ⟨g5, 0, none⟩)), pl 15 (.slice A1 g3.length c1), pl 16 (.int .i64 (g3.length : Int)), pl 17 (.int .i64 z1), pl 41 (.agg #[.int .i64 (Int.tmod (w64 ((Int.tmod z1 g1) + (w64 (Int.tdiv z1 g1)))) 3), .int .i64 (Int.tmod (w64 ((w64 ((Int.tmod z1 g1) - (w64 (Int.tdiv z1 g1)))) + 30)) 3)]), pl 42 (.int .i64 z2), pl 61 (.int .i64 (bXor (geti c6 (w64 ((w64 (2 * z2)) + 1))) 1)), pl 62 (.pointer (some ((⟨g5, 0, none⟩ : Addr).add (Int.toNat (w64 ((w64 (2 * z2)) + 1)) * 1))))] hF hS (by kernel_rfl) (by kernel_rfl) ?_ (fun a w hF hS => ?_)
                    · exact obs_cons (ob_ixA UndA49 hi3 hs3 (fun _ => hp8)) <| obs_cons (ob_getA (m := c6) (Value.int .i64) (0 : Int) 4 ([] : List Value) ([] : List Value) (w64 ((w64 (2 * z2)) + 1)) Agg3 rfl (fun _ hS => ⟨_, _, _, _, _, hS.at_ 1 rfl⟩) (fun hy => by have h0 := hp8; omega)) <| obs_cons (ob_ixA UndA49 hi3 hs3 (fun _ => hp9)) <| obs_nil
                    obtain ⟨w, hrun, hS⟩ := run_setA (P := Try.prog) (t := 3) (x := (bXor (geti c6 (w64 ((w64 (2 * z2)) + 1))) 1)) (i := (w64 ((w64 (2 * z2)) + 1))) (m := c6) (d := Int.toNat (w64 ((w64 (2 * z2)) + 1)) * 1) (Value.int .i64) (0 : Int) 4 ([] : List Value) ([] : List Value) (hS.at_ 1 rfl) rfl hi3 hs3 rfl (by have h0 := hp9; omega) (by have h0 := hp9; have h9 := hp10; omega)
                    refine at_skip hF (by kernel_rfl) hrun ?_
                    have hS : Sep w0 B w (blk g4 41 #[.int .i64 g1, .int .i64 g2, .slice A1 g3.length c1] :: blk g5 49 (List.toArray (([] : List Value) ++ (arr1 (Value.int .i64) (0 : Int) 4 (c6.set (Int.toNat (w64 ((w64 (2 * z2)) + 1))) (bXor (geti c6 (w64 ((w64 (2 * z2)) + 1))) 1)) ++ ([] : List Value)))) :: fs) := hS
                    refine at_end [1, 2, 15, 16, 17, 41, 42] [pl 1 (.pointer (some ⟨g4, 0, none⟩)), pl 2 (.pointer (some ⟨g5, 0, none⟩)), pl 15 (.slice A1 g3.length c1), pl 16 (.int .i64 (g3.length : Int)), pl 17 (.int .i64 z1), pl 41 (.agg #[.int .i64 (Int.tmod (w64 ((Int.tmod z1 g1) + (w64 (Int.tdiv z1 g1)))) 3), .int .i64 (Int.tmod (w64 ((w64 ((Int.tmod z1 g1) - (w64 (Int.tdiv z1 g1)))) + 30)) 3)]), pl 42 (.int .i64 z2)] hF rfl (by kernel_rfl) (fun hF => ?_)
                    refine block_n ?_
                    refine then_n ?_
                    exact ⟨(c6.set (Int.toNat (w64 ((w64 (2 * z2)) + 1))) (bXor (geti c6 (w64 ((w64 (2 * z2)) + 1))) 1)), hF.weak [1, 2, 15, 16, 17, 41, 42] (by kernel_rfl), hS, hm⟩
                  · replace hm := if_f hm hb
                    refine wpIn_skip ?_
                    refine block_n ?_
                    refine then_n ?_
                    exact ⟨c6, hF.weak [1, 2, 15, 16, 17, 41, 42] (by kernel_rfl), hS, hm⟩
                · refine reg [] [] [1, 2, 8, 9, 15, 16, 17, 41, 42, 47] [pl 1 (.pointer (some ⟨g4, 0, none⟩)), pl 2 (.pointer (some ⟨g5, 0, none⟩)), pl 8 (.int .i64 z2), pl 9 (.int .i64 (geti ([Int.tmod (w64 ((Int.tmod z1 g1) + (w64 (Int.tdiv z1 g1)))) 3, Int.tmod (w64 ((w64 ((Int.tmod z1 g1) - (w64 (Int.tdiv z1 g1)))) + 30)) 3] : List Int) z2)), pl 15 (.slice A1 g3.length c1), pl 16 (.int .i64 (g3.length : Int)), pl 17 (.int .i64 z1), pl 41 (.agg #[.int .i64 (Int.tmod (w64 ((Int.tmod z1 g1) + (w64 (Int.tdiv z1 g1)))) 3), .int .i64 (Int.tmod (w64 ((w64 ((Int.tmod z1 g1) - (w64 (Int.tdiv z1 g1)))) + 30)) 3)]), pl 42 (.int .i64 z2), pl 47 (.bool (decide ((geti ([Int.tmod (w64 ((Int.tmod z1 g1) + (w64 (Int.tdiv z1 g1)))) 3, Int.tmod (w64 ((w64 ((Int.tmod z1 g1) - (w64 (Int.tdiv z1 g1)))) + 30)) 3] : List Int) z2) < 2)))] hF hS Fol (by kernel_rfl) (by kernel_rfl) (by kernel_rfl) ?_ (fun a w hF hS => ?_)
                  · exact obs_nil
                  refine cond_ev (t := 47) (b := decide ((geti ([Int.tmod (w64 ((Int.tmod z1 g1) + (w64 (Int.tdiv z1 g1)))) 3, Int.tmod (w64 ((w64 ((Int.tmod z1 g1) - (w64 (Int.tdiv z1 g1)))) + 30)) 3] : List Int) z2) < 2)) hF (by kernel_rfl) (fun hb => ?_) (fun hb => ?_)
                  · replace hm := if_t hm hb
                    refine oneR ?_
                    obtain ⟨hp5, hm⟩ := asrt_b hm
                    obtain ⟨hp6, hm⟩ := asrt_b hm
                    obtain ⟨hp7, hm⟩ := asrt_b hm
                    refine at_run 6 [⟨true, [], vS (Instr.indexAt 49 (.pointer (some ⟨g5, 0, none⟩)) (.int .i64 (w64 (2 * z2)))), .pointer (some ((⟨g5, 0, none⟩ : Addr).add (Int.toNat (w64 (2 * z2)) * 1)))⟩, ⟨false, [], vS (Instr.loadAt 3 (.pointer (some ((⟨g5, 0, none⟩ : Addr).add (Int.toNat (w64 (2 * z2)) * 1))))), .int .i64 (geti c5 (w64 (2 * z2)))⟩, ⟨true, [], vS (Instr.indexAt 49 (.pointer (some ⟨g5, 0, none⟩)) (.int .i64 (w64 (2 * z2)))), .pointer (some ((⟨g5, 0, none⟩ : Addr).add (Int.toNat (w64 (2 * z2)) * 1)))⟩] [none, none, some (.pointer (some ((⟨g5, 0, none⟩ : Addr).add (Int.toNat (w64 (2 * z2)) * 1)))), some (.int .i64 (geti c5 (w64 (2 * z2)))), none, some (.pointer (some ((⟨g5, 0, none⟩ : Addr).add (Int.toNat (w64 (2 * z2)) * 1))))] [1, 2, 8, 9, 15, 16, 17, 41, 42, 52, 53] [pl 1 (.pointer (some ⟨g4, 0, none⟩)), pl 2 (.pointer (some ⟨g5, 0, none⟩)), pl 8 (.int .i64 z2), pl 9 (.int .i64 (geti ([Int.tmod (w64 ((Int.tmod z1 g1) + (w64 (Int.tdiv z1 g1)))) 3, Int.tmod (w64 ((w64 ((Int.tmod z1 g1) - (w64 (Int.tdiv z1 g1)))) + 30)) 3] : List Int) z2)), pl 15 (.slice A1 g3.length c1), pl 16 (.int .i64 (g3.length : Int)), pl 17 (.int .i64 z1), pl 41 (.agg #[.int .i64 (Int.tmod (w64 ((Int.tmod z1 g1) + (w64 (Int.tdiv z1 g1)))) 3), .int .i64 (Int.tmod (w64 ((w64 ((Int.tmod z1 g1) - (w64 (Int.tdiv z1 g1)))) + 30)) 3)]), pl 42 (.int .i64 z2), pl 52 (.int .i64 (bXor (geti c5 (w64 (2 * z2))) 1)), pl 53 (.pointer (some ((⟨g5, 0, none⟩ : Addr).add (Int.toNat (w64 (2 * z2)) * 1))))] hF hS (by kernel_rfl) (by kernel_rfl) ?_ (fun a w hF hS => ?_)
                    · exact obs_cons (ob_ixA UndA49 hi3 hs3 (fun _ => hp5)) <| obs_cons (ob_getA (m := c5) (Value.int .i64) (0 : Int) 4 ([] : List Value) ([] : List Value) (w64 (2 * z2)) Agg3 rfl (fun _ hS => ⟨_, _, _, _, _, hS.at_ 1 rfl⟩) (fun hy => by have h0 := hp5; omega)) <| obs_cons (ob_ixA UndA49 hi3 hs3 (fun _ => hp6)) <| obs_nil
                    obtain ⟨w, hrun, hS⟩ := run_setA (P := Try.prog) (t := 3) (x := (bXor (geti c5 (w64 (2 * z2))) 1)) (i := (w64 (2 * z2))) (m := c5) (d := Int.toNat (w64 (2 * z2)) * 1) (Value.int .i64) (0 : Int) 4 ([] : List Value) ([] : List Value) (hS.at_ 1 rfl) rfl hi3 hs3 rfl (by have h0 := hp6; omega) (by have h0 := hp6; have h9 := hp7; omega)
                    refine at_skip hF (by kernel_rfl) hrun ?_
                    have hS : Sep w0 B w (blk g4 41 #[.int .i64 g1, .int .i64 g2, .slice A1 g3.length c1] :: blk g5 49 (List.toArray (([] : List Value) ++ (arr1 (Value.int .i64) (0 : Int) 4 (c5.set (Int.toNat (w64 (2 * z2))) (bXor (geti c5 (w64 (2 * z2))) 1)) ++ ([] : List Value)))) :: fs) := hS
                    refine at_end [1, 2, 8, 9, 15, 16, 17, 41, 42] [pl 1 (.pointer (some ⟨g4, 0, none⟩)), pl 2 (.pointer (some ⟨g5, 0, none⟩)), pl 8 (.int .i64 z2), pl 9 (.int .i64 (geti ([Int.tmod (w64 ((Int.tmod z1 g1) + (w64 (Int.tdiv z1 g1)))) 3, Int.tmod (w64 ((w64 ((Int.tmod z1 g1) - (w64 (Int.tdiv z1 g1)))) + 30)) 3] : List Int) z2)), pl 15 (.slice A1 g3.length c1), pl 16 (.int .i64 (g3.length : Int)), pl 17 (.int .i64 z1), pl 41 (.agg #[.int .i64 (Int.tmod (w64 ((Int.tmod z1 g1) + (w64 (Int.tdiv z1 g1)))) 3), .int .i64 (Int.tmod (w64 ((w64 ((Int.tmod z1 g1) - (w64 (Int.tdiv z1 g1)))) + 30)) 3)]), pl 42 (.int .i64 z2)] hF rfl (by kernel_rfl) (fun hF => ?_)
                    refine then_n ?_
                    exact ⟨(c5.set (Int.toNat (w64 (2 * z2))) (bXor (geti c5 (w64 (2 * z2))) 1)), hF.weak [1, 2, 8, 9, 15, 16, 17, 41, 42] (by kernel_rfl), hS, hm⟩
                  · replace hm := if_f hm hb
                    refine wpIn_skip ?_
                    refine then_n ?_
                    exact ⟨c5, hF.weak [1, 2, 8, 9, 15, 16, 17, 41, 42] (by kernel_rfl), hS, hm⟩
            · refine cond_ev (t := 43) (b := decide (z2 < 2)) hF (by kernel_rfl) (fun hb => ?_) (fun hb => ?_)
              · replace hm := if_t hm hb
                refine wpIn_skip ?_
                refine then_n ?_
                exact ⟨hF.weak [1, 2, 15, 16, 17, 41, 42] (by kernel_rfl), hS, hm⟩
              · replace hm := if_f hm hb
                refine wpIn_exit ?_
                refine then_e (then_e (block_e (block_n (then_n ?_))))
                rw [← hφ2] at hm
                replace hm := done_b hm
                unfold pegs_Class_K2 at hm
                try dsimp only at hm
                have hm : ((pegs_Class_J4 z1) c5).bind φ1 = some r := hm
                exact ⟨c5, hF.weak [1, 2, 15, 16, 17] (by kernel_rfl), hS, hm⟩
          · refine reg [] [] [1, 2, 4, 15, 16, 17, 23] [pl 1 (.pointer (some ⟨g4, 0, none⟩)), pl 2 (.pointer (some ⟨g5, 0, none⟩)), pl 4 (.int .i64 z1), pl 15 (.slice A1 g3.length c1), pl 16 (.int .i64 (g3.length : Int)), pl 17 (.int .i64 z1), pl 23 (.bool ((geti g3 z1) != 1))] hF hS Fol (by kernel_rfl) (by kernel_rfl) (by kernel_rfl) ?_ (fun a w hF hS => ?_)
            · exact obs_nil
            refine cond_ev (t := 23) (b := ((geti g3 z1) != 1)) hF (by kernel_rfl) (fun hb => ?_) (fun hb => ?_)
            · replace hm := if_t hm hb
              refine wpIn_exit ?_
              refine then_e (block_e (then_n ?_))
              exact ⟨c2, hF.weak [1, 2, 15, 16, 17] (by kernel_rfl), hS, hm⟩
            · replace hm := if_f hm hb
              refine wpIn_skip ?_
              refine then_n ?_
              exact ⟨hF.weak [1, 2, 4, 15, 16, 17] (by kernel_rfl), hS, hm⟩
      · refine cond_ev (t := 18) (b := decide (z1 < (g3.length : Int))) hF (by kernel_rfl) (fun hb => ?_) (fun hb => ?_)
        · replace hm := if_t hm hb
          refine wpIn_skip ?_
          refine then_n ?_
          exact ⟨hF.weak [1, 2, 15, 16, 17] (by kernel_rfl), hS, hm⟩
        · replace hm := if_f hm hb
          refine wpIn_exit ?_
          refine then_e (then_e (block_e (then_n ?_)))
          have hS := hS.pickN 2 [1] (by decide)
          rw [← hφ1] at hm
          replace hm := done_b hm
          unfold pegs_Class_K1 at hm
          try dsimp only at hm
          have hm : (pegs_Class_J2 c2).bind some = some r := hm
          exact ⟨c2, hF.weak [2] (by kernel_rfl), hS, hm⟩
  · obtain ⟨r1, hr1, hm⟩ := call_b hm
    refine reg [⟨false, [], vS (Instr.loadAt 41 (.pointer (some ⟨g4, 0, none⟩))), .agg #[.int .i64 g1, .int .i64 g2, .slice A1 g3.length c1]⟩, ⟨false, [], callFunc 96 #[.agg #[.int .i64 g1, .int .i64 g2, .slice A1 g3.length c1]], .bool r1⟩] [some (.agg #[.int .i64 g1, .int .i64 g2, .slice A1 g3.length c1]), some (.bool r1), none] [1, 2, 12] [pl 1 (.pointer (some ⟨g4, 0, none⟩)), pl 2 (.pointer (some ⟨g5, 0, none⟩)), pl 12 (.bool (!r1))] hF hS Fol (by kernel_rfl) (by kernel_rfl) (by kernel_rfl) ?_ (fun a w hF hS => ?_)
    · exact obs_cons (ob_loadA (cs := #[.int .i64 g1, .int .i64 g2, .slice A1 g3.length c1]) (by kernel_rfl) (by kernel_rfl) (fun _ _ hS => (hS.at_ 1 rfl).cellsAt 0 (by rfl))) <| obs_cons (ob_call Try.func96 (by kernel_rfl) rfl (fun _ _ hS => rows_May_w hr1 hS (fun _ hS => (hr_g3 _ (hS.dropN 2))) _hc_g3 rfl)) <| obs_nil
    refine cond_ev (t := 12) (b := !r1) hF (by kernel_rfl) (fun hb => ?_) (fun hb => ?_)
    · replace hm := if_t hm hb
      refine seqR ?_
      refine at_run 1 [⟨false, [], vS (Instr.loadAt 49 (.pointer (some ⟨g5, 0, none⟩))), .agg (List.toArray (([] : List Value) ++ (arr1 (Value.int .i64) (0 : Int) 4 (List.replicate 4 (0 : Int)) ++ ([] : List Value))))⟩] [some (.agg (List.toArray (([] : List Value) ++ (arr1 (Value.int .i64) (0 : Int) 4 (List.replicate 4 (0 : Int)) ++ ([] : List Value)))))] [2, 13] [pl 2 (.pointer (some ⟨g5, 0, none⟩)), pl 13 (.agg (List.toArray (([] : List Value) ++ (arr1 (Value.int .i64) (0 : Int) 4 (List.replicate 4 (0 : Int)) ++ ([] : List Value)))))] hF hS (by kernel_rfl) (by kernel_rfl) ?_ (fun a w hF hS => ?_)
      · exact obs_cons (ob_loadA (cs := (List.toArray (([] : List Value) ++ (arr1 (Value.int .i64) (0 : Int) 4 (List.replicate 4 (0 : Int)) ++ ([] : List Value))))) (by kernel_rfl) (by kernel_rfl) (fun _ _ hS => (hS.at_ 0 rfl).cellsAt 0 (by rfl))) <| obs_nil
      obtain ⟨w, hrun, hS⟩ := run_putA (P := Try.prog) (t := 49) (us := (List.toArray (([] : List Value) ++ (arr1 (Value.int .i64) (0 : Int) 4 (List.replicate 4 (0 : Int)) ++ ([] : List Value))))) (o := 0) (hS.at_ 0 rfl) (by kernel_rfl) (all_one (by kernel_rfl)) (Nat.le_of_ble_eq_true (by kernel_rfl))
      refine at_skip hF (by kernel_rfl) hrun ?_
      have hS : Sep w0 B w (blk g5 49 (List.toArray (([] : List Value) ++ (arr1 (Value.int .i64) (0 : Int) 4 (List.replicate 4 (0 : Int)) ++ ([] : List Value)))) :: blk g4 41 #[.int .i64 g1, .int .i64 g2, .slice A1 g3.length c1] :: fs) := hS
      refine at_run 1 [] [] [2, 3] [pl 2 (.pointer (some ⟨g5, 0, none⟩)), pl 3 (.int .i64 12)] hF hS (by kernel_rfl) (by kernel_rfl) ?_ (fun a w hF hS => ?_)
      · exact obs_nil
      refine at_end [2, 3] [pl 2 (.pointer (some ⟨g5, 0, none⟩)), pl 3 (.int .i64 12)] hF rfl (by kernel_rfl) (fun hF => ?_)
      refine then_n ?_
      refine wpIn_ret ?_
      refine then_r ?_
      have hld0 := run_loadVarA (P := Try.prog) (t := 49) (cs := (List.toArray (([] : List Value) ++ (arr1 (Value.int .i64) (0 : Int) 4 (List.replicate 4 (0 : Int)) ++ ([] : List Value))))) (by kernel_rfl) (by kernel_rfl) ((hS.at_ 0 rfl).cellsAt 0 (by rfl))
      have hS := hS.pickN 2 [] (by decide)
      have hm : some ((List.replicate 4 (0 : Int)), 12) = some r := hm
      obtain rfl := Option.some.inj hm
      exact retV (rs := [.cell 2 49, .tmp 3]) (vs := [.agg (List.toArray (([] : List Value) ++ (arr1 (Value.int .i64) (0 : Int) 4 (List.replicate 4 (0 : Int)) ++ ([] : List Value)))), .int .i64 12]) hF rfl (rv_c (by kernel_rfl) hld0 <| rv_t (by kernel_rfl) <| rv_nil) rfl ⟨rfl, hS⟩
    · replace hm := if_f hm hb
      refine wpIn_skip ?_
      refine then_n ?_
      have hS := hS.pickN 2 [1, 0] (by decide)
      exact ⟨hF.weak [1, 2] (by kernel_rfl), hS, hm⟩

noncomputable def gameroomref_within_m  (n1 : Int) (low1 : Int) (high1 : Int) : Option Bool :=
  some ((decide (low1 ≤ n1)) && (decide (n1 ≤ high1)))

set_option maxRecDepth 100000 in
set_option maxHeartbeats 4000000 in
theorem gameroomref_within_w {n1 : Int} {low1 : Int} {high1 : Int} {r : Bool} {w0 w : World} {B : Nat} {fs : List HP} (hm : gameroomref_within_m n1 low1 high1 = some r) (hS : Sep w0 B w (fs)) :
    Calls Try.prog 95 #[.int .i64 n1, .int .i64 low1, .int .i64 high1] w fun e w' => e = .returned (.bool r) ∧ Sep w0 B w' (fs) := by
  unfold gameroomref_within_m at hm
  replace hm := start_b hm
  refine enter (l := [.int .i64 n1, .int .i64 low1, .int .i64 high1]) (n := 15) Try.func95 rfl rfl (by simp) (fun a hF => ?_)
  refine reg [] [] [0, 1, 2] [pl 0 (.int .i64 n1), pl 1 (.int .i64 low1), pl 2 (.int .i64 high1)] hF hS Fol (by kernel_rfl) (by kernel_rfl) (by kernel_rfl) ?_ (fun a w hF hS => ?_)
  · exact obs_nil
  refine reg [] [] [6] [pl 6 (.bool ((decide (low1 ≤ n1)) && (decide (n1 ≤ high1))))] hF hS Fol (by kernel_rfl) (by kernel_rfl) (by kernel_rfl) ?_ (fun a w hF hS => ?_)
  · exact obs_nil
  refine wpIn_ret ?_
  have hm : some ((decide (low1 ≤ n1)) && (decide (n1 ≤ high1))) = some r := hm
  obtain rfl := Option.some.inj hm
  exact retV (rs := [.tmp 6]) (vs := [.bool ((decide (low1 ≤ n1)) && (decide (n1 ≤ high1)))]) hF rfl (rv_t (by kernel_rfl) <| rv_nil) rfl ⟨rfl, hS⟩

noncomputable def gameroomref_GridMay_J4  (i1 : Int) : Option (St Int (Fl Unit Bool)) :=
  some (.next (w64 (i1 + 1)))

noncomputable def gameroomref_GridMay_J3  (g3 : List Int) (i1 : Int) : Option (St Int (Fl Unit Bool)) :=
  asrt (0 ≤ i1 ∧ i1 < (g3.length : Int)) <| (gameroomref_within_m (geti g3 i1) 0 2).bind fun r3 => if (!r3) then (some (.done (.ret false))) else ((gameroomref_GridMay_J4 i1))

noncomputable def gameroomref_GridMay_J2  : Option Bool :=
  some true

noncomputable def gameroomref_GridMay_K1  : (Fl Unit Bool) → Option Bool :=
  fun (x : (Fl Unit Bool)) => match x with | .go _ => gameroomref_GridMay_J2 | .ret x => some x

noncomputable def gameroomref_GridMay_L1  (g3 : List Int) : Int → Option (St Int (Fl Unit Bool)) :=
  fun (x : Int) => match x with | i1 => if (decide (i1 < (g3.length : Int))) then ((gameroomref_GridMay_J3 g3 i1)) else (some (.done (.go ())))

noncomputable def gameroomref_GridMay_J1  (g3 : List Int) : Option Bool :=
  (loop (gameroomref_GridMay_L1 g3) 0).bind gameroomref_GridMay_K1

noncomputable def gameroomref_GridMay_m  (g1 : Int) (g2 : Int) (g3 : List Int) : Option Bool :=
  (gameroomref_within_m g1 1 10).bind fun r1 => ((if (!(!r1)) then gameroomref_within_m g2 1 10 else some false)).bind fun r2 => if (((!r1) || (!r2)) || ((g3.length : Int) != (w64 (g1 * g2)))) then (some false) else ((gameroomref_GridMay_J1 g3))

set_option maxRecDepth 100000 in
set_option maxHeartbeats 4000000 in
theorem gameroomref_GridMay_w {g1 : Int} {g2 : Int} {A1 : Option Addr} {c1 : Nat} {n1 : Nat} {g3 : List Int} {r : Bool} {w0 w : World} {B : Nat} {fs : List HP} (hm : gameroomref_GridMay_m g1 g2 g3 = some r) (hS : Sep w0 B w (fs)) (hr_g3 : RdF w0 B fs A1 (vI g3)) (_hc_g3 : g3.length ≤ c1) (_hn_g3 : n1 = g3.length) :
    Calls Try.prog 34 #[.agg #[.int .i64 g1, .int .i64 g2, .slice A1 n1 c1]] w fun e w' => e = .returned (.bool r) ∧ Sep w0 B w' (fs) := by
  obtain ⟨i3, hi3, hz3, hs3, hb3⟩ := info_parts Info3
  obtain rfl := _hn_g3
  unfold gameroomref_GridMay_m at hm
  replace hm := start_b hm
  refine enter (l := [.agg #[.int .i64 g1, .int .i64 g2, .slice A1 g3.length c1]]) (n := 39) Try.func34 rfl rfl (by simp) (fun a hF => ?_)
  refine seqR ?_
  refine at_do (d := 1) (s := vS (Instr.box 41 (.agg #[.int .i64 g1, .int .i64 g2, .slice A1 g3.length c1]))) (v := .pointer (some ⟨w.heap.size, 0, none⟩)) (w' := w.alloc (.cells #[.int .i64 g1, .int .i64 g2, .slice A1 g3.length c1] 41)) hF (by kernel_rfl) (by kernel_rfl) (by kernel_rfl) (fun a hF => ?_)
  have hS : Sep w0 B (w.alloc (.cells #[.int .i64 g1, .int .i64 g2, .slice A1 g3.length c1] 41)) (blk w.heap.size 41 #[.int .i64 g1, .int .i64 g2, .slice A1 g3.length c1] :: (fs)) := hS.box 41 #[.int .i64 g1, .int .i64 g2, .slice A1 g3.length c1]
  generalize w.heap.size = g4 at hF hS
  generalize w.alloc (.cells #[.int .i64 g1, .int .i64 g2, .slice A1 g3.length c1] 41) = w at hS ⊢
  refine at_run 1 [] [] [1] [pl 1 (.pointer (some ⟨g4, 0, none⟩))] hF hS (by kernel_rfl) (by kernel_rfl) ?_ (fun a w hF hS => ?_)
  · exact obs_nil
  refine at_end [1] [pl 1 (.pointer (some ⟨g4, 0, none⟩))] hF rfl (by kernel_rfl) (fun hF => ?_)
  refine then_n ?_
  refine seq_cut (fun a w => Fr 39 [pl 1 (.pointer (some ⟨g4, 0, none⟩))] a ∧ Sep w0 B w (blk g4 41 #[.int .i64 g1, .int .i64 g2, .slice A1 g3.length c1] :: fs) ∧ ((gameroomref_GridMay_J1 g3)).bind some = some r) ?_ ?_
  · rintro a w ⟨hF, hS, hm⟩
    unfold gameroomref_GridMay_J1 at hm
    refine seq_cut (fun a w => Fr 39 [] a ∧ Sep w0 B w (fs) ∧ (gameroomref_GridMay_J2).bind some = some r) ?_ ?_
    · rintro a w ⟨hF, hS, hm⟩
      unfold gameroomref_GridMay_J2 at hm
      refine reg [] [] [2] [pl 2 (.bool true)] hF hS Fol (by kernel_rfl) (by kernel_rfl) (by kernel_rfl) ?_ (fun a w hF hS => ?_)
      · exact obs_nil
      refine wpIn_ret ?_
      have hm : some true = some r := hm
      obtain rfl := Option.some.inj hm
      exact retV (rs := [.tmp 2]) (vs := [.bool true]) hF rfl (rv_t (by kernel_rfl) <| rv_nil) rfl ⟨rfl, hS⟩
    · refine reg [] [] [1, 3] [pl 1 (.pointer (some ⟨g4, 0, none⟩)), pl 3 (.int .i64 0)] hF hS Fol (by kernel_rfl) (by kernel_rfl) (by kernel_rfl) ?_ (fun a w hF hS => ?_)
      · exact obs_nil
      refine wpIn_block ?_
      refine wp_loop_model (S := Int) (R := (Fl Unit Bool)) (gameroomref_GridMay_L1 g3) (fun x => (gameroomref_GridMay_K1 x).bind some) r (fun (x : Int) a w => Fr 39 [pl 1 (.pointer (some ⟨g4, 0, none⟩)), pl 3 (.int .i64 x)] a ∧ Sep w0 B w (blk g4 41 #[.int .i64 g1, .int .i64 g2, .slice A1 g3.length c1] :: fs)) (assoc_b hm) ⟨hF.weak [1, 3] (by kernel_rfl), hS⟩ ?_
      clear hF hS hm
      rintro nn1 i1 a w ⟨hF, hS⟩ hm
      generalize hφ1 : stK (gameroomref_GridMay_L1 g3) nn1 (fun x => (gameroomref_GridMay_K1 x).bind some) = φ1 at hm
      unfold gameroomref_GridMay_L1 at hm
      dsimp only at hm
      refine seq_cut (fun a w => Fr 39 [pl 1 (.pointer (some ⟨g4, 0, none⟩)), pl 3 (.int .i64 i1)] a ∧ Sep w0 B w (blk g4 41 #[.int .i64 g1, .int .i64 g2, .slice A1 g3.length c1] :: fs) ∧ ((gameroomref_GridMay_J3 g3 i1)).bind φ1 = some r) ?_ ?_
      · rintro a w ⟨hF, hS, hm⟩
        unfold gameroomref_GridMay_J3 at hm
        refine seq_cut (fun a w => Fr 39 [pl 1 (.pointer (some ⟨g4, 0, none⟩)), pl 3 (.int .i64 i1)] a ∧ Sep w0 B w (blk g4 41 #[.int .i64 g1, .int .i64 g2, .slice A1 g3.length c1] :: fs) ∧ ((gameroomref_GridMay_J4 i1)).bind φ1 = some r) ?_ ?_
        · rintro a w ⟨hF, hS, hm⟩
          unfold gameroomref_GridMay_J4 at hm
          refine reg1 [] [] [1, 3] [pl 1 (.pointer (some ⟨g4, 0, none⟩)), pl 3 (.int .i64 (w64 (i1 + 1)))] hF hS Fol (by kernel_rfl) (by kernel_rfl) (by kernel_rfl) ?_ (fun a w hF hS => ?_)
          · exact obs_nil
          refine then_n ?_
          rw [← hφ1] at hm
          exact ⟨(w64 (i1 + 1)), ⟨hF.weak [1, 3] (by kernel_rfl), hS⟩, hm⟩
        · refine wpIn_block ?_
          obtain ⟨hp1, hm⟩ := asrt_b hm
          obtain ⟨r3, hr3, hm⟩ := call_b hm
          refine reg [⟨false, [], vS (Instr.loadAt 22 (.pointer (some ⟨g4, 2, none⟩))), .slice A1 g3.length c1⟩, ⟨true, [], vS (Instr.indexAt 22 (.slice A1 g3.length c1) (.int .i64 i1)), .pointer (some (sAddr A1 i1))⟩, ⟨false, [], vS (Instr.loadAt 3 (.pointer (some (sAddr A1 i1)))), .int .i64 (geti g3 i1)⟩, ⟨false, [], callFunc 95 #[.int .i64 (geti g3 i1), .int .i64 0, .int .i64 2], .bool r3⟩] [none, some (.slice A1 g3.length c1), none, some (.pointer (some (sAddr A1 i1))), some (.int .i64 (geti g3 i1)), some (.bool r3), none] [1, 3, 38] [pl 1 (.pointer (some ⟨g4, 0, none⟩)), pl 3 (.int .i64 i1), pl 38 (.bool (!r3))] hF hS Fol (by kernel_rfl) (by kernel_rfl) (by kernel_rfl) ?_ (fun a w hF hS => ?_)
          · exact obs_cons (ob_load Agg22 (fun _ _ hS => (hS.at_ 0 rfl).cell rfl)) <| obs_cons (ob_ix1 (f := (Value.int .i64)) (m := g3) Und22 hi3 hs3 (hr_g3 _ (hS.dropN 1)) rfl (fun _ => hp1)) <| obs_cons (ob_get1 (n := g3.length) (m := g3) (Value.int .i64) (0 : Int) Agg3 (fun _ hS => ⟨_, (hr_g3 _ (hS.dropN 1))⟩) (fun _ hS => rfl) (fun _ => hp1)) <| obs_cons (ob_call Try.func95 (by kernel_rfl) rfl (fun _ _ hS => gameroomref_within_w hr3 hS )) <| obs_nil
          refine cond_ev (t := 38) (b := !r3) hF (by kernel_rfl) (fun hb => ?_) (fun hb => ?_)
          · replace hm := if_t hm hb
            refine reg [] [] [2] [pl 2 (.bool false)] hF hS Fol (by kernel_rfl) (by kernel_rfl) (by kernel_rfl) ?_ (fun a w hF hS => ?_)
            · exact obs_nil
            refine wpIn_ret ?_
            refine block_r (then_r (then_r (block_r (then_r ?_))))
            rw [← hφ1] at hm
            replace hm := done_b hm
            unfold gameroomref_GridMay_K1 at hm
            try dsimp only at hm
            have hS := hS.pickN 1 [] (by decide)
            have hm : some false = some r := hm
            obtain rfl := Option.some.inj hm
            exact retV (rs := [.tmp 2]) (vs := [.bool false]) hF rfl (rv_t (by kernel_rfl) <| rv_nil) rfl ⟨rfl, hS⟩
          · replace hm := if_f hm hb
            refine wpIn_skip ?_
            refine block_n ?_
            refine then_n ?_
            exact ⟨hF.weak [1, 3] (by kernel_rfl), hS, hm⟩
      · refine reg [⟨false, [], vS (Instr.loadAt 22 (.pointer (some ⟨g4, 2, none⟩))), .slice A1 g3.length c1⟩] [none, none, some (.slice A1 g3.length c1), none, none] [1, 3, 29] [pl 1 (.pointer (some ⟨g4, 0, none⟩)), pl 3 (.int .i64 i1), pl 29 (.bool (decide (i1 < (g3.length : Int))))] hF hS Fol (by kernel_rfl) (by kernel_rfl) (by kernel_rfl) ?_ (fun a w hF hS => ?_)
        · exact obs_cons (ob_load Agg22 (fun _ _ hS => (hS.at_ 0 rfl).cell rfl)) <| obs_nil
        refine cond_ev (t := 29) (b := decide (i1 < (g3.length : Int))) hF (by kernel_rfl) (fun hb => ?_) (fun hb => ?_)
        · replace hm := if_t hm hb
          refine wpIn_skip ?_
          refine then_n ?_
          exact ⟨hF.weak [1, 3] (by kernel_rfl), hS, hm⟩
        · replace hm := if_f hm hb
          refine wpIn_exit ?_
          refine then_e (then_e (block_e (then_n ?_)))
          have hS := hS.pickN 1 [] (by decide)
          rw [← hφ1] at hm
          replace hm := done_b hm
          unfold gameroomref_GridMay_K1 at hm
          try dsimp only at hm
          have hm : (gameroomref_GridMay_J2).bind some = some r := hm
          exact ⟨hF.weak [] (by kernel_rfl), hS, hm⟩
  · obtain ⟨r1, hr1, hm⟩ := call_b hm
    obtain ⟨r2, hr2, hm⟩ := call_b hm
    refine reg [⟨false, [], vS (Instr.loadAt 3 (.pointer (some ⟨g4, 0, none⟩))), .int .i64 g1⟩, ⟨false, [], callFunc 95 #[.int .i64 g1, .int .i64 1, .int .i64 10], .bool r1⟩, ⟨false, [(!r1, false)], vS (Instr.loadAt 3 (.pointer (some ⟨g4, 1, none⟩))), .int .i64 g2⟩, ⟨false, [(!r1, false)], callFunc 95 #[.int .i64 g2, .int .i64 1, .int .i64 10], .bool r2⟩, ⟨false, [((!r1) || (!r2), false)], vS (Instr.loadAt 22 (.pointer (some ⟨g4, 2, none⟩))), .slice A1 g3.length c1⟩, ⟨false, [((!r1) || (!r2), false)], vS (Instr.loadAt 3 (.pointer (some ⟨g4, 0, none⟩))), .int .i64 g1⟩, ⟨false, [((!r1) || (!r2), false)], vS (Instr.loadAt 3 (.pointer (some ⟨g4, 1, none⟩))), .int .i64 g2⟩] [none, some (.int .i64 g1), some (.bool r1), none, none, none, some (.int .i64 g2), some (.bool r2), none, none, none, none, some (.slice A1 g3.length c1), none, none, some (.int .i64 g1), none, some (.int .i64 g2), none, none, none] [1, 24] [pl 1 (.pointer (some ⟨g4, 0, none⟩)), pl 24 (.bool (((!r1) || (!r2)) || ((g3.length : Int) != (w64 (g1 * g2)))))] hF hS Fol (by kernel_rfl) (by kernel_rfl) (by kernel_rfl) ?_ (fun a w hF hS => ?_)
    · exact obs_cons (ob_load Agg3 (fun _ _ hS => (hS.at_ 0 rfl).cell rfl)) <| obs_cons (ob_call Try.func95 (by kernel_rfl) rfl (fun _ _ hS => gameroomref_within_w hr1 hS )) <| obs_cons (ob_load Agg3 (fun _ _ hS => (hS.at_ 0 rfl).cell rfl)) <| obs_cons (ob_call Try.func95 (by kernel_rfl) rfl (fun hy _ hS => gameroomref_within_w (ite_some hr2 (by rw [show (!r1) = false from hy (!r1, false) (by simp)]; try rfl)) hS )) <| obs_cons (ob_load Agg22 (fun _ _ hS => (hS.at_ 0 rfl).cell rfl)) <| obs_cons (ob_load Agg3 (fun _ _ hS => (hS.at_ 0 rfl).cell rfl)) <| obs_cons (ob_load Agg3 (fun _ _ hS => (hS.at_ 0 rfl).cell rfl)) <| obs_nil
    refine cond_ev (t := 24) (b := ((!r1) || (!r2)) || ((g3.length : Int) != (w64 (g1 * g2)))) hF (by kernel_rfl) (fun hb => ?_) (fun hb => ?_)
    · replace hm := if_t hm hb
      refine reg [] [] [2] [pl 2 (.bool false)] hF hS Fol (by kernel_rfl) (by kernel_rfl) (by kernel_rfl) ?_ (fun a w hF hS => ?_)
      · exact obs_nil
      refine wpIn_ret ?_
      refine then_r ?_
      have hS := hS.pickN 1 [] (by decide)
      have hm : some false = some r := hm
      obtain rfl := Option.some.inj hm
      exact retV (rs := [.tmp 2]) (vs := [.bool false]) hF rfl (rv_t (by kernel_rfl) <| rv_nil) rfl ⟨rfl, hS⟩
    · replace hm := if_f hm hb
      refine wpIn_skip ?_
      refine then_n ?_
      exact ⟨hF.weak [1] (by kernel_rfl), hS, hm⟩
end Go.Proofs.Ytlkdblflibgfpaa
